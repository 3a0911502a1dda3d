/-
  Configurations that came in: what they hold.
-/
import Derived.Test.YtcpimhefclfbaaaGreatDoorOpC
namespace Go.Proofs.YtcpimhefclfbaaaGreatDoor
open Go Go.RowKit Go.ChangeShapes Go.WideShapes Go.ChangeAt Go.Deep
set_option maxRecDepth 10000
set_option linter.unusedVariables false
set_option linter.unusedSimpArgs false

section
variable {H : Type} {enc : TypeId × Value → H} {w : World} {base : Nat} {spare : Nat → Bool} {held : Bool}
/-- A []int, opened where it stands. -/
theorem ints_of {fuel : Nat} {cs : List Value} {x : DataW H × List MemPlace} (h : DataW.trod enc Tryz.prog w base spare held fuel 30 cs = some x) : ∃ A n c es, cs = [.slice A n c] ∧ Ints [] w A n c es ∧ ∀ e ∈ es, -9223372036854775808 ≤ e ∧ e ≤ 9223372036854775807 := by
  obtain ⟨A, n, c, l, rfl, hr, _⟩ := open_slice_rd (α := Int64) (size := 1) (fun a => [vI a]) (fun _ => True) (fun _ => rfl) (by decide) Tryz.underlying30 (by kernel_rfl) (fun fuel cs x h => by
    obtain ⟨i, hi⟩ := i64_of Tryz.underlying3 h
    exact ⟨i, hi, trivial⟩) h
  refine ⟨A, n, c, l.map Int64.toInt, rfl, ?_, fun e he => ?_⟩
  · rw [flat_one'] at hr
    have e : l.map vI = (l.map Int64.toInt).map vInt := by rw [List.map_map]; rfl
    rw [e] at hr
    exact hr
  · obtain ⟨i, _, rfl⟩ := List.mem_map.1 he
    have := Int64.le_toInt i
    have := Int64.toInt_lt i
    omega
/-- An api.Conf that came in. -/
theorem open_conf {r : Reach} {b0 : Nat} {v : Value} {d : DataW H} {ps : List MemPlace} (hval : Value.okWide Tryz.prog w r b0 32 v) (hd : DataW.Trod enc Tryz.prog w base spare held 32 v d ps) :
    ∃ g p A n c es, v = .agg #[.int .i64 g, .int .i64 p, .slice A n c] ∧ Ints [] w A n c es ∧ ∀ e ∈ es, -9223372036854775808 ≤ e ∧ e ≤ 9223372036854775807 := by
  obtain ⟨cs, rfl, _⟩ := okWide_struct Tryz.underlying32 hval
  obtain ⟨fuel, hf⟩ := hd
  obtain ⟨xs, m, _, _, hlen, hxs, hf⟩ := DataW.trod_struct Tryz.underlying32 hf
  have hce : (Value.agg cs).cells.toList = cs.toList := by simp [Value.cells]
  rw [hce] at hlen hf
  have g0 : DataW.trod enc Tryz.prog w base spare held m 3 ((cs.toList.drop 0).take (Tryz.prog.cellsOf 3)) = xs[0]? := hf 0 _ rfl
  have g1 : DataW.trod enc Tryz.prog w base spare held m 3 ((cs.toList.drop 1).take (Tryz.prog.cellsOf 3)) = xs[1]? := hf 1 _ rfl
  have g2 : DataW.trod enc Tryz.prog w base spare held m 30 ((cs.toList.drop 2).take (Tryz.prog.cellsOf 30)) = xs[2]? := hf 2 _ rfl
  simp only [show Tryz.prog.cellsOf 32 = 3 from by kernel_rfl] at hlen
  rw [show Tryz.prog.cellsOf 3 = 1 from by kernel_rfl] at g0 g1
  rw [show Tryz.prog.cellsOf 30 = 1 from by kernel_rfl] at g2
  obtain ⟨l, hl⟩ : ∃ l, cs.toList = l := ⟨_, rfl⟩
  have hcs : cs = l.toArray := by rw [← hl]
  rw [hl] at hlen g0 g1 g2
  match l, hlen with
  | [c0, c1, c2], _ =>
    match xs, hxs with
    | [y0, y1, y2], _ =>
      obtain ⟨i, hi⟩ := i64_of Tryz.underlying3 g0
      obtain ⟨j, hj⟩ := i64_of Tryz.underlying3 g1
      obtain ⟨A, n, c, es, hv, hr, hb⟩ := ints_of g2
      simp at hi hj hv
      subst hi hj hv
      exact ⟨i.toInt, j.toInt, A, n, c, es, by rw [hcs]; rfl, hr, hb⟩
end
end Go.Proofs.YtcpimhefclfbaaaGreatDoor
