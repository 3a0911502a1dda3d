/-
  Columns and configurations that came in: what they hold.
-/
import Derived.Test.YtcpimhefclfbaaaGreatDoorOpen
import Derived.Test.YtcpimhefclfbaaaGreatDoorColP
namespace Go.Proofs.YtcpimhefclfbaaaGreatDoor
open Go Go.RowKit Go.ChangeShapes Go.WideShapes Go.ChangeAt Go.Deep
set_option maxRecDepth 10000
set_option linter.unusedVariables false
set_option linter.unusedSimpArgs false

theorem flat_one' {α : Type} (f : α → Value) (l : List α) : l.flatMap (fun x => [f x]) = l.map f := by
  induction l with
  | nil => rfl
  | cons x l ih => rw [List.flatMap_cons, ih]; rfl

section
variable {H : Type} {enc : TypeId × Value → H} {w : World} {base : Nat} {spare : Nat → Bool} {held : Bool}
theorem col_of {fuel : Nat} {cs : List Value} {x : DataW H × List MemPlace} (h : DataW.trod enc Tryz.prog w base spare held fuel 41 cs = some x) : ∃ c : Col, cs = c.cs ∧ c.name.size ≤ maxLen := by
  obtain ⟨xs, m, _, _, hlen, hxs, hf⟩ := DataW.trod_struct Tryz.underlying41 h
  have g0 : DataW.trod enc Tryz.prog w base spare held m 9 ((cs.drop 0).take (Tryz.prog.cellsOf 9)) = xs[0]? := hf 0 _ rfl
  have g1 : DataW.trod enc Tryz.prog w base spare held m 3 ((cs.drop 1).take (Tryz.prog.cellsOf 3)) = xs[1]? := hf 1 _ rfl
  have g2 : DataW.trod enc Tryz.prog w base spare held m 4 ((cs.drop 2).take (Tryz.prog.cellsOf 4)) = xs[2]? := hf 2 _ rfl
  simp only [show Tryz.prog.cellsOf 41 = 3 from by kernel_rfl] at hlen
  rw [show Tryz.prog.cellsOf 9 = 1 from by kernel_rfl] at g0
  rw [show Tryz.prog.cellsOf 3 = 1 from by kernel_rfl] at g1
  rw [show Tryz.prog.cellsOf 4 = 1 from by kernel_rfl] at g2
  match cs, hlen with
  | [c0, c1, c2], _ =>
    match xs, hxs with
    | [y0, y1, y2], _ =>
      obtain ⟨s, hs, _, hsz⟩ := DataW.trod_string Tryz.underlying9 g0
      obtain ⟨i, hi⟩ := i64_of Tryz.underlying3 g1
      obtain ⟨b, hb, _⟩ := DataW.trod_bool Tryz.underlying4 g2
      simp at hs hi hb
      subst hs hi hb
      exact ⟨⟨s, i, b⟩, rfl, hsz⟩
/-- Columns that came in. -/
theorem open_cols {r : Reach} {b0 : Nat} {v : Value} {d : DataW H} {ps : List MemPlace} (hval : Value.okWide Tryz.prog w r b0 33 v) (hd : DataW.Trod enc Tryz.prog w base spare held 33 v d ps) :
    ∃ A n c l, v = .slice A n c ∧ Cols [] w A n c l := by
  obtain ⟨A, n, c, l, rfl, hr, _⟩ := open_rows (α := Col) Col.cs (fun _ => True) Col.len (by omega) Tryz.underlying33 (by kernel_rfl) (fun fuel cs x h => by
    obtain ⟨c, hc, _⟩ := col_of h
    exact ⟨c, hc, trivial⟩) hval hd
  exact ⟨A, n, c, l, rfl, hr⟩
end
end Go.Proofs.YtcpimhefclfbaaaGreatDoor
