/-
  Slices of structs that came in: what they hold.
-/
import Derived.Test.YtcpimhefclfbaaaGreatDoorRow
import Derived.Test.YtcpimhefclfbaaaGreatDoorCell
import Derived.Test.YtcpimhefclfbaaaGreatDoorProg
import Derived.Deep.Slices
namespace Go.Proofs.YtcpimhefclfbaaaGreatDoor
open Go Go.RowKit Go.ChangeShapes Go.WideShapes Go.ChangeAt Go.Deep
set_option maxRecDepth 10000

section
variable {H : Type} {enc : TypeId × Value → H} {P : Program} {w : World} {base : Nat} {spare : Nat → Bool} {held : Bool}

/-- A slice, opened where it stands: its elements have cells as 'cells a', a good. -/
theorem open_slice_rd {α : Type} [Inhabited α] {t e : TypeId} {fuel size : Nat} {cs : List Value} {x : DataW H × List MemPlace} (cells : α → List Value) (good : α → Prop) (hl : ∀ a, (cells a).length = size) (hpos : 0 < size)
    (ht : P.underlying t = some (.slice e)) (hC : P.cellsOf e = size)
    (hel : ∀ fuel cs x, DataW.trod enc P w base spare held fuel e cs = some x → ∃ a, cs = cells a ∧ good a) (h : DataW.trod enc P w base spare held fuel t cs = some x) :
    ∃ (A : Option Addr) (n c : Nat) (l : List α), cs = [.slice A n c] ∧ Rd [] w size A n c (l.flatMap cells) ∧ ∀ a ∈ l, good a := by
  rcases open_slice ht h with ⟨rfl, _⟩ | ⟨a, len, cap, m, n, D, Pl, rfl, hb, hlc, hm, hmm, _, hx⟩
  · exact ⟨none, 0, 0, [], rfl, Rd.nil_ [] w size, by simp⟩
  · have hlm : len ≤ m := by rw [hmm]; split <;> omega
    obtain ⟨f, hf⟩ := choose_lt (α := α) (n := len) (p := fun i y => w.cells? base (a.add (i * size)) size = some (cells y) ∧ good y) (fun i hi => by
      obtain ⟨cs', h1, h2⟩ := hx i (by omega)
      obtain ⟨y, rfl, hg⟩ := hel _ _ _ h2
      rw [hC] at h1
      exact ⟨y, h1, hg⟩)
    have hlen : ((List.range len).map f).length = len := by simp
    refine ⟨some a, len, cap, (List.range len).map f, rfl, ⟨by rw [flat_len hl, hlen], hlc, hm, fun hn => ?_, fun h => by cases h⟩, fun y hy => ?_⟩
    · obtain ⟨b, off, spot⟩ := a
      obtain ⟨_, _, h0⟩ := World.cells?_some (hf 0 hn).1
      have hc0 := h0 0 hpos
      rw [Nat.zero_mul] at hc0
      rw [List.getElem?_eq_getElem (show 0 < (cells (f 0)).length by rw [hl]; exact hpos)] at hc0
      have hspot : spot = none := by simpa [Addr.add] using World.cell?_spot hc0
      subst hspot
      refine ⟨b, off, rfl, ?_, by simp, fun j u hu => ?_⟩
      · have := World.block_lt_of_cell? w _ hc0
        simpa [Addr.add] using this
      · have hj : j < len * size := by
          have := (List.getElem?_eq_some_iff.1 hu).1
          rwa [flat_len hl, hlen] at this
        have hd : j / size < len := Nat.div_lt_of_lt_mul (by rw [Nat.mul_comm]; exact hj)
        have hmod := Nat.mod_lt j hpos
        have hjs : j / size * size + j % size = j := by rw [Nat.mul_comm]; exact Nat.div_add_mod j size
        have hg := flat_get hl ((List.range len).map f) (j / size) (j % size) (by simpa using hd) hmod
        rw [hjs, hu] at hg
        obtain ⟨_, _, h1⟩ := World.cells?_some (hf (j / size) hd).1
        have h2 := h1 (j % size) hmod
        rw [add_none, add_none, Nat.add_assoc, hjs] at h2
        rw [h2, hg]
        simp
    · obtain ⟨i, hi, rfl⟩ := List.mem_map.1 hy
      exact (hf i (List.mem_range.1 hi)).2

theorem open_rows {α : Type} [Inhabited α] {r : Reach} {b0 : Nat} {t e : TypeId} {size : Nat} {v : Value} {d : DataW H} {ps : List MemPlace} (cells : α → List Value) (good : α → Prop) (hl : ∀ a, (cells a).length = size) (hpos : 0 < size)
    (ht : P.underlying t = some (.slice e)) (hC : P.cellsOf e = size)
    (hel : ∀ fuel cs x, DataW.trod enc P w base spare held fuel e cs = some x → ∃ a, cs = cells a ∧ good a) (hval : Value.okWide P w r b0 t v) (hd : DataW.Trod enc P w base spare held t v d ps) :
    ∃ (A : Option Addr) (n c : Nat) (l : List α), v = .slice A n c ∧ Rd [] w size A n c (l.flatMap cells) ∧ ∀ a ∈ l, good a := by
  obtain ⟨A, n, c, rfl⟩ := okWide_slice ht hval
  obtain ⟨fuel, hf⟩ := hd
  obtain ⟨A', n', c', l, hcs, hr, hg⟩ := open_slice_rd cells good hl hpos ht hC hel hf
  simp [Value.cells] at hcs
  obtain ⟨rfl, rfl, rfl⟩ := hcs
  exact ⟨_, _, _, l, rfl, hr, hg⟩

/-- An i64 field. -/
theorem i64_of {t : TypeId} {fuel : Nat} {cs : List Value} {x : DataW H × List MemPlace} (ht : P.underlying t = some (.int .i64)) (h : DataW.trod enc P w base spare held fuel t cs = some x) : ∃ n : Int64, cs = [vI n] := by
  obtain ⟨n, rfl, _, hw⟩ := DataW.trod_int ht h
  simp [Lit.wf, IntKind.min, IntKind.max, IntKind.signed, IntKind.bits] at hw
  refine ⟨Int64.ofInt n, ?_⟩
  rw [vI, Int64.toInt_ofInt_of_le (by omega) (by omega)]
end

section
variable {H : Type} {enc : TypeId × Value → H} {w : World} {base : Nat} {spare : Nat → Bool} {held : Bool}
/-- The cells of an api.Cell. -/
theorem cell_of {fuel : Nat} {cs : List Value} {x : DataW H × List MemPlace} (h : DataW.trod enc Tryz.prog w base spare held fuel 64 cs = some x) : ∃ c : Cell, cs = c.cs ∧ c.text.size ≤ maxLen := by
  obtain ⟨xs, m, _, _, hlen, hxs, hf⟩ := DataW.trod_struct Tryz.underlying64 h
  have g0 : DataW.trod enc Tryz.prog w base spare held m 4 ((cs.drop 0).take (Tryz.prog.cellsOf 4)) = xs[0]? := hf 0 _ rfl
  have g1 : DataW.trod enc Tryz.prog w base spare held m 3 ((cs.drop 1).take (Tryz.prog.cellsOf 3)) = xs[1]? := hf 1 _ rfl
  have g2 : DataW.trod enc Tryz.prog w base spare held m 9 ((cs.drop 2).take (Tryz.prog.cellsOf 9)) = xs[2]? := hf 2 _ rfl
  have g3 : DataW.trod enc Tryz.prog w base spare held m 62 ((cs.drop 3).take (Tryz.prog.cellsOf 62)) = xs[3]? := hf 3 _ rfl
  simp only [show Tryz.prog.cellsOf 64 = 5 from by kernel_rfl] at hlen
  rw [show Tryz.prog.cellsOf 4 = 1 from by kernel_rfl] at g0
  rw [show Tryz.prog.cellsOf 3 = 1 from by kernel_rfl] at g1
  rw [show Tryz.prog.cellsOf 9 = 1 from by kernel_rfl] at g2
  rw [show Tryz.prog.cellsOf 62 = 2 from by kernel_rfl] at g3
  match cs, hlen with
  | [c0, c1, c2, c3, c4], _ =>
    match xs, hxs with
    | [y0, y1, y2, y3], _ =>
      obtain ⟨b, hb, _⟩ := DataW.trod_bool Tryz.underlying4 g0
      obtain ⟨i, hi⟩ := i64_of Tryz.underlying3 g1
      obtain ⟨s, hs, _, hsz⟩ := DataW.trod_string Tryz.underlying9 g2
      obtain ⟨zs, m2, _, _, hlen2, hzs, hf2⟩ := DataW.trod_struct Tryz.underlying62 g3
      have k0 : DataW.trod enc Tryz.prog w base spare held m2 3 ((((([c0, c1, c2, c3, c4] : List Value).drop 3).take 2).drop 0).take (Tryz.prog.cellsOf 3)) = zs[0]? := hf2 0 _ rfl
      have k1 : DataW.trod enc Tryz.prog w base spare held m2 3 ((((([c0, c1, c2, c3, c4] : List Value).drop 3).take 2).drop 1).take (Tryz.prog.cellsOf 3)) = zs[1]? := hf2 1 _ rfl
      match zs, hzs with
      | [z0, z1], _ =>
        rw [show Tryz.prog.cellsOf 3 = 1 from by kernel_rfl] at k0 k1
        obtain ⟨p, hp⟩ := i64_of Tryz.underlying3 k0
        obtain ⟨q, hq⟩ := i64_of Tryz.underlying3 k1
        simp at hb hi hs hp hq
        subst hb hi hs hp hq
        exact ⟨⟨b, i, s, p, q⟩, rfl, hsz⟩

theorem open_cells {r : Reach} {b0 : Nat} {v : Value} {d : DataW H} {ps : List MemPlace} (hval : Value.okWide Tryz.prog w r b0 53 v) (hd : DataW.Trod enc Tryz.prog w base spare held 53 v d ps) :
    ∃ A n c l, v = .slice A n c ∧ Cells [] w A n c l := by
  obtain ⟨A, n, c, l, rfl, hr, _⟩ := open_rows (α := Cell) Cell.cs (fun _ => True) Cell.len (by omega) Tryz.underlying53 (by kernel_rfl) (fun fuel cs x h => by
    obtain ⟨c, hc, _⟩ := cell_of h
    exact ⟨c, hc, trivial⟩) hval hd
  exact ⟨A, n, c, l, rfl, hr⟩
/-- An api.Cell that came in. -/
theorem open_cell {r : Reach} {b0 : Nat} {v : Value} {d : DataW H} {ps : List MemPlace} (hval : Value.okWide Tryz.prog w r b0 64 v) (hd : DataW.Trod enc Tryz.prog w base spare held 64 v d ps) :
    ∃ c : Cell, v = cellVal c ∧ c.text.size ≤ maxLen := by
  obtain ⟨cs, rfl, _⟩ := okWide_struct Tryz.underlying64 hval
  obtain ⟨fuel, hf⟩ := hd
  obtain ⟨c, hc, ht⟩ := cell_of hf
  refine ⟨c, ?_, ht⟩
  have : cs.toList = c.cs := by simpa [Value.cells] using hc
  have : cs = c.cs.toArray := by rw [← this]
  rw [this]
  rfl
end
end Go.Proofs.YtcpimhefclfbaaaGreatDoor
