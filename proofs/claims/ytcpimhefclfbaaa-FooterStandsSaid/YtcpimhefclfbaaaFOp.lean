/-
  From a row's reading of its arguments to the words of the walks.
  Slices of structs that came in: what they hold.
  Stats that came in: what they hold.
  Footers that came in: what they hold.
-/
import Derived.ProofKit
import Derived.OpenShut
import Derived.ShutString
import Derived.ChangeOld
import Derived.Deep.Slices
import Derived.Test.YtcpimhefclfbaaaFA
import Derived.Test.YtcpimhefclfbaaaFCe
import Derived.Test.YtcpimhefclfbaaaProg
import Derived.Test.YtcpimhefclfbaaaFSta
import Derived.Test.YtcpimhefclfbaaaFFA
namespace Go.Proofs.Ytcpimhefclfbaaa
open Go Go.RowKit Go.ChangeShapes Go.WideShapes Go.ChangeAt

theorem add_none (b off i : Nat) : (⟨b, off, none⟩ : Addr).add i = ⟨b, off + i, none⟩ := by unfold Addr.add; split <;> simp_all

section
variable {H : Type} {enc : TypeId × Value → H} {P : Program} {w : World} {base : Nat} {spare : Nat → Bool} {held : Bool} {r : Reach} {b0 : Nat} {t e : TypeId} {v : Value} {d : DataW H} {ps : List MemPlace}

/-- A slice of integers that came in. -/
theorem open_row {k : IntKind} (ht : P.underlying t = some (.slice e)) (he : P.underlying e = some (.int k)) (hC : P.cellsOf e = 1) (hval : Value.okWide P w r b0 t v) (hd : DataW.Trod enc P w base spare held t v d ps) :
    ∃ (A : Option Addr) (n c : Nat) (zs : List Int), v = .slice A n c ∧ Rd [] w 1 A n c (zs.map (Value.int k)) ∧ ∀ z ∈ zs, (Lit.int k z).wf = true := by
  obtain ⟨A, n, c, rfl⟩ := okWide_slice ht hval
  obtain ⟨fuel, hf⟩ := hd
  rcases open_ints ht he hC hf with ⟨hcs, _⟩ | ⟨x, l, c', zs, hcs, _, hl, hm, hz, _, hcell, hwz⟩
  · simp [Value.cells] at hcs
    obtain ⟨rfl, rfl, rfl⟩ := hcs
    exact ⟨none, 0, 0, [], rfl, Rd.nil_ [] w 1, by simp⟩
  · simp [Value.cells] at hcs
    obtain ⟨rfl, rfl, rfl⟩ := hcs
    have hlen : n ≤ zs.length := by
      rw [hz]
      first | (split <;> omega) | omega
    refine ⟨some x, n, c, zs.take n, rfl, ⟨by simp; omega, hl, hm, fun hn => ?_, fun h => by cases h⟩, fun z hz' => hwz z (List.mem_of_mem_take hz')⟩
    obtain ⟨b, off, spot⟩ := x
    have hc0 := hcell 0 (by omega)
    have hspot : spot = none := by simpa [Addr.add] using World.cell?_spot hc0
    subst hspot
    refine ⟨b, off, rfl, ?_, by simp, fun j u hu => ?_⟩
    · have := World.block_lt_of_cell? w _ hc0
      simpa [Addr.add] using this
    · rw [List.getElem?_map, List.getElem?_take] at hu
      split at hu
      · rename_i hj
        have h := hcell j (by omega)
        rw [add_none] at h
        rw [h]
        rw [List.getElem?_eq_getElem (show j < zs.length by omega)] at hu
        simp only [Option.map_some, Option.some.injEq] at hu
        rw [← hu]
        simp [List.getD, List.getElem?_eq_getElem (show j < zs.length by omega)]
      · simp at hu

theorem open_u64s (ht : P.underlying t = some (.slice e)) (he : P.underlying e = some (.int .u64)) (hC : P.cellsOf e = 1) (hval : Value.okWide P w r b0 t v) (hd : DataW.Trod enc P w base spare held t v d ps) :
    ∃ A n c l, v = .slice A n c ∧ U64s [] w A n c l := by
  obtain ⟨A, n, c, zs, rfl, hr, hw⟩ := open_row ht he hC hval hd
  refine ⟨A, n, c, zs.map fun z => UInt64.ofNat z.toNat, rfl, ?_⟩
  have : (zs.map fun z => UInt64.ofNat z.toNat).map vU64 = zs.map (Value.int .u64) := by
    rw [List.map_map]
    refine List.map_congr_left fun z hz => ?_
    have hx := hw z hz
    simp [Lit.wf, IntKind.min, IntKind.max, IntKind.signed, IntKind.bits] at hx
    simp only [Function.comp_apply, vU64, UInt64.toNat_ofNat']
    rw [Nat.mod_eq_of_lt (by omega)]
    congr 1
    omega
  rw [U64s, this]
  exact hr

theorem open_bys (ht : P.underlying t = some (.slice e)) (he : P.underlying e = some (.int .u8)) (hC : P.cellsOf e = 1) (hval : Value.okWide P w r b0 t v) (hd : DataW.Trod enc P w base spare held t v d ps) :
    ∃ A n c l, v = .slice A n c ∧ Bys [] w A n c l := by
  obtain ⟨A, n, c, zs, rfl, hr, hw⟩ := open_row ht he hC hval hd
  refine ⟨A, n, c, zs.map fun z => UInt8.ofNat z.toNat, rfl, ?_⟩
  have : (zs.map fun z => UInt8.ofNat z.toNat).map vU8 = zs.map (Value.int .u8) := by
    rw [List.map_map]
    refine List.map_congr_left fun z hz => ?_
    have hx := hw z hz
    simp [Lit.wf, IntKind.min, IntKind.max, IntKind.signed, IntKind.bits] at hx
    simp only [Function.comp_apply, vU8, UInt8.toNat_ofNat']
    rw [Nat.mod_eq_of_lt (by omega)]
    congr 1
    omega
  rw [Bys, this]
  exact hr

theorem open_u64 (ht : P.underlying t = some (.int .u64)) (hval : Value.okWide P w r b0 t v) (hd : DataW.Trod enc P w base spare held t v d ps) :
    ∃ x : UInt64, v = .int .u64 (x.toNat : Int) := by
  obtain ⟨x, rfl, rfl, rfl, hx⟩ := open_int ht hval hd
  simp [Lit.wf, IntKind.min, IntKind.max, IntKind.signed, IntKind.bits] at hx
  refine ⟨UInt64.ofNat x.toNat, ?_⟩
  rw [UInt64.toNat_ofNat', Nat.mod_eq_of_lt (by omega)]
  congr 1
  omega
theorem open_i64 (ht : P.underlying t = some (.int .i64)) (hval : Value.okWide P w r b0 t v) (hd : DataW.Trod enc P w base spare held t v d ps) :
    ∃ x : Int, v = .int .i64 x ∧ -9223372036854775808 ≤ x ∧ x ≤ 9223372036854775807 := by
  obtain ⟨x, rfl, rfl, rfl, hx⟩ := open_int ht hval hd
  simp [Lit.wf, IntKind.min, IntKind.max, IntKind.signed, IntKind.bits] at hx
  exact ⟨x, rfl, by omega, by omega⟩
end
end Go.Proofs.Ytcpimhefclfbaaa

namespace Go.Proofs.Ytcpimhefclfbaaa
open Go Go.RowKit Go.ChangeShapes Go.WideShapes Go.ChangeAt Go.Deep
set_option maxRecDepth 10000

section
variable {H : Type} {enc : TypeId × Value → H} {P : Program} {w : World} {base : Nat} {spare : Nat → Bool} {held : Bool}

/-- A slice, opened where it stands: its elements have cells as 'cells a', a good. -/
theorem open_slice_rd {α : Type} [Inhabited α] {t e : TypeId} {fuel size : Nat} {cs : List Value} {x : DataW H × List MemPlace} (cells : α → List Value) (good : α → Prop) (hl : ∀ a, (cells a).length = size) (hpos : 0 < size)
    (ht : P.underlying t = some (.slice e)) (hC : P.cellsOf e = size)
    (hel : ∀ fuel cs x, DataW.trod enc P w base spare held fuel e cs = some x → ∃ a, cs = cells a ∧ good a) (h : DataW.trod enc P w base spare held fuel t cs = some x) :
    ∃ (A : Option Addr) (n c : Nat) (l : List α), cs = [.slice A n c] ∧ Rd [] w size A n c (l.flatMap cells) ∧ ∀ a ∈ l, good a := by
  rcases open_slice ht h with ⟨rfl, _⟩ | ⟨a, len, cap, m, n, D, Pl, rfl, hb, hlc, hm, hmm, _, hx⟩
  · exact ⟨none, 0, 0, [], rfl, Rd.nil_ [] w size, by simp⟩
  · have hlm : len ≤ m := by rw [hmm]; split <;> omega
    obtain ⟨f, hf⟩ := choose_lt (α := α) (n := len) (p := fun i y => w.cells? base (a.add (i * size)) size = some (cells y) ∧ good y) (fun i hi => by
      obtain ⟨cs', h1, h2⟩ := hx i (by omega)
      obtain ⟨y, rfl, hg⟩ := hel _ _ _ h2
      rw [hC] at h1
      exact ⟨y, h1, hg⟩)
    have hlen : ((List.range len).map f).length = len := by simp
    refine ⟨some a, len, cap, (List.range len).map f, rfl, ⟨by rw [flat_len hl, hlen], hlc, hm, fun hn => ?_, fun h => by cases h⟩, fun y hy => ?_⟩
    · obtain ⟨b, off, spot⟩ := a
      obtain ⟨_, _, h0⟩ := World.cells?_some (hf 0 hn).1
      have hc0 := h0 0 hpos
      rw [Nat.zero_mul] at hc0
      rw [List.getElem?_eq_getElem (show 0 < (cells (f 0)).length by rw [hl]; exact hpos)] at hc0
      have hspot : spot = none := by simpa [Addr.add] using World.cell?_spot hc0
      subst hspot
      refine ⟨b, off, rfl, ?_, by simp, fun j u hu => ?_⟩
      · have := World.block_lt_of_cell? w _ hc0
        simpa [Addr.add] using this
      · have hj : j < len * size := by
          have := (List.getElem?_eq_some_iff.1 hu).1
          rwa [flat_len hl, hlen] at this
        have hd : j / size < len := Nat.div_lt_of_lt_mul (by rw [Nat.mul_comm]; exact hj)
        have hmod := Nat.mod_lt j hpos
        have hjs : j / size * size + j % size = j := by rw [Nat.mul_comm]; exact Nat.div_add_mod j size
        have hg := flat_get hl ((List.range len).map f) (j / size) (j % size) (by simpa using hd) hmod
        rw [hjs, hu] at hg
        obtain ⟨_, _, h1⟩ := World.cells?_some (hf (j / size) hd).1
        have h2 := h1 (j % size) hmod
        rw [add_none, add_none, Nat.add_assoc, hjs] at h2
        rw [h2, hg]
        simp
    · obtain ⟨i, hi, rfl⟩ := List.mem_map.1 hy
      exact (hf i (List.mem_range.1 hi)).2

theorem open_rows {α : Type} [Inhabited α] {r : Reach} {b0 : Nat} {t e : TypeId} {size : Nat} {v : Value} {d : DataW H} {ps : List MemPlace} (cells : α → List Value) (good : α → Prop) (hl : ∀ a, (cells a).length = size) (hpos : 0 < size)
    (ht : P.underlying t = some (.slice e)) (hC : P.cellsOf e = size)
    (hel : ∀ fuel cs x, DataW.trod enc P w base spare held fuel e cs = some x → ∃ a, cs = cells a ∧ good a) (hval : Value.okWide P w r b0 t v) (hd : DataW.Trod enc P w base spare held t v d ps) :
    ∃ (A : Option Addr) (n c : Nat) (l : List α), v = .slice A n c ∧ Rd [] w size A n c (l.flatMap cells) ∧ ∀ a ∈ l, good a := by
  obtain ⟨A, n, c, rfl⟩ := okWide_slice ht hval
  obtain ⟨fuel, hf⟩ := hd
  obtain ⟨A', n', c', l, hcs, hr, hg⟩ := open_slice_rd cells good hl hpos ht hC hel hf
  simp [Value.cells] at hcs
  obtain ⟨rfl, rfl, rfl⟩ := hcs
  exact ⟨_, _, _, l, rfl, hr, hg⟩

/-- An i64 field. -/
theorem i64_of {t : TypeId} {fuel : Nat} {cs : List Value} {x : DataW H × List MemPlace} (ht : P.underlying t = some (.int .i64)) (h : DataW.trod enc P w base spare held fuel t cs = some x) : ∃ n : Int64, cs = [vI n] := by
  obtain ⟨n, rfl, _, hw⟩ := DataW.trod_int ht h
  simp [Lit.wf, IntKind.min, IntKind.max, IntKind.signed, IntKind.bits] at hw
  refine ⟨Int64.ofInt n, ?_⟩
  rw [vI, Int64.toInt_ofInt_of_le (by omega) (by omega)]
end

section
variable {H : Type} {enc : TypeId × Value → H} {w : World} {base : Nat} {spare : Nat → Bool} {held : Bool}
/-- The cells of an api.Cell. -/
theorem cell_of {fuel : Nat} {cs : List Value} {x : DataW H × List MemPlace} (h : DataW.trod enc Try.prog w base spare held fuel 50 cs = some x) : ∃ c : Cell, cs = c.cs ∧ c.text.size ≤ maxLen := by
  obtain ⟨xs, m, _, _, hlen, hxs, hf⟩ := DataW.trod_struct Try.underlying50 h
  have g0 : DataW.trod enc Try.prog w base spare held m 4 ((cs.drop 0).take (Try.prog.cellsOf 4)) = xs[0]? := hf 0 _ rfl
  have g1 : DataW.trod enc Try.prog w base spare held m 3 ((cs.drop 1).take (Try.prog.cellsOf 3)) = xs[1]? := hf 1 _ rfl
  have g2 : DataW.trod enc Try.prog w base spare held m 9 ((cs.drop 2).take (Try.prog.cellsOf 9)) = xs[2]? := hf 2 _ rfl
  have g3 : DataW.trod enc Try.prog w base spare held m 48 ((cs.drop 3).take (Try.prog.cellsOf 48)) = xs[3]? := hf 3 _ rfl
  simp only [show Try.prog.cellsOf 50 = 5 from by kernel_rfl] at hlen
  rw [show Try.prog.cellsOf 4 = 1 from by kernel_rfl] at g0
  rw [show Try.prog.cellsOf 3 = 1 from by kernel_rfl] at g1
  rw [show Try.prog.cellsOf 9 = 1 from by kernel_rfl] at g2
  rw [show Try.prog.cellsOf 48 = 2 from by kernel_rfl] at g3
  match cs, hlen with
  | [c0, c1, c2, c3, c4], _ =>
    match xs, hxs with
    | [y0, y1, y2, y3], _ =>
      obtain ⟨b, hb, _⟩ := DataW.trod_bool Try.underlying4 g0
      obtain ⟨i, hi⟩ := i64_of Try.underlying3 g1
      obtain ⟨s, hs, _, hsz⟩ := DataW.trod_string Try.underlying9 g2
      obtain ⟨zs, m2, _, _, hlen2, hzs, hf2⟩ := DataW.trod_struct Try.underlying48 g3
      have k0 : DataW.trod enc Try.prog w base spare held m2 3 ((((([c0, c1, c2, c3, c4] : List Value).drop 3).take 2).drop 0).take (Try.prog.cellsOf 3)) = zs[0]? := hf2 0 _ rfl
      have k1 : DataW.trod enc Try.prog w base spare held m2 3 ((((([c0, c1, c2, c3, c4] : List Value).drop 3).take 2).drop 1).take (Try.prog.cellsOf 3)) = zs[1]? := hf2 1 _ rfl
      match zs, hzs with
      | [z0, z1], _ =>
        rw [show Try.prog.cellsOf 3 = 1 from by kernel_rfl] at k0 k1
        obtain ⟨p, hp⟩ := i64_of Try.underlying3 k0
        obtain ⟨q, hq⟩ := i64_of Try.underlying3 k1
        simp at hb hi hs hp hq
        subst hb hi hs hp hq
        exact ⟨⟨b, i, s, p, q⟩, rfl, hsz⟩

theorem open_cells {r : Reach} {b0 : Nat} {v : Value} {d : DataW H} {ps : List MemPlace} (hval : Value.okWide Try.prog w r b0 85 v) (hd : DataW.Trod enc Try.prog w base spare held 85 v d ps) :
    ∃ A n c l, v = .slice A n c ∧ Cells [] w A n c l := by
  obtain ⟨A, n, c, l, rfl, hr, _⟩ := open_rows (α := Cell) Cell.cs (fun _ => True) Cell.len (by omega) Try.underlying85 (by kernel_rfl) (fun fuel cs x h => by
    obtain ⟨c, hc, _⟩ := cell_of h
    exact ⟨c, hc, trivial⟩) hval hd
  exact ⟨A, n, c, l, rfl, hr⟩
/-- An api.Cell that came in. -/
theorem open_cell {r : Reach} {b0 : Nat} {v : Value} {d : DataW H} {ps : List MemPlace} (hval : Value.okWide Try.prog w r b0 50 v) (hd : DataW.Trod enc Try.prog w base spare held 50 v d ps) :
    ∃ c : Cell, v = cellVal c ∧ c.text.size ≤ maxLen := by
  obtain ⟨cs, rfl, _⟩ := okWide_struct Try.underlying50 hval
  obtain ⟨fuel, hf⟩ := hd
  obtain ⟨c, hc, ht⟩ := cell_of hf
  refine ⟨c, ?_, ht⟩
  have : cs.toList = c.cs := by simpa [Value.cells] using hc
  have : cs = c.cs.toArray := by rw [← this]
  rw [this]
  rfl
end
end Go.Proofs.Ytcpimhefclfbaaa

namespace Go.Proofs.Ytcpimhefclfbaaa
open Go Go.RowKit Go.ChangeShapes Go.WideShapes Go.ChangeAt Go.Deep
set_option maxRecDepth 10000

section
variable {H : Type} {enc : TypeId × Value → H} {w : World} {base : Nat} {spare : Nat → Bool} {held : Bool}
theorem stat_of {fuel : Nat} {cs : List Value} {x : DataW H × List MemPlace} (h : DataW.trod enc Try.prog w base spare held fuel 52 cs = some x) : ∃ s : St, cs = s.cs := by
  obtain ⟨xs, m, _, _, hlen, hxs, hf⟩ := DataW.trod_struct Try.underlying52 h
  have g0 : DataW.trod enc Try.prog w base spare held m 3 ((cs.drop 0).take (Try.prog.cellsOf 3)) = xs[0]? := hf 0 _ rfl
  have g1 : DataW.trod enc Try.prog w base spare held m 4 ((cs.drop 1).take (Try.prog.cellsOf 4)) = xs[1]? := hf 1 _ rfl
  have g2 : DataW.trod enc Try.prog w base spare held m 50 ((cs.drop 2).take (Try.prog.cellsOf 50)) = xs[2]? := hf 2 _ rfl
  have g3 : DataW.trod enc Try.prog w base spare held m 50 ((cs.drop 7).take (Try.prog.cellsOf 50)) = xs[3]? := hf 3 _ rfl
  simp only [show Try.prog.cellsOf 52 = 12 from by kernel_rfl] at hlen
  rw [show Try.prog.cellsOf 3 = 1 from by kernel_rfl] at g0
  rw [show Try.prog.cellsOf 4 = 1 from by kernel_rfl] at g1
  rw [show Try.prog.cellsOf 50 = 5 from by kernel_rfl] at g2 g3
  match xs, hxs with
  | [y0, y1, y2, y3], _ =>
    obtain ⟨i, hi⟩ := i64_of Try.underlying3 g0
    obtain ⟨b, hb, _⟩ := DataW.trod_bool Try.underlying4 g1
    obtain ⟨c, hc, _⟩ := cell_of g2
    obtain ⟨d, hd, _⟩ := cell_of g3
    refine ⟨⟨i, b, c, d⟩, ?_⟩
    have e : cs = (cs.drop 0).take 1 ++ ((cs.drop 1).take 1 ++ ((cs.drop 2).take 5 ++ (cs.drop 7).take 5)) := by
      match cs, hlen with
      | [_, _, _, _, _, _, _, _, _, _, _, _], _ => rfl
    rw [e, hi, hb, hc, hd]
    rfl
/-- An api.Stat that came in. -/
theorem open_stat {r : Reach} {b0 : Nat} {v : Value} {d : DataW H} {ps : List MemPlace} (hval : Value.okWide Try.prog w r b0 52 v) (hd : DataW.Trod enc Try.prog w base spare held 52 v d ps) :
    ∃ s : St, v = stVal s := by
  obtain ⟨cs, rfl, _⟩ := okWide_struct Try.underlying52 hval
  obtain ⟨fuel, hf⟩ := hd
  obtain ⟨s, hc⟩ := stat_of hf
  refine ⟨s, ?_⟩
  have : cs.toList = s.cs := by simpa [Value.cells] using hc
  have : cs = s.cs.toArray := by rw [← this]
  rw [this]
end
end Go.Proofs.Ytcpimhefclfbaaa

namespace Go.Proofs.Ytcpimhefclfbaaa
open Go Go.RowKit Go.ChangeShapes Go.WideShapes Go.ChangeAt Go.Deep
set_option maxRecDepth 10000
set_option linter.unusedVariables false
set_option linter.unusedSimpArgs false

theorem flat_one' {α : Type} (f : α → Value) (l : List α) : l.flatMap (fun x => [f x]) = l.map f := by
  induction l with
  | nil => rfl
  | cons x l ih => rw [List.flatMap_cons, ih]; rfl
theorem zip_maps {α β : Type} (l : List (α × β)) : (l.map (·.1)).zip (l.map (·.2)) = l := by
  induction l with
  | nil => rfl
  | cons x l ih => rw [List.map_cons, List.map_cons, List.zip_cons_cons, ih]

section
variable {H : Type} {enc : TypeId × Value → H} {w : World} {base : Nat} {spare : Nat → Bool} {held : Bool}
theorem col_of {fuel : Nat} {cs : List Value} {x : DataW H × List MemPlace} (h : DataW.trod enc Try.prog w base spare held fuel 56 cs = some x) : ∃ c : Col, cs = c.cs ∧ c.name.size ≤ maxLen := by
  obtain ⟨xs, m, _, _, hlen, hxs, hf⟩ := DataW.trod_struct Try.underlying56 h
  have g0 : DataW.trod enc Try.prog w base spare held m 9 ((cs.drop 0).take (Try.prog.cellsOf 9)) = xs[0]? := hf 0 _ rfl
  have g1 : DataW.trod enc Try.prog w base spare held m 3 ((cs.drop 1).take (Try.prog.cellsOf 3)) = xs[1]? := hf 1 _ rfl
  have g2 : DataW.trod enc Try.prog w base spare held m 4 ((cs.drop 2).take (Try.prog.cellsOf 4)) = xs[2]? := hf 2 _ rfl
  simp only [show Try.prog.cellsOf 56 = 3 from by kernel_rfl] at hlen
  rw [show Try.prog.cellsOf 9 = 1 from by kernel_rfl] at g0
  rw [show Try.prog.cellsOf 3 = 1 from by kernel_rfl] at g1
  rw [show Try.prog.cellsOf 4 = 1 from by kernel_rfl] at g2
  match cs, hlen with
  | [c0, c1, c2], _ =>
    match xs, hxs with
    | [y0, y1, y2], _ =>
      obtain ⟨s, hs, _, hsz⟩ := DataW.trod_string Try.underlying9 g0
      obtain ⟨i, hi⟩ := i64_of Try.underlying3 g1
      obtain ⟨b, hb, _⟩ := DataW.trod_bool Try.underlying4 g2
      simp at hs hi hb
      subst hs hi hb
      exact ⟨⟨s, i, b⟩, rfl, hsz⟩
theorem pg_of {fuel : Nat} {cs : List Value} {x : DataW H × List MemPlace} (h : DataW.trod enc Try.prog w base spare held fuel 54 cs = some x) : ∃ p : Pg, cs = p.cs := by
  obtain ⟨xs, m, _, _, hlen, hxs, hf⟩ := DataW.trod_struct Try.underlying54 h
  have g0 : DataW.trod enc Try.prog w base spare held m 3 ((cs.drop 0).take (Try.prog.cellsOf 3)) = xs[0]? := hf 0 _ rfl
  have g1 : DataW.trod enc Try.prog w base spare held m 3 ((cs.drop 1).take (Try.prog.cellsOf 3)) = xs[1]? := hf 1 _ rfl
  have g2 : DataW.trod enc Try.prog w base spare held m 52 ((cs.drop 2).take (Try.prog.cellsOf 52)) = xs[2]? := hf 2 _ rfl
  simp only [show Try.prog.cellsOf 54 = 14 from by kernel_rfl] at hlen
  rw [show Try.prog.cellsOf 3 = 1 from by kernel_rfl] at g0 g1
  rw [show Try.prog.cellsOf 52 = 12 from by kernel_rfl] at g2
  match xs, hxs with
  | [y0, y1, y2], _ =>
    obtain ⟨i, hi⟩ := i64_of Try.underlying3 g0
    obtain ⟨j, hj⟩ := i64_of Try.underlying3 g1
    obtain ⟨s, hs⟩ := stat_of g2
    refine ⟨⟨i, j, s⟩, ?_⟩
    have e : cs = (cs.drop 0).take 1 ++ ((cs.drop 1).take 1 ++ (cs.drop 2).take 12) := by
      match cs, hlen with
      | [_, _, _, _, _, _, _, _, _, _, _, _, _, _], _ => rfl
    rw [e, hi, hj, hs]
    rfl
theorem pgs_of {fuel : Nat} {cs : List Value} {x : DataW H × List MemPlace} (h : DataW.trod enc Try.prog w base spare held fuel 41 cs = some x) : ∃ v l, cs = [v] ∧ PgsR [] w v l := by
  obtain ⟨A, n, c, l, rfl, hr, _⟩ := open_slice_rd (α := Pg) Pg.cs (fun _ => True) Pg.len (by omega) Try.underlying41 (by kernel_rfl) (fun fuel cs x h => by
    obtain ⟨p, hp⟩ := pg_of h
    exact ⟨p, hp, trivial⟩) h
  have hn := Rd.lenF Pg.len hr (by omega)
  subst hn
  exact ⟨_, l, rfl, A, c, rfl, hr⟩
theorem chs_of {fuel : Nat} {cs : List Value} {x : DataW H × List MemPlace} (h : DataW.trod enc Try.prog w base spare held fuel 42 cs = some x) : ∃ v ls, cs = [v] ∧ ChsR [] w v ls := by
  obtain ⟨A, n, c, es, rfl, hr, hg⟩ := open_slice_rd (size := 1) (α := List Pg × Value) (fun x => [x.2]) (fun x => PgsR [] w x.2 x.1) (fun _ => rfl) (by omega) Try.underlying42 (by kernel_rfl) (fun fuel cs x h => by
    obtain ⟨v, l, rfl, hp⟩ := pgs_of h
    exact ⟨(l, v), rfl, hp⟩) h
  have hn := Rd.lenF (enc := fun x : List Pg × Value => [x.2]) (n := 1) (fun _ => rfl) hr (by omega)
  subst hn
  rw [flat_one'] at hr
  refine ⟨_, es.map (·.1), rfl, A, c, es.map (·.2), by simp, by simp, by simpa using hr, fun k h1 h2 => ?_⟩
  simp only [List.getElem_map]
  exact hg _ (List.getElem_mem _)
theorem grp_of {fuel : Nat} {cs : List Value} {x : DataW H × List MemPlace} (h : DataW.trod enc Try.prog w base spare held fuel 44 cs = some x) : ∃ y : Grp × Value, cs = grC y ∧ ChsR [] w y.2 y.1.chunks := by
  obtain ⟨xs, m, _, _, hlen, hxs, hf⟩ := DataW.trod_struct Try.underlying44 h
  have g0 : DataW.trod enc Try.prog w base spare held m 3 ((cs.drop 0).take (Try.prog.cellsOf 3)) = xs[0]? := hf 0 _ rfl
  have g1 : DataW.trod enc Try.prog w base spare held m 42 ((cs.drop 1).take (Try.prog.cellsOf 42)) = xs[1]? := hf 1 _ rfl
  simp only [show Try.prog.cellsOf 44 = 2 from by kernel_rfl] at hlen
  rw [show Try.prog.cellsOf 3 = 1 from by kernel_rfl] at g0
  rw [show Try.prog.cellsOf 42 = 1 from by kernel_rfl] at g1
  match cs, hlen with
  | [c0, c1], _ =>
    match xs, hxs with
    | [y0, y1], _ =>
      obtain ⟨i, hi⟩ := i64_of Try.underlying3 g0
      obtain ⟨v, ls, hv, hc⟩ := chs_of g1
      simp at hi hv
      subst hi hv
      exact ⟨(⟨i, ls⟩, _), rfl, hc⟩
theorem grs_of {fuel : Nat} {cs : List Value} {x : DataW H × List MemPlace} (h : DataW.trod enc Try.prog w base spare held fuel 23 cs = some x) : ∃ v gs, cs = [v] ∧ GrsR [] w v gs := by
  obtain ⟨A, n, c, es, rfl, hr, hg⟩ := open_slice_rd (size := 2) (α := Grp × Value) grC (fun y => ChsR [] w y.2 y.1.chunks) grC_len (by omega) Try.underlying23 (by kernel_rfl) (fun fuel cs x h => grp_of h) h
  have hn := Rd.lenF grC_len hr (by omega)
  subst hn
  refine ⟨_, es.map (·.1), rfl, A, c, es.map (·.2), by simp, by simp, ?_, fun k h1 h2 => ?_⟩
  · rw [zip_maps]; simpa using hr
  · simp only [List.getElem_map]
    exact hg _ (List.getElem_mem _)
theorem cols_of {fuel : Nat} {cs : List Value} {x : DataW H × List MemPlace} (h : DataW.trod enc Try.prog w base spare held fuel 22 cs = some x) : ∃ A c l, cs = [.slice A l.length c] ∧ Cols [] w A l.length c l ∧ ∀ x ∈ l, x.name.size ≤ maxLen := by
  obtain ⟨A, n, c, l, rfl, hr, hg⟩ := open_slice_rd (α := Col) Col.cs (fun c => c.name.size ≤ maxLen) Col.len (by omega) Try.underlying22 (by kernel_rfl) (fun fuel cs x h => col_of h) h
  have hn := Rd.lenF Col.len hr (by omega)
  subst hn
  exact ⟨A, c, l, rfl, hr, hg⟩
/-- An api.Footer that came in. -/
theorem open_ftr {r : Reach} {b0 : Nat} {v : Value} {d : DataW H} {ps : List MemPlace} (hval : Value.okWide Try.prog w r b0 25 v) (hd : DataW.Trod enc Try.prog w base spare held 25 v d ps) :
    ∃ f : Ftr, FtrR [] w v f := by
  obtain ⟨cs, rfl, _⟩ := okWide_struct Try.underlying25 hval
  obtain ⟨fuel, hf⟩ := hd
  obtain ⟨xs, m, _, _, hlen, hxs, hf⟩ := DataW.trod_struct Try.underlying25 hf
  have hce : (Value.agg cs).cells.toList = cs.toList := by simp [Value.cells]
  rw [hce] at hlen hf
  have g0 : DataW.trod enc Try.prog w base spare held m 22 ((cs.toList.drop 0).take (Try.prog.cellsOf 22)) = xs[0]? := hf 0 _ rfl
  have g1 : DataW.trod enc Try.prog w base spare held m 3 ((cs.toList.drop 1).take (Try.prog.cellsOf 3)) = xs[1]? := hf 1 _ rfl
  have g2 : DataW.trod enc Try.prog w base spare held m 23 ((cs.toList.drop 2).take (Try.prog.cellsOf 23)) = xs[2]? := hf 2 _ rfl
  simp only [show Try.prog.cellsOf 25 = 3 from by kernel_rfl] at hlen
  rw [show Try.prog.cellsOf 22 = 1 from by kernel_rfl] at g0
  rw [show Try.prog.cellsOf 3 = 1 from by kernel_rfl] at g1
  rw [show Try.prog.cellsOf 23 = 1 from by kernel_rfl] at g2
  obtain ⟨l, hl⟩ : ∃ l, cs.toList = l := ⟨_, rfl⟩
  have hcs : cs = l.toArray := by rw [← hl]
  rw [hl] at hlen g0 g1 g2
  match l, hlen with
  | [c0, c1, c2], _ =>
    match xs, hxs with
    | [y0, y1, y2], _ =>
      obtain ⟨A, c, cols, hc, hr, ht⟩ := cols_of g0
      obtain ⟨i, hi⟩ := i64_of Try.underlying3 g1
      obtain ⟨v, gs, hv, hg⟩ := grs_of g2
      simp at hc hi hv
      subst hc hi hv
      exact ⟨⟨cols, i, gs⟩, A, c, _, by rw [hcs]; rfl, hr, hg, ht⟩
end
end Go.Proofs.Ytcpimhefclfbaaa
