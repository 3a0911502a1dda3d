/-
  From a row's reading of its arguments to the words of the walks.
-/
import Derived.Test.YtcpimhefclfbaaaGreatDoorBase
import Derived.ProofKit
import Derived.OpenShut
import Derived.ShutString
import Derived.ChangeOld
namespace Go.Proofs.YtcpimhefclfbaaaGreatDoor
open Go Go.RowKit Go.ChangeShapes Go.WideShapes Go.ChangeAt

theorem add_none (b off i : Nat) : (⟨b, off, none⟩ : Addr).add i = ⟨b, off + i, none⟩ := by unfold Addr.add; split <;> simp_all

section
variable {H : Type} {enc : TypeId × Value → H} {P : Program} {w : World} {base : Nat} {spare : Nat → Bool} {held : Bool} {r : Reach} {b0 : Nat} {t e : TypeId} {v : Value} {d : DataW H} {ps : List MemPlace}

/-- A slice of integers that came in. -/
theorem open_row {k : IntKind} (ht : P.underlying t = some (.slice e)) (he : P.underlying e = some (.int k)) (hC : P.cellsOf e = 1) (hval : Value.okWide P w r b0 t v) (hd : DataW.Trod enc P w base spare held t v d ps) :
    ∃ (A : Option Addr) (n c : Nat) (zs : List Int), v = .slice A n c ∧ Rd [] w 1 A n c (zs.map (Value.int k)) ∧ ∀ z ∈ zs, (Lit.int k z).wf = true := by
  obtain ⟨A, n, c, rfl⟩ := okWide_slice ht hval
  obtain ⟨fuel, hf⟩ := hd
  rcases open_ints ht he hC hf with ⟨hcs, _⟩ | ⟨x, l, c', zs, hcs, _, hl, hm, hz, _, hcell, hwz⟩
  · simp [Value.cells] at hcs
    obtain ⟨rfl, rfl, rfl⟩ := hcs
    exact ⟨none, 0, 0, [], rfl, Rd.nil_ [] w 1, by simp⟩
  · simp [Value.cells] at hcs
    obtain ⟨rfl, rfl, rfl⟩ := hcs
    have hlen : n ≤ zs.length := by
      rw [hz]
      first | (split <;> omega) | omega
    refine ⟨some x, n, c, zs.take n, rfl, ⟨by simp; omega, hl, hm, fun hn => ?_, fun h => by cases h⟩, fun z hz' => hwz z (List.mem_of_mem_take hz')⟩
    obtain ⟨b, off, spot⟩ := x
    have hc0 := hcell 0 (by omega)
    have hspot : spot = none := by simpa [Addr.add] using World.cell?_spot hc0
    subst hspot
    refine ⟨b, off, rfl, ?_, by simp, fun j u hu => ?_⟩
    · have := World.block_lt_of_cell? w _ hc0
      simpa [Addr.add] using this
    · rw [List.getElem?_map, List.getElem?_take] at hu
      split at hu
      · rename_i hj
        have h := hcell j (by omega)
        rw [add_none] at h
        rw [h]
        rw [List.getElem?_eq_getElem (show j < zs.length by omega)] at hu
        simp only [Option.map_some, Option.some.injEq] at hu
        rw [← hu]
        simp [List.getD, List.getElem?_eq_getElem (show j < zs.length by omega)]
      · simp at hu

theorem open_u64s (ht : P.underlying t = some (.slice e)) (he : P.underlying e = some (.int .u64)) (hC : P.cellsOf e = 1) (hval : Value.okWide P w r b0 t v) (hd : DataW.Trod enc P w base spare held t v d ps) :
    ∃ A n c l, v = .slice A n c ∧ U64s [] w A n c l := by
  obtain ⟨A, n, c, zs, rfl, hr, hw⟩ := open_row ht he hC hval hd
  refine ⟨A, n, c, zs.map fun z => UInt64.ofNat z.toNat, rfl, ?_⟩
  have : (zs.map fun z => UInt64.ofNat z.toNat).map vU64 = zs.map (Value.int .u64) := by
    rw [List.map_map]
    refine List.map_congr_left fun z hz => ?_
    have hx := hw z hz
    simp [Lit.wf, IntKind.min, IntKind.max, IntKind.signed, IntKind.bits] at hx
    simp only [Function.comp_apply, vU64, UInt64.toNat_ofNat']
    rw [Nat.mod_eq_of_lt (by omega)]
    congr 1
    omega
  rw [U64s, this]
  exact hr

theorem open_bys (ht : P.underlying t = some (.slice e)) (he : P.underlying e = some (.int .u8)) (hC : P.cellsOf e = 1) (hval : Value.okWide P w r b0 t v) (hd : DataW.Trod enc P w base spare held t v d ps) :
    ∃ A n c l, v = .slice A n c ∧ Bys [] w A n c l := by
  obtain ⟨A, n, c, zs, rfl, hr, hw⟩ := open_row ht he hC hval hd
  refine ⟨A, n, c, zs.map fun z => UInt8.ofNat z.toNat, rfl, ?_⟩
  have : (zs.map fun z => UInt8.ofNat z.toNat).map vU8 = zs.map (Value.int .u8) := by
    rw [List.map_map]
    refine List.map_congr_left fun z hz => ?_
    have hx := hw z hz
    simp [Lit.wf, IntKind.min, IntKind.max, IntKind.signed, IntKind.bits] at hx
    simp only [Function.comp_apply, vU8, UInt8.toNat_ofNat']
    rw [Nat.mod_eq_of_lt (by omega)]
    congr 1
    omega
  rw [Bys, this]
  exact hr

theorem open_u64 (ht : P.underlying t = some (.int .u64)) (hval : Value.okWide P w r b0 t v) (hd : DataW.Trod enc P w base spare held t v d ps) :
    ∃ x : UInt64, v = .int .u64 (x.toNat : Int) := by
  obtain ⟨x, rfl, rfl, rfl, hx⟩ := open_int ht hval hd
  simp [Lit.wf, IntKind.min, IntKind.max, IntKind.signed, IntKind.bits] at hx
  refine ⟨UInt64.ofNat x.toNat, ?_⟩
  rw [UInt64.toNat_ofNat', Nat.mod_eq_of_lt (by omega)]
  congr 1
  omega
theorem open_i64 (ht : P.underlying t = some (.int .i64)) (hval : Value.okWide P w r b0 t v) (hd : DataW.Trod enc P w base spare held t v d ps) :
    ∃ x : Int, v = .int .i64 x ∧ -9223372036854775808 ≤ x ∧ x ≤ 9223372036854775807 := by
  obtain ⟨x, rfl, rfl, rfl, hx⟩ := open_int ht hval hd
  simp [Lit.wf, IntKind.min, IntKind.max, IntKind.signed, IntKind.bits] at hx
  exact ⟨x, rfl, by omega, by omega⟩
end
end Go.Proofs.YtcpimhefclfbaaaGreatDoor
