/-
  The walk of layer 10's stretch, the program's.
-/
import Derived.Test.YtphgfhghbpndaaaRn2
namespace Go.Proofs.Ytphgfhghbpndaaa
open Go Go.RowKit
set_option linter.unusedVariables false
set_option linter.unusedSimpArgs false

set_option maxHeartbeats 400000 in
theorem other_prog {X : List Nat} {A : Option Addr} {n c B : Nat} {l : List UInt64} (x : UInt64) (W : World) (h : U64s X W A n c l) (hB : W.cell? ⟨B, 0, none⟩ = some (.slice A n c)) (h0 : 0 < l.length) :
    Calls Try.prog 56 #[.int .u64 (x.toNat : Nat), .pointer (some ⟨B, 0, none⟩)] W fun e W' => e = .returned (.bool (decide (x ≠ l[0]))) ∧ W = W' := by
  have hc := h.cap
  have hnc := h.le
  obtain rfl := h.len1
  obtain ⟨b, off, rfl, _, _, hcell⟩ := h.one h0
  unfold vU64 at hcell
  rw [Nat.add_zero] at hcell
  generalize l[0] = y at *
  have hv : Hid (decide (x ≠ y) = ((x.toNat : Int) != (y.toNat : Int))) := by
    unfold Hid
    by_cases hxy : x = y
    · subst hxy; simp
    · rw [decide_eq_true hxy]
      symm
      rw [bne_iff_ne]
      intro hh
      exact hxy (UInt64.toNat_inj.1 (by omega))
  rw [hv.out]
  go_enter Try.func56, Try.ntmps56
  go_wp2
  go_ret
  exact ⟨rfl, rfl⟩

/-- The place of the first other number, or -1. -/
def firstOther (l : List UInt64) : Int := if stretch l = l.length then -1 else stretch l

set_option maxHeartbeats 1000000 in
theorem indexOther_prog {X : List Nat} {A : Option Addr} {n c B : Nat} {l : List UInt64} (W : World) (h : U64s X W A n c l) (hB : W.cell? ⟨B, 0, none⟩ = some (.slice A n c)) :
    Calls Try.prog 55 #[.slice A n c, .func (.func 56) #[] #[.pointer (some ⟨B, 0, none⟩)]] W fun e W' => e = .returned (.int .i64 (firstOther l)) ∧ W = W' := by
  have hc := h.cap
  have hnc := h.le
  obtain rfl := h.len1
  go_enter Try.func55, Try.ntmps55
  go_wp2
  go_loop [8] (fun i => ∃ k : Nat, k ≤ l.length ∧ i = .int .i64 k ∧ Hid (∀ j (h : j < l.length), j < k → l[j] = l[0]'(by omega))) (fun i => l.length - (intOf i).toNat)
  case atStart => exact ⟨0, by omega, rfl, fun j h h0 => absurd h0 (by omega)⟩
  case round =>
    obtain ⟨k, hk, rfl, HE⟩ := hrel
    by_cases hlt : k < l.length
    · have ho := Lib.hid (other_prog l[k] W h hB (by omega))
      obtain ⟨b, off, rfl, _, _, hcell⟩ := h.one hlt
      unfold vU64 at hcell
      go_wp2_with fail
      refine ho.out.mono ?_
      rintro e w1 ⟨rfl, rfl⟩
      by_cases heq : l[k] = l[0]
      · have hv : decide (l[k] ≠ l[0]) = false := by simp [heq]
        have HE2 : Hid (∀ j (h : j < l.length), j < k + 1 → l[j] = l[0]'(by omega)) := by
          intro j hj hj1
          rcases Nat.lt_or_ge j k with h3 | h3
          · exact HE.out j hj h3
          · obtain rfl : j = k := by omega
            exact heq
        rw [hv]
        clear heq hv ho
        go_wp2
        go_round
        case rel => exact ⟨k + 1, by omega, by go_num, HE2⟩
        case measure => simp [intOf]; omega
      · have hv : decide (l[k] ≠ l[0]) = true := by simp [heq]
        have hk0 : 0 < k := by
          rcases Nat.eq_zero_or_pos k with rfl | h0
          · exact absurd rfl heq
          · exact h0
        have hs : Hid (firstOther l = k) := by
          have := stretch_is hk0 hk HE.out (fun _ => heq)
          unfold Hid firstOther
          rw [this, if_neg (by omega)]
        rw [hv]
        clear heq hv ho
        go_wp2
        go_ret
        exact ⟨ret_i (by rw [hs.out]), rfl⟩
    · obtain rfl : k = l.length := by omega
      have hs : Hid (firstOther l = -1) := by
        unfold Hid firstOther
        rw [if_pos]
        rcases Nat.eq_zero_or_pos l.length with h0 | h0
        · rw [List.eq_nil_of_length_eq_zero h0]; rfl
        · exact stretch_is h0 (Nat.le_refl _) HE.out (fun h => absurd h (by omega))
      go_wp2
      go_ret
      exact ⟨ret_i (by rw [hs.out]), rfl⟩

set_option maxHeartbeats 1000000 in
theorem stretch_prog {X : List Nat} {A : Option Addr} {n c : Nat} {l : List UInt64} (W : World) (h : U64s X W A n c l) :
    Calls Try.prog 41 #[.slice A n c] W fun e W' => e = .returned (.int .i64 (stretch l : Nat)) ∧ Keep [] W W' := by
  have hc := h.cap
  have hnc := h.le
  obtain rfl := h.len1
  have hsl := stretch_le l
  have hk1 : Keep [] W (W.alloc (.cells #[.slice A l.length c] 22)) := (Keep.refl _ _).alloc _
  have hbx : Blk (W.alloc (.cells #[.slice A l.length c] 22)) W.heap.size 22 [.slice A l.length c] := Blk.new W _ _
  have hcb := hbx.cell 0
  simp only [List.getElem?_cons_zero] at hcb
  have C := Lib.hid (indexOther_prog _ (h.pure hk1) hcb)
  go_enter Try.func41, Try.ntmps41
  go_wp2_with fail
  refine C.out.mono ?_
  rintro e w1 ⟨rfl, rfl⟩
  by_cases hall : stretch l = l.length
  · have hf : firstOther l = -1 := by unfold firstOther; rw [if_pos hall]
    rw [hf]
    have hall' := Lib.hid hall
    clear hf hall C
    go_wp2
    go_ret
    exact ⟨ret_i (by rw [hall'.out]), hk1⟩
  · have hf : firstOther l = stretch l := by unfold firstOther; rw [if_neg hall]
    rw [hf]
    clear hf hall C
    go_wp2
    go_ret
    exact ⟨rfl, hk1⟩
end Go.Proofs.Ytphgfhghbpndaaa
