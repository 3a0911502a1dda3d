/-
  What is over rows, as the document has it: hypostyleref18.Over.
-/
import Derived.Test.YtcpimhefclfbaaaGreatDoorLy4
import Derived.Test.YtcpimhefclfbaaaGreatDoorLyP2
import Derived.Test.YtcpimhefclfbaaaGreatDoorQk2
namespace Go.Proofs.YtcpimhefclfbaaaGreatDoor
open Go Go.RowKit
set_option maxRecDepth 10000
set_option linter.unusedVariables false
set_option linter.unusedSimpArgs false

theorem ovr_is {x y p q M1 M2 : Int} (hpq : p < q) (h1 : (if p < x then x else p) = M1) (h2 : (if y < q then y else q) = M2) : ovr x y (p, q) = decide (M1 < M2) := by
  unfold ovr
  simp only []
  have e1 : M1 = max p x := by rw [← h1]; split <;> omega
  have e2 : M2 = min q y := by rw [← h2]; split <;> omega
  by_cases h : M1 < M2
  · rw [decide_eq_true h, decide_eq_true (show p < y by omega), decide_eq_true (show x < q by omega), decide_eq_true (show x < y by omega)]; rfl
  · rw [decide_eq_false h]
    simp only [Bool.and_eq_false_iff, decide_eq_false_iff_not]
    omega

set_option maxHeartbeats 4000000 in
theorem over_ref {X : List Nat} {A : Option Addr} {n c : Nat} {l : List (Int × Int)} (x y : Int) (W : World) (h : Sps X W A n c l) (hasc : Asc l) (hl : ∀ i (hi : i < l.length), l[i].1 < l[i].2) :
    Calls Tryz.prog 13 #[.slice A n c, .int .i64 x, .int .i64 y] W fun e W' => e = .returned (.tuple #[.int .i64 ((overL l x y).1 : Nat), .int .i64 ((overL l x y).2 : Nat)]) ∧ Keep [] W W' := by
  have hc := h.cap
  have hnc := h.le
  obtain rfl := h.len
  obtain ⟨o1, o2, o3, o4⟩ := over_has hasc x y
  generalize overL l x y = v at *
  obtain ⟨a, b⟩ := v
  simp only [] at o1 o2 o3 o4 ⊢
  replace o4 := Lib.hid o4
  replace hl := Lib.hid hl
  replace o3 := Lib.hid o3
  go_enter Tryz.func13, Tryz.ntmps13
  go_wp2
  go_loopw [8, 9, 10] (fun f z i w => ∃ (k : Nat) (F L : Int), k ≤ l.length ∧ f = .int .i64 F ∧ z = .int .i64 L ∧ i = .int .i64 k ∧ Hid ((k ≤ a ∧ F = -1 ∧ L = 0) ∨ (a < k ∧ a < b ∧ F = a ∧ L = min k b) ∨ (a = b ∧ F = -1 ∧ L = 0)) ∧ Keep [] W w) (fun _ _ i _ => l.length - (intOf i).toNat)
  case atStart => exact ⟨0, -1, 0, Nat.zero_le _, rfl, rfl, rfl, .inl ⟨Nat.zero_le _, rfl, rfl⟩, Keep.refl _ _⟩
  case round =>
    obtain ⟨k, F, L, hk, rfl, rfl, rfl, HR, hkr⟩ := hrel
    by_cases hlt : k < l.length
    · have C := Lib.hid (fun w (hw : Keep [] W w) => Sps.at2 (h.pure hw) hlt)
      obtain ⟨pb, po, rfl, _, _, _, _⟩ := C.out wr hkr
      have hpq := hl.out k hlt
      have hov := o4.out k hlt
      generalize l[k] = pq at *
      obtain ⟨p, q⟩ := pq
      simp only [] at hpq
      obtain ⟨M1, hM1⟩ : ∃ M1, (if p < x then x else p) = M1 := ⟨_, rfl⟩
      obtain ⟨M2, hM2⟩ : ∃ M2, (if y < q then y else q) = M2 := ⟨_, rfl⟩
      rw [ovr_is hpq hM1 hM2] at hov
      have i0' : (0 : Int) ≤ (k : Int) := by omega
      have i1' : (k : Int) < (l.length : Int) := by omega
      replace hpq := Lib.hid hpq
      by_cases hin : a ≤ k ∧ k < b
      · rw [decide_eq_true hin] at hov
        have hcmp := of_decide_eq_true hov
        replace hin := Lib.hid hin
        rcases Nat.eq_or_lt_of_le hin.out.1 with hak | hak
        · have hF : F = -1 := by have := HR.out; have := hin.out; omega
          subst hF
          replace hak := Lib.hid hak
          go_wp2_with fail
          refine wp_region_qq (by kernel_rfl) (by kernel_rfl) (Keep.refl [] _) ?_
          repeat ((first | (refine qq_skip rfl ?_) | (refine qq_val (v := ?_) rfl ?_ ?_; rotate_left; (intro w hw; obtain ⟨_, _, E', _, _, z0, z1⟩ := C.out w (hkr.trans hw); cases E'; go_simp; exact rfl))); simp only [Act.put, List.setIfInBounds_toArray, List.set_cons_succ, List.set_cons_zero])
          refine qq_nil (fun w7 hw7 => ?_)
          go_wp2
          go_roundw
          case rel => exact ⟨k + 1, k, (k : Int) + 1, by omega, rfl, rfl, by go_num, by (have := hak.out; have := hin.out; rw [Hid]; omega), hkr.trans hw7⟩
          case measure => simp [intOf]; omega
        · have hF : F = a := by have := HR.out; have := hin.out; omega
          subst hF
          replace hak := Lib.hid hak
          have ha0 : ¬ ((a : Int) < 0) := by omega
          go_wp2_with fail
          refine wp_region_qq (by kernel_rfl) (by kernel_rfl) (Keep.refl [] _) ?_
          repeat ((first | (refine qq_skip rfl ?_) | (refine qq_val (v := ?_) rfl ?_ ?_; rotate_left; (intro w hw; obtain ⟨_, _, E', _, _, z0, z1⟩ := C.out w (hkr.trans hw); cases E'; go_simp; exact rfl))); simp only [Act.put, List.setIfInBounds_toArray, List.set_cons_succ, List.set_cons_zero])
          refine qq_nil (fun w7 hw7 => ?_)
          go_wp2
          go_roundw
          case rel => exact ⟨k + 1, a, (k : Int) + 1, by omega, rfl, rfl, by go_num, by (have := hak.out; have := hin.out; rw [Hid]; omega), hkr.trans hw7⟩
          case measure => simp [intOf]; omega
      · rw [decide_eq_false hin] at hov
        have hcmp : ¬ M1 < M2 := of_decide_eq_false hov
        replace hin := Lib.hid hin
        go_wp2_with fail
        refine wp_region_qq (by kernel_rfl) (by kernel_rfl) (Keep.refl [] _) ?_
        repeat ((first | (refine qq_skip rfl ?_) | (refine qq_val (v := ?_) rfl ?_ ?_; rotate_left; (intro w hw; obtain ⟨_, _, E', _, _, z0, z1⟩ := C.out w (hkr.trans hw); cases E'; go_simp; exact rfl))); simp only [Act.put, List.setIfInBounds_toArray, List.set_cons_succ, List.set_cons_zero])
        refine qq_nil (fun w7 hw7 => ?_)
        go_wp2
        go_roundw
        case rel => exact ⟨k + 1, F, L, by omega, rfl, rfl, by go_num, by (have := HR.out; have := hin.out; have := o3.out; rw [Hid]; omega), hkr.trans hw7⟩
        case measure => simp [intOf]; omega
    · obtain rfl : k = l.length := by omega
      by_cases hab : a < b
      · have hF : F = a := by have := HR.out; omega
        have hL : L = b := by have := HR.out; omega
        subst hF hL
        have ha0 : ¬ ((a : Int) < 0) := by omega
        go_wp2
        go_ret2
        exact ⟨rfl, hkr⟩
      · have hF : F = -1 := by have := HR.out; have := o3.out; omega
        obtain ⟨rfl, rfl⟩ : a = 0 ∧ b = 0 := by have := o3.out; omega
        subst hF
        go_wp2
        go_ret2
        exact ⟨rfl, hkr⟩
end Go.Proofs.YtcpimhefclfbaaaGreatDoor
