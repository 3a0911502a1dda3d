/-
  The walks of layer 18's statements: spans are all rows, once, in order.
-/
import Derived.Test.YtcpimhefclfbaaaGreatDoorLy11
namespace Go.Proofs.YtcpimhefclfbaaaGreatDoor
open Go Go.RowKit
set_option maxRecDepth 10000
set_option linter.unusedVariables false
set_option linter.unusedSimpArgs false

set_option maxHeartbeats 4000000 in
theorem LayoutAll_walk (a t s : Int) (W : World) (ha : I64 a) (ht : I64 t) (hs : I64 s) :
    Calls Tryz.prog 6 #[.int .i64 a, .int .i64 t, .int .i64 s] W fun e W' => e = .returned (.bool true) ∧ Below W.heap.size W W' := by
  have S := Lib.hid (small18 W)
  have FW := Lib.hid (fun w => few18 a t s w ha ht hs)
  have C1 := Lib.hid (fun w => cut_prog a t s w ha ht hs)
  obtain ⟨fv, hfv⟩ : ∃ fv, Hid (fewV a t s = fv) := ⟨_, rfl⟩
  have FW' := FW.out
  rw [hfv.out] at FW'
  replace FW' := Lib.hid FW'
  clear FW
  go_enter Tryz.func6, Tryz.ntmps6
  go_wp2_with fail
  refine S.out.mono ?_
  rintro e w1 ⟨rfl, hk1⟩
  clear S
  go_wp2_with fail
  refine (FW'.out w1).mono ?_
  rintro e w2 ⟨rfl, hw2⟩
  subst hw2
  clear FW'
  cases fv with
  | false =>
    go_wp2
    go_ret
    exact ⟨rfl, hk1.below⟩
  | true =>
  by_cases hbad : a < 0 ∨ 65536 < t ∨ s < 1 ∨ t ≤ a
  · have hl : cutL a t s = [] := by
      unfold cutL
      split
      · rfl
      · exact cutR_end (by omega)
    have C1' := C1.out
    rw [hl] at C1'
    replace C1' := Lib.hid C1'
    clear C1 hl hfv
    have hcase : a < 0 ∨ (¬ a < 0 ∧ 65536 < t) ∨ (¬ a < 0 ∧ ¬ 65536 < t ∧ s < 1) ∨ (¬ a < 0 ∧ ¬ 65536 < t ∧ ¬ s < 1 ∧ t ≤ a) := by omega
    clear hbad
    go_wp2_with fail
    refine (C1'.out w1).mono ?_
    rintro e w2 ⟨B, n, d, rfl, hk2, hB⟩
    obtain rfl : 0 = n := (hB [] (by simp)).len
    clear C1' hB
    rcases hcase with q1 | ⟨q1, q2⟩ | ⟨q1, q2, q3⟩ | ⟨q1, q2, q3, q4⟩
    all_goals
      go_wp2
      go_ret
      exact ⟨rfl, (hk1.trans hk2).below⟩
  have hok := cutL_ok (a := a) (t := t) (s := s) (by omega)
  have q1 : ¬ a < 0 := by omega
  have q2 : ¬ 65536 < t := by omega
  have q3 : ¬ s < 1 := by omega
  have q4 : ¬ t ≤ a := by omega
  generalize cutL a t s = l at *
  replace hok := Lib.hid hok
  clear hbad hfv
  go_wp2_with fail
  refine (C1.out w1).mono ?_
  rintro e w2 ⟨B, n, d, rfl, hk2, hB⟩
  replace hB := hB [] (by simp)
  obtain rfl : l.length = n := hB.len
  have hBc := hB.cap
  have hBl := hB.le
  have hk12 := hk1.trans hk2
  clear C1
  go_wp2
  clear q1 q3 q4
  replace q2 := Lib.hid q2
  go_loopw [10, 11] (fun z i w => ∃ (k : Nat) (A : Int), k ≤ l.length ∧ z = .int .i64 A ∧ i = .int .i64 k ∧ Hid (CutOk t s A (l.drop k) ∧ 0 ≤ A ∧ A ≤ t) ∧ Keep [] w2 w) (fun _ i _ => l.length - (intOf i).toNat)
  case atStart => exact ⟨0, a, Nat.zero_le _, rfl, rfl, ⟨hok.out, by omega, by omega⟩, Keep.refl _ _⟩
  case round =>
    obtain ⟨k, A, hk, rfl, rfl, HC, hkr⟩ := hrel
    have hkW := hk12.trans hkr
    by_cases hlt : k < l.length
    · obtain ⟨pb, po, rfl, _, _, z0, z1⟩ := Sps.at2 (hB.pure hkr) hlt
      have hc := HC.out
      rw [List.drop_eq_getElem_cons hlt] at hc
      have hrest : (l.drop (k + 1) = []) ↔ l.length ≤ k + 1 := List.drop_eq_nil_iff
      generalize l[k] = pq at *
      obtain ⟨p, q⟩ := pq
      simp only [] at z0 z1
      obtain ⟨⟨h1, h2, h3, h4, h5, h6, h7⟩, h8, h9⟩ := hc
      subst h1
      have hqt : q ≤ t := h4
      have i0' : (0 : Int) ≤ (k : Int) := by omega
      have i1' : (k : Int) < (l.length : Int) := by omega
      obtain ⟨D, hD⟩ : ∃ D, q - p = D := ⟨_, rfl⟩
      have q2' := q2.out
      have hDw : IntKind.i64.wrap D = D := IntWalk.i64_in _ (by omega)
      have d1 : decide (q ≤ p) = false := by rw [decide_eq_false_iff_not]; omega
      have d2 : decide (s < D) = false := by rw [decide_eq_false_iff_not]; omega
      have d2' : ¬ s < D := by omega
      have hnew : Hid (CutOk t s q (l.drop (k + 1)) ∧ 0 ≤ q ∧ q ≤ t) := ⟨h7, by omega, by omega⟩
      by_cases hlast : k + 1 < l.length
      · have hDs : D = s := by
          have := h5 (fun he => by have := hrest.1 he; omega)
          omega
        subst hDs
        have d3 : decide (k + 1 < l.length) = true := decide_eq_true hlast
        have d4 : (k : Int) + 1 < (l.length : Int) := by omega
        clear HC h3 h4 h5 h6 h7 h8 h9 hrest hqt q2'
        replace h2 := Lib.hid h2
        go_wp2
        go_roundw
        case rel => exact ⟨k + 1, q, by omega, rfl, by go_num, hnew, hkr⟩
        case measure => simp [intOf]; omega
      · have d3 : decide (k + 1 < l.length) = false := decide_eq_false hlast
        have d4 : ¬ ((k : Int) + 1 < (l.length : Int)) := by omega
        clear HC h3 h4 h5 h6 h7 h8 h9 hrest hqt q2'
        replace h2 := Lib.hid h2
        go_wp2
        go_roundw
        case rel => exact ⟨k + 1, q, by omega, rfl, by go_num, hnew, hkr⟩
        case measure => simp [intOf]; omega
    · have hA : A = t := by
        have hc := HC.out
        rw [List.drop_eq_nil_of_le (by omega)] at hc
        have h1 : t ≤ A := hc.1
        omega
      subst hA
      have i1' : ¬ ((k : Int) < (l.length : Int)) := by omega
      clear HC
      go_wp2
      go_ret
      exact ⟨rfl, hkW.below⟩
end Go.Proofs.YtcpimhefclfbaaaGreatDoor
