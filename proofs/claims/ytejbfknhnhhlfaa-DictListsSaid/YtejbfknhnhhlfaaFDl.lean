/-
  The comparison of two rows of cells.
  The statements' bound on cells.
-/
import Derived.Test.YtejbfknhnhhlfaaFCe
import Derived.Test.YtejbfknhnhhlfaaProg
namespace Go.Proofs.Ytejbfknhnhhlfaa
open Go Go.RowKit
set_option maxRecDepth 10000
set_option linter.unusedVariables false
set_option linter.unusedSimpArgs false

set_option maxHeartbeats 1000000 in
theorem cells_ref {X Y : List Nat} {A B : Option Addr} {n c m d : Nat} {l r : List Cell} (W : World) (h : Cells X W A n c l) (h' : Cells Y W B m d r) :
    Calls Try.prog 34 #[.slice A n c, .slice B m d] W fun e W' => e = .returned (.bool (decide (l = r))) ∧ Keep [] W W' := by
  have hn := h.len
  have hc := h.cap
  have hnc := h.le
  have hn' := h'.len
  have hc' := h'.cap
  have hnc' := h'.le
  obtain rfl := hn
  obtain rfl := hn'
  have HP : ∃ v : Bool, Hid (v = decide (l = r)) := ⟨_, rfl⟩
  obtain ⟨v, HP⟩ := HP
  rw [← HP.out]
  by_cases hne : l.length = r.length
  · have hne' : ((l.length : Int) != (r.length : Int)) = false := by simp [hne]
    have hle : l.length ≤ r.length ∧ r.length ≤ l.length := by omega
    have HL := Lib.hid hne
    clear hne
    go_enter Try.func34, Try.ntmps34
    go_wp2
    go_loopw [5] (fun i w => ∃ k : Nat, k ≤ l.length ∧ i = .int .i64 k ∧ Hid (l.take k = r.take k) ∧ Keep [] W w) (fun i _ => l.length - (intOf i).toNat)
    case atStart => exact ⟨0, by omega, rfl, rfl, Keep.refl _ _⟩
    case round =>
      rename_i wr
      obtain ⟨k, hk, rfl, HE, hkeep⟩ := hrel
      by_cases hlt : k < l.length
      · have hlt' : k < r.length := by omega
        obtain ⟨b, off, rfl, hb1, hb2, hc0, hc1, hc2, hc3, hc4⟩ := Cells.at5 (h.pure hkeep) hlt
        obtain ⟨b', off', rfl, hb1', hb2', hd0, hd1, hd2, hd3, hd4⟩ := Cells.at5 (h'.pure hkeep) hlt'
        by_cases heq : l[k] = r[k]
        · have hneq : ∀ w, (binOp .neq 29 (cellVal l[k]) (cellVal r[k])).run Try.prog w = .ok (.bool false) w := fun w => by rw [neq_cell]; simp [heq]
          have HE2 : Hid (l.take (k + 1) = r.take (k + 1)) := by
            unfold Hid
            rw [List.take_succ_eq_append_getElem hlt, List.take_succ_eq_append_getElem (by omega), HE.out, heq]
          clear heq
          go_wp2
          go_quiet (fail)
          go_wp2
          go_roundw
          case rel => exact ⟨k + 1, by omega, by go_num, HE2, hkeep.drewN _⟩
          case measure => simp [intOf]; omega
        · have hneq : ∀ w, (binOp .neq 29 (cellVal l[k]) (cellVal r[k])).run Try.prog w = .ok (.bool true) w := fun w => by rw [neq_cell]; simp [heq]
          have hv : Hid (v = false) := by
            rw [Hid, HP.out]
            exact decide_eq_false (fun h => heq (by subst h; rfl))
          clear heq
          go_wp2
          go_quiet (fail)
          go_wp2
          go_ret
          exact ⟨ret_b hv.out.symm, hkeep.drewN _⟩
      · have hv : Hid (v = true) := by
          rw [Hid, HP.out]
          refine decide_eq_true ?_
          have := HE.out
          rwa [List.take_of_length_le (by omega), List.take_of_length_le (by omega)] at this
        go_wp2
        go_ret
        exact ⟨ret_b hv.out.symm, hkeep⟩
  · have hv : Hid (v = false) := by
      rw [Hid, HP.out]
      exact decide_eq_false (fun h => hne (by rw [h]))
    have hne' : ((l.length : Int) != (r.length : Int)) = true := by rw [bne_iff_ne]; omega
    clear hne
    go_enter Try.func34, Try.ntmps34
    go_wp2
    go_ret
    exact ⟨ret_b hv.out.symm, Keep.refl _ _⟩
end Go.Proofs.Ytejbfknhnhhlfaa

namespace Go.Proofs.Ytejbfknhnhhlfaa
open Go Go.RowKit
set_option maxRecDepth 10000
set_option linter.unusedVariables false
set_option linter.unusedSimpArgs false

def FewSays (n : Nat) (e : Ending) : Prop := ∃ v : Bool, e = .returned (.bool v) ∧ (v = true → n ≤ 300)

set_option maxHeartbeats 1000000 in
theorem few_prog {X : List Nat} {A : Option Addr} {n c : Nat} {l : List Cell} (W : World) (h : Cells X W A n c l) :
    Calls Try.prog 13 #[.slice A n c] W fun e W' => FewSays l.length e ∧ Keep [] W W' := by
  have hc := h.cap
  have hnc := h.le
  obtain rfl := h.len
  go_enter Try.func13, Try.ntmps13
  go_wp2
  go_loop [3, 4] (fun s i => ∃ (k : Nat) (z : Int), k ≤ l.length ∧ i = .int .i64 k ∧ s = .int .i64 z) (fun _ i => l.length - (intOf i).toNat)
  case atStart => exact ⟨0, _, by omega, rfl, rfl⟩
  case round =>
    obtain ⟨k, z, hk, rfl, rfl⟩ := hrel
    by_cases hlt : k < l.length
    · obtain ⟨b, off, rfl, _, _, hc0, hc1, hc2, hc3, hc4⟩ := Cells.at5 h hlt
      go_wp2
      go_round
      case rel => exact ⟨k + 1, _, by omega, by go_num, rfl⟩
      case measure => simp [intOf]; omega
    · obtain rfl : k = l.length := by omega
      by_cases h3 : l.length ≤ 300
      · by_cases hz : z ≤ 3000
        all_goals
          go_wp2
          go_ret
          exact ⟨⟨_, rfl, fun _ => h3⟩, Keep.refl _ _⟩
      · go_wp2
        go_ret
        exact ⟨⟨_, rfl, fun h => by cases h⟩, Keep.refl _ _⟩
end Go.Proofs.Ytejbfknhnhhlfaa
