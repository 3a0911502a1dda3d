/-
  The walks of bitpack's and its reference's functions, part 1: Bytes, need, Width, Same.
-/
import Derived.Test.YtphgfhghbpndaaaBase
import Derived.Test.YtphgfhghbpndaaaBits
import Derived.Test.YtphgfhghbpndaaaLen64
namespace Go.Proofs.Ytphgfhghbpndaaa
open Go Go.RowKit
set_option linter.unusedVariables false
set_option linter.unusedSimpArgs false

set_option maxHeartbeats 400000 in
theorem bytes_prog (w n : Int) (W : World) (hw : -9223372036854775808 ≤ w ∧ w ≤ 9223372036854775807) (hn : -9223372036854775808 ≤ n ∧ n ≤ 9223372036854775807) :
    Calls Try.prog 46 #[.int .i64 w, .int .i64 n] W fun e W' => e = .returned (.int .i64 (bytesLen w n)) ∧ W = W' := by
  by_cases hc : 0 ≤ w ∧ w ≤ 64 ∧ 0 ≤ n ∧ n ≤ 65536
  · have hm : 0 ≤ w * n := Int.mul_nonneg (by omega) (by omega)
    have hm2 : w * n ≤ 64 * 65536 := Int.mul_le_mul (by omega) (by omega) (by omega) (by omega)
    obtain ⟨h1, h2, h3, h4⟩ := hc
    go_enter Try.func46, Try.ntmps46
    go_wp2
    go_ret
    exact ⟨ret_i (by unfold bytesLen; rw [if_neg (by omega)] <;> omega), rfl⟩
  · have hb : Hid (bytesLen w n = -1) := by unfold bytesLen Hid; rw [if_pos (by omega)]
    go_enter Try.func46, Try.ntmps46
    go_wp2
    all_goals (go_ret; exact ⟨ret_i hb.out.symm, rfl⟩)

set_option maxHeartbeats 400000 in
theorem bytes_ref (w n : Int) (W : World) (hw : -9223372036854775808 ≤ w ∧ w ≤ 9223372036854775807) (hn : -9223372036854775808 ≤ n ∧ n ≤ 9223372036854775807) :
    Calls Try.prog 38 #[.int .i64 w, .int .i64 n] W fun e W' => e = .returned (.int .i64 (bytesLen w n)) ∧ W = W' := by
  by_cases hc : 0 ≤ w ∧ w ≤ 64 ∧ 0 ≤ n ∧ n ≤ 65536
  · have hm : 0 ≤ w * n := Int.mul_nonneg (by omega) (by omega)
    have hm2 : w * n ≤ 64 * 65536 := Int.mul_le_mul (by omega) (by omega) (by omega) (by omega)
    obtain ⟨h1, h2, h3, h4⟩ := hc
    go_enter Try.func38, Try.ntmps38
    go_wp2
    go_ret
    exact ⟨ret_i (by unfold bytesLen; rw [if_neg (by omega)] <;> omega), rfl⟩
  · have hb : Hid (bytesLen w n = -1) := by unfold bytesLen Hid; rw [if_pos (by omega)]
    go_enter Try.func38, Try.ntmps38
    go_wp2
    all_goals (go_ret; exact ⟨ret_i hb.out.symm, rfl⟩)

set_option maxHeartbeats 400000 in
theorem need_ref (x : UInt64) (W : World) :
    Calls Try.prog 47 #[.int .u64 (x.toNat : Int)] W fun e W' => e = .returned (.int .i64 (Lib.bitLen x.toNat)) ∧ W = W' := by
  have hx := x.toNat_lt
  have hb64 : Lib.bitLen x.toNat ≤ 64 := (bitLen_le hx 64).2 hx
  go_enter Try.func47, Try.ntmps47
  go_wp2
  go_loop [0, 3] (fun n k => ∃ (y j : Nat), y < 18446744073709551616 ∧ n = .int .u64 (y : Int) ∧ k = .int .i64 (j : Int) ∧ Hid (j + Lib.bitLen y = Lib.bitLen x.toNat)) (fun n _ => (intOf n).toNat)
  case atStart => exact ⟨x.toNat, 0, by omega, rfl, rfl, by unfold Hid; omega⟩
  case round =>
    obtain ⟨y, j, hy, rfl, rfl, HB⟩ := hrel
    have hj : j ≤ 64 := by have := HB.out; omega
    by_cases hy0 : 0 < y
    · have HB2 : Hid (j + 1 + Lib.bitLen (y / 2) = Lib.bitLen x.toNat) := by
        have := HB.out
        have h2 := Lib.bitLen_half y (by omega) hy
        unfold Hid; omega
      go_wp2
      go_round
      case rel => exact ⟨y / 2, j + 1, by omega, by go_num, by go_num, HB2⟩
      case measure => simp [intOf]; omega
    · obtain rfl : y = 0 := by omega
      go_wp2
      go_ret
      exact ⟨ret_i (by have := HB.out; simp [Lib.bitLen, Lib.bitLenAux] at this ⊢; omega), rfl⟩
end Go.Proofs.Ytphgfhghbpndaaa
