/-
  The small case of layer 5's statements comes out right.
-/
import Derived.Test.YtfhdiafgcfpdhaaBp6
namespace Go.Proofs.Ytfhdiafgcfpdhaa
open Go Go.RowKit
set_option linter.unusedVariables false
set_option linter.unusedSimpArgs false

set_option maxHeartbeats 2000000 in
theorem small05 (W : World) : Calls Try.prog 13 #[] W fun e W' => e = .returned (.bool true) ∧ Keep [] W W' := by
  go_enter Try.func13, Try.ntmps13
  go_wp2_with fail
  have hk0 : Keep [] W (W.alloc (.cells #[.int .u64 1, .int .u64 2, .int .u64 3] 51)) := (Keep.refl _ _).alloc _
  refine (pack_prog (X := []) (l := [1, 2, 3]) 2 _ ((Blk.new W 51 _).rd (by simp) rfl (by omega) (by simp [maxLen]) rfl) (by omega)).mono ?_
  rintro e w1 ⟨B1, m1, d1, rfl, hk1, hb1⟩
  rw [show packOk [1, 2, 3] 2 = true from by decide]
  replace hb1 := hb1 [] (by simp)
  rw [show packB [1, 2, 3] 2 = [57] from by decide] at hb1
  go_wp2_with fail
  refine (unpack_prog_any (X := []) 2 3 _ hb1 (by omega) (by omega)).mono ?_
  rintro e w2 ⟨B2, m2, d2, rfl, hk2, hb2⟩
  rw [show unpackOk [57] 2 3 = true from by decide]
  replace hb2 := hb2 [] (by simp)
  rw [show unpackL [57] 2 3 = [1, 2, 3] from by decide] at hb2
  go_wp2_with fail
  refine (unpack_prog_any (X := []) (b := [121]) 2 3 _ ((Blk.new w2 5 _).rd (by simp) rfl (by omega) (by simp [maxLen]) rfl) (by omega) (by omega)).mono ?_
  rintro e w3 ⟨B3, m3, d3, rfl, hk3, hb3⟩
  rw [show unpackOk [121] 2 3 = false from by decide]
  go_wp2_with fail
  refine (pack_prog (X := []) (l := [4]) 2 _ ((Blk.new w3 51 _).rd (by simp) rfl (by omega) (by simp [maxLen]) rfl) (by omega)).mono ?_
  rintro e w4 ⟨B4, m4, d4, rfl, hk4, hb4⟩
  rw [show packOk [4] 2 = false from by decide]
  go_wp2_with fail
  refine (unpack_prog_any (X := []) (b := []) 0 2 _ (Rd.nil_ [] w4 1) (by omega) (by omega)).mono ?_
  rintro e w5 ⟨B5, m5, d5, rfl, hk5, hb5⟩
  rw [show unpackOk [] 0 2 = true from by decide]
  replace hb5 := hb5 [] (by simp)
  rw [show unpackL [] 0 2 = [0, 0] from by decide] at hb5
  have hall : Keep [] W w5 := (((((hk0.trans hk1).trans hk2).alloc _).trans hk3).alloc _).trans hk4 |>.trans hk5
  have h15 : Keep [] w1 w5 := ((((hk2.alloc _).trans hk3).alloc _).trans hk4).trans hk5
  have h25 : Keep [] w2 w5 := (((((Keep.refl [] w2).alloc _).trans hk3).alloc _).trans hk4).trans hk5
  have hs1 := run_str (P := Try.prog) (hb1.pure h15) 27 9 5 Try.underlying27 Try.underlying5 Try.underlying9
  have hm5 : m5 = 2 := by have := hb5.len1; simpa using this.symm
  subst hm5
  clear hb1 hb3 hb4 hk0 hk1 hk2 hk3 hk4 hk5 h15
  go_wp2_with fail
  refine (same_ref (X := []) (Y := []) (l := [1, 2, 3]) (r := [1, 2, 3]) _ (hb2.pure (h25.alloc _)) ((Blk.new w5 51 _).rd (by simp) rfl (by omega) (by simp [maxLen]) rfl)).mono ?_
  rintro e w6 ⟨rfl, hk6⟩
  rw [show decide (([1, 2, 3] : List UInt64) = [1, 2, 3]) = true from by decide]
  go_wp2_with fail
  refine (width_prog (X := []) (l := [1, 4]) _ ((Blk.new w6 51 _).rd (by simp) rfl (by omega) (by simp [maxLen]) rfl)).mono ?_
  rintro e w7 ⟨rfl, rfl⟩
  rw [show width [1, 4] = 3 from by decide]
  go_wp2_with fail
  refine (width_prog (X := []) (l := []) _ (Rd.nil_ [] _ 1)).mono ?_
  rintro e w7 ⟨rfl, rfl⟩
  rw [show width [] = 0 from by decide]
  go_wp2_with fail
  refine (bytes_prog _ _ _ (by omega) (by omega)).mono ?_
  rintro e w7 ⟨rfl, rfl⟩
  rw [show bytesLen 3 3 = 2 from by decide]
  go_wp2_with fail
  refine (bytes_prog _ _ _ (by omega) (by omega)).mono ?_
  rintro e w7 ⟨rfl, rfl⟩
  rw [show bytesLen 65 0 = -1 from by decide]
  go_wp2
  go_ret
  exact ⟨rfl, ((hall.alloc _).trans hk6).alloc _⟩
end Go.Proofs.Ytfhdiafgcfpdhaa
