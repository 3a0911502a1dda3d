/-
  The walks of layer 18's statements: spans, and what is over rows.
-/
import Derived.Test.YtcpimhefclfbaaaGreatDoorLy10
namespace Go.Proofs.YtcpimhefclfbaaaGreatDoor
open Go Go.RowKit
set_option maxRecDepth 10000
set_option linter.unusedVariables false
set_option linter.unusedSimpArgs false

abbrev I64 (x : Int) : Prop := -9223372036854775808 ≤ x ∧ x ≤ 9223372036854775807
set_option maxHeartbeats 4000000 in
theorem LayoutCuts_walk (a t s x y : Int) (W : World) (ha : I64 a) (ht : I64 t) (hs : I64 s) (hx : I64 x) (hy : I64 y) :
    Calls Tryz.prog 3 #[.int .i64 a, .int .i64 t, .int .i64 s, .int .i64 x, .int .i64 y] W fun e W' => e = .returned (.bool true) ∧ Below W.heap.size W W' := by
  have S := Lib.hid (small18 W)
  have FW := Lib.hid (fun w => few18 a t s w ha ht hs)
  have C1 := Lib.hid (fun w => cut_prog a t s w ha ht hs)
  have C2 := Lib.hid (fun w => cut_ref a t s w ha ht hs)
  have hasc := Lib.hid (cutL_asc a t s)
  have hlow := Lib.hid (cutL_low a t s)
  generalize cutL a t s = l at *
  generalize fewV a t s = fv at *
  clear ha ht hs hx hy
  go_enter Tryz.func3, Tryz.ntmps3
  go_wp2_with fail
  refine S.out.mono ?_
  rintro e w1 ⟨rfl, hk1⟩
  clear S
  go_wp2_with fail
  refine (FW.out w1).mono ?_
  rintro e w2 ⟨rfl, hw2⟩
  subst hw2
  clear FW
  cases fv with
  | false =>
    go_wp2
    go_ret
    exact ⟨rfl, hk1.below⟩
  | true =>
  go_wp2_with fail
  refine (C1.out w1).mono ?_
  rintro e w2 ⟨B, n, d, rfl, hk2, hB⟩
  replace hB := hB [] (by simp)
  obtain rfl : l.length = n := hB.len
  go_wp2_with fail
  refine (C2.out w2).mono ?_
  rintro e w3 ⟨B', n', d', rfl, hk3, hB'⟩
  replace hB' := hB' [] (by simp)
  obtain rfl : l.length = n' := hB'.len
  have O1 := over_prog x y w3 hB'
  have O2 := fun w (hw : Keep [] w3 w) => over_ref x y w (hB'.pure hw) hasc.out (fun i hi => (hlow.out i hi).2.1)
  have SM := fun w (hw : Keep [] w3 w) => sameSp_ref w ((hB.pure hk3).pure hw) (hB'.pure hw)
  rw [decide_eq_true rfl] at SM
  generalize overL l x y = v at *
  obtain ⟨p, q⟩ := v
  simp only [] at O1 O2
  replace O1 := Lib.hid O1
  replace O2 := Lib.hid O2
  replace SM := Lib.hid SM
  clear C1 C2 hasc hlow
  go_wp2_with fail
  refine O1.out.mono ?_
  rintro e w4 ⟨rfl, hk4⟩
  go_wp2_with fail
  refine (O2.out w4 hk4).mono ?_
  rintro e w5 ⟨rfl, hk5⟩
  clear O1 O2
  go_wp2_with fail
  refine (SM.out w5 (hk4.trans hk5)).mono ?_
  rintro e w6 ⟨rfl, hk6⟩
  clear SM
  go_wp2
  go_ret
  exact ⟨rfl, (((hk1.trans hk2).trans hk3).trans ((hk4.trans hk5).trans hk6)).below⟩
end Go.Proofs.YtcpimhefclfbaaaGreatDoor
