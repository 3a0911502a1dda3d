/-
  The small case of layer 18's statements, and how few spans there are.
-/
import Derived.Test.YtcpimhefclfbaaaGreatDoorLy9
import Derived.Test.YtcpimhefclfbaaaGreatDoorLy2
import Derived.Test.YtcpimhefclfbaaaGreatDoorLy5
import Derived.Test.YtcpimhefclfbaaaGreatDoorSpR
namespace Go.Proofs.YtcpimhefclfbaaaGreatDoor
open Go Go.RowKit
set_option maxRecDepth 10000
set_option linter.unusedVariables false
set_option linter.unusedSimpArgs false

set_option maxHeartbeats 4000000 in
theorem small18 (W : World) : Calls Tryz.prog 8 #[] W fun e W' => e = .returned (.bool true) ∧ Keep [] W W' := by
  have c1 : cutL 0 5 2 = [(0, 2), (2, 4), (4, 5)] := by decide +kernel
  have c2 : cutL 3 3 1 = [] := by decide +kernel
  have c3 : cutL 0 3 0 = [] := by decide +kernel
  have C1 := cut_prog 0 5 2 W (by omega) (by omega) (by omega)
  rw [c1] at C1
  have C2 := fun w => cut_prog 3 3 1 w (by omega) (by omega) (by omega)
  rw [c2] at C2
  have C3 := fun w => cut_prog 0 3 0 w (by omega) (by omega) (by omega)
  rw [c3] at C3
  have o1 : overL [(0, 2), (2, 4), (4, 5)] 1 3 = (0, 2) := by decide +kernel
  have o2 : overL [(0, 2), (2, 4), (4, 5)] 2 2 = (0, 0) := by decide +kernel
  have o3 : overL [(0, 2), (2, 4), (4, 5)] 4 9 = (2, 3) := by decide +kernel
  have k1 : checkE 1 1 [-1] [⟨{ data := #[97] }, 0, false⟩] = 0 := by decide +kernel
  have k2 : checkE 1 1 [4] [⟨{ data := #[97] }, 0, false⟩] = 3 := by decide +kernel
  have k3 : checkE 0 0 [] [] = 1 := by decide +kernel
  replace C1 := Lib.hid C1
  replace C2 := Lib.hid C2
  replace C3 := Lib.hid C3
  replace k1 := Lib.hid k1
  replace k2 := Lib.hid k2
  replace k3 := Lib.hid k3
  replace o2 := Lib.hid o2
  replace o3 := Lib.hid o3
  clear c1 c2 c3
  go_enter Tryz.func8, Tryz.ntmps8
  go_wp2_with fail
  refine C1.out.mono ?_
  rintro e w1 ⟨B, k, d, rfl, hk1, hS⟩
  replace hS := hS [] (by simp)
  obtain rfl : 3 = k := hS.len
  have O1 := over_prog 1 3 w1 hS
  rw [o1] at O1
  replace O1 := Lib.hid O1
  clear C1 o1
  go_wp2_with fail
  refine O1.out.mono ?_
  rintro e w2 ⟨rfl, hk2⟩
  have O2 := over_prog 2 2 w2 (hS.pure hk2)
  rw [o2.out] at O2
  replace O2 := Lib.hid O2
  clear O1
  go_wp2_with fail
  refine O2.out.mono ?_
  rintro e w3 ⟨rfl, hk3⟩
  have hk13 := hk2.trans hk3
  have O3 := over_prog 4 9 w3 (hS.pure hk13)
  rw [o3.out] at O3
  replace O3 := Lib.hid O3
  clear O2
  go_wp2_with fail
  refine O3.out.mono ?_
  rintro e w4 ⟨rfl, hk4⟩
  have hk14 := hk13.trans hk4
  obtain ⟨sb, so, rfl, _, _, z0, z1⟩ := Sps.at2 (hS.pure hk14) (k := 2) (by decide)
  have z0' : w4.cell? ⟨sb, so + 4, none⟩ = some (.int .i64 4) := z0
  have z1' : w4.cell? ⟨sb, so + 4 + 1, none⟩ = some (.int .i64 5) := z1
  have hE : ∀ w, (binOp .eql 38 (.agg #[.int .i64 4, .int .i64 5]) (.agg #[.int .i64 4, .int .i64 5])).run Tryz.prog w = .ok (.bool true) w := fun w => by
    have := eql_span (4, 5) (4, 5) w
    simpa using this
  have D2 := Lib.hid (C2.out w4)
  clear O3 z0 z1
  go_wp2_with fail
  refine D2.out.mono ?_
  rintro e w5 ⟨B5, n5, d5, rfl, hk5, hS5⟩
  obtain rfl : 0 = n5 := (hS5 [] (by simp)).len
  have D3 := Lib.hid (C3.out w5)
  clear D2 C2 hS5 hE z0' z1'
  go_wp2_with fail
  refine D3.out.mono ?_
  rintro e w6 ⟨B6, n6, d6, rfl, hk6, hS6⟩
  obtain rfl : 0 = n6 := (hS6 [] (by simp)).len
  have hI : ∀ (x : Int) (w : World), Ints [] ((w.alloc (.cells #[.int .i64 x] 3)).alloc (.cells #[.string { data := #[97] }, .int .i64 0, .bool false] 41)) (some ⟨w.heap.size, 0, none⟩) 1 1 [x] := fun x w =>
    ((Blk.new w 3 [.int .i64 x]).alloc _).rd (by simp) rfl (by omega) (by simp [maxLen]) rfl
  have hC : ∀ (x : Int) (w : World), Cols [] ((w.alloc (.cells #[.int .i64 x] 3)).alloc (.cells #[.string { data := #[97] }, .int .i64 0, .bool false] 41)) (some ⟨w.heap.size + 1, 0, none⟩) 1 1 [⟨{ data := #[97] }, 0, false⟩] := fun x w => by
    have := (Blk.new (w.alloc (.cells #[.int .i64 x] 3)) 41 [.string { data := #[97] }, .int .i64 0, .bool false]).rd (X := []) (size := 3) (n := 1) (c := 1) (xs := [.string { data := #[97] }, .int .i64 0, .bool false]) (by simp) rfl (by omega) (by simp [maxLen]) rfl
    rw [show (w.alloc (.cells #[.int .i64 x] 3)).heap.size = w.heap.size + 1 from by simp] at this
    exact this
  have hA : ∀ (x : Int) (w : World), Keep [] w ((w.alloc (.cells #[.int .i64 x] 3)).alloc (.cells #[.string { data := #[97] }, .int .i64 0, .bool false] 41)) := fun x w => ((Keep.refl _ _).alloc _).alloc _
  have K1 := check_prog 1 1 _ (hI (-1) w6) (hC (-1) w6) (by intro e he; simp at he; omega)
  rw [k1.out] at K1
  replace K1 := Lib.hid K1
  replace hI := Lib.hid hI
  replace hC := Lib.hid hC
  have hA1 := hA (-1) w6
  replace hA := Lib.hid hA
  clear D3 C3 hS6
  go_wp2_with fail
  refine K1.out.mono ?_
  rintro e w7 ⟨rfl, hk7⟩
  have K2 := check_prog 1 1 _ (hI.out 4 w7) (hC.out 4 w7) (by intro e he; simp at he; omega)
  rw [k2.out] at K2
  replace K2 := Lib.hid K2
  have hA2 := hA.out 4 w7
  clear K1
  go_wp2_with fail
  refine K2.out.mono ?_
  rintro e w8 ⟨rfl, hk8⟩
  have K3 := check_prog 0 0 w8 (A := none) (B := none) (n := 0) (c := 0) (m := 0) (d := 0) (es := []) (cs := []) (X := []) (Y := []) (Rd.nil_ _ _ _) (Rd.nil_ _ _ _) (by simp)
  rw [k3.out] at K3
  replace K3 := Lib.hid K3
  clear K2
  go_wp2_with fail
  refine K3.out.mono ?_
  rintro e w9 ⟨rfl, hk9⟩
  clear K3
  go_wp2
  go_ret
  exact ⟨rfl, ((((hk1.trans hk14).trans (hk5.trans hk6)).trans (hA1.trans hk7)).trans (hA2.trans hk8)).trans hk9⟩

/-- Are there few spans? -/
def fewV (a t s : Int) : Bool := decide (a < 0 ∨ 65536 < t ∨ s < 1 ∨ t ≤ a) || decide ((t - a) / s < 3000)
set_option maxHeartbeats 2000000 in
theorem few18 (a t s : Int) (W : World) (ha : -9223372036854775808 ≤ a ∧ a ≤ 9223372036854775807) (ht : -9223372036854775808 ≤ t ∧ t ≤ 9223372036854775807) (hs : -9223372036854775808 ≤ s ∧ s ≤ 9223372036854775807) :
    Calls Tryz.prog 9 #[.int .i64 a, .int .i64 t, .int .i64 s] W fun e W' => e = .returned (.bool (fewV a t s)) ∧ W = W' := by
  obtain ⟨v, hv⟩ : ∃ v, Hid (fewV a t s = v) := ⟨_, rfl⟩
  rw [hv.out]
  have vyes : (a < 0 ∨ 65536 < t ∨ s < 1 ∨ t ≤ a) → Hid (v = true) := fun h => by rw [Hid, ← hv.out, fewV, decide_eq_true h]; rfl
  replace vyes := Lib.hid vyes
  by_cases q1 : a < 0
  · have v1 := vyes.out (by omega)
    go_enter Tryz.func9, Tryz.ntmps9
    go_wp2
    go_ret
    exact ⟨ret_b v1.out.symm, rfl⟩
  by_cases q2 : 65536 < t
  · have v1 := vyes.out (by omega)
    go_enter Tryz.func9, Tryz.ntmps9
    go_wp2
    go_ret
    exact ⟨ret_b v1.out.symm, rfl⟩
  by_cases q3 : s < 1
  · have v1 := vyes.out (by omega)
    go_enter Tryz.func9, Tryz.ntmps9
    go_wp2
    go_ret
    exact ⟨ret_b v1.out.symm, rfl⟩
  by_cases q4 : t ≤ a
  · have v1 := vyes.out (by omega)
    go_enter Tryz.func9, Tryz.ntmps9
    go_wp2
    go_ret
    exact ⟨ret_b v1.out.symm, rfl⟩
  have v1 : Hid (v = decide ((t - a) / s < 3000)) := by rw [Hid, ← hv.out, fewV, decide_eq_false (by omega)]; rfl
  have hs0 : ¬ s = 0 := by omega
  have hsb : (s == 0) = false := by rw [beq_eq_false_iff_ne]; omega
  clear vyes hv
  go_enter Tryz.func9, Tryz.ntmps9
  go_wp2
  go_ret
  exact ⟨ret_b v1.out.symm, rfl⟩
end Go.Proofs.YtcpimhefclfbaaaGreatDoor
