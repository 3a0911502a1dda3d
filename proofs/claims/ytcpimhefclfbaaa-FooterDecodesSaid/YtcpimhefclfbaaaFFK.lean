/-
  The walks of layer 19's statements: bytes as footers.
-/
import Derived.Test.YtcpimhefclfbaaaFFI
import Derived.Test.YtcpimhefclfbaaaFFH
namespace Go.Proofs.Ytcpimhefclfbaaa
open Go Go.RowKit
set_option maxRecDepth 10000
set_option linter.unusedVariables false
set_option linter.unusedSimpArgs false

set_option maxHeartbeats 16000000 in
theorem FooterDecodes_walk (A0 : Option Addr) (nb cb : Nat) (b : List UInt8) (W : World) (hb : Bys [] W A0 nb cb b) :
    Calls Try.prog 4 #[.slice A0 nb cb] W fun e W' => e = .returned (.bool true) ∧ Below W.heap.size W W' := by
  have hbc := hb.cap
  have hbl := hb.le
  obtain rfl := hb.len1
  have S := Lib.hid (small19 W)
  go_enter Try.func4, Try.ntmps4
  go_wp2_with fail
  refine S.out.mono ?_
  rintro e w1 ⟨rfl, hk1⟩
  clear S
  by_cases hlen : 1200 < b.length
  · go_wp2
    go_ret
    exact ⟨rfl, hk1.below⟩
  have D := Lib.hid (decode_ftr w1 (hb.pure hk1) (by omega))
  go_wp2_with fail
  refine D.out.mono ?_
  rintro e w2 ⟨F5, rfl, hk2, hFa⟩
  replace hFa := hFa [] (by simp)
  obtain ⟨V, hV⟩ : ∃ V, Hid (ftrO b = V) := ⟨_, rfl⟩
  rw [hV.out] at hFa ⊢
  obtain ⟨A5, n5, c5, A6, n6, c6, rfl⟩ := hFa.form
  obtain ⟨w3, hw3⟩ : ∃ w3, w2.alloc (.cells #[.slice A5 n5 c5, .int .i64 (V.getD Ftr.zero).rows.toInt, .slice A6 n6 c6] 25) = w3 := ⟨_, rfl⟩
  have hk3 : Keep [] w2 w3 := by rw [← hw3]; exact (Keep.refl _ _).alloc _
  have hg3 : Blk w3 w2.heap.size 25 [.slice A5 n5 c5, .int .i64 (V.getD Ftr.zero).rows.toInt, .slice A6 n6 c6] := by rw [← hw3]; exact Blk.new w2 _ _
  have hk13 := hk1.trans (hk2.trans hk3)
  have D2 := decode_ref19 w3 (hb.pure hk13) (by omega)
  rw [hV.out] at D2
  replace D2 := Lib.hid D2
  have hFa3 := hFa.pure hk3
  clear D
  go_wp2_with fail
  refine D2.out.mono ?_
  rintro e w4 ⟨F7, rfl, hk4, hFb⟩
  replace hFb := hFb [] (by simp)
  generalize V.getD Ftr.zero = q at *
  generalize V.isSome = vs at *
  obtain ⟨A7, n7, c7, A8, n8, c8, rfl⟩ := hFb.form
  obtain ⟨w5, hw5⟩ : ∃ w5, w4.alloc (.cells #[.slice A7 n7 c7, .int .i64 q.rows.toInt, .slice A8 n8 c8] 25) = w5 := ⟨_, rfl⟩
  have hk5 : Keep [] w4 w5 := by rw [← hw5]; exact (Keep.refl _ _).alloc _
  have hg5 : Blk w5 w4.heap.size 25 [.slice A7 n7 c7, .int .i64 q.rows.toInt, .slice A8 n8 c8] := by rw [← hw5]; exact Blk.new w4 _ _
  have hk35 := hk4.trans hk5
  obtain ⟨y0, y1, y2⟩ := at3 hg5
  obtain ⟨x0, x1, x2⟩ := at3 (hg3.keep hk35 (by simp))
  have SM := same_ref19 w5 (hFa3.pure hk35) (hFb.pure hk5)
  rw [decide_eq_true rfl] at SM
  replace SM := Lib.hid SM
  clear D2 hw3
  go_wp2_with fail
  refine SM.out.mono ?_
  rintro e w6 ⟨rfl, hk6⟩
  clear SM hw5 x0 x1 x2 y0 y1 y2
  have hbe : ((vs : Bool) == vs) = true := beq_self_eq_true vs
  go_wp2
  go_ret
  exact ⟨rfl, ((hk13.trans hk35).trans hk6).below⟩
end Go.Proofs.Ytcpimhefclfbaaa
