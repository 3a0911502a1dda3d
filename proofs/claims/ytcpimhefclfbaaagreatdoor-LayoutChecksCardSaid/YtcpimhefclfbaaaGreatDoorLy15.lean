/-
  The walks of layer 18's statements: which configurations may be.
-/
import Derived.Test.YtcpimhefclfbaaaGreatDoorLy11
namespace Go.Proofs.YtcpimhefclfbaaaGreatDoor
open Go Go.RowKit
set_option maxRecDepth 10000
set_option linter.unusedVariables false
set_option linter.unusedSimpArgs false

set_option maxHeartbeats 4000000 in
theorem LayoutChecks_walk (g p : Int) (A : Option Addr) (n c : Nat) (es : List Int) (B : Option Addr) (m d : Nat) (cs : List Col) (W : World) (h : Ints [] W A n c es) (hes : ∀ e ∈ es, -9223372036854775808 ≤ e ∧ e ≤ 9223372036854775807) (h' : Cols [] W B m d cs) :
    Calls Tryz.prog 4 #[.agg #[.int .i64 g, .int .i64 p, .slice A n c], .slice B m d] W fun e W' => e = .returned (.bool true) ∧ Below W.heap.size W W' := by
  have hc := h.cap
  have hnc := h.le
  obtain rfl : es.length = n := by have := h.1; simpa using this
  have hd := h'.cap
  have hmd := h'.le
  obtain rfl := h'.len
  obtain ⟨W1, hW1⟩ : ∃ W1, W.alloc (.cells #[.int .i64 g, .int .i64 p, .slice A es.length c] 32) = W1 := ⟨_, rfl⟩
  have hk1 : Keep [] W W1 := by rw [← hW1]; exact (Keep.refl _ _).alloc _
  have hb1 : Blk W1 W.heap.size 32 [.int .i64 g, .int .i64 p, .slice A es.length c] := by rw [← hW1]; exact Blk.new W 32 _
  have S := Lib.hid (small18 W1)
  have C1 := fun w (hw : Keep [] W w) => check_prog g p w (h.pure hw) (h'.pure hw) hes
  have C2 := fun w (hw : Keep [] W w) => check_ref g p w (h.pure hw) (h'.pure hw) hes
  generalize checkE g p es cs = v at *
  replace C1 := Lib.hid C1
  replace C2 := Lib.hid C2
  replace hes := Lib.hid hes
  go_enter Tryz.func4, Tryz.ntmps4
  go_wp2_with fail
  refine S.out.mono ?_
  rintro e w1 ⟨rfl, hk2⟩
  have hW1' := hk1.trans hk2
  have CF := Lib.hid (fun w (hw : Keep [] w1 w) => (⟨((hb1.keep hk2 (by simp)).keep hw (by simp)).cell 0, ((hb1.keep hk2 (by simp)).keep hw (by simp)).cell 1, ((hb1.keep hk2 (by simp)).keep hw (by simp)).cell 2⟩ :
    w.cell? ⟨W.heap.size, 0, none⟩ = some (.int .i64 g) ∧ w.cell? ⟨W.heap.size, 1, none⟩ = some (.int .i64 p) ∧ w.cell? ⟨W.heap.size, 2, none⟩ = some (.slice A es.length c)))
  clear S hW1
  by_cases q1 : 200 < cs.length
  · have q1d : decide (200 < cs.length) = true := decide_eq_true q1
    have q1' : (200 : Int) < (cs.length : Int) := by omega
    go_wp2_with fail
    refine wp_region_qq (by kernel_rfl) (by kernel_rfl) (Keep.refl [] _) ?_
    repeat ((first | (refine qq_skip rfl ?_) | (refine qq_val (v := ?_) rfl ?_ ?_; rotate_left; (intro w hw; obtain ⟨x0, x1, x2⟩ := CF.out w hw; go_simp; exact rfl))); simp only [Act.put, List.setIfInBounds_toArray, List.set_cons_succ, List.set_cons_zero])
    refine qq_nil (fun w7 hw7 => ?_)
    go_wp2
    go_ret
    exact ⟨rfl, (hW1'.trans hw7).below⟩
  · have q1d : decide (200 < cs.length) = false := decide_eq_false q1
    have q1i : decide ((200 : Int) < (cs.length : Int)) = false := by rw [decide_eq_false_iff_not]; omega
    by_cases q2 : 200 < es.length
    · have q2d : decide (200 < es.length) = true := decide_eq_true q2
      have q2' : (200 : Int) < (es.length : Int) := by omega
      go_wp2_with fail
      refine wp_region_qq (by kernel_rfl) (by kernel_rfl) (Keep.refl [] _) ?_
      repeat ((first | (refine qq_skip rfl ?_) | (refine qq_val (v := ?_) rfl ?_ ?_; rotate_left; (intro w hw; obtain ⟨x0, x1, x2⟩ := CF.out w hw; go_simp; exact rfl))); simp only [Act.put, List.setIfInBounds_toArray, List.set_cons_succ, List.set_cons_zero])
      refine qq_nil (fun w7 hw7 => ?_)
      go_wp2
      go_ret
      exact ⟨rfl, (hW1'.trans hw7).below⟩
    · have q2d : decide (200 < es.length) = false := decide_eq_false q2
      have q2i : decide ((200 : Int) < (es.length : Int)) = false := by rw [decide_eq_false_iff_not]; omega
      go_wp2_with fail
      refine wp_region_qq (by kernel_rfl) (by kernel_rfl) (Keep.refl [] _) ?_
      repeat ((first | (refine qq_skip rfl ?_) | (refine qq_val (v := ?_) rfl ?_ ?_; rotate_left; (intro w hw; obtain ⟨x0, x1, x2⟩ := CF.out w hw; go_simp; exact rfl))); simp only [Act.put, List.setIfInBounds_toArray, List.set_cons_succ, List.set_cons_zero])
      refine qq_call (v := ?_) (f := ?_) (args := ?_) rfl (fun w hw => ?_) (fun w hw => ?_) ?_
      rotate_left 3
      · go_simp; exact rfl
      · have C9 := keep_call (C1.out w (hW1'.trans hw)) hw; exact C9
      simp only [Act.put, List.setIfInBounds_toArray, List.set_cons_succ, List.set_cons_zero]
      repeat ((first | (refine qq_skip rfl ?_) | (refine qq_val (v := ?_) rfl ?_ ?_; rotate_left; (intro w hw; obtain ⟨x0, x1, x2⟩ := CF.out w hw; go_simp; exact rfl))); simp only [Act.put, List.setIfInBounds_toArray, List.set_cons_succ, List.set_cons_zero])
      refine qq_call (v := ?_) (f := ?_) (args := ?_) rfl (fun w hw => ?_) (fun w hw => ?_) ?_
      rotate_left 3
      · go_simp; exact rfl
      · have C9 := keep_call (C2.out w (hW1'.trans hw)) hw; exact C9
      simp only [Act.put, List.setIfInBounds_toArray, List.set_cons_succ, List.set_cons_zero]
      repeat ((first | (refine qq_skip rfl ?_) | (refine qq_val (v := ?_) rfl ?_ ?_; rotate_left; (intro w hw; obtain ⟨x0, x1, x2⟩ := CF.out w hw; go_simp; exact rfl))); simp only [Act.put, List.setIfInBounds_toArray, List.set_cons_succ, List.set_cons_zero])
      refine qq_nil (fun w7 hw7 => ?_)
      go_wp2
      go_ret
      exact ⟨rfl, (hW1'.trans hw7).below⟩
end Go.Proofs.YtcpimhefclfbaaaGreatDoor
