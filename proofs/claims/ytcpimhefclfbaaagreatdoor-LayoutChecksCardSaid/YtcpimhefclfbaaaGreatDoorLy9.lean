/-
  Which configurations may be, as the document has it: hypostyleref18.Check.
-/
import Derived.Test.YtcpimhefclfbaaaGreatDoorLy8
import Derived.Test.YtcpimhefclfbaaaGreatDoorQk2
namespace Go.Proofs.YtcpimhefclfbaaaGreatDoor
open Go Go.RowKit
set_option maxRecDepth 10000
set_option linter.unusedVariables false
set_option linter.unusedSimpArgs false

set_option maxHeartbeats 4000000 in
theorem check_ref {X Y : List Nat} {A B : Option Addr} {n c m d : Nat} {es : List Int} {cs : List Col} (g p : Int) (W : World) (h : Ints X W A n c es) (h' : Cols Y W B m d cs) (hes : ∀ e ∈ es, -9223372036854775808 ≤ e ∧ e ≤ 9223372036854775807) :
    Calls Tryz.prog 16 #[.agg #[.int .i64 g, .int .i64 p, .slice A n c], .slice B m d] W fun e W' => e = .returned (.int .i64 (checkE g p es cs)) ∧ Keep [] W W' := by
  have hc := h.cap
  have hnc := h.le
  obtain rfl : es.length = n := by have := h.1; simpa using this
  have hd := h'.cap
  have hmd := h'.le
  obtain rfl := h'.len
  obtain ⟨v, hv⟩ : ∃ v, Hid (checkE g p es cs = v) := ⟨_, rfl⟩
  rw [hv.out]
  obtain ⟨W1, hW1⟩ : ∃ W1, W.alloc (.cells #[.int .i64 g, .int .i64 p, .slice A es.length c] 32) = W1 := ⟨_, rfl⟩
  have hk1 : Keep [] W W1 := by rw [← hW1]; exact (Keep.refl _ _).alloc _
  have hb1 : Blk W1 W.heap.size 32 [.int .i64 g, .int .i64 p, .slice A es.length c] := by rw [← hW1]; exact Blk.new W 32 _
  have x0 := hb1.cell 0
  have x1 := hb1.cell 1
  have x2 := hb1.cell 2
  simp only [List.getElem?_cons_zero, List.getElem?_cons_succ] at x0 x1 x2
  replace hes := Lib.hid hes
  by_cases q1 : g < 1
  · have hv1 : Hid (v = 1) := by rw [Hid, ← hv.out, checkE, if_pos (by omega)]
    clear hv
    go_enter Tryz.func16, Tryz.ntmps16
    go_wp2
    go_ret
    exact ⟨ret_i hv1.out.symm, hk1⟩
  by_cases q2 : 65536 < g
  · have hv1 : Hid (v = 1) := by rw [Hid, ← hv.out, checkE, if_pos (by omega)]
    clear hv
    go_enter Tryz.func16, Tryz.ntmps16
    go_wp2
    go_ret
    exact ⟨ret_i hv1.out.symm, hk1⟩
  by_cases q4 : p < 1
  · have hv1 : Hid (v = 1) := by rw [Hid, ← hv.out, checkE, if_pos (by omega)]
    clear hv
    go_enter Tryz.func16, Tryz.ntmps16
    go_wp2
    go_ret
    exact ⟨ret_i hv1.out.symm, hk1⟩
  by_cases q5 : 65536 < p
  · have hv1 : Hid (v = 1) := by rw [Hid, ← hv.out, checkE, if_pos (by omega)]
    clear hv
    go_enter Tryz.func16, Tryz.ntmps16
    go_wp2
    go_ret
    exact ⟨ret_i hv1.out.symm, hk1⟩
  by_cases q3 : es.length = cs.length
  · have hv0 : Hid (v = checkF (es.drop 0) (cs.drop 0)) := by rw [Hid, ← hv.out, checkE, if_neg (by omega)]; rfl
    have q3' : ((es.length : Int) != (cs.length : Int)) = false := by rw [bne_eq_false_iff_eq]; omega
    have q3d : decide ((es.length : Int) = (cs.length : Int)) = true := by rw [decide_eq_true_iff]; omega
    replace q3 := Lib.hid q3
    clear hv
    go_enter Tryz.func16, Tryz.ntmps16
    go_wp2
    clear q3' q3d q1 q2 q4 q5
    go_loopw [5] (fun i w => ∃ k : Nat, k ≤ es.length ∧ i = .int .i64 k ∧ Hid (v = checkF (es.drop k) (cs.drop k)) ∧ Keep [] W1 w) (fun i _ => es.length - (intOf i).toNat)
    case atStart => exact ⟨0, Nat.zero_le _, rfl, hv0, Keep.refl _ _⟩
    case round =>
      obtain ⟨k, hk, rfl, HV, hkr⟩ := hrel
      have hkW := hk1.trans hkr
      by_cases hlt : k < es.length
      · have hlt2 : k < cs.length := by have := q3.out; omega
        have CA := Lib.hid (fun w (hw : Keep [] W w) => Ints.at1 (h.pure hw) hlt)
        have CB := Lib.hid (fun w (hw : Keep [] W w) => Cols.at3 (h'.pure hw) hlt2)
        obtain ⟨bA, oA, rfl, _⟩ := CA.out wr hkW
        obtain ⟨bB, oB, rfl, _⟩ := CB.out wr hkW
        have hst := HV.out
        rw [checkF_at es cs k hlt hlt2] at hst
        have F := fun w => quiet_keep (fits_ref cs[k].typ.toInt es[k] w)
        have i0' : (0 : Int) ≤ (k : Int) := by omega
        have i1' : (k : Int) < (es.length : Int) := by omega
        have i2' : (k : Int) < (cs.length : Int) := by omega
        generalize es[k] = e at *
        generalize cs[k] = x at *
        generalize fitsV x.typ.toInt e = fv at *
        replace F := Lib.hid F
        replace hst := Lib.hid hst
        have hbr := hb1.keep hkr (by simp)
        go_wp2_with fail
        refine wp_region_qq (by kernel_rfl) (by kernel_rfl) (Keep.refl [] _) ?_
        repeat ((first | (refine qq_skip rfl ?_) | (refine qq_val (v := ?_) rfl ?_ ?_; rotate_left; (intro w hw; have x2 := (hbr.keep hw (by simp)).cell 2; simp only [List.getElem?_cons_zero, List.getElem?_cons_succ] at x2; obtain ⟨_, _, E', z0⟩ := CA.out w (hkW.trans hw); cases E'; obtain ⟨_, _, E', _, _, y0, y1, y2⟩ := CB.out w (hkW.trans hw); cases E'; go_simp; exact rfl))); simp only [Act.put, List.setIfInBounds_toArray, List.set_cons_succ, List.set_cons_zero])
        refine qq_call (v := ?_) (f := ?_) (args := ?_) rfl (fun w hw => ?_) (fun w hw => ?_) ?_
        rotate_left 3
        · go_simp; exact rfl
        · have C9 := keep_call (F.out w) hw; exact C9
        simp only [Act.put, List.setIfInBounds_toArray, List.set_cons_succ, List.set_cons_zero]
        repeat ((first | (refine qq_skip rfl ?_) | (refine qq_val (v := ?_) rfl ?_ ?_; rotate_left; (intro w hw; skip; go_simp; exact rfl))); simp only [Act.put, List.setIfInBounds_toArray, List.set_cons_succ, List.set_cons_zero])
        refine qq_nil (fun w7 hw7 => ?_)
        have hk7 := hkr.trans hw7
        have x2 := (hb1.keep hk7 (by simp)).cell 2
        simp only [List.getElem?_cons_zero, List.getElem?_cons_succ] at x2
        obtain ⟨_, _, E', z0⟩ := CA.out w7 (hk1.trans hk7)
        cases E'
        clear F HV
        by_cases he : e = -1
        · subst he
          have hst2 : Hid (v = checkF (es.drop (k + 1)) (cs.drop (k + 1))) := by rw [Hid, hst.out, if_neg (by simp)]
          clear hst
          go_wp2
          go_roundw
          case rel => exact ⟨k + 1, by omega, by go_num, hst2, hk7⟩
          case measure => simp [intOf]; omega
        · have he' : (e != -1) = true := by rw [bne_iff_ne]; exact he
          have hst2 : Hid (v = if fv = false then 3 else checkF (es.drop (k + 1)) (cs.drop (k + 1))) := by
            rw [Hid, hst.out]
            simp [he]
          clear hst
          cases fv with
          | false =>
            have hst3 : Hid (v = 3) := hst2.out
            clear hst2
            go_wp2
            go_ret
            exact ⟨ret_i hst3.out.symm, hk1.trans hk7⟩
          | true =>
            have hst3 : Hid (v = checkF (es.drop (k + 1)) (cs.drop (k + 1))) := hst2.out
            clear hst2
            go_wp2
            go_roundw
            case rel => exact ⟨k + 1, by omega, by go_num, hst3, hk7⟩
            case measure => simp [intOf]; omega
      · have hst : Hid (v = 0) := by rw [Hid, HV.out, checkF_end es cs k (by omega)]
        clear HV
        have i1' : ¬ ((k : Int) < (cs.length : Int)) := by have := q3.out; omega
        go_wp2
        go_ret
        exact ⟨ret_i hst.out.symm, hkW⟩
  · have hv1 : Hid (v = 1) := by rw [Hid, ← hv.out, checkE, if_pos (.inr (.inr q3))]
    have q3' : ((es.length : Int) != (cs.length : Int)) = true := by rw [bne_iff_ne]; omega
    have q3d : decide ((es.length : Int) = (cs.length : Int)) = false := by rw [decide_eq_false_iff_not]; omega
    replace q3 := Lib.hid q3
    clear hv
    go_enter Tryz.func16, Tryz.ntmps16
    go_wp2
    go_ret
    exact ⟨ret_i hv1.out.symm, hk1⟩
end Go.Proofs.YtcpimhefclfbaaaGreatDoor
