/-
  Which configurations may be: layout.Check.
-/
import Derived.Test.YtcpimhefclfbaaaGreatDoorLy7
import Derived.Test.YtcpimhefclfbaaaGreatDoorColP
namespace Go.Proofs.YtcpimhefclfbaaaGreatDoor
open Go Go.RowKit
set_option maxRecDepth 10000
set_option linter.unusedVariables false
set_option linter.unusedSimpArgs false

def checkF : List Int → List Col → Int
  | e :: es, c :: cs => if e ≠ -1 ∧ fitsV c.typ.toInt e = false then 3 else checkF es cs
  | _, _ => 0
/-- What is wrong of a configuration: 0 is nothing. -/
def checkE (g p : Int) (es : List Int) (cs : List Col) : Int := if (g < 1 ∨ 65536 < g) ∨ (p < 1 ∨ 65536 < p) ∨ es.length ≠ cs.length then 1 else checkF es cs
theorem checkF_at (es : List Int) (cs : List Col) (k : Nat) (h1 : k < es.length) (h2 : k < cs.length) : checkF (es.drop k) (cs.drop k) = if es[k] ≠ -1 ∧ fitsV cs[k].typ.toInt es[k] = false then 3 else checkF (es.drop (k + 1)) (cs.drop (k + 1)) := by
  rw [List.drop_eq_getElem_cons h1, List.drop_eq_getElem_cons h2, checkF]
theorem checkF_end (es : List Int) (cs : List Col) (k : Nat) (h1 : es.length ≤ k) : checkF (es.drop k) (cs.drop k) = 0 := by
  rw [List.drop_eq_nil_of_le h1]
  simp [checkF]

set_option maxHeartbeats 1000000 in
theorem rows_prog (n : Int) (W : World) : Calls Tryz.prog 20 #[.int .i64 n] W fun e W' => e = .returned (.bool (!decide (n < 1 ∨ 65536 < n))) ∧ W = W' := by
  obtain ⟨v, hv⟩ : ∃ v, Hid ((!decide (n < 1 ∨ 65536 < n)) = v) := ⟨_, rfl⟩
  rw [hv.out]
  by_cases q1 : n < 1
  · have e := Lib.hid (show v = false by rw [← hv.out]; simp [q1])
    go_enter Tryz.func20, Tryz.ntmps20
    go_wp2
    go_ret
    exact ⟨ret_b e.out.symm, rfl⟩
  · by_cases q2 : 65536 < n
    · have e := Lib.hid (show v = false by rw [← hv.out]; simp [q2])
      have q2d : decide (n ≤ 65536) = false := by rw [decide_eq_false_iff_not]; omega
      go_enter Tryz.func20, Tryz.ntmps20
      go_wp2
      go_ret
      exact ⟨ret_b e.out.symm, rfl⟩
    · have e := Lib.hid (show v = true by rw [← hv.out, decide_eq_false (by omega)]; rfl)
      go_enter Tryz.func20, Tryz.ntmps20
      go_wp2
      go_ret
      exact ⟨ret_b e.out.symm, rfl⟩

theorem Ints.at1 {X : List Nat} {w : World} {A : Option Addr} {n c k : Nat} {l : List Int} (h : Ints X w A n c l) (hk : k < l.length) : ∃ b off, A = some ⟨b, off, none⟩ ∧ w.cell? ⟨b, off + k, none⟩ = some (.int .i64 l[k]) := by
  have hlen : l.length = n := by have := h.1; simpa using this
  obtain ⟨b, off, rfl, _, _, hc⟩ := Rd.at_ h (k := k) (by omega)
  refine ⟨b, off, rfl, ?_⟩
  have := hc 0 (by omega)
  simpa [vInt, List.getElem?_eq_getElem hk] using this

set_option maxHeartbeats 4000000 in
theorem check_prog {X Y : List Nat} {A B : Option Addr} {n c m d : Nat} {es : List Int} {cs : List Col} (g p : Int) (W : World) (h : Ints X W A n c es) (h' : Cols Y W B m d cs) (hes : ∀ e ∈ es, -9223372036854775808 ≤ e ∧ e ≤ 9223372036854775807) :
    Calls Tryz.prog 15 #[.agg #[.int .i64 g, .int .i64 p, .slice A n c], .slice B m d] W fun e W' => e = .returned (.int .i64 (checkE g p es cs)) ∧ Keep [] W W' := by
  have hc := h.cap
  have hnc := h.le
  obtain rfl : es.length = n := by have := h.1; simpa using this
  have hd := h'.cap
  have hmd := h'.le
  obtain rfl := h'.len
  obtain ⟨v, hv⟩ : ∃ v, Hid (checkE g p es cs = v) := ⟨_, rfl⟩
  rw [hv.out]
  obtain ⟨W1, hW1⟩ : ∃ W1, W.alloc (.cells #[.int .i64 g, .int .i64 p, .slice A es.length c] 32) = W1 := ⟨_, rfl⟩
  have hk1 : Keep [] W W1 := by rw [← hW1]; exact (Keep.refl _ _).alloc _
  have hb1 : Blk W1 W.heap.size 32 [.int .i64 g, .int .i64 p, .slice A es.length c] := by rw [← hW1]; exact Blk.new W 32 _
  have x0 := hb1.cell 0
  have x1 := hb1.cell 1
  have x2 := hb1.cell 2
  simp only [List.getElem?_cons_zero, List.getElem?_cons_succ] at x0 x1 x2
  have R1 := rows_prog g W1
  have R2 := rows_prog p W1
  replace hes := Lib.hid hes
  by_cases q1 : g < 1 ∨ 65536 < g
  · have hv1 : Hid (v = 1) := by rw [Hid, ← hv.out, checkE, if_pos (.inl q1)]
    rw [decide_eq_true q1] at R1
    replace R1 := Lib.hid R1
    clear R2 hv q1
    go_enter Tryz.func15, Tryz.ntmps15
    go_wp2_with fail
    refine R1.out.mono ?_
    rintro e w1 ⟨rfl, hw1⟩
    subst hw1
    clear R1
    go_wp2
    go_ret
    exact ⟨ret_i hv1.out.symm, hk1⟩
  rw [decide_eq_false q1] at R1
  replace R1 := Lib.hid R1
  by_cases q2 : p < 1 ∨ 65536 < p
  · have hv1 : Hid (v = 1) := by rw [Hid, ← hv.out, checkE, if_pos (.inr (.inl q2))]
    rw [decide_eq_true q2] at R2
    replace R2 := Lib.hid R2
    clear hv q1 q2
    go_enter Tryz.func15, Tryz.ntmps15
    go_wp2_with fail
    refine R1.out.mono ?_
    rintro e w1 ⟨rfl, hw1⟩
    subst hw1
    go_wp2_with fail
    refine R2.out.mono ?_
    rintro e w1 ⟨rfl, hw1⟩
    subst hw1
    clear R1 R2
    go_wp2
    go_ret
    exact ⟨ret_i hv1.out.symm, hk1⟩
  rw [decide_eq_false q2] at R2
  replace R2 := Lib.hid R2
  by_cases q3 : es.length = cs.length
  · have hv0 : Hid (v = checkF (es.drop 0) (cs.drop 0)) := by rw [Hid, ← hv.out, checkE, if_neg (by omega)]; rfl
    have q3' : ((es.length : Int) != (cs.length : Int)) = false := by rw [bne_eq_false_iff_eq]; omega
    have q3d : decide ((es.length : Int) = (cs.length : Int)) = true := by rw [decide_eq_true_iff]; omega
    replace q3 := Lib.hid q3
    clear hv q1 q2
    go_enter Tryz.func15, Tryz.ntmps15
    go_wp2_with fail
    refine R1.out.mono ?_
    rintro e w1 ⟨rfl, hw1⟩
    subst hw1
    go_wp2_with fail
    refine R2.out.mono ?_
    rintro e w1 ⟨rfl, hw1⟩
    subst hw1
    clear R1 R2
    go_wp2
    clear q3' q3d
    go_loopw [28] (fun i w => ∃ k : Nat, k ≤ es.length ∧ i = .int .i64 k ∧ Hid (v = checkF (es.drop k) (cs.drop k)) ∧ Keep [] W1 w) (fun i _ => es.length - (intOf i).toNat)
    case atStart => exact ⟨0, Nat.zero_le _, rfl, hv0, Keep.refl _ _⟩
    case round =>
      obtain ⟨k, hk, rfl, HV, hkr⟩ := hrel
      have hkW := hk1.trans hkr
      by_cases hlt : k < es.length
      · have hlt2 : k < cs.length := by have := q3.out; omega
        obtain ⟨bA, oA, rfl, z0⟩ := Ints.at1 (h.pure hkW) hlt
        obtain ⟨bB, oB, rfl, _, _, y0, y1, y2⟩ := Cols.at3 (h'.pure hkW) hlt2
        have hst := HV.out
        rw [checkF_at es cs k hlt hlt2] at hst
        have F := fun w => fits_prog cs[k].typ.toInt es[k] w (hes.out _ (List.getElem_mem hlt))
        have i0' : (0 : Int) ≤ (k : Int) := by omega
        have i1' : (k : Int) < (es.length : Int) := by omega
        have i2' : (k : Int) < (cs.length : Int) := by omega
        generalize es[k] = e at *
        generalize cs[k] = x at *
        generalize fitsV x.typ.toInt e = fv at *
        replace F := Lib.hid F
        by_cases he : e = -1
        · subst he
          have hst2 : Hid (v = checkF (es.drop (k + 1)) (cs.drop (k + 1))) := by rw [Hid, hst, if_neg (by simp)]
          clear hst HV F
          go_wp2
          go_roundw
          case rel => exact ⟨k + 1, by omega, by go_num, hst2, hkr⟩
          case measure => simp [intOf]; omega
        · have he' : (e != -1) = true := by rw [bne_iff_ne]; exact he
          have hst2 : Hid (v = if fv = false then 3 else checkF (es.drop (k + 1)) (cs.drop (k + 1))) := by
            rw [Hid, hst]
            simp [he]
          clear hst HV
          go_wp2_with fail
          refine (F.out wr).mono ?_
          rintro e' w1 ⟨rfl, hkf⟩
          clear F
          cases fv with
          | false =>
            have hst3 : Hid (v = 3) := hst2.out
            clear hst2
            go_wp2
            go_ret
            exact ⟨ret_i hst3.out.symm, hkW.trans hkf⟩
          | true =>
            have hst3 : Hid (v = checkF (es.drop (k + 1)) (cs.drop (k + 1))) := hst2.out
            clear hst2
            go_wp2
            go_roundw
            case rel => exact ⟨k + 1, by omega, by go_num, hst3, hkr.trans hkf⟩
            case measure => simp [intOf]; omega
      · have hst : Hid (v = 0) := by rw [Hid, HV.out, checkF_end es cs k (by omega)]
        clear HV
        have i1' : ¬ ((k : Int) < (es.length : Int)) := by omega
        go_wp2
        go_ret
        exact ⟨ret_i hst.out.symm, hkW⟩
  · have hv1 : Hid (v = 1) := by rw [Hid, ← hv.out, checkE, if_pos (.inr (.inr q3))]
    have q3' : ((es.length : Int) != (cs.length : Int)) = true := by rw [bne_iff_ne]; omega
    have q3d : decide ((es.length : Int) = (cs.length : Int)) = false := by rw [decide_eq_false_iff_not]; omega
    replace q3 := Lib.hid q3
    clear hv q1 q2
    go_enter Tryz.func15, Tryz.ntmps15
    go_wp2_with fail
    refine R1.out.mono ?_
    rintro e w1 ⟨rfl, hw1⟩
    subst hw1
    go_wp2_with fail
    refine R2.out.mono ?_
    rintro e w1 ⟨rfl, hw1⟩
    subst hw1
    clear R1 R2
    go_wp2
    go_ret
    exact ⟨ret_i hv1.out.symm, hk1⟩
end Go.Proofs.YtcpimhefclfbaaaGreatDoor
