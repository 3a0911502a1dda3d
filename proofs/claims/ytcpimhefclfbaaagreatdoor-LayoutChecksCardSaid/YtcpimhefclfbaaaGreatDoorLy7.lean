/-
  Which encodings fit a type: values.Fits, and the document's.
-/
import Derived.Test.YtcpimhefclfbaaaGreatDoorLy6
namespace Go.Proofs.YtcpimhefclfbaaaGreatDoor
open Go Go.RowKit Go.Maps
set_option maxRecDepth 10000
set_option linter.unusedVariables false
set_option linter.unusedSimpArgs false

def fitsS (typ : Int) : List Int := if typ = 0 then [3, 2, 1, 0] else if typ = 1 then [2, 1, 0] else if typ = 2 then [4, 1, 0] else if typ = 3 then [3, 1, 0] else []
/-- Does an encoding fit a type? -/
def fitsV (typ enc : Int) : Bool := decide (enc ∈ fitsS typ)
theorem zeroEnc (w : World) : (zeroValue 49).run Tryz.prog w = .ok (.agg #[.nilFunc, .nilFunc]) w := by kernel_rfl

set_option maxHeartbeats 1000000 in
theorem encs_no (typ : Int) (h : typ < 0 ∨ 3 < typ) (W : World) : Calls Tryz.prog 23 #[.int .i64 typ] W fun e W' => e = .returned (.map none) ∧ Keep [] W W' := by
  by_cases q1 : typ < 0
  · go_enter Tryz.func23, Tryz.ntmps23
    go_wp2
    go_ret
    exact ⟨rfl, (Keep.refl _ _).alloc _⟩
  · have q2 : 3 < typ := by omega
    go_enter Tryz.func23, Tryz.ntmps23
    go_wp2
    go_ret
    exact ⟨rfl, (Keep.refl _ _).alloc _⟩

theorem encs_all (typ : Int) (h : 0 ≤ typ ∧ typ ≤ 3) (W : World) : Calls Tryz.prog 23 #[.int .i64 typ] W (EncsPost (fitsS typ) W) := by
  have hc : typ = 0 ∨ typ = 1 ∨ typ = 2 ∨ typ = 3 := by omega
  rcases hc with rfl | rfl | rfl | rfl
  · exact encs0 W
  · exact encs1 W
  · exact encs2 W
  · exact encs3 W

set_option maxHeartbeats 2000000 in
theorem fits_prog (typ enc : Int) (W : World) (he : -9223372036854775808 ≤ enc ∧ enc ≤ 9223372036854775807) :
    Calls Tryz.prog 21 #[.int .i64 typ, .int .i64 enc] W fun e W' => e = .returned (.bool (fitsV typ enc)) ∧ Keep [] W W' := by
  have K := int_keyed Tryz.underlying3
  have hkey := key_i64 he
  by_cases h : 0 ≤ typ ∧ typ ≤ 3
  · have E := Lib.hid (encs_all typ h W)
    unfold fitsV
    generalize fitsS typ = S at *
    obtain ⟨v, hv⟩ : ∃ v, Hid (decide (enc ∈ S) = v) := ⟨_, rfl⟩
    rw [hv.out]
    clear h
    go_enter Tryz.func21, Tryz.ntmps21
    go_wp2_with fail
    refine E.out.mono ?_
    rintro e w1 ⟨g, n, D, rfl, hk1, hm, hi, hn⟩
    have hhas := (hi.2 enc).trans hv.out
    clear E hi
    go_wp2_with (at_lookup; refine wpList_lookup_own_ok _ rfl _ _ 51 rfl 3 49 K Tryz.underlying51 encR (zeroEnc _) (.held (.agg #[.nilFunc, .nilFunc])) [] (encR_mk (.inr rfl)) g n D rfl hm _ _ rfl hkey ?_)
    intro u ps hu
    clear hm
    rcases encR_inv hu with ⟨f1, a1, c1, f2, a2, c2, rfl⟩ | rfl
    · clear hu
      go_wp2
      go_ret
      exact ⟨rfl, hk1.alloc _⟩
    · clear hu
      go_wp2
      go_ret
      exact ⟨rfl, hk1.alloc _⟩
  · have E := Lib.hid (encs_no typ (by omega) W)
    have hv : Hid (fitsV typ enc = false) := by
      rw [Hid, fitsV, fitsS, if_neg (by omega), if_neg (by omega), if_neg (by omega), if_neg (by omega)]
      rfl
    rw [hv.out]
    have hlk : ∀ w, (Instr.lookup 51 (.map none) (.int .i64 enc) true).run Tryz.prog w = .ok (.tuple #[.agg #[.nilFunc, .nilFunc], .bool false]) w := fun w => Maps.look_nil true K Tryz.underlying51 (zeroEnc w) hkey
    clear hkey h hv
    go_enter Tryz.func21, Tryz.ntmps21
    go_wp2_with fail
    refine E.out.mono ?_
    rintro e w1 ⟨rfl, hk1⟩
    clear E
    go_wp2
    go_ret
    exact ⟨rfl, hk1.alloc _⟩

set_option maxHeartbeats 4000000 in
theorem fits_ref (typ enc : Int) (W : World) :
    Calls Tryz.prog 22 #[.int .i64 typ, .int .i64 enc] W fun e W' => e = .returned (.bool (fitsV typ enc)) ∧ W = W' := by
  by_cases h : 0 ≤ typ ∧ typ ≤ 3
  · have ht : typ = 0 ∨ typ = 1 ∨ typ = 2 ∨ typ = 3 := by omega
    by_cases hec : enc = 0 ∨ enc = 1 ∨ enc = 2 ∨ enc = 3 ∨ enc = 4
    · rcases ht with rfl | rfl | rfl | rfl <;> rcases hec with rfl | rfl | rfl | rfl | rfl
      all_goals
        go_enter Tryz.func22, Tryz.ntmps22
        go_wp2
        go_ret
        exact ⟨ret_b (by decide +kernel), rfl⟩
    · have hv : Hid (fitsV typ enc = false) := by
        rw [Hid, fitsV, fitsS]
        rcases ht with rfl | rfl | rfl | rfl <;> simp <;> omega
      rw [hv.out]
      have e0 : (enc == 0) = false := by rw [beq_eq_false_iff_ne]; omega
      have e1 : (enc == 1) = false := by rw [beq_eq_false_iff_ne]; omega
      have e2 : (enc == 2) = false := by rw [beq_eq_false_iff_ne]; omega
      have e3 : (enc == 3) = false := by rw [beq_eq_false_iff_ne]; omega
      have e4 : (enc == 4) = false := by rw [beq_eq_false_iff_ne]; omega
      have d0 : ¬ enc = 0 := by omega
      have d1 : ¬ enc = 1 := by omega
      have d2 : ¬ enc = 2 := by omega
      have d3 : ¬ enc = 3 := by omega
      have d4 : ¬ enc = 4 := by omega
      clear hec hv
      rcases ht with rfl | rfl | rfl | rfl
      all_goals
        go_enter Tryz.func22, Tryz.ntmps22
        go_wp2
        go_ret
        exact ⟨rfl, rfl⟩
  · have hv : Hid (fitsV typ enc = false) := by
      rw [Hid, fitsV, fitsS, if_neg (by omega), if_neg (by omega), if_neg (by omega), if_neg (by omega)]
      rfl
    rw [hv.out]
    clear hv
    by_cases q1 : typ < 0
    · go_enter Tryz.func22, Tryz.ntmps22
      go_wp2
      go_ret
      exact ⟨rfl, rfl⟩
    · have q2 : 3 < typ := by omega
      go_enter Tryz.func22, Tryz.ntmps22
      go_wp2
      go_ret
      exact ⟨rfl, rfl⟩
end Go.Proofs.YtcpimhefclfbaaaGreatDoor
