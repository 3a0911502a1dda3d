/-
  Stats as values; layer 15 in plain words; what may be.
  The walks of layer 15's functions: which stats may be.
  Stats are compared.
-/
import Derived.Test.YtcpimhefclfbaaaFPlb
import Derived.Test.YtcpimhefclfbaaaFA
namespace Go.Proofs.Ytcpimhefclfbaaa
open Go Go.RowKit
set_option maxRecDepth 10000
set_option linter.unusedVariables false
set_option linter.unusedSimpArgs false

/-- What is told of cells. -/
structure St where
  nulls : Int64
  has : Bool
  min : Cell
  max : Cell
  deriving DecidableEq, Inhabited
abbrev St.cs (s : St) : List Value := [.int .i64 s.nulls.toInt, .bool s.has, .bool s.min.null, .int .i64 s.min.int.toInt, .string s.min.text, .int .i64 s.min.x.toInt, .int .i64 s.min.y.toInt, .bool s.max.null, .int .i64 s.max.int.toInt, .string s.max.text, .int .i64 s.max.x.toInt, .int .i64 s.max.y.toInt]
abbrev stVal (s : St) : Value := .agg #[.int .i64 s.nulls.toInt, .bool s.has, .bool s.min.null, .int .i64 s.min.int.toInt, .string s.min.text, .int .i64 s.min.x.toInt, .int .i64 s.min.y.toInt, .bool s.max.null, .int .i64 s.max.int.toInt, .string s.max.text, .int .i64 s.max.x.toInt, .int .i64 s.max.y.toInt]
theorem stAt {w : World} {p : Nat} {t : TypeId} {s : St} (h : Blk w p t s.cs) : w.cell? ⟨p, 0, none⟩ = some (.int .i64 s.nulls.toInt) ∧ w.cell? ⟨p, 1, none⟩ = some (.bool s.has) ∧ w.cell? ⟨p, 2, none⟩ = some (.bool s.min.null) ∧ w.cell? ⟨p, 3, none⟩ = some (.int .i64 s.min.int.toInt) ∧ w.cell? ⟨p, 4, none⟩ = some (.string s.min.text) ∧ w.cell? ⟨p, 5, none⟩ = some (.int .i64 s.min.x.toInt) ∧ w.cell? ⟨p, 6, none⟩ = some (.int .i64 s.min.y.toInt) ∧ w.cell? ⟨p, 7, none⟩ = some (.bool s.max.null) ∧ w.cell? ⟨p, 8, none⟩ = some (.int .i64 s.max.int.toInt) ∧ w.cell? ⟨p, 9, none⟩ = some (.string s.max.text) ∧ w.cell? ⟨p, 10, none⟩ = some (.int .i64 s.max.x.toInt) ∧ w.cell? ⟨p, 11, none⟩ = some (.int .i64 s.max.y.toInt) :=
  ⟨h.cell 0, h.cell 1, h.cell 2, h.cell 3, h.cell 4, h.cell 5, h.cell 6, h.cell 7, h.cell 8, h.cell 9, h.cell 10, h.cell 11⟩
def St.zero : St := ⟨0, false, Cell.zero, Cell.zero⟩
/-- May a stat be? -/
def rightS (typ : Int) (s : St) : Bool :=
  known typ && decide (0 ≤ s.nulls.toInt) && decide (s.nulls.toInt ≤ 65536) &&
    (if s.has = true then rightC typ false s.min && rightC typ false s.max && decide (cmpC typ s.min s.max ≤ 0) else decide (s.min = Cell.zero) && decide (s.max = Cell.zero))
/-- May cells of a stat have a cell? -/
def mayS (typ : Int) (s : St) (c : Cell) : Bool :=
  if c.null = true then decide (0 < s.nulls.toInt) else s.has && decide (0 ≤ cmpC typ c s.min) && decide (cmpC typ c s.max ≤ 0)

theorem ret_st {fn : Func} {p : Tmp} (h : fn.results = #[.cell p 52]) {tmps : Array Value} {w : World} {g : Nat} (s : St) (hp : tmps.getD p undef = .pointer (some ⟨g, 0, none⟩)) (hb : Blk w g 52 s.cs) :
    (results fn tmps).run Try.prog w = .ok (stVal s) w :=
  results_cell_row h tmps w g 52 _ (0, 0) _ hp hb Try.underlying52 rfl (by show (Try.prog.info? 52).map (·.size) = some 12; kernel_rfl)
end Go.Proofs.Ytcpimhefclfbaaa

namespace Go.Proofs.Ytcpimhefclfbaaa
open Go Go.RowKit
set_option maxRecDepth 10000
set_option linter.unusedVariables false
set_option linter.unusedSimpArgs false

theorem eql_zero (c : Cell) (w : World) : (binOp .eql 50 (.agg #[.bool c.null, .int .i64 c.int.toInt, .string c.text, .int .i64 c.x.toInt, .int .i64 c.y.toInt]) (.agg #[.bool false, .int .i64 0, .string { data := #[] }, .int .i64 0, .int .i64 0])).run Try.prog w = .ok (.bool (decide (c = Cell.zero))) w := eql_cell c Cell.zero w
theorem rightS_bad {typ : Int} {s : St} (h : ¬ (0 ≤ typ ∧ typ ≤ 3 ∧ 0 ≤ s.nulls.toInt ∧ s.nulls.toInt ≤ 65536)) : rightS typ s = false := by
  rw [Bool.eq_false_iff]
  intro h'
  simp only [rightS, known, Bool.and_eq_true, decide_eq_true_eq] at h'
  omega
theorem rightS_ok {typ : Int} {s : St} (h : 0 ≤ typ ∧ typ ≤ 3 ∧ 0 ≤ s.nulls.toInt ∧ s.nulls.toInt ≤ 65536) : rightS typ s = (if s.has = true then rightC typ false s.min && rightC typ false s.max && decide (cmpC typ s.min s.max ≤ 0) else decide (s.min = Cell.zero) && decide (s.max = Cell.zero)) := by
  rw [rightS, known, decide_eq_true h.1, decide_eq_true (show typ < 4 by omega), decide_eq_true h.2.2.1, decide_eq_true h.2.2.2]
  rfl

set_option maxHeartbeats 4000000 in
theorem rightS_prog (typ : Int) (s : St) (W : World) :
    Calls Try.prog 47 #[.int .i64 typ, stVal s] W fun e W' => e = .returned (.bool (rightS typ s)) ∧ Keep [] W W' := by
  obtain ⟨v, hv⟩ : ∃ v, Hid (rightS typ s = v) := ⟨_, rfl⟩
  rw [hv.out]
  have vbad : ¬ (0 ≤ typ ∧ typ ≤ 3 ∧ 0 ≤ s.nulls.toInt ∧ s.nulls.toInt ≤ 65536) → Hid (v = false) := fun h => by rw [Hid, ← hv.out, rightS_bad h]
  have v2 : (0 ≤ typ ∧ typ ≤ 3 ∧ 0 ≤ s.nulls.toInt ∧ s.nulls.toInt ≤ 65536) → s.has = false → Hid (v = (decide (s.min = Cell.zero) && decide (s.max = Cell.zero))) := fun h h' => by rw [Hid, ← hv.out, rightS_ok h, if_neg (by simp [h'])]
  have v3 : (0 ≤ typ ∧ typ ≤ 3 ∧ 0 ≤ s.nulls.toInt ∧ s.nulls.toInt ≤ 65536) → s.has = true → Hid (v = (rightC typ false s.min && rightC typ false s.max && decide (cmpC typ s.min s.max ≤ 0))) := fun h h' => by rw [Hid, ← hv.out, rightS_ok h, if_pos h']
  obtain ⟨W2, hW2⟩ : ∃ W2, (W.alloc (.cells #[.int .i64 s.nulls.toInt, .bool s.has, .bool s.min.null, .int .i64 s.min.int.toInt, .string s.min.text, .int .i64 s.min.x.toInt, .int .i64 s.min.y.toInt, .bool s.max.null, .int .i64 s.max.int.toInt, .string s.max.text, .int .i64 s.max.x.toInt, .int .i64 s.max.y.toInt] 52)).alloc (.cells #[.string { data := #[] }, .int .i64 typ, .bool false] 56) = W2 := ⟨_, rfl⟩
  have hk2 : Keep [] W W2 := by rw [← hW2]; exact ((Keep.refl _ _).alloc _).alloc _
  have hb1 : Blk W2 W.heap.size 52 s.cs := by rw [← hW2]; exact (Blk.new W 52 _).alloc _
  have hb2 : Blk W2 (W.heap.size + 1) 56 [.string { data := #[] }, .int .i64 typ, .bool false] := by rw [← hW2]; exact blk_alloc2 _ _ _ _
  have c0 := hb2.cell 0
  have c1 := hb2.cell 1
  have c2 := hb2.cell 2
  simp only [List.getElem?_cons_zero, List.getElem?_cons_succ] at c0 c1 c2
  clear c0 c1 c2
  subst hW2
  by_cases q0 : typ < 0
  · have v1 := vbad (by omega)
    clear vbad v2 v3 hv
    cases hh : s.has with
    | false =>
      rw [hh] at hk2 hb1 hb2
      go_enter Try.func47, Try.ntmps47
      go_wp2
      go_ret
      exact ⟨ret_b (by rw [v1.out]), hk2⟩
    | true =>
      rw [hh] at hk2 hb1 hb2
      go_enter Try.func47, Try.ntmps47
      go_wp2
      go_ret
      exact ⟨ret_b (by rw [v1.out]), hk2⟩
  by_cases q1 : 3 < typ
  · have v1 := vbad (by omega)
    clear vbad v2 v3 hv
    cases hh : s.has with
    | false =>
      rw [hh] at hk2 hb1 hb2
      go_enter Try.func47, Try.ntmps47
      go_wp2
      go_ret
      exact ⟨ret_b (by rw [v1.out]), hk2⟩
    | true =>
      rw [hh] at hk2 hb1 hb2
      go_enter Try.func47, Try.ntmps47
      go_wp2
      go_ret
      exact ⟨ret_b (by rw [v1.out]), hk2⟩
  by_cases q2 : s.nulls.toInt < 0
  · have v1 := vbad (by omega)
    clear vbad v2 v3 hv
    cases hh : s.has with
    | false =>
      rw [hh] at hk2 hb1 hb2
      go_enter Try.func47, Try.ntmps47
      go_wp2
      go_ret
      exact ⟨ret_b (by rw [v1.out]), hk2⟩
    | true =>
      rw [hh] at hk2 hb1 hb2
      go_enter Try.func47, Try.ntmps47
      go_wp2
      go_ret
      exact ⟨ret_b (by rw [v1.out]), hk2⟩
  by_cases q3 : 65536 < s.nulls.toInt
  · have v1 := vbad (by omega)
    clear vbad v2 v3 hv
    cases hh : s.has with
    | false =>
      rw [hh] at hk2 hb1 hb2
      go_enter Try.func47, Try.ntmps47
      go_wp2
      go_ret
      exact ⟨ret_b (by rw [v1.out]), hk2⟩
    | true =>
      rw [hh] at hk2 hb1 hb2
      go_enter Try.func47, Try.ntmps47
      go_wp2
      go_ret
      exact ⟨ret_b (by rw [v1.out]), hk2⟩
  have hok : 0 ≤ typ ∧ typ ≤ 3 ∧ 0 ≤ s.nulls.toInt ∧ s.nulls.toInt ≤ 65536 := by omega
  clear vbad hv
  cases hh : s.has with
  | false =>
    have v1 := v2 hok hh
    clear v2 v3
    rw [hh] at hk2 hb1 hb2
    have e1 := eql_zero s.min
    have e2 := eql_zero s.max
    generalize decide (s.min = Cell.zero) = m1 at *
    generalize decide (s.max = Cell.zero) = m2 at *
    cases m1 with
    | false =>
      go_enter Try.func47, Try.ntmps47
      go_wp2
      go_ret
      exact ⟨ret_b (by rw [v1.out]; rfl), hk2⟩
    | true =>
      go_enter Try.func47, Try.ntmps47
      go_wp2
      go_ret
      exact ⟨ret_b (by rw [v1.out]; rfl), hk2⟩
  | true =>
    have v1 := v3 hok hh
    clear v2 v3
    rw [hh] at hk2 hb1 hb2
    have C1 := fun w => cellRight_prog s.min { data := #[] } typ false w
    have C2 := fun w => cellRight_prog s.max { data := #[] } typ false w
    have hnr : rightC typ false s.min = true → rightC typ false s.max = true → s.min.near ∧ s.max.near := fun h h' => ⟨rightC_near h, rightC_near h'⟩
    generalize rightC typ false s.min = m1 at *
    generalize rightC typ false s.max = m2 at *
    replace C1 := Lib.hid C1
    replace C2 := Lib.hid C2
    cases m1 with
    | false =>
      clear hnr
      go_enter Try.func47, Try.ntmps47
      go_wp2_with fail
      refine (C1.out _).mono ?_
      rintro e w3 ⟨rfl, hk3⟩
      go_wp2
      go_ret
      exact ⟨ret_b (by rw [v1.out]; rfl), hk2.trans hk3⟩
    | true =>
      rw [Bool.true_and] at v1
      cases m2 with
      | false =>
        clear hnr
        go_enter Try.func47, Try.ntmps47
        go_wp2_with fail
        refine (C1.out _).mono ?_
        rintro e w3 ⟨rfl, hk3⟩
        obtain ⟨b0, b1, b2, b3, b4, b5, b6, b7, b8, b9, b10, b11⟩ := stAt (hb1.keep hk3 (by simp))
        have hb4 := hb2.keep hk3 (by simp)
        have d0 := hb4.cell 0
        have d1 := hb4.cell 1
        have d2 := hb4.cell 2
        simp only [List.getElem?_cons_zero, List.getElem?_cons_succ] at d0 d1 d2
        go_wp2_with fail
        refine (C2.out _).mono ?_
        rintro e w4 ⟨rfl, hk4⟩
        go_wp2
        go_ret
        exact ⟨ret_b (by rw [v1.out]; rfl), (hk2.trans hk3).trans hk4⟩
      | true =>
        rw [Bool.true_and] at v1
        have hnr2 := hnr rfl rfl
        have C3 := fun w => cellCompare_prog typ s.min s.max w (fun _ => hnr2)
        generalize cmpC typ s.min s.max = z at *
        replace C3 := Lib.hid C3
        clear hnr hnr2
        go_enter Try.func47, Try.ntmps47
        go_wp2_with fail
        refine (C1.out _).mono ?_
        rintro e w3 ⟨rfl, hk3⟩
        obtain ⟨b0, b1, b2, b3, b4, b5, b6, b7, b8, b9, b10, b11⟩ := stAt (hb1.keep hk3 (by simp))
        have hb4 := hb2.keep hk3 (by simp)
        have d0 := hb4.cell 0
        have d1 := hb4.cell 1
        have d2 := hb4.cell 2
        simp only [List.getElem?_cons_zero, List.getElem?_cons_succ] at d0 d1 d2
        go_wp2_with fail
        refine (C2.out _).mono ?_
        rintro e w4 ⟨rfl, hk4⟩
        obtain ⟨g0, g1, g2, g3, g4, g5, g6, g7, g8, g9, g10, g11⟩ := stAt ((hb1.keep hk3 (by simp)).keep hk4 (by simp))
        go_wp2_with fail
        refine (C3.out _).mono ?_
        rintro e w5 ⟨rfl, hk5⟩
        go_wp2
        go_ret
        exact ⟨ret_b (by rw [v1.out]), ((hk2.trans hk3).trans hk4).trans hk5⟩

set_option maxHeartbeats 4000000 in
theorem rightS_ref (typ : Int) (s : St) (W : World) :
    Calls Try.prog 49 #[.int .i64 typ, stVal s] W fun e W' => e = .returned (.bool (rightS typ s)) ∧ Keep [] W W' := by
  obtain ⟨v, hv⟩ : ∃ v, Hid (rightS typ s = v) := ⟨_, rfl⟩
  rw [hv.out]
  have vbad : ¬ (0 ≤ typ ∧ typ ≤ 3 ∧ 0 ≤ s.nulls.toInt ∧ s.nulls.toInt ≤ 65536) → Hid (v = false) := fun h => by rw [Hid, ← hv.out, rightS_bad h]
  have v2 : (0 ≤ typ ∧ typ ≤ 3 ∧ 0 ≤ s.nulls.toInt ∧ s.nulls.toInt ≤ 65536) → s.has = false → Hid (v = (decide (s.min = Cell.zero) && decide (s.max = Cell.zero))) := fun h h' => by rw [Hid, ← hv.out, rightS_ok h, if_neg (by simp [h'])]
  have v3 : (0 ≤ typ ∧ typ ≤ 3 ∧ 0 ≤ s.nulls.toInt ∧ s.nulls.toInt ≤ 65536) → s.has = true → Hid (v = (rightC typ false s.min && rightC typ false s.max && decide (cmpC typ s.min s.max ≤ 0))) := fun h h' => by rw [Hid, ← hv.out, rightS_ok h, if_pos h']
  obtain ⟨W2, hW2⟩ : ∃ W2, (W.alloc (.cells #[.int .i64 s.nulls.toInt, .bool s.has, .bool s.min.null, .int .i64 s.min.int.toInt, .string s.min.text, .int .i64 s.min.x.toInt, .int .i64 s.min.y.toInt, .bool s.max.null, .int .i64 s.max.int.toInt, .string s.max.text, .int .i64 s.max.x.toInt, .int .i64 s.max.y.toInt] 52)) = W2 := ⟨_, rfl⟩
  have hk2 : Keep [] W W2 := by rw [← hW2]; exact (Keep.refl _ _).alloc _
  have hb1 : Blk W2 W.heap.size 52 s.cs := by rw [← hW2]; exact Blk.new W 52 _
  obtain ⟨a0, a1, a2, a3, a4, a5, a6, a7, a8, a9, a10, a11⟩ := stAt hb1
  by_cases q0 : typ < 0
  · have v1 := vbad (by omega)
    clear vbad v2 v3 hv
    cases hh : s.has with
    | false =>
      rw [hh] at a1 hW2
      go_enter Try.func49, Try.ntmps49
      go_wp2
      go_ret
      exact ⟨ret_b (by rw [v1.out]), hk2⟩
    | true =>
      rw [hh] at a1 hW2
      go_enter Try.func49, Try.ntmps49
      go_wp2
      go_ret
      exact ⟨ret_b (by rw [v1.out]), hk2⟩
  by_cases q1 : 3 < typ
  · have v1 := vbad (by omega)
    clear vbad v2 v3 hv
    cases hh : s.has with
    | false =>
      rw [hh] at a1 hW2
      go_enter Try.func49, Try.ntmps49
      go_wp2
      go_ret
      exact ⟨ret_b (by rw [v1.out]), hk2⟩
    | true =>
      rw [hh] at a1 hW2
      go_enter Try.func49, Try.ntmps49
      go_wp2
      go_ret
      exact ⟨ret_b (by rw [v1.out]), hk2⟩
  by_cases q2 : s.nulls.toInt < 0
  · have v1 := vbad (by omega)
    clear vbad v2 v3 hv
    cases hh : s.has with
    | false =>
      rw [hh] at a1 hW2
      go_enter Try.func49, Try.ntmps49
      go_wp2
      go_ret
      exact ⟨ret_b (by rw [v1.out]), hk2⟩
    | true =>
      rw [hh] at a1 hW2
      go_enter Try.func49, Try.ntmps49
      go_wp2
      go_ret
      exact ⟨ret_b (by rw [v1.out]), hk2⟩
  by_cases q3 : 65536 < s.nulls.toInt
  · have v1 := vbad (by omega)
    clear vbad v2 v3 hv
    cases hh : s.has with
    | false =>
      rw [hh] at a1 hW2
      go_enter Try.func49, Try.ntmps49
      go_wp2
      go_ret
      exact ⟨ret_b (by rw [v1.out]), hk2⟩
    | true =>
      rw [hh] at a1 hW2
      go_enter Try.func49, Try.ntmps49
      go_wp2
      go_ret
      exact ⟨ret_b (by rw [v1.out]), hk2⟩
  have hok : 0 ≤ typ ∧ typ ≤ 3 ∧ 0 ≤ s.nulls.toInt ∧ s.nulls.toInt ≤ 65536 := by omega
  clear vbad hv
  cases hh : s.has with
  | false =>
    have v1 := v2 hok hh
    clear v2 v3
    rw [hh] at a1 hW2
    have e1 := eql_zero s.min
    have e2 := eql_zero s.max
    generalize decide (s.min = Cell.zero) = m1 at *
    generalize decide (s.max = Cell.zero) = m2 at *
    cases m1 with
    | false =>
      go_enter Try.func49, Try.ntmps49
      go_wp2
      go_ret
      exact ⟨ret_b (by rw [v1.out]; rfl), hk2⟩
    | true =>
      go_enter Try.func49, Try.ntmps49
      go_wp2
      go_ret
      exact ⟨ret_b (by rw [v1.out]; rfl), hk2⟩
  | true =>
    have v1 := v3 hok hh
    clear v2 v3
    rw [hh] at a1 hW2
    have C1 := fun w => cellRight_ref s.min { data := #[] } typ false w
    have C2 := fun w => cellRight_ref s.max { data := #[] } typ false w
    have hnr : rightC typ false s.min = true → rightC typ false s.max = true → s.min.near ∧ s.max.near := fun h h' => ⟨rightC_near h, rightC_near h'⟩
    generalize rightC typ false s.min = m1 at *
    generalize rightC typ false s.max = m2 at *
    replace C1 := Lib.hid C1
    replace C2 := Lib.hid C2
    go_enter Try.func49, Try.ntmps49
    go_wp2_with fail
    refine (C1.out _).mono ?_
    rintro e w3 ⟨rfl, hk3⟩
    obtain ⟨b0, b1, b2, b3, b4, b5, b6, b7, b8, b9, b10, b11⟩ := stAt (hb1.keep hk3 (by simp))
    go_wp2_with fail
    refine (C2.out _).mono ?_
    rintro e w4 ⟨rfl, hk4⟩
    obtain ⟨g0, g1, g2, g3, g4, g5, g6, g7, g8, g9, g10, g11⟩ := stAt ((hb1.keep hk3 (by simp)).keep hk4 (by simp))
    cases m1 with
    | false =>
      clear hnr
      go_wp2
      go_ret
      exact ⟨ret_b (by rw [v1.out]; rfl), (hk2.trans hk3).trans hk4⟩
    | true =>
      rw [Bool.true_and] at v1
      cases m2 with
      | false =>
        clear hnr
        go_wp2
        go_ret
        exact ⟨ret_b (by rw [v1.out]; rfl), (hk2.trans hk3).trans hk4⟩
      | true =>
        rw [Bool.true_and] at v1
        have hnr2 := hnr rfl rfl
        have C3 := fun w => cellCompare_ref typ s.min s.max w (fun _ => hnr2)
        generalize cmpC typ s.min s.max = z at *
        replace C3 := Lib.hid C3
        clear hnr hnr2
        go_wp2_with fail
        refine (C3.out _).mono ?_
        rintro e w5 ⟨rfl, hk5⟩
        go_wp2
        go_ret
        exact ⟨ret_b (by rw [v1.out]), ((hk2.trans hk3).trans hk4).trans hk5⟩
end Go.Proofs.Ytcpimhefclfbaaa

namespace Go.Proofs.Ytcpimhefclfbaaa
open Go Go.RowKit
set_option maxRecDepth 10000
set_option linter.unusedVariables false
set_option linter.unusedSimpArgs false

theorem equal_st (d : Nat) (s t : St) (w : World) : (Op.equalIn (d + 4) 52 (stVal s) (stVal t)).run Try.prog w =
    .ok (s.nulls.toInt == t.nulls.toInt && (s.has == t.has && (decide (s.min = t.min) && decide (s.max = t.max)))) w := by
  have hu : Try.prog.underlying 52 = some (.struct (Try.prog.fieldsOf 52)) := by kernel_rfl
  have e1 := equal_cell d s.min.null t.min.null s.min.int.toInt t.min.int.toInt s.min.text t.min.text s.min.x.toInt s.min.y.toInt t.min.x.toInt t.min.y.toInt w
  have e2 := equal_cell d s.max.null t.max.null s.max.int.toInt t.max.int.toInt s.max.text t.max.text s.max.x.toInt s.max.y.toInt t.max.x.toInt t.max.y.toInt w
  rw [same_cell] at e1 e2
  rw [stVal, stVal, run_equalIn_agg w (d + 3) _ _ _ hu Try.stoodInHeld52]
  simp only [Program.fieldsOf, Try.underlying52]
  go_simp
  rw [← same_cell, ← same_cell]
  simp only [text_eq]
  clear e1 e2 hu
  have key : ∀ (c : Prop) [Decidable c] (b : Bool), (if c then (Result.ok b w : Result Bool) else Result.ok false w) = Result.ok (decide c && b) w := fun c _ b => by by_cases h : c <;> simp [h]
  simp only [key]
  have hi : ∀ a b : Int, (a == b) = decide (a = b) := fun a b => by rw [Bool.eq_iff_iff]; simp
  have hb : ∀ a b : Bool, (a == b) = decide (a = b) := fun a b => by rw [Bool.eq_iff_iff]; simp
  simp only [hi, hb, Bool.and_assoc, Bool.and_true]
theorem same_st (s t : St) : (s.nulls.toInt == t.nulls.toInt && (s.has == t.has && (decide (s.min = t.min) && decide (s.max = t.max)))) = decide (s = t) := by
  by_cases h : s = t
  · subst h; simp
  · rw [decide_eq_false h]
    apply Classical.byContradiction
    intro hc
    simp at hc
    obtain ⟨h1, h2, h3, h4⟩ := hc
    exact h (by cases s; cases t; simp_all [Int64.toInt_inj])
theorem eql_st (s t : St) (w : World) : (binOp .eql 52 (stVal s) (stVal t)).run Try.prog w = .ok (.bool (decide (s = t))) w := by
  rw [stVal, stVal, run_eql_struct, show (10000 : Nat) = 9996 + 4 from rfl, ← stVal, ← stVal, equal_st, same_st]
  rfl
theorem neq_st (s t : St) (w : World) : (binOp .neq 52 (stVal s) (stVal t)).run Try.prog w = .ok (.bool (decide (s ≠ t))) w := by
  rw [stVal, stVal, run_neq_struct, show (10000 : Nat) = 9996 + 4 from rfl, ← stVal, ← stVal, equal_st, same_st]
  simp
end Go.Proofs.Ytcpimhefclfbaaa
