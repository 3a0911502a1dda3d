/-
  Stats as values; layer 15 in plain words; what may be.
  The walks of layer 15's functions: which stats may be.
  The walks of layer 15's functions: the stat of one cell, and of two rows of cells.
  The walks of the reference's layer 15: Merge.
  Stats are compared.
-/
import Derived.Test.YtejbfknhnhhlfaaFPlb
import Derived.Test.YtejbfknhnhhlfaaFA
namespace Go.Proofs.Ytejbfknhnhhlfaa
open Go Go.RowKit
set_option maxRecDepth 10000
set_option linter.unusedVariables false
set_option linter.unusedSimpArgs false

/-- What is told of cells. -/
structure St where
  nulls : Int64
  has : Bool
  min : Cell
  max : Cell
  deriving DecidableEq, Inhabited
abbrev St.cs (s : St) : List Value := [.int .i64 s.nulls.toInt, .bool s.has, .bool s.min.null, .int .i64 s.min.int.toInt, .string s.min.text, .int .i64 s.min.x.toInt, .int .i64 s.min.y.toInt, .bool s.max.null, .int .i64 s.max.int.toInt, .string s.max.text, .int .i64 s.max.x.toInt, .int .i64 s.max.y.toInt]
abbrev stVal (s : St) : Value := .agg #[.int .i64 s.nulls.toInt, .bool s.has, .bool s.min.null, .int .i64 s.min.int.toInt, .string s.min.text, .int .i64 s.min.x.toInt, .int .i64 s.min.y.toInt, .bool s.max.null, .int .i64 s.max.int.toInt, .string s.max.text, .int .i64 s.max.x.toInt, .int .i64 s.max.y.toInt]
theorem stAt {w : World} {p : Nat} {t : TypeId} {s : St} (h : Blk w p t s.cs) : w.cell? ⟨p, 0, none⟩ = some (.int .i64 s.nulls.toInt) ∧ w.cell? ⟨p, 1, none⟩ = some (.bool s.has) ∧ w.cell? ⟨p, 2, none⟩ = some (.bool s.min.null) ∧ w.cell? ⟨p, 3, none⟩ = some (.int .i64 s.min.int.toInt) ∧ w.cell? ⟨p, 4, none⟩ = some (.string s.min.text) ∧ w.cell? ⟨p, 5, none⟩ = some (.int .i64 s.min.x.toInt) ∧ w.cell? ⟨p, 6, none⟩ = some (.int .i64 s.min.y.toInt) ∧ w.cell? ⟨p, 7, none⟩ = some (.bool s.max.null) ∧ w.cell? ⟨p, 8, none⟩ = some (.int .i64 s.max.int.toInt) ∧ w.cell? ⟨p, 9, none⟩ = some (.string s.max.text) ∧ w.cell? ⟨p, 10, none⟩ = some (.int .i64 s.max.x.toInt) ∧ w.cell? ⟨p, 11, none⟩ = some (.int .i64 s.max.y.toInt) :=
  ⟨h.cell 0, h.cell 1, h.cell 2, h.cell 3, h.cell 4, h.cell 5, h.cell 6, h.cell 7, h.cell 8, h.cell 9, h.cell 10, h.cell 11⟩
def St.zero : St := ⟨0, false, Cell.zero, Cell.zero⟩
/-- May a stat be? -/
def rightS (typ : Int) (s : St) : Bool :=
  known typ && decide (0 ≤ s.nulls.toInt) && decide (s.nulls.toInt ≤ 65536) &&
    (if s.has = true then rightC typ false s.min && rightC typ false s.max && decide (cmpC typ s.min s.max ≤ 0) else decide (s.min = Cell.zero) && decide (s.max = Cell.zero))
/-- May cells of a stat have a cell? -/
def mayS (typ : Int) (s : St) (c : Cell) : Bool :=
  if c.null = true then decide (0 < s.nulls.toInt) else s.has && decide (0 ≤ cmpC typ c s.min) && decide (cmpC typ c s.max ≤ 0)

set_option maxHeartbeats 2000000 in
theorem may_prog (typ : Int) (s : St) (c : Cell) (W : World) (hn : c.null = false → s.has = true → typ = 3 → c.near ∧ s.min.near ∧ s.max.near) :
    Calls Try.prog 19 #[.int .i64 typ, stVal s, cellVal c] W fun e W' => e = .returned (.bool (mayS typ s c)) ∧ Keep [] W W' := by
  obtain ⟨v, hv⟩ : ∃ v, Hid (mayS typ s c = v) := ⟨_, rfl⟩
  rw [hv.out]
  have v1 : c.null = true → Hid (v = decide (0 < s.nulls.toInt)) := fun h => by rw [Hid, ← hv.out, mayS, if_pos h]
  have v2 : c.null = false → Hid (v = (s.has && decide (0 ≤ cmpC typ c s.min) && decide (cmpC typ c s.max ≤ 0))) := fun h => by rw [Hid, ← hv.out, mayS, if_neg (by simp [h])]
  obtain ⟨W2, hW2⟩ : ∃ W2, (W.alloc (.cells #[.int .i64 s.nulls.toInt, .bool s.has, .bool s.min.null, .int .i64 s.min.int.toInt, .string s.min.text, .int .i64 s.min.x.toInt, .int .i64 s.min.y.toInt, .bool s.max.null, .int .i64 s.max.int.toInt, .string s.max.text, .int .i64 s.max.x.toInt, .int .i64 s.max.y.toInt] 31)).alloc (.cells #[.bool c.null, .int .i64 c.int.toInt, .string c.text, .int .i64 c.x.toInt, .int .i64 c.y.toInt] 29) = W2 := ⟨_, rfl⟩
  have hk2 : Keep [] W W2 := by rw [← hW2]; exact ((Keep.refl _ _).alloc _).alloc _
  have hb1 : Blk W2 W.heap.size 31 s.cs := by rw [← hW2]; exact (Blk.new W 31 _).alloc _
  have hb2 : Blk W2 (W.heap.size + 1) 29 [.bool c.null, .int .i64 c.int.toInt, .string c.text, .int .i64 c.x.toInt, .int .i64 c.y.toInt] := by rw [← hW2]; exact blk_alloc2 _ _ _ _
  obtain ⟨a0, a1, a2, a3, a4, a5, a6, a7, a8, a9, a10, a11⟩ := stAt hb1
  obtain ⟨⟨c0, c1, c2, c3, c4⟩, _⟩ := blk5 hb2
  cases hcn : c.null with
  | true =>
    have v3 := v1 hcn
    clear v1 v2 hn hv
    rw [hcn] at c0 hW2
    go_enter Try.func19, Try.ntmps19
    go_wp2
    go_ret
    exact ⟨ret_b (by rw [v3.out]), hk2⟩
  | false =>
    have v3 := v2 hcn
    have hcv : cellVal c = .agg #[.bool false, .int .i64 c.int.toInt, .string c.text, .int .i64 c.x.toInt, .int .i64 c.y.toInt] := by rw [cellVal, hcn]
    rw [hcn] at c0 hW2 hb2
    clear v1 v2 hv
    cases hh : s.has with
    | false =>
      rw [hh, Bool.false_and, Bool.false_and] at v3
      rw [hh] at a1 hW2
      go_enter Try.func19, Try.ntmps19
      go_wp2
      go_ret
      exact ⟨ret_b (by rw [v3.out]), hk2⟩
    | true =>
      rw [hh, Bool.true_and] at v3
      rw [hh] at a1 hW2
      have C1 := fun w => cellCompare_prog typ c s.min w (fun h => ⟨(hn hcn hh h).1, (hn hcn hh h).2.1⟩)
      have C2 := fun w => cellCompare_prog typ c s.max w (fun h => ⟨(hn hcn hh h).1, (hn hcn hh h).2.2⟩)
      clear hn
      simp only [hcv] at C1 C2
      rw [hcv]
      generalize cmpC typ c s.min = z1 at *
      generalize cmpC typ c s.max = z2 at *
      replace C1 := Lib.hid C1
      replace C2 := Lib.hid C2
      go_enter Try.func19, Try.ntmps19
      go_wp2_with fail
      refine (C1.out _).mono ?_
      rintro e w3 ⟨rfl, hk3⟩
      by_cases hz : 0 ≤ z1
      · rw [decide_eq_true hz, Bool.true_and] at v3
        obtain ⟨b0, b1, b2, b3, b4, b5, b6, b7, b8, b9, b10, b11⟩ := stAt (hb1.keep hk3 (by simp))
        obtain ⟨⟨d0, d1, d2, d3, d4⟩, _⟩ := blk5 (hb2.keep hk3 (by simp))
        rw [hh] at b1
        go_wp2_with fail
        refine (C2.out _).mono ?_
        rintro e w4 ⟨rfl, hk4⟩
        go_wp2
        go_ret
        exact ⟨ret_b (by rw [v3.out]), (hk2.trans hk3).trans hk4⟩
      · rw [decide_eq_false hz, Bool.false_and] at v3
        go_wp2
        go_ret
        exact ⟨ret_b (by rw [v3.out]), hk2.trans hk3⟩

set_option maxHeartbeats 2000000 in
theorem may_ref (typ : Int) (s : St) (c : Cell) (W : World) (hn : c.null = false → s.has = true → typ = 3 → c.near ∧ s.min.near ∧ s.max.near) :
    Calls Try.prog 29 #[.int .i64 typ, stVal s, cellVal c] W fun e W' => e = .returned (.bool (mayS typ s c)) ∧ Keep [] W W' := by
  obtain ⟨v, hv⟩ : ∃ v, Hid (mayS typ s c = v) := ⟨_, rfl⟩
  rw [hv.out]
  have v1 : c.null = true → Hid (v = decide (0 < s.nulls.toInt)) := fun h => by rw [Hid, ← hv.out, mayS, if_pos h]
  have v2 : c.null = false → Hid (v = (s.has && decide (0 ≤ cmpC typ c s.min) && decide (cmpC typ c s.max ≤ 0))) := fun h => by rw [Hid, ← hv.out, mayS, if_neg (by simp [h])]
  obtain ⟨W2, hW2⟩ : ∃ W2, (W.alloc (.cells #[.int .i64 s.nulls.toInt, .bool s.has, .bool s.min.null, .int .i64 s.min.int.toInt, .string s.min.text, .int .i64 s.min.x.toInt, .int .i64 s.min.y.toInt, .bool s.max.null, .int .i64 s.max.int.toInt, .string s.max.text, .int .i64 s.max.x.toInt, .int .i64 s.max.y.toInt] 31)).alloc (.cells #[.bool c.null, .int .i64 c.int.toInt, .string c.text, .int .i64 c.x.toInt, .int .i64 c.y.toInt] 29) = W2 := ⟨_, rfl⟩
  have hk2 : Keep [] W W2 := by rw [← hW2]; exact ((Keep.refl _ _).alloc _).alloc _
  have hb1 : Blk W2 W.heap.size 31 s.cs := by rw [← hW2]; exact (Blk.new W 31 _).alloc _
  have hb2 : Blk W2 (W.heap.size + 1) 29 [.bool c.null, .int .i64 c.int.toInt, .string c.text, .int .i64 c.x.toInt, .int .i64 c.y.toInt] := by rw [← hW2]; exact blk_alloc2 _ _ _ _
  obtain ⟨a0, a1, a2, a3, a4, a5, a6, a7, a8, a9, a10, a11⟩ := stAt hb1
  obtain ⟨⟨c0, c1, c2, c3, c4⟩, _⟩ := blk5 hb2
  cases hcn : c.null with
  | true =>
    have v3 := v1 hcn
    clear v1 v2 hn hv
    rw [hcn] at c0 hW2
    go_enter Try.func29, Try.ntmps29
    go_wp2
    go_ret
    exact ⟨ret_b (by rw [v3.out]), hk2⟩
  | false =>
    have v3 := v2 hcn
    have hcv : cellVal c = .agg #[.bool false, .int .i64 c.int.toInt, .string c.text, .int .i64 c.x.toInt, .int .i64 c.y.toInt] := by rw [cellVal, hcn]
    rw [hcn] at c0 hW2 hb2
    clear v1 v2 hv
    cases hh : s.has with
    | false =>
      rw [hh, Bool.false_and, Bool.false_and] at v3
      rw [hh] at a1 hW2
      go_enter Try.func29, Try.ntmps29
      go_wp2
      go_ret
      exact ⟨ret_b (by rw [v3.out]), hk2⟩
    | true =>
      rw [hh, Bool.true_and] at v3
      rw [hh] at a1 hW2
      have C1 := fun w => cellCompare_ref typ c s.min w (fun h => ⟨(hn hcn hh h).1, (hn hcn hh h).2.1⟩)
      have C2 := fun w => cellCompare_ref typ c s.max w (fun h => ⟨(hn hcn hh h).1, (hn hcn hh h).2.2⟩)
      clear hn
      simp only [hcv] at C1 C2
      rw [hcv]
      generalize cmpC typ c s.min = z1 at *
      generalize cmpC typ c s.max = z2 at *
      replace C1 := Lib.hid C1
      replace C2 := Lib.hid C2
      go_enter Try.func29, Try.ntmps29
      go_wp2_with fail
      refine (C1.out _).mono ?_
      rintro e w3 ⟨rfl, hk3⟩
      by_cases hz : 0 ≤ z1
      · rw [decide_eq_true hz, Bool.true_and] at v3
        obtain ⟨b0, b1, b2, b3, b4, b5, b6, b7, b8, b9, b10, b11⟩ := stAt (hb1.keep hk3 (by simp))
        obtain ⟨⟨d0, d1, d2, d3, d4⟩, _⟩ := blk5 (hb2.keep hk3 (by simp))
        rw [hh] at b1
        go_wp2_with fail
        refine (C2.out _).mono ?_
        rintro e w4 ⟨rfl, hk4⟩
        go_wp2
        go_ret
        exact ⟨ret_b (by rw [v3.out]), (hk2.trans hk3).trans hk4⟩
      · rw [decide_eq_false hz, Bool.false_and] at v3
        go_wp2
        go_ret
        exact ⟨ret_b (by rw [v3.out]), hk2.trans hk3⟩
end Go.Proofs.Ytejbfknhnhhlfaa

namespace Go.Proofs.Ytejbfknhnhhlfaa
open Go Go.RowKit
set_option maxRecDepth 10000
set_option linter.unusedVariables false
set_option linter.unusedSimpArgs false

theorem eql_zero (c : Cell) (w : World) : (binOp .eql 29 (.agg #[.bool c.null, .int .i64 c.int.toInt, .string c.text, .int .i64 c.x.toInt, .int .i64 c.y.toInt]) (.agg #[.bool false, .int .i64 0, .string { data := #[] }, .int .i64 0, .int .i64 0])).run Try.prog w = .ok (.bool (decide (c = Cell.zero))) w := eql_cell c Cell.zero w
theorem rightS_bad {typ : Int} {s : St} (h : ¬ (0 ≤ typ ∧ typ ≤ 3 ∧ 0 ≤ s.nulls.toInt ∧ s.nulls.toInt ≤ 65536)) : rightS typ s = false := by
  rw [Bool.eq_false_iff]
  intro h'
  simp only [rightS, known, Bool.and_eq_true, decide_eq_true_eq] at h'
  omega
theorem rightS_ok {typ : Int} {s : St} (h : 0 ≤ typ ∧ typ ≤ 3 ∧ 0 ≤ s.nulls.toInt ∧ s.nulls.toInt ≤ 65536) : rightS typ s = (if s.has = true then rightC typ false s.min && rightC typ false s.max && decide (cmpC typ s.min s.max ≤ 0) else decide (s.min = Cell.zero) && decide (s.max = Cell.zero)) := by
  rw [rightS, known, decide_eq_true h.1, decide_eq_true (show typ < 4 by omega), decide_eq_true h.2.2.1, decide_eq_true h.2.2.2]
  rfl

set_option maxHeartbeats 4000000 in
theorem rightS_prog (typ : Int) (s : St) (W : World) :
    Calls Try.prog 20 #[.int .i64 typ, stVal s] W fun e W' => e = .returned (.bool (rightS typ s)) ∧ Keep [] W W' := by
  obtain ⟨v, hv⟩ : ∃ v, Hid (rightS typ s = v) := ⟨_, rfl⟩
  rw [hv.out]
  have vbad : ¬ (0 ≤ typ ∧ typ ≤ 3 ∧ 0 ≤ s.nulls.toInt ∧ s.nulls.toInt ≤ 65536) → Hid (v = false) := fun h => by rw [Hid, ← hv.out, rightS_bad h]
  have v2 : (0 ≤ typ ∧ typ ≤ 3 ∧ 0 ≤ s.nulls.toInt ∧ s.nulls.toInt ≤ 65536) → s.has = false → Hid (v = (decide (s.min = Cell.zero) && decide (s.max = Cell.zero))) := fun h h' => by rw [Hid, ← hv.out, rightS_ok h, if_neg (by simp [h'])]
  have v3 : (0 ≤ typ ∧ typ ≤ 3 ∧ 0 ≤ s.nulls.toInt ∧ s.nulls.toInt ≤ 65536) → s.has = true → Hid (v = (rightC typ false s.min && rightC typ false s.max && decide (cmpC typ s.min s.max ≤ 0))) := fun h h' => by rw [Hid, ← hv.out, rightS_ok h, if_pos h']
  obtain ⟨W2, hW2⟩ : ∃ W2, (W.alloc (.cells #[.int .i64 s.nulls.toInt, .bool s.has, .bool s.min.null, .int .i64 s.min.int.toInt, .string s.min.text, .int .i64 s.min.x.toInt, .int .i64 s.min.y.toInt, .bool s.max.null, .int .i64 s.max.int.toInt, .string s.max.text, .int .i64 s.max.x.toInt, .int .i64 s.max.y.toInt] 31)).alloc (.cells #[.string { data := #[] }, .int .i64 typ, .bool false] 63) = W2 := ⟨_, rfl⟩
  have hk2 : Keep [] W W2 := by rw [← hW2]; exact ((Keep.refl _ _).alloc _).alloc _
  have hb1 : Blk W2 W.heap.size 31 s.cs := by rw [← hW2]; exact (Blk.new W 31 _).alloc _
  have hb2 : Blk W2 (W.heap.size + 1) 63 [.string { data := #[] }, .int .i64 typ, .bool false] := by rw [← hW2]; exact blk_alloc2 _ _ _ _
  have c0 := hb2.cell 0
  have c1 := hb2.cell 1
  have c2 := hb2.cell 2
  simp only [List.getElem?_cons_zero, List.getElem?_cons_succ] at c0 c1 c2
  clear c0 c1 c2
  subst hW2
  by_cases q0 : typ < 0
  · have v1 := vbad (by omega)
    clear vbad v2 v3 hv
    cases hh : s.has with
    | false =>
      rw [hh] at hk2 hb1 hb2
      go_enter Try.func20, Try.ntmps20
      go_wp2
      go_ret
      exact ⟨ret_b (by rw [v1.out]), hk2⟩
    | true =>
      rw [hh] at hk2 hb1 hb2
      go_enter Try.func20, Try.ntmps20
      go_wp2
      go_ret
      exact ⟨ret_b (by rw [v1.out]), hk2⟩
  by_cases q1 : 3 < typ
  · have v1 := vbad (by omega)
    clear vbad v2 v3 hv
    cases hh : s.has with
    | false =>
      rw [hh] at hk2 hb1 hb2
      go_enter Try.func20, Try.ntmps20
      go_wp2
      go_ret
      exact ⟨ret_b (by rw [v1.out]), hk2⟩
    | true =>
      rw [hh] at hk2 hb1 hb2
      go_enter Try.func20, Try.ntmps20
      go_wp2
      go_ret
      exact ⟨ret_b (by rw [v1.out]), hk2⟩
  by_cases q2 : s.nulls.toInt < 0
  · have v1 := vbad (by omega)
    clear vbad v2 v3 hv
    cases hh : s.has with
    | false =>
      rw [hh] at hk2 hb1 hb2
      go_enter Try.func20, Try.ntmps20
      go_wp2
      go_ret
      exact ⟨ret_b (by rw [v1.out]), hk2⟩
    | true =>
      rw [hh] at hk2 hb1 hb2
      go_enter Try.func20, Try.ntmps20
      go_wp2
      go_ret
      exact ⟨ret_b (by rw [v1.out]), hk2⟩
  by_cases q3 : 65536 < s.nulls.toInt
  · have v1 := vbad (by omega)
    clear vbad v2 v3 hv
    cases hh : s.has with
    | false =>
      rw [hh] at hk2 hb1 hb2
      go_enter Try.func20, Try.ntmps20
      go_wp2
      go_ret
      exact ⟨ret_b (by rw [v1.out]), hk2⟩
    | true =>
      rw [hh] at hk2 hb1 hb2
      go_enter Try.func20, Try.ntmps20
      go_wp2
      go_ret
      exact ⟨ret_b (by rw [v1.out]), hk2⟩
  have hok : 0 ≤ typ ∧ typ ≤ 3 ∧ 0 ≤ s.nulls.toInt ∧ s.nulls.toInt ≤ 65536 := by omega
  clear vbad hv
  cases hh : s.has with
  | false =>
    have v1 := v2 hok hh
    clear v2 v3
    rw [hh] at hk2 hb1 hb2
    have e1 := eql_zero s.min
    have e2 := eql_zero s.max
    generalize decide (s.min = Cell.zero) = m1 at *
    generalize decide (s.max = Cell.zero) = m2 at *
    cases m1 with
    | false =>
      go_enter Try.func20, Try.ntmps20
      go_wp2
      go_ret
      exact ⟨ret_b (by rw [v1.out]; rfl), hk2⟩
    | true =>
      go_enter Try.func20, Try.ntmps20
      go_wp2
      go_ret
      exact ⟨ret_b (by rw [v1.out]; rfl), hk2⟩
  | true =>
    have v1 := v3 hok hh
    clear v2 v3
    rw [hh] at hk2 hb1 hb2
    have C1 := fun w => cellRight_prog s.min { data := #[] } typ false w
    have C2 := fun w => cellRight_prog s.max { data := #[] } typ false w
    have hnr : rightC typ false s.min = true → rightC typ false s.max = true → s.min.near ∧ s.max.near := fun h h' => ⟨rightC_near h, rightC_near h'⟩
    generalize rightC typ false s.min = m1 at *
    generalize rightC typ false s.max = m2 at *
    replace C1 := Lib.hid C1
    replace C2 := Lib.hid C2
    cases m1 with
    | false =>
      clear hnr
      go_enter Try.func20, Try.ntmps20
      go_wp2_with fail
      refine (C1.out _).mono ?_
      rintro e w3 ⟨rfl, hk3⟩
      go_wp2
      go_ret
      exact ⟨ret_b (by rw [v1.out]; rfl), hk2.trans hk3⟩
    | true =>
      rw [Bool.true_and] at v1
      cases m2 with
      | false =>
        clear hnr
        go_enter Try.func20, Try.ntmps20
        go_wp2_with fail
        refine (C1.out _).mono ?_
        rintro e w3 ⟨rfl, hk3⟩
        obtain ⟨b0, b1, b2, b3, b4, b5, b6, b7, b8, b9, b10, b11⟩ := stAt (hb1.keep hk3 (by simp))
        have hb4 := hb2.keep hk3 (by simp)
        have d0 := hb4.cell 0
        have d1 := hb4.cell 1
        have d2 := hb4.cell 2
        simp only [List.getElem?_cons_zero, List.getElem?_cons_succ] at d0 d1 d2
        go_wp2_with fail
        refine (C2.out _).mono ?_
        rintro e w4 ⟨rfl, hk4⟩
        go_wp2
        go_ret
        exact ⟨ret_b (by rw [v1.out]; rfl), (hk2.trans hk3).trans hk4⟩
      | true =>
        rw [Bool.true_and] at v1
        have hnr2 := hnr rfl rfl
        have C3 := fun w => cellCompare_prog typ s.min s.max w (fun _ => hnr2)
        generalize cmpC typ s.min s.max = z at *
        replace C3 := Lib.hid C3
        clear hnr hnr2
        go_enter Try.func20, Try.ntmps20
        go_wp2_with fail
        refine (C1.out _).mono ?_
        rintro e w3 ⟨rfl, hk3⟩
        obtain ⟨b0, b1, b2, b3, b4, b5, b6, b7, b8, b9, b10, b11⟩ := stAt (hb1.keep hk3 (by simp))
        have hb4 := hb2.keep hk3 (by simp)
        have d0 := hb4.cell 0
        have d1 := hb4.cell 1
        have d2 := hb4.cell 2
        simp only [List.getElem?_cons_zero, List.getElem?_cons_succ] at d0 d1 d2
        go_wp2_with fail
        refine (C2.out _).mono ?_
        rintro e w4 ⟨rfl, hk4⟩
        obtain ⟨g0, g1, g2, g3, g4, g5, g6, g7, g8, g9, g10, g11⟩ := stAt ((hb1.keep hk3 (by simp)).keep hk4 (by simp))
        go_wp2_with fail
        refine (C3.out _).mono ?_
        rintro e w5 ⟨rfl, hk5⟩
        go_wp2
        go_ret
        exact ⟨ret_b (by rw [v1.out]), ((hk2.trans hk3).trans hk4).trans hk5⟩

set_option maxHeartbeats 4000000 in
theorem rightS_ref (typ : Int) (s : St) (W : World) :
    Calls Try.prog 21 #[.int .i64 typ, stVal s] W fun e W' => e = .returned (.bool (rightS typ s)) ∧ Keep [] W W' := by
  obtain ⟨v, hv⟩ : ∃ v, Hid (rightS typ s = v) := ⟨_, rfl⟩
  rw [hv.out]
  have vbad : ¬ (0 ≤ typ ∧ typ ≤ 3 ∧ 0 ≤ s.nulls.toInt ∧ s.nulls.toInt ≤ 65536) → Hid (v = false) := fun h => by rw [Hid, ← hv.out, rightS_bad h]
  have v2 : (0 ≤ typ ∧ typ ≤ 3 ∧ 0 ≤ s.nulls.toInt ∧ s.nulls.toInt ≤ 65536) → s.has = false → Hid (v = (decide (s.min = Cell.zero) && decide (s.max = Cell.zero))) := fun h h' => by rw [Hid, ← hv.out, rightS_ok h, if_neg (by simp [h'])]
  have v3 : (0 ≤ typ ∧ typ ≤ 3 ∧ 0 ≤ s.nulls.toInt ∧ s.nulls.toInt ≤ 65536) → s.has = true → Hid (v = (rightC typ false s.min && rightC typ false s.max && decide (cmpC typ s.min s.max ≤ 0))) := fun h h' => by rw [Hid, ← hv.out, rightS_ok h, if_pos h']
  obtain ⟨W2, hW2⟩ : ∃ W2, (W.alloc (.cells #[.int .i64 s.nulls.toInt, .bool s.has, .bool s.min.null, .int .i64 s.min.int.toInt, .string s.min.text, .int .i64 s.min.x.toInt, .int .i64 s.min.y.toInt, .bool s.max.null, .int .i64 s.max.int.toInt, .string s.max.text, .int .i64 s.max.x.toInt, .int .i64 s.max.y.toInt] 31)) = W2 := ⟨_, rfl⟩
  have hk2 : Keep [] W W2 := by rw [← hW2]; exact (Keep.refl _ _).alloc _
  have hb1 : Blk W2 W.heap.size 31 s.cs := by rw [← hW2]; exact Blk.new W 31 _
  obtain ⟨a0, a1, a2, a3, a4, a5, a6, a7, a8, a9, a10, a11⟩ := stAt hb1
  by_cases q0 : typ < 0
  · have v1 := vbad (by omega)
    clear vbad v2 v3 hv
    cases hh : s.has with
    | false =>
      rw [hh] at a1 hW2
      go_enter Try.func21, Try.ntmps21
      go_wp2
      go_ret
      exact ⟨ret_b (by rw [v1.out]), hk2⟩
    | true =>
      rw [hh] at a1 hW2
      go_enter Try.func21, Try.ntmps21
      go_wp2
      go_ret
      exact ⟨ret_b (by rw [v1.out]), hk2⟩
  by_cases q1 : 3 < typ
  · have v1 := vbad (by omega)
    clear vbad v2 v3 hv
    cases hh : s.has with
    | false =>
      rw [hh] at a1 hW2
      go_enter Try.func21, Try.ntmps21
      go_wp2
      go_ret
      exact ⟨ret_b (by rw [v1.out]), hk2⟩
    | true =>
      rw [hh] at a1 hW2
      go_enter Try.func21, Try.ntmps21
      go_wp2
      go_ret
      exact ⟨ret_b (by rw [v1.out]), hk2⟩
  by_cases q2 : s.nulls.toInt < 0
  · have v1 := vbad (by omega)
    clear vbad v2 v3 hv
    cases hh : s.has with
    | false =>
      rw [hh] at a1 hW2
      go_enter Try.func21, Try.ntmps21
      go_wp2
      go_ret
      exact ⟨ret_b (by rw [v1.out]), hk2⟩
    | true =>
      rw [hh] at a1 hW2
      go_enter Try.func21, Try.ntmps21
      go_wp2
      go_ret
      exact ⟨ret_b (by rw [v1.out]), hk2⟩
  by_cases q3 : 65536 < s.nulls.toInt
  · have v1 := vbad (by omega)
    clear vbad v2 v3 hv
    cases hh : s.has with
    | false =>
      rw [hh] at a1 hW2
      go_enter Try.func21, Try.ntmps21
      go_wp2
      go_ret
      exact ⟨ret_b (by rw [v1.out]), hk2⟩
    | true =>
      rw [hh] at a1 hW2
      go_enter Try.func21, Try.ntmps21
      go_wp2
      go_ret
      exact ⟨ret_b (by rw [v1.out]), hk2⟩
  have hok : 0 ≤ typ ∧ typ ≤ 3 ∧ 0 ≤ s.nulls.toInt ∧ s.nulls.toInt ≤ 65536 := by omega
  clear vbad hv
  cases hh : s.has with
  | false =>
    have v1 := v2 hok hh
    clear v2 v3
    rw [hh] at a1 hW2
    have e1 := eql_zero s.min
    have e2 := eql_zero s.max
    generalize decide (s.min = Cell.zero) = m1 at *
    generalize decide (s.max = Cell.zero) = m2 at *
    cases m1 with
    | false =>
      go_enter Try.func21, Try.ntmps21
      go_wp2
      go_ret
      exact ⟨ret_b (by rw [v1.out]; rfl), hk2⟩
    | true =>
      go_enter Try.func21, Try.ntmps21
      go_wp2
      go_ret
      exact ⟨ret_b (by rw [v1.out]; rfl), hk2⟩
  | true =>
    have v1 := v3 hok hh
    clear v2 v3
    rw [hh] at a1 hW2
    have C1 := fun w => cellRight_ref s.min { data := #[] } typ false w
    have C2 := fun w => cellRight_ref s.max { data := #[] } typ false w
    have hnr : rightC typ false s.min = true → rightC typ false s.max = true → s.min.near ∧ s.max.near := fun h h' => ⟨rightC_near h, rightC_near h'⟩
    generalize rightC typ false s.min = m1 at *
    generalize rightC typ false s.max = m2 at *
    replace C1 := Lib.hid C1
    replace C2 := Lib.hid C2
    go_enter Try.func21, Try.ntmps21
    go_wp2_with fail
    refine (C1.out _).mono ?_
    rintro e w3 ⟨rfl, hk3⟩
    obtain ⟨b0, b1, b2, b3, b4, b5, b6, b7, b8, b9, b10, b11⟩ := stAt (hb1.keep hk3 (by simp))
    go_wp2_with fail
    refine (C2.out _).mono ?_
    rintro e w4 ⟨rfl, hk4⟩
    obtain ⟨g0, g1, g2, g3, g4, g5, g6, g7, g8, g9, g10, g11⟩ := stAt ((hb1.keep hk3 (by simp)).keep hk4 (by simp))
    cases m1 with
    | false =>
      clear hnr
      go_wp2
      go_ret
      exact ⟨ret_b (by rw [v1.out]; rfl), (hk2.trans hk3).trans hk4⟩
    | true =>
      rw [Bool.true_and] at v1
      cases m2 with
      | false =>
        clear hnr
        go_wp2
        go_ret
        exact ⟨ret_b (by rw [v1.out]; rfl), (hk2.trans hk3).trans hk4⟩
      | true =>
        rw [Bool.true_and] at v1
        have hnr2 := hnr rfl rfl
        have C3 := fun w => cellCompare_ref typ s.min s.max w (fun _ => hnr2)
        generalize cmpC typ s.min s.max = z at *
        replace C3 := Lib.hid C3
        clear hnr hnr2
        go_wp2_with fail
        refine (C3.out _).mono ?_
        rintro e w5 ⟨rfl, hk5⟩
        go_wp2
        go_ret
        exact ⟨ret_b (by rw [v1.out]), ((hk2.trans hk3).trans hk4).trans hk5⟩
end Go.Proofs.Ytejbfknhnhhlfaa

namespace Go.Proofs.Ytejbfknhnhhlfaa
open Go Go.RowKit
set_option maxRecDepth 10000
set_option linter.unusedVariables false
set_option linter.unusedSimpArgs false

theorem ret_st {fn : Func} {p : Tmp} (h : fn.results = #[.cell p 31]) {tmps : Array Value} {w : World} {g : Nat} (s : St) (hp : tmps.getD p undef = .pointer (some ⟨g, 0, none⟩)) (hb : Blk w g 31 s.cs) :
    (results fn tmps).run Try.prog w = .ok (stVal s) w :=
  results_cell_row h tmps w g 31 _ (0, 0) _ hp hb Try.underlying31 rfl (by show (Try.prog.info? 31).map (·.size) = some 12; kernel_rfl)

/-- The stat of one cell. -/
def singleS (c : Cell) : St := if c.null = true then ⟨1, false, Cell.zero, Cell.zero⟩ else ⟨0, true, c, c⟩
/-- The stat of cells and others. -/
def mergeS (typ : Int) (a b : St) : St :=
  if b.has = false then { a with nulls := Int64.ofInt (a.nulls.toInt + b.nulls.toInt) }
  else if a.has = false then { b with nulls := Int64.ofInt (a.nulls.toInt + b.nulls.toInt) }
  else ⟨Int64.ofInt (a.nulls.toInt + b.nulls.toInt), true, if cmpC typ b.min a.min < 0 then b.min else a.min, if 0 < cmpC typ b.max a.max then b.max else a.max⟩

set_option maxHeartbeats 1000000 in
theorem single_prog (c : Cell) (W : World) : Calls Try.prog 37 #[cellVal c] W fun e W' => e = .returned (stVal (singleS c)) ∧ Keep [] W W' := by
  cases hn : c.null with
  | true =>
    have hv : singleS c = ⟨1, false, Cell.zero, Cell.zero⟩ := by rw [singleS, if_pos hn]
    rw [hv]
    clear hv
    go_enter Try.func37, Try.ntmps37
    go_wp2
    exact bodyPost_ret (ret_st rfl ⟨1, false, Cell.zero, Cell.zero⟩ rfl (blk_alloc2 W _ _ _)) rfl ⟨rfl, ((Keep.refl _ _).alloc _).alloc _⟩
  | false =>
    have hv : singleS c = ⟨0, true, ⟨false, c.int, c.text, c.x, c.y⟩, ⟨false, c.int, c.text, c.x, c.y⟩⟩ := by
      rw [singleS, if_neg (by simp [hn])]
      have : c = ⟨false, c.int, c.text, c.x, c.y⟩ := by rw [← hn]
      rw [← this]
    rw [hv]
    clear hv
    go_enter Try.func37, Try.ntmps37
    go_wp2
    exact bodyPost_ret (ret_st rfl ⟨0, true, ⟨false, c.int, c.text, c.x, c.y⟩, ⟨false, c.int, c.text, c.x, c.y⟩⟩ rfl (blk_alloc2 W _ _ _)) rfl ⟨rfl, ((Keep.refl _ _).alloc _).alloc _⟩

set_option maxHeartbeats 1000000 in
theorem merge_prog (typ : Int) (a b : St) (W : World) (hs : isI64 (a.nulls.toInt + b.nulls.toInt)) (hn : a.has = true → b.has = true → typ = 3 → b.min.near ∧ a.min.near ∧ b.max.near ∧ a.max.near) :
    Calls Try.prog 17 #[.int .i64 typ, stVal a, stVal b] W fun e W' => e = .returned (stVal (mergeS typ a b)) ∧ Keep [] W W' := by
  have hsum : Hid ((Int64.ofInt (a.nulls.toInt + b.nulls.toInt)).toInt = a.nulls.toInt + b.nulls.toInt) := toI hs
  obtain ⟨r, hr⟩ : ∃ r, Hid (mergeS typ a b = r) := ⟨_, rfl⟩
  rw [hr.out]
  unfold isI64 at hs
  cases hb : b.has with
  | false =>
    have v1 : Hid (r = { a with nulls := Int64.ofInt (a.nulls.toInt + b.nulls.toInt) }) := by rw [Hid, ← hr.out, mergeS, if_pos hb]
    clear hn
    go_enter Try.func17, Try.ntmps17
    go_wp2
    refine bodyPost_ret (ret_st rfl r rfl ?_) rfl ⟨rfl, (((Keep.refl _ _).alloc _).alloc _).alloc _⟩
    rw [v1.out]
    have hB := Blk.new ((W.alloc (.cells #[.int .i64 (a.nulls.toInt + b.nulls.toInt), .bool a.has, .bool a.min.null, .int .i64 a.min.int.toInt, .string a.min.text, .int .i64 a.min.x.toInt, .int .i64 a.min.y.toInt, .bool a.max.null, .int .i64 a.max.int.toInt, .string a.max.text, .int .i64 a.max.x.toInt, .int .i64 a.max.y.toInt] 31)).alloc (.cells #[.int .i64 b.nulls.toInt, .bool false, .bool b.min.null, .int .i64 b.min.int.toInt, .string b.min.text, .int .i64 b.min.x.toInt, .int .i64 b.min.y.toInt, .bool b.max.null, .int .i64 b.max.int.toInt, .string b.max.text, .int .i64 b.max.x.toInt, .int .i64 b.max.y.toInt] 31)) 31 [.int .i64 (a.nulls.toInt + b.nulls.toInt), .bool a.has, .bool a.min.null, .int .i64 a.min.int.toInt, .string a.min.text, .int .i64 a.min.x.toInt, .int .i64 a.min.y.toInt, .bool a.max.null, .int .i64 a.max.int.toInt, .string a.max.text, .int .i64 a.max.x.toInt, .int .i64 a.max.y.toInt]
    rw [World.size_alloc, World.size_alloc] at hB
    simp only [St.cs, hsum.out]
    exact hB
  | true =>
    cases ha : a.has with
    | false =>
      have v1 : Hid (r = { b with nulls := Int64.ofInt (a.nulls.toInt + b.nulls.toInt) }) := by rw [Hid, ← hr.out, mergeS, if_neg (by simp [hb]), if_pos ha]
      clear hn
      go_enter Try.func17, Try.ntmps17
      go_wp2
      refine bodyPost_ret (ret_st rfl r rfl ?_) rfl ⟨rfl, (((Keep.refl _ _).alloc _).alloc _).alloc _⟩
      rw [v1.out]
      have hB := Blk.new ((W.alloc (.cells #[.int .i64 (a.nulls.toInt + b.nulls.toInt), .bool true, .bool b.min.null, .int .i64 b.min.int.toInt, .string b.min.text, .int .i64 b.min.x.toInt, .int .i64 b.min.y.toInt, .bool b.max.null, .int .i64 b.max.int.toInt, .string b.max.text, .int .i64 b.max.x.toInt, .int .i64 b.max.y.toInt] 31)).alloc (.cells #[.int .i64 b.nulls.toInt, .bool true, .bool b.min.null, .int .i64 b.min.int.toInt, .string b.min.text, .int .i64 b.min.x.toInt, .int .i64 b.min.y.toInt, .bool b.max.null, .int .i64 b.max.int.toInt, .string b.max.text, .int .i64 b.max.x.toInt, .int .i64 b.max.y.toInt] 31)) 31 [.int .i64 (a.nulls.toInt + b.nulls.toInt), .bool true, .bool b.min.null, .int .i64 b.min.int.toInt, .string b.min.text, .int .i64 b.min.x.toInt, .int .i64 b.min.y.toInt, .bool b.max.null, .int .i64 b.max.int.toInt, .string b.max.text, .int .i64 b.max.x.toInt, .int .i64 b.max.y.toInt]
      rw [World.size_alloc, World.size_alloc] at hB
      simp only [St.cs, hsum.out, hb]
      exact hB
    | true =>
      have v1 : r = ⟨Int64.ofInt (a.nulls.toInt + b.nulls.toInt), true, if cmpC typ b.min a.min < 0 then b.min else a.min, if 0 < cmpC typ b.max a.max then b.max else a.max⟩ := by
        rw [← hr.out, mergeS, if_neg (by simp [hb]), if_neg (by simp [ha])]
      have C1 := fun w => cellCompare_prog typ b.min a.min w (fun h => ⟨(hn ha hb h).1, (hn ha hb h).2.1⟩)
      have C2 := fun w => cellCompare_prog typ b.max a.max w (fun h => (hn ha hb h).2.2)
      clear hn
      generalize cmpC typ b.min a.min = z1 at *
      generalize cmpC typ b.max a.max = z2 at *
      replace C1 := Lib.hid C1
      replace C2 := Lib.hid C2
      replace v1 := Lib.hid v1
      have hk0 : Keep [] W (((W.alloc (.cells #[.int .i64 a.nulls.toInt, .bool true, .bool a.min.null, .int .i64 a.min.int.toInt, .string a.min.text, .int .i64 a.min.x.toInt, .int .i64 a.min.y.toInt, .bool a.max.null, .int .i64 a.max.int.toInt, .string a.max.text, .int .i64 a.max.x.toInt, .int .i64 a.max.y.toInt] 31)).alloc (.cells #[.int .i64 b.nulls.toInt, .bool true, .bool b.min.null, .int .i64 b.min.int.toInt, .string b.min.text, .int .i64 b.min.x.toInt, .int .i64 b.min.y.toInt, .bool b.max.null, .int .i64 b.max.int.toInt, .string b.max.text, .int .i64 b.max.x.toInt, .int .i64 b.max.y.toInt] 31)).alloc (.cells #[.int .i64 0, .bool false, .bool false, .int .i64 0, .string { data := #[] }, .int .i64 0, .int .i64 0, .bool false, .int .i64 0, .string { data := #[] }, .int .i64 0, .int .i64 0] 31)) := (((Keep.refl _ _).alloc _).alloc _).alloc _
      have hA0 : Blk (((W.alloc (.cells #[.int .i64 a.nulls.toInt, .bool true, .bool a.min.null, .int .i64 a.min.int.toInt, .string a.min.text, .int .i64 a.min.x.toInt, .int .i64 a.min.y.toInt, .bool a.max.null, .int .i64 a.max.int.toInt, .string a.max.text, .int .i64 a.max.x.toInt, .int .i64 a.max.y.toInt] 31)).alloc (.cells #[.int .i64 b.nulls.toInt, .bool true, .bool b.min.null, .int .i64 b.min.int.toInt, .string b.min.text, .int .i64 b.min.x.toInt, .int .i64 b.min.y.toInt, .bool b.max.null, .int .i64 b.max.int.toInt, .string b.max.text, .int .i64 b.max.x.toInt, .int .i64 b.max.y.toInt] 31)).alloc (.cells #[.int .i64 0, .bool false, .bool false, .int .i64 0, .string { data := #[] }, .int .i64 0, .int .i64 0, .bool false, .int .i64 0, .string { data := #[] }, .int .i64 0, .int .i64 0] 31)) W.heap.size 31 a.cs := by
        simp only [St.cs, ha]
        exact ((Blk.new W 31 _).alloc _).alloc _
      have hB0 : Blk (((W.alloc (.cells #[.int .i64 a.nulls.toInt, .bool true, .bool a.min.null, .int .i64 a.min.int.toInt, .string a.min.text, .int .i64 a.min.x.toInt, .int .i64 a.min.y.toInt, .bool a.max.null, .int .i64 a.max.int.toInt, .string a.max.text, .int .i64 a.max.x.toInt, .int .i64 a.max.y.toInt] 31)).alloc (.cells #[.int .i64 b.nulls.toInt, .bool true, .bool b.min.null, .int .i64 b.min.int.toInt, .string b.min.text, .int .i64 b.min.x.toInt, .int .i64 b.min.y.toInt, .bool b.max.null, .int .i64 b.max.int.toInt, .string b.max.text, .int .i64 b.max.x.toInt, .int .i64 b.max.y.toInt] 31)).alloc (.cells #[.int .i64 0, .bool false, .bool false, .int .i64 0, .string { data := #[] }, .int .i64 0, .int .i64 0, .bool false, .int .i64 0, .string { data := #[] }, .int .i64 0, .int .i64 0] 31)) (W.heap.size + 1) 31 b.cs := by
        simp only [St.cs, hb]
        exact (blk_alloc2 W _ 31 _).alloc _
      have hR0 : Blk (((W.alloc (.cells #[.int .i64 a.nulls.toInt, .bool true, .bool a.min.null, .int .i64 a.min.int.toInt, .string a.min.text, .int .i64 a.min.x.toInt, .int .i64 a.min.y.toInt, .bool a.max.null, .int .i64 a.max.int.toInt, .string a.max.text, .int .i64 a.max.x.toInt, .int .i64 a.max.y.toInt] 31)).alloc (.cells #[.int .i64 b.nulls.toInt, .bool true, .bool b.min.null, .int .i64 b.min.int.toInt, .string b.min.text, .int .i64 b.min.x.toInt, .int .i64 b.min.y.toInt, .bool b.max.null, .int .i64 b.max.int.toInt, .string b.max.text, .int .i64 b.max.x.toInt, .int .i64 b.max.y.toInt] 31)).alloc (.cells #[.int .i64 0, .bool false, .bool false, .int .i64 0, .string { data := #[] }, .int .i64 0, .int .i64 0, .bool false, .int .i64 0, .string { data := #[] }, .int .i64 0, .int .i64 0] 31)) (W.heap.size + 1 + 1) 31 [.int .i64 0, .bool false, .bool false, .int .i64 0, .string { data := #[] }, .int .i64 0, .int .i64 0, .bool false, .int .i64 0, .string { data := #[] }, .int .i64 0, .int .i64 0] := by
        have := Blk.new ((W.alloc (.cells #[.int .i64 a.nulls.toInt, .bool true, .bool a.min.null, .int .i64 a.min.int.toInt, .string a.min.text, .int .i64 a.min.x.toInt, .int .i64 a.min.y.toInt, .bool a.max.null, .int .i64 a.max.int.toInt, .string a.max.text, .int .i64 a.max.x.toInt, .int .i64 a.max.y.toInt] 31)).alloc (.cells #[.int .i64 b.nulls.toInt, .bool true, .bool b.min.null, .int .i64 b.min.int.toInt, .string b.min.text, .int .i64 b.min.x.toInt, .int .i64 b.min.y.toInt, .bool b.max.null, .int .i64 b.max.int.toInt, .string b.max.text, .int .i64 b.max.x.toInt, .int .i64 b.max.y.toInt] 31)) 31 [.int .i64 0, .bool false, .bool false, .int .i64 0, .string { data := #[] }, .int .i64 0, .int .i64 0, .bool false, .int .i64 0, .string { data := #[] }, .int .i64 0, .int .i64 0]
        rwa [World.size_alloc, World.size_alloc] at this
      go_enter Try.func17, Try.ntmps17
      go_wp2_with fail
      refine (C1.out _).mono ?_
      rintro e w3 ⟨rfl, hk3⟩
      have hA3 := hA0.keep hk3 (by simp)
      have hB3 := hB0.keep hk3 (by simp)
      have hR3 := hR0.keep hk3 (by simp)
      have hK3 : Keep [] W w3 := hk0.trans hk3
      clear hA0 hB0 hR0 hk0 hk3 C1
      have hsC : ∀ w, (Go.sizeOf 29).run Try.prog w = .ok 5 w := Try.sizeOf29
      have hsS : ∀ w, (Go.sizeOf 31).run Try.prog w = .ok 12 w := Try.sizeOf31
      replace hsC := Lib.hid hsC
      replace hsS := Lib.hid hsS
      by_cases q1 : z1 < 0
      · obtain ⟨b0, b1, b2, b3, b4, b5, b6, b7, b8, b9, b10, b11⟩ := stAt hB3
        go_wp2_with (refine wpList_store_blk (ty := 29) (n := 5) rfl rfl (hsC.out _) (v := cellVal b.min) hA3 rfl rfl rfl (by simp) (by simp [Value.cells, Value.oneCell']) ?_)
        intro w4 hA4 hk4
        replace hA4 : Blk w4 W.heap.size 31 (St.cs ⟨a.nulls, true, b.min, a.max⟩) := hA4
        have hB4 := hB3.keep hk4 (by simp)
        have hR4 := hR3.keep hk4 (by simp; omega)
        have hK4 := hK3.after hk4 (by simp)
        clear b0 b1 b2 b3 b4 b5 b6 b7 b8 b9 b10 b11
        obtain ⟨b0, b1, b2, b3, b4, b5, b6, b7, b8, b9, b10, b11⟩ := stAt hB4
        obtain ⟨a0, a1, a2, a3, a4, a5, a6, a7, a8, a9, a10, a11⟩ := stAt hA4
        go_wp2_with fail
        refine (C2.out _).mono ?_
        rintro e w5 ⟨rfl, hk5⟩
        have hA5 := hA4.keep hk5 (by simp)
        have hB5 := hB4.keep hk5 (by simp)
        have hR5 := hR4.keep hk5 (by simp)
        have hK5 : Keep [] W w5 := hK4.trans hk5
        clear a0 a1 a2 a3 a4 a5 a6 a7 a8 a9 a10 a11 b0 b1 b2 b3 b4 b5 b6 b7 b8 b9 b10 b11
        obtain ⟨b0, b1, b2, b3, b4, b5, b6, b7, b8, b9, b10, b11⟩ := stAt hB5
        by_cases q2 : 0 < z2
        · go_wp2_with (refine wpList_store_blk (ty := 29) (n := 5) rfl rfl (hsC.out _) (v := cellVal b.max) hA5 rfl rfl rfl (by simp) (by simp [Value.cells, Value.oneCell']) ?_)
          intro w6 hA6 hk6
          replace hA6 : Blk w6 W.heap.size 31 (St.cs ⟨a.nulls, true, b.min, b.max⟩) := hA6
          have hR6 := hR5.keep hk6 (by simp; omega)
          have hK6 := hK5.after hk6 (by simp)
          obtain ⟨f0, f1, f2, f3, f4, f5, f6, f7, f8, f9, f10, f11⟩ := stAt hA6
          have hf := hA6.frozen 0
          have hR7 : Blk (w6.setCell ⟨W.heap.size, 0, none⟩ (.int .i64 (a.nulls.toInt + b.nulls.toInt))) (W.heap.size + 1 + 1) 31 _ := hR6.far (p := ⟨W.heap.size, 0, none⟩) (by show W.heap.size + 1 + 1 ≠ W.heap.size; omega) _
          have hK7 : Keep [] W (w6.setCell ⟨W.heap.size, 0, none⟩ (.int .i64 (a.nulls.toInt + b.nulls.toInt))) := hK6.setCell (.inr (Nat.le_refl _)) _
          replace hR7 := Lib.hid hR7
          replace hK7 := Lib.hid hK7
          go_wp2_with (refine wpList_store_blk (ty := 31) (n := 12) rfl rfl (hsS.out _) (v := .agg #[.int .i64 (a.nulls.toInt + b.nulls.toInt), .bool true, .bool b.min.null, .int .i64 b.min.int.toInt, .string b.min.text, .int .i64 b.min.x.toInt, .int .i64 b.min.y.toInt, .bool b.max.null, .int .i64 b.max.int.toInt, .string b.max.text, .int .i64 b.max.x.toInt, .int .i64 b.max.y.toInt]) hR7.out rfl rfl rfl (by simp) (by simp [Value.cells, Value.oneCell']) ?_)
          intro w7 hR8 hk7
          go_wp2
          refine bodyPost_ret (ret_st rfl r rfl ?_) rfl ⟨rfl, hK7.out.after hk7 (by simp; omega)⟩
          rw [v1.out, if_pos q1, if_pos q2]
          simp only [St.cs, hsum.out]
          simpa [Value.cells, ha] using hR8

        · have hA6 := hA5
          have hR6 := hR5
          have hK6 := hK5
          obtain ⟨w6, hw6⟩ : ∃ w6, w6 = w5 := ⟨_, rfl⟩
          subst hw6
          obtain ⟨f0, f1, f2, f3, f4, f5, f6, f7, f8, f9, f10, f11⟩ := stAt hA6
          have hf := hA6.frozen 0
          have hR7 : Blk (w6.setCell ⟨W.heap.size, 0, none⟩ (.int .i64 (a.nulls.toInt + b.nulls.toInt))) (W.heap.size + 1 + 1) 31 _ := hR6.far (p := ⟨W.heap.size, 0, none⟩) (by show W.heap.size + 1 + 1 ≠ W.heap.size; omega) _
          have hK7 : Keep [] W (w6.setCell ⟨W.heap.size, 0, none⟩ (.int .i64 (a.nulls.toInt + b.nulls.toInt))) := hK6.setCell (.inr (Nat.le_refl _)) _
          replace hR7 := Lib.hid hR7
          replace hK7 := Lib.hid hK7
          go_wp2_with (refine wpList_store_blk (ty := 31) (n := 12) rfl rfl (hsS.out _) (v := .agg #[.int .i64 (a.nulls.toInt + b.nulls.toInt), .bool true, .bool b.min.null, .int .i64 b.min.int.toInt, .string b.min.text, .int .i64 b.min.x.toInt, .int .i64 b.min.y.toInt, .bool a.max.null, .int .i64 a.max.int.toInt, .string a.max.text, .int .i64 a.max.x.toInt, .int .i64 a.max.y.toInt]) hR7.out rfl rfl rfl (by simp) (by simp [Value.cells, Value.oneCell']) ?_)
          intro w7 hR8 hk7
          go_wp2
          refine bodyPost_ret (ret_st rfl r rfl ?_) rfl ⟨rfl, hK7.out.after hk7 (by simp; omega)⟩
          rw [v1.out, if_pos q1, if_neg (show ¬ 0 < z2 by omega)]
          simp only [St.cs, hsum.out]
          simpa [Value.cells, ha] using hR8

      · have hA4 := hA3
        have hB4 := hB3
        have hR4 := hR3
        have hK4 := hK3
        obtain ⟨b0, b1, b2, b3, b4, b5, b6, b7, b8, b9, b10, b11⟩ := stAt hB4
        obtain ⟨a0, a1, a2, a3, a4, a5, a6, a7, a8, a9, a10, a11⟩ := stAt hA4
        go_wp2_with fail
        refine (C2.out _).mono ?_
        rintro e w5 ⟨rfl, hk5⟩
        have hA5 := hA4.keep hk5 (by simp)
        have hB5 := hB4.keep hk5 (by simp)
        have hR5 := hR4.keep hk5 (by simp)
        have hK5 : Keep [] W w5 := hK4.trans hk5
        clear a0 a1 a2 a3 a4 a5 a6 a7 a8 a9 a10 a11 b0 b1 b2 b3 b4 b5 b6 b7 b8 b9 b10 b11
        obtain ⟨b0, b1, b2, b3, b4, b5, b6, b7, b8, b9, b10, b11⟩ := stAt hB5
        by_cases q2 : 0 < z2
        · go_wp2_with (refine wpList_store_blk (ty := 29) (n := 5) rfl rfl (hsC.out _) (v := cellVal b.max) hA5 rfl rfl rfl (by simp) (by simp [Value.cells, Value.oneCell']) ?_)
          intro w6 hA6 hk6
          replace hA6 : Blk w6 W.heap.size 31 (St.cs ⟨a.nulls, true, a.min, b.max⟩) := hA6
          have hR6 := hR5.keep hk6 (by simp; omega)
          have hK6 := hK5.after hk6 (by simp)
          obtain ⟨f0, f1, f2, f3, f4, f5, f6, f7, f8, f9, f10, f11⟩ := stAt hA6
          have hf := hA6.frozen 0
          have hR7 : Blk (w6.setCell ⟨W.heap.size, 0, none⟩ (.int .i64 (a.nulls.toInt + b.nulls.toInt))) (W.heap.size + 1 + 1) 31 _ := hR6.far (p := ⟨W.heap.size, 0, none⟩) (by show W.heap.size + 1 + 1 ≠ W.heap.size; omega) _
          have hK7 : Keep [] W (w6.setCell ⟨W.heap.size, 0, none⟩ (.int .i64 (a.nulls.toInt + b.nulls.toInt))) := hK6.setCell (.inr (Nat.le_refl _)) _
          replace hR7 := Lib.hid hR7
          replace hK7 := Lib.hid hK7
          go_wp2_with (refine wpList_store_blk (ty := 31) (n := 12) rfl rfl (hsS.out _) (v := .agg #[.int .i64 (a.nulls.toInt + b.nulls.toInt), .bool true, .bool a.min.null, .int .i64 a.min.int.toInt, .string a.min.text, .int .i64 a.min.x.toInt, .int .i64 a.min.y.toInt, .bool b.max.null, .int .i64 b.max.int.toInt, .string b.max.text, .int .i64 b.max.x.toInt, .int .i64 b.max.y.toInt]) hR7.out rfl rfl rfl (by simp) (by simp [Value.cells, Value.oneCell']) ?_)
          intro w7 hR8 hk7
          go_wp2
          refine bodyPost_ret (ret_st rfl r rfl ?_) rfl ⟨rfl, hK7.out.after hk7 (by simp; omega)⟩
          rw [v1.out, if_neg (show ¬ z1 < 0 by omega), if_pos q2]
          simp only [St.cs, hsum.out]
          simpa [Value.cells, ha] using hR8

        · have hA6 := hA5
          have hR6 := hR5
          have hK6 := hK5
          obtain ⟨w6, hw6⟩ : ∃ w6, w6 = w5 := ⟨_, rfl⟩
          subst hw6
          obtain ⟨f0, f1, f2, f3, f4, f5, f6, f7, f8, f9, f10, f11⟩ := stAt hA6
          have hf := hA6.frozen 0
          have hR7 : Blk (w6.setCell ⟨W.heap.size, 0, none⟩ (.int .i64 (a.nulls.toInt + b.nulls.toInt))) (W.heap.size + 1 + 1) 31 _ := hR6.far (p := ⟨W.heap.size, 0, none⟩) (by show W.heap.size + 1 + 1 ≠ W.heap.size; omega) _
          have hK7 : Keep [] W (w6.setCell ⟨W.heap.size, 0, none⟩ (.int .i64 (a.nulls.toInt + b.nulls.toInt))) := hK6.setCell (.inr (Nat.le_refl _)) _
          replace hR7 := Lib.hid hR7
          replace hK7 := Lib.hid hK7
          go_wp2_with (refine wpList_store_blk (ty := 31) (n := 12) rfl rfl (hsS.out _) (v := .agg #[.int .i64 (a.nulls.toInt + b.nulls.toInt), .bool true, .bool a.min.null, .int .i64 a.min.int.toInt, .string a.min.text, .int .i64 a.min.x.toInt, .int .i64 a.min.y.toInt, .bool a.max.null, .int .i64 a.max.int.toInt, .string a.max.text, .int .i64 a.max.x.toInt, .int .i64 a.max.y.toInt]) hR7.out rfl rfl rfl (by simp) (by simp [Value.cells, Value.oneCell']) ?_)
          intro w7 hR8 hk7
          go_wp2
          refine bodyPost_ret (ret_st rfl r rfl ?_) rfl ⟨rfl, hK7.out.after hk7 (by simp; omega)⟩
          rw [v1.out, if_neg (show ¬ z1 < 0 by omega), if_neg (show ¬ 0 < z2 by omega)]
          simp only [St.cs, hsum.out]
          simpa [Value.cells, ha] using hR8

end Go.Proofs.Ytejbfknhnhhlfaa

namespace Go.Proofs.Ytejbfknhnhhlfaa
open Go Go.RowKit
set_option maxRecDepth 10000
set_option linter.unusedVariables false
set_option linter.unusedSimpArgs false

theorem blk_alloc3 (w : World) (A B : Obj) (t : TypeId) (cs : List Value) : Blk (((w.alloc A).alloc B).alloc (.cells cs.toArray t)) (w.heap.size + 1 + 1) t cs := by
  have := Blk.new ((w.alloc A).alloc B) t cs
  rwa [World.size_alloc, World.size_alloc] at this
theorem blk_alloc4 (w : World) (A B C : Obj) (t : TypeId) (cs : List Value) : Blk ((((w.alloc A).alloc B).alloc C).alloc (.cells cs.toArray t)) (w.heap.size + 1 + 1 + 1) t cs := by
  have := Blk.new (((w.alloc A).alloc B).alloc C) t cs
  rwa [World.size_alloc, World.size_alloc, World.size_alloc] at this

set_option maxHeartbeats 2000000 in
theorem merge_ref (typ : Int) (a b : St) (W : World) (hs : isI64 (a.nulls.toInt + b.nulls.toInt)) (hn : a.has = true → b.has = true → typ = 3 → b.min.near ∧ a.min.near ∧ b.max.near ∧ a.max.near) :
    Calls Try.prog 18 #[.int .i64 typ, stVal a, stVal b] W fun e W' => e = .returned (stVal (mergeS typ a b)) ∧ Keep [] W W' := by
  have hsum : Hid ((Int64.ofInt (a.nulls.toInt + b.nulls.toInt)).toInt = a.nulls.toInt + b.nulls.toInt) := toI hs
  obtain ⟨r, hr⟩ : ∃ r, Hid (mergeS typ a b = r) := ⟨_, rfl⟩
  rw [hr.out]
  have w0 : b.has = false → Hid (r = { a with nulls := Int64.ofInt (a.nulls.toInt + b.nulls.toInt) }) := fun hb => by rw [Hid, ← hr.out, mergeS, if_pos hb]
  have w1 : b.has = true → a.has = false → Hid (r = { b with nulls := Int64.ofInt (a.nulls.toInt + b.nulls.toInt) }) := fun hb ha => by rw [Hid, ← hr.out, mergeS, if_neg (by simp [hb]), if_pos ha]
  have w2 : b.has = true → a.has = true → Hid (r = ⟨Int64.ofInt (a.nulls.toInt + b.nulls.toInt), true, if cmpC typ b.min a.min < 0 then b.min else a.min, if 0 < cmpC typ b.max a.max then b.max else a.max⟩) := fun hb ha => by
    rw [Hid, ← hr.out, mergeS, if_neg (by simp [hb]), if_neg (by simp [ha])]
  clear hr
  generalize Int64.ofInt (a.nulls.toInt + b.nulls.toInt) = nS at *
  unfold isI64 at hs
  cases hb : b.has with
  | false =>
    have v1 := w0 hb
    clear hn w0 w1 w2
    go_enter Try.func18, Try.ntmps18
    go_wp2
    refine bodyPost_ret (ret_st rfl r rfl ?_) rfl ⟨rfl, ((((Keep.refl _ _).alloc _).alloc _).alloc _).alloc _⟩
    rw [v1.out]
    have hB := (blk_alloc3 W (.cells #[.int .i64 a.nulls.toInt, .bool a.has, .bool a.min.null, .int .i64 a.min.int.toInt, .string a.min.text, .int .i64 a.min.x.toInt, .int .i64 a.min.y.toInt, .bool a.max.null, .int .i64 a.max.int.toInt, .string a.max.text, .int .i64 a.max.x.toInt, .int .i64 a.max.y.toInt] 31) (.cells #[.int .i64 b.nulls.toInt, .bool false, .bool b.min.null, .int .i64 b.min.int.toInt, .string b.min.text, .int .i64 b.min.x.toInt, .int .i64 b.min.y.toInt, .bool b.max.null, .int .i64 b.max.int.toInt, .string b.max.text, .int .i64 b.max.x.toInt, .int .i64 b.max.y.toInt] 31) 31 [.int .i64 (a.nulls.toInt + b.nulls.toInt), .bool a.has, .bool a.min.null, .int .i64 a.min.int.toInt, .string a.min.text, .int .i64 a.min.x.toInt, .int .i64 a.min.y.toInt, .bool a.max.null, .int .i64 a.max.int.toInt, .string a.max.text, .int .i64 a.max.x.toInt, .int .i64 a.max.y.toInt]).alloc (.cells #[.int .i64 (a.nulls.toInt + b.nulls.toInt), .bool a.has, .bool a.min.null, .int .i64 a.min.int.toInt, .string a.min.text, .int .i64 a.min.x.toInt, .int .i64 a.min.y.toInt, .bool a.max.null, .int .i64 a.max.int.toInt, .string a.max.text, .int .i64 a.max.x.toInt, .int .i64 a.max.y.toInt] 31)
    simp only [St.cs, hsum.out]
    exact hB
  | true =>
    cases ha : a.has with
    | false =>
      have v1 := w1 hb ha
      clear hn w0 w1 w2
      go_enter Try.func18, Try.ntmps18
      go_wp2
      refine bodyPost_ret (ret_st rfl r rfl ?_) rfl ⟨rfl, ((((Keep.refl _ _).alloc _).alloc _).alloc _).alloc _⟩
      rw [v1.out]
      have hB := (blk_alloc3 W (.cells #[.int .i64 a.nulls.toInt, .bool false, .bool a.min.null, .int .i64 a.min.int.toInt, .string a.min.text, .int .i64 a.min.x.toInt, .int .i64 a.min.y.toInt, .bool a.max.null, .int .i64 a.max.int.toInt, .string a.max.text, .int .i64 a.max.x.toInt, .int .i64 a.max.y.toInt] 31) (.cells #[.int .i64 b.nulls.toInt, .bool true, .bool b.min.null, .int .i64 b.min.int.toInt, .string b.min.text, .int .i64 b.min.x.toInt, .int .i64 b.min.y.toInt, .bool b.max.null, .int .i64 b.max.int.toInt, .string b.max.text, .int .i64 b.max.x.toInt, .int .i64 b.max.y.toInt] 31) 31 [.int .i64 (a.nulls.toInt + b.nulls.toInt), .bool true, .bool b.min.null, .int .i64 b.min.int.toInt, .string b.min.text, .int .i64 b.min.x.toInt, .int .i64 b.min.y.toInt, .bool b.max.null, .int .i64 b.max.int.toInt, .string b.max.text, .int .i64 b.max.x.toInt, .int .i64 b.max.y.toInt]).alloc (.cells #[.int .i64 (a.nulls.toInt + b.nulls.toInt), .bool true, .bool b.min.null, .int .i64 b.min.int.toInt, .string b.min.text, .int .i64 b.min.x.toInt, .int .i64 b.min.y.toInt, .bool b.max.null, .int .i64 b.max.int.toInt, .string b.max.text, .int .i64 b.max.x.toInt, .int .i64 b.max.y.toInt] 31)
      simp only [St.cs, hsum.out, hb]
      exact hB
    | true =>
      have v1 := w2 hb ha
      clear w0 w1 w2
      have C1 := fun w => cellCompare_ref typ b.min a.min w (fun h => ⟨(hn ha hb h).1, (hn ha hb h).2.1⟩)
      have C2 := fun w => cellCompare_ref typ b.max a.max w (fun h => (hn ha hb h).2.2)
      clear hn
      generalize cmpC typ b.min a.min = z1 at *
      generalize cmpC typ b.max a.max = z2 at *
      replace C1 := Lib.hid C1
      replace C2 := Lib.hid C2
      have hk0 : Keep [] W ((((W.alloc (.cells #[.int .i64 a.nulls.toInt, .bool true, .bool a.min.null, .int .i64 a.min.int.toInt, .string a.min.text, .int .i64 a.min.x.toInt, .int .i64 a.min.y.toInt, .bool a.max.null, .int .i64 a.max.int.toInt, .string a.max.text, .int .i64 a.max.x.toInt, .int .i64 a.max.y.toInt] 31)).alloc (.cells #[.int .i64 b.nulls.toInt, .bool true, .bool b.min.null, .int .i64 b.min.int.toInt, .string b.min.text, .int .i64 b.min.x.toInt, .int .i64 b.min.y.toInt, .bool b.max.null, .int .i64 b.max.int.toInt, .string b.max.text, .int .i64 b.max.x.toInt, .int .i64 b.max.y.toInt] 31)).alloc (.cells #[.int .i64 0, .bool false, .bool false, .int .i64 0, .string { data := #[] }, .int .i64 0, .int .i64 0, .bool false, .int .i64 0, .string { data := #[] }, .int .i64 0, .int .i64 0] 31)).alloc (.cells #[.int .i64 (a.nulls.toInt + b.nulls.toInt), .bool true, .bool a.min.null, .int .i64 a.min.int.toInt, .string a.min.text, .int .i64 a.min.x.toInt, .int .i64 a.min.y.toInt, .bool a.max.null, .int .i64 a.max.int.toInt, .string a.max.text, .int .i64 a.max.x.toInt, .int .i64 a.max.y.toInt] 31)) := ((((Keep.refl _ _).alloc _).alloc _).alloc _).alloc _
      have hA0 : Blk ((((W.alloc (.cells #[.int .i64 a.nulls.toInt, .bool true, .bool a.min.null, .int .i64 a.min.int.toInt, .string a.min.text, .int .i64 a.min.x.toInt, .int .i64 a.min.y.toInt, .bool a.max.null, .int .i64 a.max.int.toInt, .string a.max.text, .int .i64 a.max.x.toInt, .int .i64 a.max.y.toInt] 31)).alloc (.cells #[.int .i64 b.nulls.toInt, .bool true, .bool b.min.null, .int .i64 b.min.int.toInt, .string b.min.text, .int .i64 b.min.x.toInt, .int .i64 b.min.y.toInt, .bool b.max.null, .int .i64 b.max.int.toInt, .string b.max.text, .int .i64 b.max.x.toInt, .int .i64 b.max.y.toInt] 31)).alloc (.cells #[.int .i64 0, .bool false, .bool false, .int .i64 0, .string { data := #[] }, .int .i64 0, .int .i64 0, .bool false, .int .i64 0, .string { data := #[] }, .int .i64 0, .int .i64 0] 31)).alloc (.cells #[.int .i64 (a.nulls.toInt + b.nulls.toInt), .bool true, .bool a.min.null, .int .i64 a.min.int.toInt, .string a.min.text, .int .i64 a.min.x.toInt, .int .i64 a.min.y.toInt, .bool a.max.null, .int .i64 a.max.int.toInt, .string a.max.text, .int .i64 a.max.x.toInt, .int .i64 a.max.y.toInt] 31)) W.heap.size 31 a.cs := by
        simp only [St.cs, ha]
        exact (((Blk.new W 31 _).alloc _).alloc _).alloc _
      have hB0 : Blk ((((W.alloc (.cells #[.int .i64 a.nulls.toInt, .bool true, .bool a.min.null, .int .i64 a.min.int.toInt, .string a.min.text, .int .i64 a.min.x.toInt, .int .i64 a.min.y.toInt, .bool a.max.null, .int .i64 a.max.int.toInt, .string a.max.text, .int .i64 a.max.x.toInt, .int .i64 a.max.y.toInt] 31)).alloc (.cells #[.int .i64 b.nulls.toInt, .bool true, .bool b.min.null, .int .i64 b.min.int.toInt, .string b.min.text, .int .i64 b.min.x.toInt, .int .i64 b.min.y.toInt, .bool b.max.null, .int .i64 b.max.int.toInt, .string b.max.text, .int .i64 b.max.x.toInt, .int .i64 b.max.y.toInt] 31)).alloc (.cells #[.int .i64 0, .bool false, .bool false, .int .i64 0, .string { data := #[] }, .int .i64 0, .int .i64 0, .bool false, .int .i64 0, .string { data := #[] }, .int .i64 0, .int .i64 0] 31)).alloc (.cells #[.int .i64 (a.nulls.toInt + b.nulls.toInt), .bool true, .bool a.min.null, .int .i64 a.min.int.toInt, .string a.min.text, .int .i64 a.min.x.toInt, .int .i64 a.min.y.toInt, .bool a.max.null, .int .i64 a.max.int.toInt, .string a.max.text, .int .i64 a.max.x.toInt, .int .i64 a.max.y.toInt] 31)) (W.heap.size + 1) 31 b.cs := by
        simp only [St.cs, hb]
        exact ((blk_alloc2 W _ 31 _).alloc _).alloc _
      have hR0 : Blk ((((W.alloc (.cells #[.int .i64 a.nulls.toInt, .bool true, .bool a.min.null, .int .i64 a.min.int.toInt, .string a.min.text, .int .i64 a.min.x.toInt, .int .i64 a.min.y.toInt, .bool a.max.null, .int .i64 a.max.int.toInt, .string a.max.text, .int .i64 a.max.x.toInt, .int .i64 a.max.y.toInt] 31)).alloc (.cells #[.int .i64 b.nulls.toInt, .bool true, .bool b.min.null, .int .i64 b.min.int.toInt, .string b.min.text, .int .i64 b.min.x.toInt, .int .i64 b.min.y.toInt, .bool b.max.null, .int .i64 b.max.int.toInt, .string b.max.text, .int .i64 b.max.x.toInt, .int .i64 b.max.y.toInt] 31)).alloc (.cells #[.int .i64 0, .bool false, .bool false, .int .i64 0, .string { data := #[] }, .int .i64 0, .int .i64 0, .bool false, .int .i64 0, .string { data := #[] }, .int .i64 0, .int .i64 0] 31)).alloc (.cells #[.int .i64 (a.nulls.toInt + b.nulls.toInt), .bool true, .bool a.min.null, .int .i64 a.min.int.toInt, .string a.min.text, .int .i64 a.min.x.toInt, .int .i64 a.min.y.toInt, .bool a.max.null, .int .i64 a.max.int.toInt, .string a.max.text, .int .i64 a.max.x.toInt, .int .i64 a.max.y.toInt] 31)) (W.heap.size + 1 + 1) 31 [.int .i64 0, .bool false, .bool false, .int .i64 0, .string { data := #[] }, .int .i64 0, .int .i64 0, .bool false, .int .i64 0, .string { data := #[] }, .int .i64 0, .int .i64 0] := (blk_alloc3 W _ _ 31 _).alloc _
      have hO0 : Blk ((((W.alloc (.cells #[.int .i64 a.nulls.toInt, .bool true, .bool a.min.null, .int .i64 a.min.int.toInt, .string a.min.text, .int .i64 a.min.x.toInt, .int .i64 a.min.y.toInt, .bool a.max.null, .int .i64 a.max.int.toInt, .string a.max.text, .int .i64 a.max.x.toInt, .int .i64 a.max.y.toInt] 31)).alloc (.cells #[.int .i64 b.nulls.toInt, .bool true, .bool b.min.null, .int .i64 b.min.int.toInt, .string b.min.text, .int .i64 b.min.x.toInt, .int .i64 b.min.y.toInt, .bool b.max.null, .int .i64 b.max.int.toInt, .string b.max.text, .int .i64 b.max.x.toInt, .int .i64 b.max.y.toInt] 31)).alloc (.cells #[.int .i64 0, .bool false, .bool false, .int .i64 0, .string { data := #[] }, .int .i64 0, .int .i64 0, .bool false, .int .i64 0, .string { data := #[] }, .int .i64 0, .int .i64 0] 31)).alloc (.cells #[.int .i64 (a.nulls.toInt + b.nulls.toInt), .bool true, .bool a.min.null, .int .i64 a.min.int.toInt, .string a.min.text, .int .i64 a.min.x.toInt, .int .i64 a.min.y.toInt, .bool a.max.null, .int .i64 a.max.int.toInt, .string a.max.text, .int .i64 a.max.x.toInt, .int .i64 a.max.y.toInt] 31)) (W.heap.size + 1 + 1 + 1) 31 (St.cs ⟨nS, true, a.min, a.max⟩) := by
        simp only [St.cs, hsum.out]
        exact blk_alloc4 W _ _ _ 31 _
      go_enter Try.func18, Try.ntmps18
      go_wp2_with fail
      refine (C1.out _).mono ?_
      rintro e w3 ⟨rfl, hk3⟩
      have hA3 := hA0.keep hk3 (by simp)
      have hB3 := hB0.keep hk3 (by simp)
      have hR3 := hR0.keep hk3 (by simp)
      have hO3 := hO0.keep hk3 (by simp)
      have hK3 : Keep [] W w3 := hk0.trans hk3
      clear hA0 hB0 hR0 hO0 hk0 hk3 C1
      have hsC : ∀ w, (Go.sizeOf 29).run Try.prog w = .ok 5 w := Try.sizeOf29
      have hsS : ∀ w, (Go.sizeOf 31).run Try.prog w = .ok 12 w := Try.sizeOf31
      replace hsC := Lib.hid hsC
      replace hsS := Lib.hid hsS
      by_cases q1 : z1 < 0
      · obtain ⟨b0, b1, b2, b3, b4, b5, b6, b7, b8, b9, b10, b11⟩ := stAt hB3
        go_wp2_with (refine wpList_store_blk (ty := 29) (n := 5) rfl rfl (hsC.out _) (v := cellVal b.min) hO3 rfl rfl rfl (by simp) (by simp [Value.cells, Value.oneCell']) ?_)
        intro w4 hO4 hk4
        replace hO4 : Blk w4 (W.heap.size + 1 + 1 + 1) 31 (St.cs ⟨nS, true, b.min, a.max⟩) := hO4
        have hA4 := hA3.keep hk4 (by simp; omega)
        have hB4 := hB3.keep hk4 (by simp)
        have hR4 := hR3.keep hk4 (by simp)
        have hK4 := hK3.after hk4 (by simp; omega)
        clear b0 b1 b2 b3 b4 b5 b6 b7 b8 b9 b10 b11
        obtain ⟨b0, b1, b2, b3, b4, b5, b6, b7, b8, b9, b10, b11⟩ := stAt hB4
        obtain ⟨a0, a1, a2, a3, a4, a5, a6, a7, a8, a9, a10, a11⟩ := stAt hA4
        go_wp2_with fail
        refine (C2.out _).mono ?_
        rintro e w5 ⟨rfl, hk5⟩
        have hB5 := hB4.keep hk5 (by simp)
        have hR5 := hR4.keep hk5 (by simp)
        have hO5 := hO4.keep hk5 (by simp)
        have hK5 : Keep [] W w5 := hK4.trans hk5
        clear a0 a1 a2 a3 a4 a5 a6 a7 a8 a9 a10 a11 b0 b1 b2 b3 b4 b5 b6 b7 b8 b9 b10 b11
        obtain ⟨b0, b1, b2, b3, b4, b5, b6, b7, b8, b9, b10, b11⟩ := stAt hB5
        by_cases q2 : 0 < z2
        · go_wp2_with (refine wpList_store_blk (ty := 29) (n := 5) rfl rfl (hsC.out _) (v := cellVal b.max) hO5 rfl rfl rfl (by simp) (by simp [Value.cells, Value.oneCell']) ?_)
          intro w6 hO6 hk6
          replace hO6 : Blk w6 (W.heap.size + 1 + 1 + 1) 31 (St.cs ⟨nS, true, b.min, b.max⟩) := hO6
          have hR6 := hR5.keep hk6 (by simp)
          have hK6 := hK5.after hk6 (by simp; omega)
          obtain ⟨f0, f1, f2, f3, f4, f5, f6, f7, f8, f9, f10, f11⟩ := stAt hO6
          replace hR6 := Lib.hid hR6
          go_wp2_with (refine wpList_store_blk (ty := 31) (n := 12) rfl rfl (hsS.out _) (v := .agg #[.int .i64 nS.toInt, .bool true, .bool b.min.null, .int .i64 b.min.int.toInt, .string b.min.text, .int .i64 b.min.x.toInt, .int .i64 b.min.y.toInt, .bool b.max.null, .int .i64 b.max.int.toInt, .string b.max.text, .int .i64 b.max.x.toInt, .int .i64 b.max.y.toInt]) hR6.out rfl rfl rfl (by simp) (by simp [Value.cells, Value.oneCell']) ?_)
          intro w7 hR8 hk7
          go_wp2
          refine bodyPost_ret (ret_st rfl r rfl ?_) rfl ⟨rfl, hK6.after hk7 (by simp; omega)⟩
          rw [v1.out, if_pos q1, if_pos q2]
          simpa [St.cs, Value.cells] using hR8

        · have hO6 := hO5
          have hR6 := hR5
          have hK6 := hK5
          obtain ⟨f0, f1, f2, f3, f4, f5, f6, f7, f8, f9, f10, f11⟩ := stAt hO6
          replace hR6 := Lib.hid hR6
          go_wp2_with (refine wpList_store_blk (ty := 31) (n := 12) rfl rfl (hsS.out _) (v := .agg #[.int .i64 nS.toInt, .bool true, .bool b.min.null, .int .i64 b.min.int.toInt, .string b.min.text, .int .i64 b.min.x.toInt, .int .i64 b.min.y.toInt, .bool a.max.null, .int .i64 a.max.int.toInt, .string a.max.text, .int .i64 a.max.x.toInt, .int .i64 a.max.y.toInt]) hR6.out rfl rfl rfl (by simp) (by simp [Value.cells, Value.oneCell']) ?_)
          intro w7 hR8 hk7
          go_wp2
          refine bodyPost_ret (ret_st rfl r rfl ?_) rfl ⟨rfl, hK6.after hk7 (by simp; omega)⟩
          rw [v1.out, if_pos q1, if_neg (show ¬ 0 < z2 by omega)]
          simpa [St.cs, Value.cells] using hR8

      · have hA4 := hA3
        have hB4 := hB3
        have hR4 := hR3
        have hO4 := hO3
        have hK4 := hK3
        obtain ⟨b0, b1, b2, b3, b4, b5, b6, b7, b8, b9, b10, b11⟩ := stAt hB4
        obtain ⟨a0, a1, a2, a3, a4, a5, a6, a7, a8, a9, a10, a11⟩ := stAt hA4
        go_wp2_with fail
        refine (C2.out _).mono ?_
        rintro e w5 ⟨rfl, hk5⟩
        have hB5 := hB4.keep hk5 (by simp)
        have hR5 := hR4.keep hk5 (by simp)
        have hO5 := hO4.keep hk5 (by simp)
        have hK5 : Keep [] W w5 := hK4.trans hk5
        clear a0 a1 a2 a3 a4 a5 a6 a7 a8 a9 a10 a11 b0 b1 b2 b3 b4 b5 b6 b7 b8 b9 b10 b11
        obtain ⟨b0, b1, b2, b3, b4, b5, b6, b7, b8, b9, b10, b11⟩ := stAt hB5
        by_cases q2 : 0 < z2
        · go_wp2_with (refine wpList_store_blk (ty := 29) (n := 5) rfl rfl (hsC.out _) (v := cellVal b.max) hO5 rfl rfl rfl (by simp) (by simp [Value.cells, Value.oneCell']) ?_)
          intro w6 hO6 hk6
          replace hO6 : Blk w6 (W.heap.size + 1 + 1 + 1) 31 (St.cs ⟨nS, true, a.min, b.max⟩) := hO6
          have hR6 := hR5.keep hk6 (by simp)
          have hK6 := hK5.after hk6 (by simp; omega)
          obtain ⟨f0, f1, f2, f3, f4, f5, f6, f7, f8, f9, f10, f11⟩ := stAt hO6
          replace hR6 := Lib.hid hR6
          go_wp2_with (refine wpList_store_blk (ty := 31) (n := 12) rfl rfl (hsS.out _) (v := .agg #[.int .i64 nS.toInt, .bool true, .bool a.min.null, .int .i64 a.min.int.toInt, .string a.min.text, .int .i64 a.min.x.toInt, .int .i64 a.min.y.toInt, .bool b.max.null, .int .i64 b.max.int.toInt, .string b.max.text, .int .i64 b.max.x.toInt, .int .i64 b.max.y.toInt]) hR6.out rfl rfl rfl (by simp) (by simp [Value.cells, Value.oneCell']) ?_)
          intro w7 hR8 hk7
          go_wp2
          refine bodyPost_ret (ret_st rfl r rfl ?_) rfl ⟨rfl, hK6.after hk7 (by simp; omega)⟩
          rw [v1.out, if_neg (show ¬ z1 < 0 by omega), if_pos q2]
          simpa [St.cs, Value.cells] using hR8

        · have hO6 := hO5
          have hR6 := hR5
          have hK6 := hK5
          obtain ⟨f0, f1, f2, f3, f4, f5, f6, f7, f8, f9, f10, f11⟩ := stAt hO6
          replace hR6 := Lib.hid hR6
          go_wp2_with (refine wpList_store_blk (ty := 31) (n := 12) rfl rfl (hsS.out _) (v := .agg #[.int .i64 nS.toInt, .bool true, .bool a.min.null, .int .i64 a.min.int.toInt, .string a.min.text, .int .i64 a.min.x.toInt, .int .i64 a.min.y.toInt, .bool a.max.null, .int .i64 a.max.int.toInt, .string a.max.text, .int .i64 a.max.x.toInt, .int .i64 a.max.y.toInt]) hR6.out rfl rfl rfl (by simp) (by simp [Value.cells, Value.oneCell']) ?_)
          intro w7 hR8 hk7
          go_wp2
          refine bodyPost_ret (ret_st rfl r rfl ?_) rfl ⟨rfl, hK6.after hk7 (by simp; omega)⟩
          rw [v1.out, if_neg (show ¬ z1 < 0 by omega), if_neg (show ¬ 0 < z2 by omega)]
          simpa [St.cs, Value.cells] using hR8

end Go.Proofs.Ytejbfknhnhhlfaa

namespace Go.Proofs.Ytejbfknhnhhlfaa
open Go Go.RowKit
set_option maxRecDepth 10000
set_option linter.unusedVariables false
set_option linter.unusedSimpArgs false

theorem equal_st (d : Nat) (s t : St) (w : World) : (Op.equalIn (d + 4) 31 (stVal s) (stVal t)).run Try.prog w =
    .ok (s.nulls.toInt == t.nulls.toInt && (s.has == t.has && (decide (s.min = t.min) && decide (s.max = t.max)))) w := by
  have hu : Try.prog.underlying 31 = some (.struct (Try.prog.fieldsOf 31)) := by kernel_rfl
  have e1 := equal_cell d s.min.null t.min.null s.min.int.toInt t.min.int.toInt s.min.text t.min.text s.min.x.toInt s.min.y.toInt t.min.x.toInt t.min.y.toInt w
  have e2 := equal_cell d s.max.null t.max.null s.max.int.toInt t.max.int.toInt s.max.text t.max.text s.max.x.toInt s.max.y.toInt t.max.x.toInt t.max.y.toInt w
  rw [same_cell] at e1 e2
  rw [stVal, stVal, run_equalIn_agg w (d + 3) _ _ _ hu Try.stoodInHeld31]
  simp only [Program.fieldsOf, Try.underlying31]
  go_simp
  rw [← same_cell, ← same_cell]
  simp only [text_eq]
  clear e1 e2 hu
  have key : ∀ (c : Prop) [Decidable c] (b : Bool), (if c then (Result.ok b w : Result Bool) else Result.ok false w) = Result.ok (decide c && b) w := fun c _ b => by by_cases h : c <;> simp [h]
  simp only [key]
  have hi : ∀ a b : Int, (a == b) = decide (a = b) := fun a b => by rw [Bool.eq_iff_iff]; simp
  have hb : ∀ a b : Bool, (a == b) = decide (a = b) := fun a b => by rw [Bool.eq_iff_iff]; simp
  simp only [hi, hb, Bool.and_assoc, Bool.and_true]
theorem same_st (s t : St) : (s.nulls.toInt == t.nulls.toInt && (s.has == t.has && (decide (s.min = t.min) && decide (s.max = t.max)))) = decide (s = t) := by
  by_cases h : s = t
  · subst h; simp
  · rw [decide_eq_false h]
    apply Classical.byContradiction
    intro hc
    simp at hc
    obtain ⟨h1, h2, h3, h4⟩ := hc
    exact h (by cases s; cases t; simp_all [Int64.toInt_inj])
theorem eql_st (s t : St) (w : World) : (binOp .eql 31 (stVal s) (stVal t)).run Try.prog w = .ok (.bool (decide (s = t))) w := by
  rw [stVal, stVal, run_eql_struct, show (10000 : Nat) = 9996 + 4 from rfl, ← stVal, ← stVal, equal_st, same_st]
  rfl
theorem neq_st (s t : St) (w : World) : (binOp .neq 31 (stVal s) (stVal t)).run Try.prog w = .ok (.bool (decide (s ≠ t))) w := by
  rw [stVal, stVal, run_neq_struct, show (10000 : Nat) = 9996 + 4 from rfl, ← stVal, ← stVal, equal_st, same_st]
  simp
end Go.Proofs.Ytejbfknhnhhlfaa
