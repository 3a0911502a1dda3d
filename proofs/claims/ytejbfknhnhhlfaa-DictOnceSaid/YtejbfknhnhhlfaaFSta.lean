/-
  Stats as values; layer 15 in plain words; what may be.
-/
import Derived.Test.YtejbfknhnhhlfaaFPlb
import Derived.Test.YtejbfknhnhhlfaaFA
namespace Go.Proofs.Ytejbfknhnhhlfaa
open Go Go.RowKit
set_option maxRecDepth 10000
set_option linter.unusedVariables false
set_option linter.unusedSimpArgs false

/-- What is told of cells. -/
structure St where
  nulls : Int64
  has : Bool
  min : Cell
  max : Cell
  deriving DecidableEq, Inhabited
abbrev St.cs (s : St) : List Value := [.int .i64 s.nulls.toInt, .bool s.has, .bool s.min.null, .int .i64 s.min.int.toInt, .string s.min.text, .int .i64 s.min.x.toInt, .int .i64 s.min.y.toInt, .bool s.max.null, .int .i64 s.max.int.toInt, .string s.max.text, .int .i64 s.max.x.toInt, .int .i64 s.max.y.toInt]
abbrev stVal (s : St) : Value := .agg #[.int .i64 s.nulls.toInt, .bool s.has, .bool s.min.null, .int .i64 s.min.int.toInt, .string s.min.text, .int .i64 s.min.x.toInt, .int .i64 s.min.y.toInt, .bool s.max.null, .int .i64 s.max.int.toInt, .string s.max.text, .int .i64 s.max.x.toInt, .int .i64 s.max.y.toInt]
theorem stAt {w : World} {p : Nat} {t : TypeId} {s : St} (h : Blk w p t s.cs) : w.cell? ⟨p, 0, none⟩ = some (.int .i64 s.nulls.toInt) ∧ w.cell? ⟨p, 1, none⟩ = some (.bool s.has) ∧ w.cell? ⟨p, 2, none⟩ = some (.bool s.min.null) ∧ w.cell? ⟨p, 3, none⟩ = some (.int .i64 s.min.int.toInt) ∧ w.cell? ⟨p, 4, none⟩ = some (.string s.min.text) ∧ w.cell? ⟨p, 5, none⟩ = some (.int .i64 s.min.x.toInt) ∧ w.cell? ⟨p, 6, none⟩ = some (.int .i64 s.min.y.toInt) ∧ w.cell? ⟨p, 7, none⟩ = some (.bool s.max.null) ∧ w.cell? ⟨p, 8, none⟩ = some (.int .i64 s.max.int.toInt) ∧ w.cell? ⟨p, 9, none⟩ = some (.string s.max.text) ∧ w.cell? ⟨p, 10, none⟩ = some (.int .i64 s.max.x.toInt) ∧ w.cell? ⟨p, 11, none⟩ = some (.int .i64 s.max.y.toInt) :=
  ⟨h.cell 0, h.cell 1, h.cell 2, h.cell 3, h.cell 4, h.cell 5, h.cell 6, h.cell 7, h.cell 8, h.cell 9, h.cell 10, h.cell 11⟩
def St.zero : St := ⟨0, false, Cell.zero, Cell.zero⟩
/-- May a stat be? -/
def rightS (typ : Int) (s : St) : Bool :=
  known typ && decide (0 ≤ s.nulls.toInt) && decide (s.nulls.toInt ≤ 65536) &&
    (if s.has = true then rightC typ false s.min && rightC typ false s.max && decide (cmpC typ s.min s.max ≤ 0) else decide (s.min = Cell.zero) && decide (s.max = Cell.zero))
/-- May cells of a stat have a cell? -/
def mayS (typ : Int) (s : St) (c : Cell) : Bool :=
  if c.null = true then decide (0 < s.nulls.toInt) else s.has && decide (0 ≤ cmpC typ c s.min) && decide (cmpC typ c s.max ≤ 0)

set_option maxHeartbeats 2000000 in
theorem may_prog (typ : Int) (s : St) (c : Cell) (W : World) (hn : c.null = false → s.has = true → typ = 3 → c.near ∧ s.min.near ∧ s.max.near) :
    Calls Try.prog 19 #[.int .i64 typ, stVal s, cellVal c] W fun e W' => e = .returned (.bool (mayS typ s c)) ∧ Keep [] W W' := by
  obtain ⟨v, hv⟩ : ∃ v, Hid (mayS typ s c = v) := ⟨_, rfl⟩
  rw [hv.out]
  have v1 : c.null = true → Hid (v = decide (0 < s.nulls.toInt)) := fun h => by rw [Hid, ← hv.out, mayS, if_pos h]
  have v2 : c.null = false → Hid (v = (s.has && decide (0 ≤ cmpC typ c s.min) && decide (cmpC typ c s.max ≤ 0))) := fun h => by rw [Hid, ← hv.out, mayS, if_neg (by simp [h])]
  obtain ⟨W2, hW2⟩ : ∃ W2, (W.alloc (.cells #[.int .i64 s.nulls.toInt, .bool s.has, .bool s.min.null, .int .i64 s.min.int.toInt, .string s.min.text, .int .i64 s.min.x.toInt, .int .i64 s.min.y.toInt, .bool s.max.null, .int .i64 s.max.int.toInt, .string s.max.text, .int .i64 s.max.x.toInt, .int .i64 s.max.y.toInt] 31)).alloc (.cells #[.bool c.null, .int .i64 c.int.toInt, .string c.text, .int .i64 c.x.toInt, .int .i64 c.y.toInt] 29) = W2 := ⟨_, rfl⟩
  have hk2 : Keep [] W W2 := by rw [← hW2]; exact ((Keep.refl _ _).alloc _).alloc _
  have hb1 : Blk W2 W.heap.size 31 s.cs := by rw [← hW2]; exact (Blk.new W 31 _).alloc _
  have hb2 : Blk W2 (W.heap.size + 1) 29 [.bool c.null, .int .i64 c.int.toInt, .string c.text, .int .i64 c.x.toInt, .int .i64 c.y.toInt] := by rw [← hW2]; exact blk_alloc2 _ _ _ _
  obtain ⟨a0, a1, a2, a3, a4, a5, a6, a7, a8, a9, a10, a11⟩ := stAt hb1
  obtain ⟨⟨c0, c1, c2, c3, c4⟩, _⟩ := blk5 hb2
  cases hcn : c.null with
  | true =>
    have v3 := v1 hcn
    clear v1 v2 hn hv
    rw [hcn] at c0 hW2
    go_enter Try.func19, Try.ntmps19
    go_wp2
    go_ret
    exact ⟨ret_b (by rw [v3.out]), hk2⟩
  | false =>
    have v3 := v2 hcn
    have hcv : cellVal c = .agg #[.bool false, .int .i64 c.int.toInt, .string c.text, .int .i64 c.x.toInt, .int .i64 c.y.toInt] := by rw [cellVal, hcn]
    rw [hcn] at c0 hW2 hb2
    clear v1 v2 hv
    cases hh : s.has with
    | false =>
      rw [hh, Bool.false_and, Bool.false_and] at v3
      rw [hh] at a1 hW2
      go_enter Try.func19, Try.ntmps19
      go_wp2
      go_ret
      exact ⟨ret_b (by rw [v3.out]), hk2⟩
    | true =>
      rw [hh, Bool.true_and] at v3
      rw [hh] at a1 hW2
      have C1 := fun w => cellCompare_prog typ c s.min w (fun h => ⟨(hn hcn hh h).1, (hn hcn hh h).2.1⟩)
      have C2 := fun w => cellCompare_prog typ c s.max w (fun h => ⟨(hn hcn hh h).1, (hn hcn hh h).2.2⟩)
      clear hn
      simp only [hcv] at C1 C2
      rw [hcv]
      generalize cmpC typ c s.min = z1 at *
      generalize cmpC typ c s.max = z2 at *
      replace C1 := Lib.hid C1
      replace C2 := Lib.hid C2
      go_enter Try.func19, Try.ntmps19
      go_wp2_with fail
      refine (C1.out _).mono ?_
      rintro e w3 ⟨rfl, hk3⟩
      by_cases hz : 0 ≤ z1
      · rw [decide_eq_true hz, Bool.true_and] at v3
        obtain ⟨b0, b1, b2, b3, b4, b5, b6, b7, b8, b9, b10, b11⟩ := stAt (hb1.keep hk3 (by simp))
        obtain ⟨⟨d0, d1, d2, d3, d4⟩, _⟩ := blk5 (hb2.keep hk3 (by simp))
        rw [hh] at b1
        go_wp2_with fail
        refine (C2.out _).mono ?_
        rintro e w4 ⟨rfl, hk4⟩
        go_wp2
        go_ret
        exact ⟨ret_b (by rw [v3.out]), (hk2.trans hk3).trans hk4⟩
      · rw [decide_eq_false hz, Bool.false_and] at v3
        go_wp2
        go_ret
        exact ⟨ret_b (by rw [v3.out]), hk2.trans hk3⟩

set_option maxHeartbeats 2000000 in
theorem may_ref (typ : Int) (s : St) (c : Cell) (W : World) (hn : c.null = false → s.has = true → typ = 3 → c.near ∧ s.min.near ∧ s.max.near) :
    Calls Try.prog 29 #[.int .i64 typ, stVal s, cellVal c] W fun e W' => e = .returned (.bool (mayS typ s c)) ∧ Keep [] W W' := by
  obtain ⟨v, hv⟩ : ∃ v, Hid (mayS typ s c = v) := ⟨_, rfl⟩
  rw [hv.out]
  have v1 : c.null = true → Hid (v = decide (0 < s.nulls.toInt)) := fun h => by rw [Hid, ← hv.out, mayS, if_pos h]
  have v2 : c.null = false → Hid (v = (s.has && decide (0 ≤ cmpC typ c s.min) && decide (cmpC typ c s.max ≤ 0))) := fun h => by rw [Hid, ← hv.out, mayS, if_neg (by simp [h])]
  obtain ⟨W2, hW2⟩ : ∃ W2, (W.alloc (.cells #[.int .i64 s.nulls.toInt, .bool s.has, .bool s.min.null, .int .i64 s.min.int.toInt, .string s.min.text, .int .i64 s.min.x.toInt, .int .i64 s.min.y.toInt, .bool s.max.null, .int .i64 s.max.int.toInt, .string s.max.text, .int .i64 s.max.x.toInt, .int .i64 s.max.y.toInt] 31)).alloc (.cells #[.bool c.null, .int .i64 c.int.toInt, .string c.text, .int .i64 c.x.toInt, .int .i64 c.y.toInt] 29) = W2 := ⟨_, rfl⟩
  have hk2 : Keep [] W W2 := by rw [← hW2]; exact ((Keep.refl _ _).alloc _).alloc _
  have hb1 : Blk W2 W.heap.size 31 s.cs := by rw [← hW2]; exact (Blk.new W 31 _).alloc _
  have hb2 : Blk W2 (W.heap.size + 1) 29 [.bool c.null, .int .i64 c.int.toInt, .string c.text, .int .i64 c.x.toInt, .int .i64 c.y.toInt] := by rw [← hW2]; exact blk_alloc2 _ _ _ _
  obtain ⟨a0, a1, a2, a3, a4, a5, a6, a7, a8, a9, a10, a11⟩ := stAt hb1
  obtain ⟨⟨c0, c1, c2, c3, c4⟩, _⟩ := blk5 hb2
  cases hcn : c.null with
  | true =>
    have v3 := v1 hcn
    clear v1 v2 hn hv
    rw [hcn] at c0 hW2
    go_enter Try.func29, Try.ntmps29
    go_wp2
    go_ret
    exact ⟨ret_b (by rw [v3.out]), hk2⟩
  | false =>
    have v3 := v2 hcn
    have hcv : cellVal c = .agg #[.bool false, .int .i64 c.int.toInt, .string c.text, .int .i64 c.x.toInt, .int .i64 c.y.toInt] := by rw [cellVal, hcn]
    rw [hcn] at c0 hW2 hb2
    clear v1 v2 hv
    cases hh : s.has with
    | false =>
      rw [hh, Bool.false_and, Bool.false_and] at v3
      rw [hh] at a1 hW2
      go_enter Try.func29, Try.ntmps29
      go_wp2
      go_ret
      exact ⟨ret_b (by rw [v3.out]), hk2⟩
    | true =>
      rw [hh, Bool.true_and] at v3
      rw [hh] at a1 hW2
      have C1 := fun w => cellCompare_ref typ c s.min w (fun h => ⟨(hn hcn hh h).1, (hn hcn hh h).2.1⟩)
      have C2 := fun w => cellCompare_ref typ c s.max w (fun h => ⟨(hn hcn hh h).1, (hn hcn hh h).2.2⟩)
      clear hn
      simp only [hcv] at C1 C2
      rw [hcv]
      generalize cmpC typ c s.min = z1 at *
      generalize cmpC typ c s.max = z2 at *
      replace C1 := Lib.hid C1
      replace C2 := Lib.hid C2
      go_enter Try.func29, Try.ntmps29
      go_wp2_with fail
      refine (C1.out _).mono ?_
      rintro e w3 ⟨rfl, hk3⟩
      by_cases hz : 0 ≤ z1
      · rw [decide_eq_true hz, Bool.true_and] at v3
        obtain ⟨b0, b1, b2, b3, b4, b5, b6, b7, b8, b9, b10, b11⟩ := stAt (hb1.keep hk3 (by simp))
        obtain ⟨⟨d0, d1, d2, d3, d4⟩, _⟩ := blk5 (hb2.keep hk3 (by simp))
        rw [hh] at b1
        go_wp2_with fail
        refine (C2.out _).mono ?_
        rintro e w4 ⟨rfl, hk4⟩
        go_wp2
        go_ret
        exact ⟨ret_b (by rw [v3.out]), (hk2.trans hk3).trans hk4⟩
      · rw [decide_eq_false hz, Bool.false_and] at v3
        go_wp2
        go_ret
        exact ⟨ret_b (by rw [v3.out]), hk2.trans hk3⟩
end Go.Proofs.Ytejbfknhnhhlfaa
