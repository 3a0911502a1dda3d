/-
  May a page of a column be: footer.page, and the document's.
  May a footer be: footer.Right.
  May a footer be, as the document has it: hypostyleref19.pageRight, chunk.
  Regions whose order is open, whole: their calls make memory at most; one walk in the text's order.
  May a footer be, and its bytes, as the document has it: hypostyleref19.Right, Encode.
-/
import Derived.Deep.DeepCutAuto
import Derived.Deep.Quiet
import Derived.Test.YtcpimhefclfbaaaFFA
import Derived.Test.YtcpimhefclfbaaaFSta
import Derived.Test.YtcpimhefclfbaaaFFB
import Derived.Test.YtcpimhefclfbaaaFO
import Derived.Test.YtcpimhefclfbaaaFStb
namespace Go.Proofs.Ytcpimhefclfbaaa
open Go Go.RowKit
set_option maxRecDepth 10000
set_option linter.unusedVariables false
set_option linter.unusedSimpArgs false

def pageFits (c : Col) (p : Pg) : Prop := 1 ≤ p.rows.toInt ∧ p.rows.toInt ≤ 65536 ∧ 1 ≤ p.size.toInt ∧ p.size.toInt ≤ 268435456 ∧ p.stat.nulls.toInt ≤ p.rows.toInt ∧ p.stat.has = decide (p.stat.nulls.toInt < p.rows.toInt) ∧ (0 < p.stat.nulls.toInt → c.null = true)
theorem pageOk_no {c : Col} {p : Pg} (h : ¬ pageFits c p) : pageOk c p = false := by
  unfold pageFits at h
  unfold pageOk
  rw [decide_eq_false h]
  rfl
theorem pageOk_yes {c : Col} {p : Pg} (h : pageFits c p) : pageOk c p = rightS c.typ.toInt p.stat := by
  unfold pageFits at h
  unfold pageOk
  rw [decide_eq_true h]
  rfl

set_option maxHeartbeats 2000000 in
theorem page_prog (c : Col) (p : Pg) (W : World) :
    Calls Try.prog 30 #[colV3 c, pgVal p] W fun e W' => e = .returned (.bool (pageOk c p)) ∧ Keep [] W W' := by
  obtain ⟨v, hv⟩ : ∃ v, Hid (pageOk c p = v) := ⟨_, rfl⟩
  rw [hv.out]
  have vno : ¬ pageFits c p → Hid (v = false) := fun h => by rw [Hid, ← hv.out, pageOk_no h]
  have vyes : pageFits c p → Hid (v = rightS c.typ.toInt p.stat) := fun h => by rw [Hid, ← hv.out, pageOk_yes h]
  replace vno := Lib.hid vno
  replace vyes := Lib.hid vyes
  clear hv
  have hk2 : ∀ w, Keep [] ((W.alloc (.cells #[.string c.name, .int .i64 c.typ.toInt, .bool c.null] 56)).alloc (.cells #[.int .i64 p.size.toInt, .int .i64 p.rows.toInt, .int .i64 p.stat.nulls.toInt, .bool p.stat.has, .bool p.stat.min.null, .int .i64 p.stat.min.int.toInt, .string p.stat.min.text, .int .i64 p.stat.min.x.toInt, .int .i64 p.stat.min.y.toInt, .bool p.stat.max.null, .int .i64 p.stat.max.int.toInt, .string p.stat.max.text, .int .i64 p.stat.max.x.toInt, .int .i64 p.stat.max.y.toInt] 54)) w → Keep [] W w := fun w h => (((Keep.refl [] W).alloc _).alloc _).trans h
  replace hk2 := Lib.hid hk2
  by_cases q1 : p.rows.toInt < 1
  · have v1 := vno.out (by unfold pageFits; omega)
    go_enter Try.func30, Try.ntmps30
    go_wp2
    go_ret
    exact ⟨ret_b (by rw [v1.out]), hk2.out _ (Keep.refl _ _)⟩
  by_cases q2 : 65536 < p.rows.toInt
  · have v1 := vno.out (by unfold pageFits; omega)
    go_enter Try.func30, Try.ntmps30
    go_wp2
    go_ret
    exact ⟨ret_b (by rw [v1.out]), hk2.out _ (Keep.refl _ _)⟩
  by_cases q3 : p.size.toInt < 1
  · have v1 := vno.out (by unfold pageFits; omega)
    go_enter Try.func30, Try.ntmps30
    go_wp2
    go_ret
    exact ⟨ret_b (by rw [v1.out]), hk2.out _ (Keep.refl _ _)⟩
  by_cases q4 : 268435456 < p.size.toInt
  · have v1 := vno.out (by unfold pageFits; omega)
    go_enter Try.func30, Try.ntmps30
    go_wp2
    go_ret
    exact ⟨ret_b (by rw [v1.out]), hk2.out _ (Keep.refl _ _)⟩
  by_cases q5 : p.rows.toInt < p.stat.nulls.toInt
  · have v1 := vno.out (by unfold pageFits; omega)
    go_enter Try.func30, Try.ntmps30
    go_wp2
    go_ret
    exact ⟨ret_b (by rw [v1.out]), hk2.out _ (Keep.refl _ _)⟩
  obtain ⟨lt, hlt⟩ : ∃ lt, decide (p.stat.nulls.toInt < p.rows.toInt) = lt := ⟨_, rfl⟩
  by_cases q6 : p.stat.has = lt
  · by_cases q7 : 0 < p.stat.nulls.toInt ∧ c.null = false
    · obtain ⟨q7, q8⟩ := q7
      have v1 := vno.out (by unfold pageFits; rintro ⟨_, _, _, _, _, _, h⟩; rw [h q7] at q8; cases q8)
      rw [q6, q8] at hk2
      go_enter Try.func30, Try.ntmps30
      go_wp2
      go_ret
      exact ⟨ret_b (by rw [v1.out]), hk2.out _ (Keep.refl _ _)⟩
    · have v1 := vyes.out ⟨by omega, by omega, by omega, by omega, by omega, by rw [q6, hlt], fun h => by
        cases hn : c.null with
        | true => rfl
        | false => exact absurd ⟨h, hn⟩ q7⟩
      have C := rightS_prog c.typ.toInt p.stat
      rw [stVal, q6] at C
      rw [q6] at hk2
      generalize rightS c.typ.toInt p.stat = rs at *
      replace C := Lib.hid C
      by_cases q8 : 0 < p.stat.nulls.toInt
      · have q9 : c.null = true := by
          cases hn : c.null with
          | true => rfl
          | false => exact absurd ⟨q8, hn⟩ q7
        rw [q9] at hk2
        go_enter Try.func30, Try.ntmps30
        go_wp2_with fail
        refine (C.out _).mono ?_
        rintro e w3 ⟨rfl, hk3⟩
        go_wp2
        go_ret
        exact ⟨ret_b (by rw [v1.out]), hk2.out _ hk3⟩
      · go_enter Try.func30, Try.ntmps30
        go_wp2_with fail
        refine (C.out _).mono ?_
        rintro e w3 ⟨rfl, hk3⟩
        go_wp2
        go_ret
        exact ⟨ret_b (by rw [v1.out]), hk2.out _ hk3⟩
  · have v1 := vno.out (by unfold pageFits; rintro ⟨_, _, _, _, _, h, _⟩; rw [hlt] at h; exact q6 h)
    cases hh : p.stat.has with
    | true =>
      have hl : lt = false := by cases lt with
        | true => exact absurd hh q6
        | false => rfl
      subst hl
      have hlt2 := of_decide_eq_false hlt
      rw [hh] at hk2
      clear q6
      go_enter Try.func30, Try.ntmps30
      go_wp2
      go_ret
      exact ⟨ret_b (by rw [v1.out]), hk2.out _ (Keep.refl _ _)⟩
    | false =>
      have hl : lt = true := by cases lt with
        | false => exact absurd hh q6
        | true => rfl
      subst hl
      have hlt2 := of_decide_eq_true hlt
      rw [hh] at hk2
      clear q6
      go_enter Try.func30, Try.ntmps30
      go_wp2
      go_ret
      exact ⟨ret_b (by rw [v1.out]), hk2.out _ (Keep.refl _ _)⟩
end Go.Proofs.Ytcpimhefclfbaaa

namespace Go.Proofs.Ytcpimhefclfbaaa
open Go Go.RowKit
set_option maxRecDepth 10000
set_option linter.unusedVariables false
set_option linter.unusedSimpArgs false

theorem pgAt {w : World} {p : Nat} {t : TypeId} {q : Pg} (h : Blk w p t q.cs) :
    (w.cell? ⟨p, 0, none⟩ = some (.int .i64 q.size.toInt) ∧ w.cell? ⟨p, 1, none⟩ = some (.int .i64 q.rows.toInt)) ∧ (w.cell? ⟨p, 2, none⟩ = some (.int .i64 q.stat.nulls.toInt) ∧ w.cell? ⟨p, 3, none⟩ = some (.bool q.stat.has)) ∧
    (w.cell? ⟨p, 4, none⟩ = some (.bool q.stat.min.null) ∧ w.cell? ⟨p, 5, none⟩ = some (.int .i64 q.stat.min.int.toInt) ∧ w.cell? ⟨p, 6, none⟩ = some (.string q.stat.min.text) ∧ w.cell? ⟨p, 7, none⟩ = some (.int .i64 q.stat.min.x.toInt) ∧ w.cell? ⟨p, 8, none⟩ = some (.int .i64 q.stat.min.y.toInt)) ∧
    (w.cell? ⟨p, 9, none⟩ = some (.bool q.stat.max.null) ∧ w.cell? ⟨p, 10, none⟩ = some (.int .i64 q.stat.max.int.toInt) ∧ w.cell? ⟨p, 11, none⟩ = some (.string q.stat.max.text) ∧ w.cell? ⟨p, 12, none⟩ = some (.int .i64 q.stat.max.x.toInt) ∧ w.cell? ⟨p, 13, none⟩ = some (.int .i64 q.stat.max.y.toInt)) :=
  ⟨⟨h.cell 0, h.cell 1⟩, ⟨h.cell 2, h.cell 3⟩, ⟨h.cell 4, h.cell 5, h.cell 6, h.cell 7, h.cell 8⟩, ⟨h.cell 9, h.cell 10, h.cell 11, h.cell 12, h.cell 13⟩⟩
theorem at3 {w : World} {p : Nat} {t : TypeId} {a b c : Value} (h : Blk w p t [a, b, c]) : w.cell? ⟨p, 0, none⟩ = some a ∧ w.cell? ⟨p, 1, none⟩ = some b ∧ w.cell? ⟨p, 2, none⟩ = some c := ⟨h.cell 0, h.cell 1, h.cell 2⟩
theorem at2 {w : World} {p : Nat} {t : TypeId} {a b : Value} (h : Blk w p t [a, b]) : w.cell? ⟨p, 0, none⟩ = some a ∧ w.cell? ⟨p, 1, none⟩ = some b := ⟨h.cell 0, h.cell 1⟩

theorem rightF_bad {f : Ftr} (h : ¬ (colsE f.cols = 0 ∧ 0 ≤ f.rows.toInt ∧ f.rows.toInt ≤ 65536)) : rightF f = false := by
  unfold rightF
  rw [decide_eq_false h]
  rfl
theorem rightF_ok {f : Ftr} (h : colsE f.cols = 0 ∧ 0 ≤ f.rows.toInt ∧ f.rows.toInt ≤ 65536) : rightF f = groupsF f.cols f.rows.toInt 1073741824 f.groups := by
  unfold rightF
  rw [decide_eq_true h]
  rfl

set_option maxHeartbeats 8000000 in
theorem right_prog {X : List Nat} {F : Value} {f : Ftr} (W : World) (h : FtrR X W F f) :
    Calls Try.prog 12 #[F] W fun e W' => e = .returned (.bool (rightF f)) ∧ Keep [] W W' := by
  obtain ⟨A, c, G, rfl, hcols, hgr, ht⟩ := h
  obtain ⟨A2, c2, rfl, hg1, hg2⟩ := hgr.form
  have hcc := hcols.cap
  have hcl := hcols.le
  obtain ⟨v, hv⟩ : ∃ v, Hid (rightF f = v) := ⟨_, rfl⟩
  rw [hv.out]
  have vbad : ¬ (colsE f.cols = 0 ∧ 0 ≤ f.rows.toInt ∧ f.rows.toInt ≤ 65536) → Hid (v = false) := fun h => by rw [Hid, ← hv.out, rightF_bad h]
  have vok : (colsE f.cols = 0 ∧ 0 ≤ f.rows.toInt ∧ f.rows.toInt ≤ 65536) → Hid (v = groupsF f.cols f.rows.toInt 1073741824 f.groups) := fun h => by rw [Hid, ← hv.out, rightF_ok h]
  replace vbad := Lib.hid vbad
  replace vok := Lib.hid vok
  clear hv
  obtain ⟨W1, hW1⟩ : ∃ W1, W.alloc (.cells #[.slice A f.cols.length c, .int .i64 f.rows.toInt, .slice A2 f.groups.length c2] 25) = W1 := ⟨_, rfl⟩
  have hk1 : Keep [] W W1 := by rw [← hW1]; exact (Keep.refl _ _).alloc _
  have hb1 : Blk W1 W.heap.size 25 [.slice A f.cols.length c, .int .i64 f.rows.toInt, .slice A2 f.groups.length c2] := by rw [← hW1]; exact Blk.new W 25 _
  obtain ⟨a0, a1, a2⟩ := at3 hb1
  have C := cols_prog W1 (hcols.pure hk1) ht
  unfold maxLen at hg2
  generalize hce : colsE f.cols = ce at *
  replace C := Lib.hid C
  by_cases hE : ce ≠ 0
  · have v1 := vbad.out (by rintro ⟨h, _⟩; exact hE h)
    have hne : (ce != 0) = true := by simpa using hE
    go_enter Try.func12, Try.ntmps12
    go_wp2_with fail
    try simp only [hW1]
    refine C.out.mono ?_
    rintro e w1 ⟨rfl, hk2⟩
    go_wp2
    go_ret
    exact ⟨ret_b (by rw [v1.out]), hk1.trans hk2⟩
  obtain rfl : ce = 0 := Classical.not_not.1 hE
  clear hE
  by_cases q1 : f.rows.toInt < 0
  · have v1 := vbad.out (by omega)
    go_enter Try.func12, Try.ntmps12
    go_wp2_with fail
    try simp only [hW1]
    refine C.out.mono ?_
    rintro e w1 ⟨rfl, hk2⟩
    obtain ⟨a0, a1, a2⟩ := at3 (hb1.keep hk2 (by simp))
    go_wp2
    go_ret
    exact ⟨ret_b (by rw [v1.out]), hk1.trans hk2⟩
  by_cases q2 : 65536 < f.rows.toInt
  · have v1 := vbad.out (by omega)
    go_enter Try.func12, Try.ntmps12
    go_wp2_with fail
    try simp only [hW1]
    refine C.out.mono ?_
    rintro e w1 ⟨rfl, hk2⟩
    obtain ⟨a0, a1, a2⟩ := at3 (hb1.keep hk2 (by simp))
    go_wp2
    go_ret
    exact ⟨ret_b (by rw [v1.out]), hk1.trans hk2⟩
  have v1 := vok.out ⟨rfl, by omega, by omega⟩
  clear vok vbad
  go_enter Try.func12, Try.ntmps12
  go_wp2_with fail
  try simp only [hW1]
  refine C.out.mono ?_
  rintro e w1 ⟨rfl, hk2⟩
  have hb2 := hb1.keep hk2 (by simp)
  have hk12 := hk1.trans hk2
  obtain ⟨a0, a1, a2⟩ := at3 hb2
  clear C hW1
  go_wp2
  go_loopw [3, 4, 31] (fun lf rm i wr => ∃ (k : Nat) (left room : Int), k ≤ f.groups.length ∧ i = .int .i64 k ∧ lf = .int .i64 left ∧ rm = .int .i64 room ∧ 0 ≤ left ∧ left ≤ 65536 ∧ 0 ≤ room ∧ room ≤ 1073741824 ∧ Hid (v = groupsF f.cols left room (f.groups.drop k)) ∧ Keep [] w1 wr) (fun _ _ i _ => f.groups.length - (intOf i).toNat)
  case atStart => exact ⟨0, _, _, Nat.zero_le _, rfl, rfl, rfl, by omega, by omega, by omega, by omega, v1, Keep.refl _ _⟩
  case round =>
    obtain ⟨k, left, room, hk, rfl, rfl, rfl, hl0, hl1, hr0, hr1, HV, hkr⟩ := hrel
    by_cases hlt : k < f.groups.length
    · obtain ⟨b, off, A3, c3, e1, g0, g1, hch, hc3, hc3'⟩ := (hgr.pure (hk12.trans hkr)).at_ hlt
      subst e1
      have HV2 := Lib.hid (HV.out.trans (groupsF_at _ k hlt))
      generalize f.groups[k] = g at *
      unfold maxLen at hc3'
      have hbr := hb2.keep hkr (by simp)
      obtain ⟨x0, x1, x2⟩ := at3 hbr
      have hWlt := hbr.lt
      have i0' : (0 : Int) ≤ (k : Int) := by omega
      have i1' : (k : Int) < (f.groups.length : Int) := by omega
      have hka : Keep [] w1 (wr.alloc (.cells #[.int .i64 g.rows.toInt, .slice A3 g.chunks.length c3] 44)) := hkr.alloc _
      have hba : Blk (wr.alloc (.cells #[.int .i64 g.rows.toInt, .slice A3 g.chunks.length c3] 44)) wr.heap.size 44 [.int .i64 g.rows.toInt, .slice A3 g.chunks.length c3] := Blk.new wr 44 _
      clear HV
      by_cases r1 : g.rows.toInt < 1
      · have v2 : Hid (v = false) := by rw [Hid, HV2.out, if_neg (by omega)]
        go_wp2
        go_ret
        exact ⟨ret_b (by rw [v2.out]), hk12.trans hka⟩
      by_cases r2 : left < g.rows.toInt
      · have v2 : Hid (v = false) := by rw [Hid, HV2.out, if_neg (by omega)]
        go_wp2
        go_ret
        exact ⟨ret_b (by rw [v2.out]), hk12.trans hka⟩
      by_cases r3 : g.chunks.length ≠ f.cols.length
      · have v2 : Hid (v = false) := by rw [Hid, HV2.out, if_neg (by rintro ⟨_, _, h⟩; exact r3 h)]
        have r4 : ((g.chunks.length : Int) != (f.cols.length : Int)) = true := by rw [bne_iff_ne]; omega
        clear r3
        go_wp2
        go_ret
        exact ⟨ret_b (by rw [v2.out]), hk12.trans hka⟩
      have r5 : g.chunks.length = f.cols.length := Classical.not_not.1 r3
      have r4 : ((g.chunks.length : Int) != (f.cols.length : Int)) = false := by rw [r5]; simp
      obtain ⟨T, hT0, hT1, hT2⟩ : ∃ T : Option Int → Bool, T none = false ∧ (∀ r, T (some r) = groupsF f.cols (left - g.rows.toInt) r (f.groups.drop (k + 1))) ∧ v = T (chunksF g.rows.toInt room ((f.cols.zip g.chunks).drop 0)) :=
        ⟨fun o => match o with | none => false | some r => groupsF f.cols (left - g.rows.toInt) r (f.groups.drop (k + 1)), rfl, fun _ => rfl, by rw [HV2.out, if_pos ⟨by omega, by omega, r5⟩, List.drop_zero]; rfl⟩
      replace hT0 := Lib.hid hT0
      replace hT1 := Lib.hid hT1
      replace r5 := Lib.hid r5
      have v2 : Hid (v = T (chunksF g.rows.toInt room ((f.cols.zip g.chunks).drop 0))) := hT2
      clear r3 HV2 hT2
      obtain ⟨WA, hWA⟩ : ∃ WA, wr.alloc (.cells #[.int .i64 g.rows.toInt, .slice A3 g.chunks.length c3] 44) = WA := ⟨_, rfl⟩
      have hkrA : Keep [] wr WA := by rw [← hWA]; exact (Keep.refl _ _).alloc _
      rw [hWA] at hka hba
      obtain ⟨z0, z1⟩ := at2 hba
      obtain ⟨x3, x4, x5⟩ := at3 (hbr.keep hkrA (by simp))
      go_wp2
      clear hWA g0 g1 x0 x1 x2 x3 x4 x5 z0 z1
      go_loopw [4, 60] (fun rm i w => ∃ (q : Nat) (room' : Int), q ≤ g.chunks.length ∧ i = .int .i64 q ∧ rm = .int .i64 room' ∧ 0 ≤ room' ∧ room' ≤ 1073741824 ∧ Hid (v = T (chunksF g.rows.toInt room' ((f.cols.zip g.chunks).drop q))) ∧ Keep [] WA w) (fun _ i _ => g.chunks.length - (intOf i).toNat)
      case atStart => exact ⟨0, _, Nat.zero_le _, rfl, rfl, by omega, by omega, v2, Keep.refl _ _⟩
      case round =>
        obtain ⟨q, room', hq, rfl, rfl, hs0, hs1, HW, hkq⟩ := hrel
        have hbq := hba.keep hkq (by simp)
        have hbfq := hbr.keep (hkrA.trans hkq) (by simp)
        obtain ⟨x0, x1, x2⟩ := at3 hbfq
        obtain ⟨z0, z1⟩ := at2 hbq
        by_cases hqt : q < g.chunks.length
        · have hqc : q < f.cols.length := by have := r5.out; omega
          obtain ⟨b', off', A4, c4, e4, d0, hpg, hc4, hc4'⟩ := (hch.pure (hkrA.trans hkq)).at_ hqt
          subst e4
          have HW2 := Lib.hid (HW.out.trans (congrArg T (chunksF_at f.cols g.chunks q hqc hqt)))
          obtain ⟨cb, coff, ce, _, _, y0, y1, y2⟩ := Cols.at3 (hcols.pure (hk12.trans (hka.trans hkq))) hqc
          subst ce
          have hcell : ∀ w, Keep [] wr w → w.cell? ⟨cb, coff + q * 3, none⟩ = some (.string f.cols[q].name) ∧ w.cell? ⟨cb, coff + q * 3 + 1, none⟩ = some (.int .i64 f.cols[q].typ.toInt) ∧ w.cell? ⟨cb, coff + q * 3 + 2, none⟩ = some (.bool f.cols[q].null) := fun w hw => by
            obtain ⟨_, _, e', _, _, h0, h1, h2⟩ := Cols.at3 (hcols.pure ((hk12.trans (hka.trans hkq)).trans hw)) hqc
            cases e'
            exact ⟨h0, h1, h2⟩
          replace hcell := Lib.hid hcell
          clear y0 y1 y2 HW
          generalize f.cols[q] = x at *
          generalize g.chunks[q] = l at *
          obtain ⟨T2, hU0, hU1, hU2⟩ : ∃ T2 : Option Int → Bool, T2 none = false ∧ (∀ r, T2 (some r) = T (chunksF g.rows.toInt r ((f.cols.zip g.chunks).drop (q + 1)))) ∧ v = T2 (chunkF x g.rows.toInt room' (l.drop 0)) :=
            ⟨fun o => match o with | none => false | some r => T (chunksF g.rows.toInt r ((f.cols.zip g.chunks).drop (q + 1))), rfl, fun _ => rfl, by
              rw [HW2.out, List.drop_zero]
              cases chunkF x g.rows.toInt room' l with
              | none => exact hT0.out
              | some r => rfl⟩
          replace hU0 := Lib.hid hU0
          replace hU1 := Lib.hid hU1
          have v3 : Hid (v = T2 (chunkF x g.rows.toInt room' (l.drop 0))) := hU2
          clear HW2 hU2
          unfold maxLen at hc4'
          have j0' : (0 : Int) ≤ (q : Int) := by omega
          have j1' : (q : Int) < (g.chunks.length : Int) := by omega
          have j2' : (q : Int) < (f.cols.length : Int) := by omega
          go_wp2
          go_loopw [4, 9, 69] (fun rm rs i w => ∃ (m : Nat) (rows' room2 : Int), m ≤ l.length ∧ i = .int .i64 m ∧ rm = .int .i64 room2 ∧ rs = .int .i64 rows' ∧ 0 ≤ rows' ∧ rows' ≤ 65536 ∧ 0 ≤ room2 ∧ room2 ≤ 1073741824 ∧ Hid (v = T2 (chunkF x rows' room2 (l.drop m))) ∧ Keep [] wr w) (fun _ _ i _ => l.length - (intOf i).toNat)
          case atStart => exact ⟨0, _, _, Nat.zero_le _, rfl, rfl, rfl, by omega, by omega, by omega, by omega, v3, Keep.refl _ _⟩
          case round =>
            obtain ⟨m, rows', room2, hm, rfl, rfl, rfl, ht0, ht1, hu0, hu1, HX, hkm⟩ := hrel
            by_cases hmt : m < l.length
            · obtain ⟨pb, poff, e5, _, _, ⟨z0, z1⟩, ⟨z2, z3⟩, ⟨z4, z5, z6, z7, z8⟩, ⟨z9, z10, z11, z12, z13⟩⟩ := (hpg.pure hkm).at14 hmt
              subst e5
              have HX2 := Lib.hid (HX.out.trans (congrArg T2 (chunkF_at l m hmt)))
              generalize l[m] = p at *
              have m0' : (0 : Int) ≤ (m : Int) := by omega
              have m1' : (m : Int) < (l.length : Int) := by omega
              obtain ⟨WP, hWP⟩ : ∃ WP, wr.alloc (.cells #[.int .i64 p.size.toInt, .int .i64 p.rows.toInt, .int .i64 p.stat.nulls.toInt, .bool p.stat.has, .bool p.stat.min.null, .int .i64 p.stat.min.int.toInt, .string p.stat.min.text, .int .i64 p.stat.min.x.toInt, .int .i64 p.stat.min.y.toInt, .bool p.stat.max.null, .int .i64 p.stat.max.int.toInt, .string p.stat.max.text, .int .i64 p.stat.max.x.toInt, .int .i64 p.stat.max.y.toInt] 54) = WP := ⟨_, rfl⟩
              have hkmP : Keep [] wr WP := by rw [← hWP]; exact (Keep.refl _ _).alloc _
              have hpP : Blk WP wr.heap.size 54 p.cs := by rw [← hWP]; exact Blk.new wr 54 _
              have hbP := hbfq.keep (hkm.trans hkmP) (by simp)
              have hcx : ∀ w, Keep [] WP w → w.cell? ⟨cb, coff + q * 3, none⟩ = some (.string x.name) ∧ w.cell? ⟨cb, coff + q * 3 + 1, none⟩ = some (.int .i64 x.typ.toInt) ∧ w.cell? ⟨cb, coff + q * 3 + 2, none⟩ = some (.bool x.null) := fun w hw => hcell.out w ((hkm.trans hkmP).trans hw)
              replace hcx := Lib.hid hcx
              have hkP : Keep [] w1 WP := (hka.trans hkq).trans (hkm.trans hkmP)
              clear HX
              go_wp2_with fail
              try simp only [hWP]
              clear hWP z0 z1 z2 z3 z4 z5 z6 z7 z8 z9 z10 z11 z12 z13
              cases hok : pageOk x p with
              | false =>
                have v2 : Hid (v = false) := by rw [Hid, HX2.out, if_neg (by rintro ⟨h, _⟩; rw [hok] at h; cases h)]; exact hU0.out
                go_wp2_with fail
                refine wp_region_ords 19 [] (fun _ _ => True) (List.replicate 19 false) (Slot.val ?_ :: Slot.val ?_ :: Slot.val ?_ :: Slot.val ?_ :: Slot.val ?_ :: Slot.val ?_ :: Slot.val ?_ :: Slot.val ?_ :: Slot.val ?_ :: Slot.val ?_ :: Slot.val ?_ :: Slot.val ?_ :: Slot.val ?_ :: Slot.val ?_ :: Slot.val ?_ :: Slot.val ?_ :: Slot.val ?_ :: Slot.val ?_ :: Slot.val ?_ :: []) (by kernel_rfl) rfl rfl (by kernel_rfl) ?_ (fun _ _ _ _ _ => trivial) trivial ?_
                rotate_left 19
                · intro t ht
                  simp only [List.mem_cons, List.not_mem_nil, or_false] at ht
                  rcases ht with rfl | rfl | rfl | rfl | rfl | rfl | rfl | rfl | rfl | rfl | rfl | rfl | rfl | rfl | rfl | rfl | rfl | rfl | rfl
                  all_goals first | exact trivial | exact SlTo.lasts (by simp) | exact PtrTo.lasts (by simp) | exact RdIs.lasts
                simp only [List.take_succ_cons, List.take_zero, List.drop_succ_cons, List.drop_zero]
                repeat ((first | (refine obls_cons (obl_skip (fun vals => by rfl) ?_) ?_; (exact rfl)) | (refine obls_cons (obl_val (fun vals => by rfl) (fun vals w hw hd => ?_)) ?_; (obtain ⟨x0, x1, x2⟩ := at3 (hbP.keep hw (by simp)); obtain ⟨y0, y1, y2⟩ := hcx.out w hw; obtain ⟨⟨z0, z1⟩, ⟨z2, z3⟩, ⟨z4, z5, z6, z7, z8⟩, ⟨z9, z10, z11, z12, z13⟩⟩ := pgAt (hpP.keep hw (by simp)); go_simp; exact rfl))); simp only [Slot.put, Slot.chain, Bool.false_eq_true, if_false, if_true, Nat.add_zero, Nat.zero_add, Nat.reduceAdd, Act.put, List.setIfInBounds_toArray, List.set_cons_succ, List.set_cons_zero])
                refine obls_cons (obl_call (f := ?_) (args := ?_) (fun vals => by rfl) (fun vals w hw hd => ?_) (fun vals w hw hd => ?_)) ?_
                rotate_left 2
                · go_simp; exact rfl
                · have C := page_prog x p w; rw [hok] at C; exact C
                simp only [Slot.put, Slot.chain, Bool.false_eq_true, if_false, if_true, Nat.add_zero, Nat.zero_add, Nat.reduceAdd, Act.put, List.setIfInBounds_toArray, List.set_cons_succ, List.set_cons_zero]
                repeat ((first | (refine obls_cons (obl_skip (fun vals => by rfl) ?_) ?_; (exact rfl)) | (refine obls_cons (obl_val (fun vals => by rfl) (fun vals w hw hd => ?_)) ?_; (obtain ⟨x0, x1, x2⟩ := at3 (hbP.keep hw (by simp)); obtain ⟨y0, y1, y2⟩ := hcx.out w hw; obtain ⟨⟨z0, z1⟩, ⟨z2, z3⟩, ⟨z4, z5, z6, z7, z8⟩, ⟨z9, z10, z11, z12, z13⟩⟩ := pgAt (hpP.keep hw (by simp)); go_simp; exact rfl))); simp only [Slot.put, Slot.chain, Bool.false_eq_true, if_false, if_true, Nat.add_zero, Nat.zero_add, Nat.reduceAdd, Act.put, List.setIfInBounds_toArray, List.set_cons_succ, List.set_cons_zero])
                refine obls_nil (fun vals w3 hw _ hall => ?_)
                clear hall
                go_wp2
                go_ret
                exact ⟨ret_b (by rw [v2.out]), (hk12.trans hkP).trans hw⟩
              | true =>
                have hpo := pageOk_is hok
                by_cases s1 : rows' < p.rows.toInt
                · have hs1 : decide (rows' < p.rows.toInt) = true := decide_eq_true s1
                  have v2 : Hid (v = false) := by rw [Hid, HX2.out, if_neg (by rintro ⟨_, h, _⟩; omega)]; exact hU0.out
                  go_wp2_with fail
                  refine wp_region_ords 19 [] (fun _ _ => True) (List.replicate 19 false) (Slot.val ?_ :: Slot.val ?_ :: Slot.val ?_ :: Slot.val ?_ :: Slot.val ?_ :: Slot.val ?_ :: Slot.val ?_ :: Slot.val ?_ :: Slot.val ?_ :: Slot.val ?_ :: Slot.val ?_ :: Slot.val ?_ :: Slot.val ?_ :: Slot.val ?_ :: Slot.val ?_ :: Slot.val ?_ :: Slot.val ?_ :: Slot.val ?_ :: Slot.val ?_ :: []) (by kernel_rfl) rfl rfl (by kernel_rfl) ?_ (fun _ _ _ _ _ => trivial) trivial ?_
                  rotate_left 19
                  · intro t ht
                    simp only [List.mem_cons, List.not_mem_nil, or_false] at ht
                    rcases ht with rfl | rfl | rfl | rfl | rfl | rfl | rfl | rfl | rfl | rfl | rfl | rfl | rfl | rfl | rfl | rfl | rfl | rfl | rfl
                    all_goals first | exact trivial | exact SlTo.lasts (by simp) | exact PtrTo.lasts (by simp) | exact RdIs.lasts
                  simp only [List.take_succ_cons, List.take_zero, List.drop_succ_cons, List.drop_zero]
                  repeat ((first | (refine obls_cons (obl_skip (fun vals => by rfl) ?_) ?_; (exact rfl)) | (refine obls_cons (obl_val (fun vals => by rfl) (fun vals w hw hd => ?_)) ?_; (obtain ⟨x0, x1, x2⟩ := at3 (hbP.keep hw (by simp)); obtain ⟨y0, y1, y2⟩ := hcx.out w hw; obtain ⟨⟨z0, z1⟩, ⟨z2, z3⟩, ⟨z4, z5, z6, z7, z8⟩, ⟨z9, z10, z11, z12, z13⟩⟩ := pgAt (hpP.keep hw (by simp)); go_simp; exact rfl))); simp only [Slot.put, Slot.chain, Bool.false_eq_true, if_false, if_true, Nat.add_zero, Nat.zero_add, Nat.reduceAdd, Act.put, List.setIfInBounds_toArray, List.set_cons_succ, List.set_cons_zero])
                  refine obls_cons (obl_call (f := ?_) (args := ?_) (fun vals => by rfl) (fun vals w hw hd => ?_) (fun vals w hw hd => ?_)) ?_
                  rotate_left 2
                  · go_simp; exact rfl
                  · have C := page_prog x p w; rw [hok] at C; exact C
                  simp only [Slot.put, Slot.chain, Bool.false_eq_true, if_false, if_true, Nat.add_zero, Nat.zero_add, Nat.reduceAdd, Act.put, List.setIfInBounds_toArray, List.set_cons_succ, List.set_cons_zero]
                  repeat ((first | (refine obls_cons (obl_skip (fun vals => by rfl) ?_) ?_; (exact rfl)) | (refine obls_cons (obl_val (fun vals => by rfl) (fun vals w hw hd => ?_)) ?_; (obtain ⟨x0, x1, x2⟩ := at3 (hbP.keep hw (by simp)); obtain ⟨y0, y1, y2⟩ := hcx.out w hw; obtain ⟨⟨z0, z1⟩, ⟨z2, z3⟩, ⟨z4, z5, z6, z7, z8⟩, ⟨z9, z10, z11, z12, z13⟩⟩ := pgAt (hpP.keep hw (by simp)); go_simp; exact rfl))); simp only [Slot.put, Slot.chain, Bool.false_eq_true, if_false, if_true, Nat.add_zero, Nat.zero_add, Nat.reduceAdd, Act.put, List.setIfInBounds_toArray, List.set_cons_succ, List.set_cons_zero])
                  refine obls_nil (fun vals w3 hw _ hall => ?_)
                  clear hall
                  go_wp2
                  go_ret
                  exact ⟨ret_b (by rw [v2.out]), (hk12.trans hkP).trans hw⟩
                have hs1 : decide (rows' < p.rows.toInt) = false := decide_eq_false s1
                by_cases s2 : room2 < p.size.toInt
                · have hs2 : decide (room2 < p.size.toInt) = true := decide_eq_true s2
                  have v2 : Hid (v = false) := by rw [Hid, HX2.out, if_neg (by rintro ⟨_, _, h⟩; omega)]; exact hU0.out
                  go_wp2_with fail
                  refine wp_region_ords 19 [] (fun _ _ => True) (List.replicate 19 false) (Slot.val ?_ :: Slot.val ?_ :: Slot.val ?_ :: Slot.val ?_ :: Slot.val ?_ :: Slot.val ?_ :: Slot.val ?_ :: Slot.val ?_ :: Slot.val ?_ :: Slot.val ?_ :: Slot.val ?_ :: Slot.val ?_ :: Slot.val ?_ :: Slot.val ?_ :: Slot.val ?_ :: Slot.val ?_ :: Slot.val ?_ :: Slot.val ?_ :: Slot.val ?_ :: []) (by kernel_rfl) rfl rfl (by kernel_rfl) ?_ (fun _ _ _ _ _ => trivial) trivial ?_
                  rotate_left 19
                  · intro t ht
                    simp only [List.mem_cons, List.not_mem_nil, or_false] at ht
                    rcases ht with rfl | rfl | rfl | rfl | rfl | rfl | rfl | rfl | rfl | rfl | rfl | rfl | rfl | rfl | rfl | rfl | rfl | rfl | rfl
                    all_goals first | exact trivial | exact SlTo.lasts (by simp) | exact PtrTo.lasts (by simp) | exact RdIs.lasts
                  simp only [List.take_succ_cons, List.take_zero, List.drop_succ_cons, List.drop_zero]
                  repeat ((first | (refine obls_cons (obl_skip (fun vals => by rfl) ?_) ?_; (exact rfl)) | (refine obls_cons (obl_val (fun vals => by rfl) (fun vals w hw hd => ?_)) ?_; (obtain ⟨x0, x1, x2⟩ := at3 (hbP.keep hw (by simp)); obtain ⟨y0, y1, y2⟩ := hcx.out w hw; obtain ⟨⟨z0, z1⟩, ⟨z2, z3⟩, ⟨z4, z5, z6, z7, z8⟩, ⟨z9, z10, z11, z12, z13⟩⟩ := pgAt (hpP.keep hw (by simp)); go_simp; exact rfl))); simp only [Slot.put, Slot.chain, Bool.false_eq_true, if_false, if_true, Nat.add_zero, Nat.zero_add, Nat.reduceAdd, Act.put, List.setIfInBounds_toArray, List.set_cons_succ, List.set_cons_zero])
                  refine obls_cons (obl_call (f := ?_) (args := ?_) (fun vals => by rfl) (fun vals w hw hd => ?_) (fun vals w hw hd => ?_)) ?_
                  rotate_left 2
                  · go_simp; exact rfl
                  · have C := page_prog x p w; rw [hok] at C; exact C
                  simp only [Slot.put, Slot.chain, Bool.false_eq_true, if_false, if_true, Nat.add_zero, Nat.zero_add, Nat.reduceAdd, Act.put, List.setIfInBounds_toArray, List.set_cons_succ, List.set_cons_zero]
                  repeat ((first | (refine obls_cons (obl_skip (fun vals => by rfl) ?_) ?_; (exact rfl)) | (refine obls_cons (obl_val (fun vals => by rfl) (fun vals w hw hd => ?_)) ?_; (obtain ⟨x0, x1, x2⟩ := at3 (hbP.keep hw (by simp)); obtain ⟨y0, y1, y2⟩ := hcx.out w hw; obtain ⟨⟨z0, z1⟩, ⟨z2, z3⟩, ⟨z4, z5, z6, z7, z8⟩, ⟨z9, z10, z11, z12, z13⟩⟩ := pgAt (hpP.keep hw (by simp)); go_simp; exact rfl))); simp only [Slot.put, Slot.chain, Bool.false_eq_true, if_false, if_true, Nat.add_zero, Nat.zero_add, Nat.reduceAdd, Act.put, List.setIfInBounds_toArray, List.set_cons_succ, List.set_cons_zero])
                  refine obls_nil (fun vals w3 hw _ hall => ?_)
                  clear hall
                  go_wp2
                  go_ret
                  exact ⟨ret_b (by rw [v2.out]), (hk12.trans hkP).trans hw⟩
                have hs2 : decide (room2 < p.size.toInt) = false := decide_eq_false s2
                have v2 : Hid (v = T2 (chunkF x (rows' - p.rows.toInt) (room2 - p.size.toInt) (l.drop (m + 1)))) := by rw [Hid, HX2.out, if_pos ⟨hok, by omega, by omega⟩]
                obtain ⟨hp1, hp2, hp3, hp4, _⟩ := hpo
                go_wp2_with fail
                refine wp_region_ords 19 [] (fun _ _ => True) (List.replicate 19 false) (Slot.val ?_ :: Slot.val ?_ :: Slot.val ?_ :: Slot.val ?_ :: Slot.val ?_ :: Slot.val ?_ :: Slot.val ?_ :: Slot.val ?_ :: Slot.val ?_ :: Slot.val ?_ :: Slot.val ?_ :: Slot.val ?_ :: Slot.val ?_ :: Slot.val ?_ :: Slot.val ?_ :: Slot.val ?_ :: Slot.val ?_ :: Slot.val ?_ :: Slot.val ?_ :: []) (by kernel_rfl) rfl rfl (by kernel_rfl) ?_ (fun _ _ _ _ _ => trivial) trivial ?_
                rotate_left 19
                · intro t ht
                  simp only [List.mem_cons, List.not_mem_nil, or_false] at ht
                  rcases ht with rfl | rfl | rfl | rfl | rfl | rfl | rfl | rfl | rfl | rfl | rfl | rfl | rfl | rfl | rfl | rfl | rfl | rfl | rfl
                  all_goals first | exact trivial | exact SlTo.lasts (by simp) | exact PtrTo.lasts (by simp) | exact RdIs.lasts
                simp only [List.take_succ_cons, List.take_zero, List.drop_succ_cons, List.drop_zero]
                repeat ((first | (refine obls_cons (obl_skip (fun vals => by rfl) ?_) ?_; (exact rfl)) | (refine obls_cons (obl_val (fun vals => by rfl) (fun vals w hw hd => ?_)) ?_; (obtain ⟨x0, x1, x2⟩ := at3 (hbP.keep hw (by simp)); obtain ⟨y0, y1, y2⟩ := hcx.out w hw; obtain ⟨⟨z0, z1⟩, ⟨z2, z3⟩, ⟨z4, z5, z6, z7, z8⟩, ⟨z9, z10, z11, z12, z13⟩⟩ := pgAt (hpP.keep hw (by simp)); go_simp; exact rfl))); simp only [Slot.put, Slot.chain, Bool.false_eq_true, if_false, if_true, Nat.add_zero, Nat.zero_add, Nat.reduceAdd, Act.put, List.setIfInBounds_toArray, List.set_cons_succ, List.set_cons_zero])
                refine obls_cons (obl_call (f := ?_) (args := ?_) (fun vals => by rfl) (fun vals w hw hd => ?_) (fun vals w hw hd => ?_)) ?_
                rotate_left 2
                · go_simp; exact rfl
                · have C := page_prog x p w; rw [hok] at C; exact C
                simp only [Slot.put, Slot.chain, Bool.false_eq_true, if_false, if_true, Nat.add_zero, Nat.zero_add, Nat.reduceAdd, Act.put, List.setIfInBounds_toArray, List.set_cons_succ, List.set_cons_zero]
                repeat ((first | (refine obls_cons (obl_skip (fun vals => by rfl) ?_) ?_; (exact rfl)) | (refine obls_cons (obl_val (fun vals => by rfl) (fun vals w hw hd => ?_)) ?_; (obtain ⟨x0, x1, x2⟩ := at3 (hbP.keep hw (by simp)); obtain ⟨y0, y1, y2⟩ := hcx.out w hw; obtain ⟨⟨z0, z1⟩, ⟨z2, z3⟩, ⟨z4, z5, z6, z7, z8⟩, ⟨z9, z10, z11, z12, z13⟩⟩ := pgAt (hpP.keep hw (by simp)); go_simp; exact rfl))); simp only [Slot.put, Slot.chain, Bool.false_eq_true, if_false, if_true, Nat.add_zero, Nat.zero_add, Nat.reduceAdd, Act.put, List.setIfInBounds_toArray, List.set_cons_succ, List.set_cons_zero])
                refine obls_nil (fun vals w3 hw _ hall => ?_)
                clear hall
                obtain ⟨⟨z0, z1⟩, _⟩ := pgAt (hpP.keep hw (by simp))
                go_wp2
                go_quiet (fail)
                go_wp2
                go_roundw
                case rel => exact ⟨m + 1, _, _, by omega, by go_num, rfl, rfl, by omega, by omega, by omega, by omega, v2, (hkm.trans hkmP).trans (hw.drewN _)⟩
                case measure => simp [intOf]; omega
            · obtain rfl : m = l.length := by omega
              rw [List.drop_length, chunkF] at HX
              by_cases s3 : 0 < rows'
              · have v2 : Hid (v = false) := by rw [Hid, HX.out, if_pos s3]; exact hU0.out
                go_wp2
                go_ret
                exact ⟨ret_b (by rw [v2.out]), (hk12.trans (hka.trans hkq)).trans hkm⟩
              · have v2 : Hid (v = T (chunksF g.rows.toInt room2 ((f.cols.zip g.chunks).drop (q + 1)))) := by rw [Hid, HX.out, if_neg s3]; exact hU1.out _
                clear HX
                go_wp2
                go_roundw
                case rel => exact ⟨q + 1, _, by omega, by go_num, rfl, by omega, by omega, v2, hkq.trans hkm⟩
                case measure => simp [intOf]; omega
        · obtain rfl : q = g.chunks.length := by omega
          have v2 : Hid (v = groupsF f.cols (left - g.rows.toInt) room' (f.groups.drop (k + 1))) := by
            rw [Hid, HW.out, List.drop_of_length_le (by simp; omega), chunksF]
            exact hT1.out _
          clear HW
          go_wp2
          go_roundw
          case rel => exact ⟨k + 1, _, _, by omega, by go_num, rfl, rfl, by omega, by omega, by omega, by omega, v2, hka.trans hkq⟩
          case measure => simp [intOf]; omega
    · obtain rfl : k = f.groups.length := by omega
      have v2 : Hid (v = decide (left = 0)) := by rw [Hid, HV.out, List.drop_length]; rfl
      clear HV
      go_wp2
      go_ret
      exact ⟨ret_b (by rw [v2.out, Bool.eq_iff_iff]; simp), hk12.trans hkr⟩
end Go.Proofs.Ytcpimhefclfbaaa

namespace Go.Proofs.Ytcpimhefclfbaaa
open Go Go.RowKit
set_option maxRecDepth 10000
set_option linter.unusedVariables false
set_option linter.unusedSimpArgs false

/-- How many rows and bytes pages have, beside others: below 0 if one may not be. -/
def chunkR (c : Col) : Int → Int → List Pg → Int × Int
  | rows, size, [] => (rows, size)
  | rows, size, p :: l => if pageOk c p = true ∧ rows ≤ 65536 ∧ size ≤ 1073741824 then chunkR c (rows + p.rows.toInt) (size + p.size.toInt) l else (-1, -1)
theorem chunkR_at {c : Col} {rows size : Int} (l : List Pg) (k : Nat) (hk : k < l.length) : chunkR c rows size (l.drop k) =
    if pageOk c l[k] = true ∧ rows ≤ 65536 ∧ size ≤ 1073741824 then chunkR c (rows + l[k].rows.toInt) (size + l[k].size.toInt) (l.drop (k + 1)) else (-1, -1) := by
  rw [List.drop_eq_getElem_cons hk, chunkR]
theorem chunkR_up {c : Col} : ∀ (l : List Pg) (a s : Int), chunkR c a s l = (-1, -1) ∨ (a ≤ (chunkR c a s l).1 ∧ s ≤ (chunkR c a s l).2)
  | [], a, s => .inr ⟨Int.le_refl _, Int.le_refl _⟩
  | p :: l, a, s => by
    rw [chunkR]
    split
    · rename_i h
      obtain ⟨h1, h2, h3, h4, _⟩ := pageOk_is h.1
      rcases chunkR_up l (a + p.rows.toInt) (s + p.size.toInt) with h5 | ⟨h5, h6⟩
      · exact .inl h5
      · exact .inr ⟨by omega, by omega⟩
    · exact .inl rfl
theorem chunkR_bd {c : Col} : ∀ (l : List Pg) (a s : Int), 0 ≤ a → 0 ≤ s → a ≤ 131072 → s ≤ 1342177280 → -1 ≤ (chunkR c a s l).1 ∧ (chunkR c a s l).1 ≤ 131072 ∧ -1 ≤ (chunkR c a s l).2 ∧ (chunkR c a s l).2 ≤ 1342177280
  | [], a, s, h0, h1, h2, h3 => by simp only [chunkR]; omega
  | p :: l, a, s, h0, h1, h2, h3 => by
    rw [chunkR]
    split
    · rename_i h
      obtain ⟨g1, g2, g3, g4, _⟩ := pageOk_is h.1
      exact chunkR_bd l _ _ (by omega) (by omega) (by omega) (by omega)
    · simp only []; omega
theorem chunkF_chunkR {c : Col} {R Q : Int} (hR : 1 ≤ R ∧ R ≤ 65536) (hQ : Q ≤ 1073741824) : ∀ (l : List Pg) (a s : Int), 0 ≤ a → 0 ≤ s → a ≤ R → s ≤ Q →
    chunkF c (R - a) (Q - s) l = if (chunkR c a s l).1 = R ∧ (chunkR c a s l).2 ≤ Q then some (Q - (chunkR c a s l).2) else none
  | [], a, s, h0, h1, h2, h3 => by
    show (if 0 < R - a then none else some (Q - s)) = if a = R ∧ s ≤ Q then some (Q - s) else none
    by_cases h : a = R
    · rw [if_neg (show ¬ (0 < R - a) by omega), if_pos (show a = R ∧ s ≤ Q from ⟨h, h3⟩)]
    · rw [if_pos (show 0 < R - a by omega), if_neg (show ¬ (a = R ∧ s ≤ Q) by omega)]
  | p :: l, a, s, h0, h1, h2, h3 => by
    rw [chunkF, chunkR]
    by_cases h : pageOk c p = true
    · obtain ⟨g1, g2, g3, g4, _⟩ := pageOk_is h
      rw [if_pos (show pageOk c p = true ∧ a ≤ 65536 ∧ s ≤ 1073741824 from ⟨h, by omega, by omega⟩)]
      by_cases hf : p.rows.toInt ≤ R - a ∧ p.size.toInt ≤ Q - s
      · rw [if_pos ⟨h, hf⟩, show R - a - p.rows.toInt = R - (a + p.rows.toInt) from by omega, show Q - s - p.size.toInt = Q - (s + p.size.toInt) from by omega]
        exact chunkF_chunkR hR hQ l _ _ (by omega) (by omega) (by omega) (by omega)
      · rw [if_neg (fun x => hf x.2), if_neg]
        rintro ⟨e1, e2⟩
        rcases chunkR_up (c := c) l (a + p.rows.toInt) (s + p.size.toInt) with h5 | ⟨h5, h6⟩
        · rw [h5] at e1; simp only [] at e1; omega
        · exact hf ⟨by omega, by omega⟩
    · have n1 : ¬ (pageOk c p = true ∧ p.rows.toInt ≤ R - a ∧ p.size.toInt ≤ Q - s) := fun x => h x.1
      have n2 : ¬ (pageOk c p = true ∧ a ≤ 65536 ∧ s ≤ 1073741824) := fun x => h x.1
      rw [if_neg n1, if_neg n2]
      simp only []
      rw [if_neg (show ¬ ((-1 : Int) = R ∧ (-1 : Int) ≤ Q) by omega)]

set_option maxHeartbeats 4000000 in
theorem pageRight_ref (c : Col) (p : Pg) (W : World) :
    Calls Try.prog 51 #[colV3 c, pgVal p] W fun e W' => e = .returned (.bool (pageOk c p)) ∧ Keep [] W W' := by
  obtain ⟨v, hv⟩ : ∃ v, Hid (pageOk c p = v) := ⟨_, rfl⟩
  rw [hv.out]
  have vno : ¬ pageFits c p → Hid (v = false) := fun h => by rw [Hid, ← hv.out, pageOk_no h]
  have vyes : pageFits c p → Hid (v = rightS c.typ.toInt p.stat) := fun h => by rw [Hid, ← hv.out, pageOk_yes h]
  replace vno := Lib.hid vno
  replace vyes := Lib.hid vyes
  have hk2 : Keep [] W ((W.alloc (.cells #[.string c.name, .int .i64 c.typ.toInt, .bool c.null] 56)).alloc (.cells #[.int .i64 p.size.toInt, .int .i64 p.rows.toInt, .int .i64 p.stat.nulls.toInt, .bool p.stat.has, .bool p.stat.min.null, .int .i64 p.stat.min.int.toInt, .string p.stat.min.text, .int .i64 p.stat.min.x.toInt, .int .i64 p.stat.min.y.toInt, .bool p.stat.max.null, .int .i64 p.stat.max.int.toInt, .string p.stat.max.text, .int .i64 p.stat.max.x.toInt, .int .i64 p.stat.max.y.toInt] 54)) := ((Keep.refl [] W).alloc _).alloc _
  have hb1 : Blk ((W.alloc (.cells #[.string c.name, .int .i64 c.typ.toInt, .bool c.null] 56)).alloc (.cells #[.int .i64 p.size.toInt, .int .i64 p.rows.toInt, .int .i64 p.stat.nulls.toInt, .bool p.stat.has, .bool p.stat.min.null, .int .i64 p.stat.min.int.toInt, .string p.stat.min.text, .int .i64 p.stat.min.x.toInt, .int .i64 p.stat.min.y.toInt, .bool p.stat.max.null, .int .i64 p.stat.max.int.toInt, .string p.stat.max.text, .int .i64 p.stat.max.x.toInt, .int .i64 p.stat.max.y.toInt] 54)) W.heap.size 56 c.cs := (Blk.new W 56 _).alloc _
  have hb2 : Blk ((W.alloc (.cells #[.string c.name, .int .i64 c.typ.toInt, .bool c.null] 56)).alloc (.cells #[.int .i64 p.size.toInt, .int .i64 p.rows.toInt, .int .i64 p.stat.nulls.toInt, .bool p.stat.has, .bool p.stat.min.null, .int .i64 p.stat.min.int.toInt, .string p.stat.min.text, .int .i64 p.stat.min.x.toInt, .int .i64 p.stat.min.y.toInt, .bool p.stat.max.null, .int .i64 p.stat.max.int.toInt, .string p.stat.max.text, .int .i64 p.stat.max.x.toInt, .int .i64 p.stat.max.y.toInt] 54)) (W.heap.size + 1) 54 p.cs := blk_alloc2 W _ _ _
  have C := rightS_ref c.typ.toInt p.stat ((W.alloc (.cells #[.string c.name, .int .i64 c.typ.toInt, .bool c.null] 56)).alloc (.cells #[.int .i64 p.size.toInt, .int .i64 p.rows.toInt, .int .i64 p.stat.nulls.toInt, .bool p.stat.has, .bool p.stat.min.null, .int .i64 p.stat.min.int.toInt, .string p.stat.min.text, .int .i64 p.stat.min.x.toInt, .int .i64 p.stat.min.y.toInt, .bool p.stat.max.null, .int .i64 p.stat.max.int.toInt, .string p.stat.max.text, .int .i64 p.stat.max.x.toInt, .int .i64 p.stat.max.y.toInt] 54))
  cases hrs : rightS c.typ.toInt p.stat with
  | false =>
    have v1 : Hid (v = false) := by
      by_cases hf : pageFits c p
      · have := (vyes.out hf).out; rw [hrs] at this; exact this
      · exact vno.out hf
    rw [hrs] at C
    replace C := Lib.hid C
    go_enter Try.func51, Try.ntmps51
    go_wp2_with fail
    refine C.out.mono ?_
    rintro e w3 ⟨rfl, hk3⟩
    go_wp2
    go_ret
    exact ⟨ret_b (by rw [v1.out]), hk2.trans hk3⟩
  | true =>
    have hn0 := (rightS_fits hrs).2.1
    rw [hrs] at C vyes
    replace C := Lib.hid C
    clear hrs
    go_enter Try.func51, Try.ntmps51
    go_wp2_with fail
    refine C.out.mono ?_
    rintro e w3 ⟨rfl, hk3⟩
    have hk23 := hk2.trans hk3
    obtain ⟨x0, x1, x2⟩ := colAt (hb1.keep hk3 (by simp))
    obtain ⟨⟨z0, z1⟩, ⟨z2, z3⟩, ⟨z4, z5, z6, z7, z8⟩, ⟨z9, z10, z11, z12, z13⟩⟩ := pgAt (hb2.keep hk3 (by simp))
    clear hk2 hk3 hb1 hb2 C hv
    by_cases q1 : p.rows.toInt < 1
    · have v1 := vno.out (by unfold pageFits; omega)
      go_wp2
      go_ret
      exact ⟨ret_b (by rw [v1.out]), hk23⟩
    by_cases q2 : 65536 < p.rows.toInt
    · have v1 := vno.out (by unfold pageFits; omega)
      go_wp2
      go_ret
      exact ⟨ret_b (by rw [v1.out]), hk23⟩
    by_cases q3 : p.size.toInt < 1
    · have v1 := vno.out (by unfold pageFits; omega)
      go_wp2
      go_ret
      exact ⟨ret_b (by rw [v1.out]), hk23⟩
    by_cases q4 : 268435456 < p.size.toInt
    · have v1 := vno.out (by unfold pageFits; omega)
      go_wp2
      go_ret
      exact ⟨ret_b (by rw [v1.out]), hk23⟩
    by_cases q5 : p.rows.toInt < p.stat.nulls.toInt
    · have v1 := vno.out (by unfold pageFits; omega)
      go_wp2
      go_ret
      exact ⟨ret_b (by rw [v1.out]), hk23⟩
    obtain ⟨lt, hlt⟩ : ∃ lt, decide (p.stat.nulls.toInt < p.rows.toInt) = lt := ⟨_, rfl⟩
    by_cases q6 : p.stat.has = lt
    · rw [q6] at z3
      cases hn : c.null with
      | true =>
        have v1 := vyes.out ⟨by omega, by omega, by omega, by omega, by omega, by rw [q6, hlt], fun h => hn⟩
        rw [hn] at x2
        clear q6
        cases lt with
        | true =>
          have hl := of_decide_eq_true hlt
          go_wp2
          go_ret
          exact ⟨ret_b (by rw [v1.out]), hk23⟩
        | false =>
          have hl := of_decide_eq_false hlt
          go_wp2
          go_ret
          exact ⟨ret_b (by rw [v1.out]), hk23⟩
      | false =>
        rw [hn] at x2
        by_cases q7 : p.stat.nulls.toInt = 0
        · have v1 := vyes.out ⟨by omega, by omega, by omega, by omega, by omega, by rw [q6, hlt], fun h => by omega⟩
          have q8 : (p.stat.nulls.toInt == 0) = true := by rw [beq_iff_eq]; exact q7
          replace q7 := Lib.hid q7
          clear q6
          cases lt with
          | true =>
            have hl := of_decide_eq_true hlt
            go_wp2
            go_ret
            exact ⟨ret_b (by rw [v1.out]), hk23⟩
          | false =>
            have hl := of_decide_eq_false hlt
            go_wp2
            go_ret
            exact ⟨ret_b (by rw [v1.out]), hk23⟩
        · have v1 := vno.out (by unfold pageFits; rintro ⟨_, _, _, _, _, _, h⟩; have := h (by omega); rw [hn] at this; cases this)
          have q8 : (p.stat.nulls.toInt == 0) = false := by rw [beq_eq_false_iff_ne]; exact q7
          replace q7 := Lib.hid q7
          clear q6
          cases lt with
          | true =>
            have hl := of_decide_eq_true hlt
            go_wp2
            go_ret
            exact ⟨ret_b (by rw [v1.out]), hk23⟩
          | false =>
            have hl := of_decide_eq_false hlt
            go_wp2
            go_ret
            exact ⟨ret_b (by rw [v1.out]), hk23⟩
    · have v1 := vno.out (by unfold pageFits; rintro ⟨_, _, _, _, _, h, _⟩; rw [hlt] at h; exact q6 h)
      cases hh : p.stat.has with
      | true =>
        have hl : lt = false := by cases lt with
          | true => exact absurd hh q6
          | false => rfl
        subst hl
        have hlt2 := of_decide_eq_false hlt
        rw [hh] at z3
        clear q6
        go_wp2
        go_ret
        exact ⟨ret_b (by rw [v1.out]), hk23⟩
      | false =>
        have hl : lt = true := by cases lt with
          | false => exact absurd hh q6
          | true => rfl
        subst hl
        have hlt2 := of_decide_eq_true hlt
        rw [hh] at z3
        clear q6
        go_wp2
        go_ret
        exact ⟨ret_b (by rw [v1.out]), hk23⟩

set_option maxHeartbeats 4000000 in
theorem chunk_ref {X : List Nat} {A : Option Addr} {n d : Nat} {l : List Pg} (c : Col) (W : World) (h : PgsR X W (.slice A n d) l) :
    Calls Try.prog 32 #[colV3 c, .slice A n d] W fun e W' => e = .returned (.tuple #[.int .i64 (chunkR c 0 0 l).1, .int .i64 (chunkR c 0 0 l).2]) ∧ Keep [] W W' := by
  obtain ⟨hn, hd, hd'⟩ := h.len
  subst hn
  unfold maxLen at hd'
  obtain ⟨v, hv⟩ : ∃ v, Hid (chunkR c 0 0 l = v) := ⟨_, rfl⟩
  rw [hv.out]
  replace hv : Hid (v = chunkR c 0 0 (l.drop 0)) := hv.out.symm
  obtain ⟨W1, hW1⟩ : ∃ W1, W.alloc (.cells #[.string c.name, .int .i64 c.typ.toInt, .bool c.null] 56) = W1 := ⟨_, rfl⟩
  have hk1 : Keep [] W W1 := by rw [← hW1]; exact (Keep.refl _ _).alloc _
  have hb1 : Blk W1 W.heap.size 56 c.cs := by rw [← hW1]; exact Blk.new W 56 _
  go_enter Try.func32, Try.ntmps32
  go_wp2
  go_loopw [6, 7, 8] (fun rs sz i wr => ∃ (k : Nat) (rows size : Int), k ≤ l.length ∧ i = .int .i64 k ∧ rs = .int .i64 rows ∧ sz = .int .i64 size ∧ 0 ≤ rows ∧ rows ≤ 131072 ∧ 0 ≤ size ∧ size ≤ 1342177280 ∧ Hid (v = chunkR c rows size (l.drop k)) ∧ Keep [] W1 wr) (fun _ _ i _ => l.length - (intOf i).toNat)
  case atStart => exact ⟨0, 0, 0, Nat.zero_le _, rfl, rfl, rfl, by omega, by omega, by omega, by omega, hv, Keep.refl _ _⟩
  case round =>
    obtain ⟨k, rows, size, hk, rfl, rfl, rfl, h0, h1, h2, h3, HV, hkr⟩ := hrel
    by_cases hlt : k < l.length
    · obtain ⟨pb, poff, e5, _, _, ⟨z0, z1⟩, ⟨z2, z3⟩, ⟨z4, z5, z6, z7, z8⟩, ⟨z9, z10, z11, z12, z13⟩⟩ := (h.pure (hk1.trans hkr)).at14 hlt
      subst e5
      have HV2 := Lib.hid (HV.out.trans (chunkR_at l k hlt))
      have hpc : ∀ w, Keep [] wr w → w.cell? ⟨pb, poff + k * 14, none⟩ = some (.int .i64 l[k].size.toInt) ∧ w.cell? ⟨pb, poff + k * 14 + 1, none⟩ = some (.int .i64 l[k].rows.toInt) := fun w hw => by
        obtain ⟨_, _, e', _, _, g, _⟩ := (h.pure ((hk1.trans hkr).trans hw)).at14 hlt
        cases e'
        exact g
      have hpc2 : ∀ w, Keep [] wr w → _ := fun w hw => (h.pure ((hk1.trans hkr).trans hw)).at14 hlt
      replace hpc := Lib.hid hpc
      replace hpc2 := Lib.hid hpc2
      generalize l[k] = p at *
      have m0' : (0 : Int) ≤ (k : Int) := by omega
      have m1' : (k : Int) < (l.length : Int) := by omega
      clear HV z0 z1 z2 z3 z4 z5 z6 z7 z8 z9 z10 z11 z12 z13
      go_wp2_with fail
      refine wp_region_ords 6 [] (fun _ _ => True) (List.replicate 6 false) (Slot.val ?_ :: Slot.val ?_ :: Slot.val ?_ :: Slot.val ?_ :: Slot.val ?_ :: Slot.val ?_ :: []) (by kernel_rfl) rfl rfl (by kernel_rfl) ?_ (fun _ _ _ _ _ => trivial) trivial ?_
      rotate_left 6
      · intro t ht
        simp only [List.mem_cons, List.not_mem_nil, or_false] at ht
        rcases ht with rfl | rfl | rfl | rfl | rfl | rfl
        all_goals first | exact trivial | exact SlTo.lasts (by simp) | exact PtrTo.lasts (by simp) | exact RdIs.lasts
      simp only [List.take_succ_cons, List.take_zero, List.drop_succ_cons, List.drop_zero]
      repeat ((first | (refine obls_cons (obl_skip (fun vals => by rfl) ?_) ?_; (exact rfl)) | (refine obls_cons (obl_val (fun vals => by rfl) (fun vals w hw hd => ?_)) ?_; (obtain ⟨x0, x1, x2⟩ := colAt (hb1.keep (hkr.trans hw) (by simp)); obtain ⟨_, _, e', _, _, ⟨z0, z1⟩, ⟨z2, z3⟩, ⟨z4, z5, z6, z7, z8⟩, ⟨z9, z10, z11, z12, z13⟩⟩ := hpc2.out w hw; cases e'; go_simp; exact rfl))); simp only [Slot.put, Slot.chain, Bool.false_eq_true, if_false, if_true, Nat.add_zero, Nat.zero_add, Nat.reduceAdd, Act.put, List.setIfInBounds_toArray, List.set_cons_succ, List.set_cons_zero])
      refine obls_cons (obl_call (f := ?_) (args := ?_) (fun vals => by rfl) (fun vals w hw hd => ?_) (fun vals w hw hd => ?_)) ?_
      rotate_left 2
      · go_simp; exact rfl
      · have C := pageRight_ref c p w; exact C
      simp only [Slot.put, Slot.chain, Bool.false_eq_true, if_false, if_true, Nat.add_zero, Nat.zero_add, Nat.reduceAdd, Act.put, List.setIfInBounds_toArray, List.set_cons_succ, List.set_cons_zero]
      refine obls_nil (fun vals w3 hw _ hall => ?_)
      obtain ⟨z0, z1⟩ := hpc.out w3 hw
      have hk3 := hkr.trans hw
      clear hall hpc2
      cases hok : pageOk c p with
      | false =>
        have v2 : Hid (v = (-1, -1)) := by rw [Hid, HV2.out, if_neg (by rintro ⟨h, _⟩; rw [hok] at h; cases h)]
        clear HV2
        go_wp2
        go_ret2
        exact ⟨by rw [v2.out]; rfl, hk1.trans hk3⟩
      | true =>
        have hpo := pageOk_is hok
        by_cases s1 : 65536 < rows
        · have v2 : Hid (v = (-1, -1)) := by rw [Hid, HV2.out, if_neg (by rintro ⟨_, h, _⟩; omega)]
          clear HV2
          go_wp2
          go_ret2
          exact ⟨by rw [v2.out]; rfl, hk1.trans hk3⟩
        by_cases s2 : 1073741824 < size
        · have v2 : Hid (v = (-1, -1)) := by rw [Hid, HV2.out, if_neg (by rintro ⟨_, _, h⟩; omega)]
          clear HV2
          go_wp2
          go_ret2
          exact ⟨by rw [v2.out]; rfl, hk1.trans hk3⟩
        have v2 : Hid (v = chunkR c (rows + p.rows.toInt) (size + p.size.toInt) (l.drop (k + 1))) := by rw [Hid, HV2.out, if_pos ⟨hok, by omega, by omega⟩]
        obtain ⟨hp1, hp2, hp3, hp4, _⟩ := hpo
        clear HV2
        go_wp2
        go_roundw
        case rel => exact ⟨k + 1, _, _, by omega, by go_num, rfl, rfl, by omega, by omega, by omega, by omega, v2, hk3⟩
        case measure => simp [intOf]; omega
    · obtain rfl : k = l.length := by omega
      have v2 : Hid (v = (rows, size)) := by rw [Hid, HV.out, List.drop_length]; rfl
      clear HV
      go_wp2
      go_ret2
      exact ⟨by rw [v2.out]; rfl, hk1.trans hkr⟩
end Go.Proofs.Ytcpimhefclfbaaa

namespace Go.Proofs.Ytcpimhefclfbaaa
open Go Go.RowKit
set_option linter.unusedVariables false
set_option linter.unusedSimpArgs false

section
variable {P : Program} {ops : Array Oper} {C : World → Prop} {Qa : Act → Prop} {a : Act} {o : Oper} {rest : List Oper}
theorem wp_region_quietK {id : Nat} {Q : Exit → Act → World → Prop} {w0 w : World} {l : List Oper} (hm : P.follows .mixedOrders = true) (hB : Region.lexB .any l.toArray = true) (hw0 : Keep [] w0 w)
    (h : wpQuiet P l.toArray (fun w' => Keep [] w0 w') (fun a' => ∀ w', Keep [] w0 w' → Q .normal a' w') l a) : (Code.region id l.toArray true).wp P Q a w :=
  wp_region_quiet (C := fun w' => Keep [] w0 w') hm hB hw0.drew (by simpa using h)
theorem q_val {v : Value} (hg : Region.wanted o (yielded ops a.tmps) = true) (h : ∀ w, C w → Gives v w ((execOp a.eval o).run P w)) (hr : wpQuiet P ops C Qa rest (a.put o.dst v)) : wpQuiet P ops C Qa (o :: rest) a := by
  unfold wpQuiet
  rw [if_pos hg]
  refine ⟨v, fun w hw => ?_, hr⟩
  unfold Oper.quietAt
  rw [h w hw]
  exact ⟨rfl, rfl⟩
theorem q_skip (hg : Region.wanted o (yielded ops a.tmps) = false) (hr : wpQuiet P ops C Qa rest (a.put o.dst undef)) : wpQuiet P ops C Qa (o :: rest) a := by
  unfold wpQuiet
  rw [if_neg (by simp [hg])]
  exact hr
theorem q_call {v : Value} {f : FuncId} {args : Array Value} (hg : Region.wanted o (yielded ops a.tmps) = true) (h : ∀ w, C w → Enters f args w ((execOp a.eval o).run P w))
    (hc : ∀ w, C w → Calls P f args w fun e w' => e = .returned v ∧ C w') (hr : wpQuiet P ops C Qa rest (a.put o.dst v)) : wpQuiet P ops C Qa (o :: rest) a := by
  unfold wpQuiet
  rw [if_pos hg]
  refine ⟨v, fun w hw => ?_, hr⟩
  unfold Oper.quietAt
  rw [h w hw]
  exact ⟨rfl, hc w hw⟩
/-- A contract, in the class. -/
theorem keep_call {f : FuncId} {args : Array Value} {w0 w : World} {v : Value} (h : Calls P f args w fun e w' => e = .returned v ∧ Keep [] w w') (hw : Keep [] w0 w) : Calls P f args w fun e w' => e = .returned v ∧ Keep [] w0 w' :=
  h.mono fun _ _ ⟨h1, h2⟩ => ⟨h1, hw.trans h2⟩
end
end Go.Proofs.Ytcpimhefclfbaaa

namespace Go.Proofs.Ytcpimhefclfbaaa
open Go Go.RowKit
set_option maxRecDepth 10000
set_option linter.unusedVariables false
set_option linter.unusedSimpArgs false

set_option maxHeartbeats 8000000 in
theorem right_ref {X : List Nat} {F : Value} {f : Ftr} (W : World) (h : FtrR X W F f) :
    Calls Try.prog 13 #[F] W fun e W' => e = .returned (.bool (rightF f)) ∧ Keep [] W W' := by
  obtain ⟨A, c, G, rfl, hcols, hgr, ht⟩ := h
  obtain ⟨A2, c2, rfl, hg1, hg2⟩ := hgr.form
  have hcc := hcols.cap
  have hcl := hcols.le
  obtain ⟨v, hv⟩ : ∃ v, Hid (rightF f = v) := ⟨_, rfl⟩
  rw [hv.out]
  have vbad : ¬ (colsE f.cols = 0 ∧ 0 ≤ f.rows.toInt ∧ f.rows.toInt ≤ 65536) → Hid (v = false) := fun h => by rw [Hid, ← hv.out, rightF_bad h]
  have vok : (colsE f.cols = 0 ∧ 0 ≤ f.rows.toInt ∧ f.rows.toInt ≤ 65536) → Hid (v = groupsF f.cols f.rows.toInt 1073741824 f.groups) := fun h => by rw [Hid, ← hv.out, rightF_ok h]
  replace vbad := Lib.hid vbad
  replace vok := Lib.hid vok
  clear hv
  obtain ⟨W1, hW1⟩ : ∃ W1, W.alloc (.cells #[.slice A f.cols.length c, .int .i64 f.rows.toInt, .slice A2 f.groups.length c2] 25) = W1 := ⟨_, rfl⟩
  have hk1 : Keep [] W W1 := by rw [← hW1]; exact (Keep.refl _ _).alloc _
  have hb1 : Blk W1 W.heap.size 25 [.slice A f.cols.length c, .int .i64 f.rows.toInt, .slice A2 f.groups.length c2] := by rw [← hW1]; exact Blk.new W 25 _
  obtain ⟨a0, a1, a2⟩ := at3 hb1
  have C := cols_ref W1 (hcols.pure hk1)
  unfold maxLen at hg2
  generalize hce : colsE f.cols = ce at *
  replace C := Lib.hid C
  by_cases hE : ce ≠ 0
  · have v1 := vbad.out (by rintro ⟨h, _⟩; exact hE h)
    have hne : (ce != 0) = true := by simpa using hE
    go_enter Try.func13, Try.ntmps13
    go_wp2_with fail
    refine C.out.mono ?_
    rintro e w1 ⟨rfl, hk2⟩
    go_wp2
    go_ret
    exact ⟨ret_b (by rw [v1.out]), hk1.trans hk2⟩
  obtain rfl : ce = 0 := Classical.not_not.1 hE
  clear hE
  by_cases q1 : f.rows.toInt < 0
  · have v1 := vbad.out (by omega)
    go_enter Try.func13, Try.ntmps13
    go_wp2_with fail
    refine C.out.mono ?_
    rintro e w1 ⟨rfl, hk2⟩
    obtain ⟨a0, a1, a2⟩ := at3 (hb1.keep hk2 (by simp))
    go_wp2
    go_ret
    exact ⟨ret_b (by rw [v1.out]), hk1.trans hk2⟩
  by_cases q2 : 65536 < f.rows.toInt
  · have v1 := vbad.out (by omega)
    go_enter Try.func13, Try.ntmps13
    go_wp2_with fail
    refine C.out.mono ?_
    rintro e w1 ⟨rfl, hk2⟩
    obtain ⟨a0, a1, a2⟩ := at3 (hb1.keep hk2 (by simp))
    go_wp2
    go_ret
    exact ⟨ret_b (by rw [v1.out]), hk1.trans hk2⟩
  have v1 : Hid (v = groupsF f.cols (f.rows.toInt - 0) (1073741824 - 0) (f.groups.drop 0)) := by rw [Int.sub_zero]; exact vok.out ⟨rfl, by omega, by omega⟩
  clear vok vbad
  go_enter Try.func13, Try.ntmps13
  go_wp2_with fail
  refine C.out.mono ?_
  rintro e w1 ⟨rfl, hk2⟩
  have hb2 := hb1.keep hk2 (by simp)
  have hk12 := hk1.trans hk2
  obtain ⟨a0, a1, a2⟩ := at3 hb2
  clear C hW1
  go_wp2
  go_loopw [4, 5, 6] (fun rs sz i wr => ∃ (k : Nat) (rows size : Int), k ≤ f.groups.length ∧ i = .int .i64 k ∧ rs = .int .i64 rows ∧ sz = .int .i64 size ∧ 0 ≤ rows ∧ rows ≤ f.rows.toInt ∧ 0 ≤ size ∧ size ≤ 1073741824 ∧ Hid (v = groupsF f.cols (f.rows.toInt - rows) (1073741824 - size) (f.groups.drop k)) ∧ Keep [] w1 wr) (fun _ _ i _ => f.groups.length - (intOf i).toNat)
  case atStart => exact ⟨0, 0, 0, Nat.zero_le _, rfl, rfl, rfl, by omega, by omega, by omega, by omega, v1, Keep.refl _ _⟩
  case round =>
    obtain ⟨k, rows, size, hk, rfl, rfl, rfl, hl0, hl1, hr0, hr1, HV, hkr⟩ := hrel
    have hkWr := hk12.trans hkr
    have hbr := hb2.keep hkr (by simp)
    obtain ⟨x0, x1, x2⟩ := at3 hbr
    have hWlt := hbr.lt
    by_cases hlt : k < f.groups.length
    · obtain ⟨b, off, A3, c3, e1, g0, g1, hch, hc3, hc3'⟩ := hgr.at_ hlt
      subst e1
      replace g0 := hkWr.cell g0
      replace g1 := hkWr.cell g1
      have HV2 := Lib.hid (HV.out.trans (groupsF_at _ k hlt))
      generalize f.groups[k] = g at *
      unfold maxLen at hc3'
      have i0' : (0 : Int) ≤ (k : Int) := by omega
      have i1' : (k : Int) < (f.groups.length : Int) := by omega
      have hka : Keep [] w1 (wr.alloc (.cells #[.int .i64 g.rows.toInt, .slice A3 g.chunks.length c3] 44)) := hkr.alloc _
      have hba : Blk (wr.alloc (.cells #[.int .i64 g.rows.toInt, .slice A3 g.chunks.length c3] 44)) wr.heap.size 44 [.int .i64 g.rows.toInt, .slice A3 g.chunks.length c3] := Blk.new wr 44 _
      clear HV
      by_cases r1 : g.rows.toInt < 1
      · have v2 : Hid (v = false) := by rw [Hid, HV2.out, if_neg (by omega)]
        go_wp2
        go_ret
        exact ⟨ret_b (by rw [v2.out]), hk12.trans hka⟩
      by_cases r2 : f.rows.toInt - rows < g.rows.toInt
      · have v2 : Hid (v = false) := by rw [Hid, HV2.out, if_neg (by omega)]
        go_wp2
        go_ret
        exact ⟨ret_b (by rw [v2.out]), hk12.trans hka⟩
      by_cases r3 : g.chunks.length ≠ f.cols.length
      · have v2 : Hid (v = false) := by rw [Hid, HV2.out, if_neg (by rintro ⟨_, _, h⟩; exact r3 h)]
        have r4 : ((g.chunks.length : Int) != (f.cols.length : Int)) = true := by rw [bne_iff_ne]; omega
        clear r3
        go_wp2
        go_ret
        exact ⟨ret_b (by rw [v2.out]), hk12.trans hka⟩
      have r5 : g.chunks.length = f.cols.length := Classical.not_not.1 r3
      have r4 : ((g.chunks.length : Int) != (f.cols.length : Int)) = false := by rw [r5]; simp
      obtain ⟨T, hT0, hT1, hT2⟩ : ∃ T : Option Int → Bool, T none = false ∧ (∀ r, T (some r) = groupsF f.cols (f.rows.toInt - rows - g.rows.toInt) r (f.groups.drop (k + 1))) ∧ v = T (chunksF g.rows.toInt (1073741824 - size) ((f.cols.zip g.chunks).drop 0)) :=
        ⟨fun o => match o with | none => false | some r => groupsF f.cols (f.rows.toInt - rows - g.rows.toInt) r (f.groups.drop (k + 1)), rfl, fun _ => rfl, by rw [HV2.out, if_pos ⟨by omega, by omega, r5⟩, List.drop_zero]; rfl⟩
      replace hT0 := Lib.hid hT0
      replace hT1 := Lib.hid hT1
      replace r5 := Lib.hid r5
      have v2 : Hid (v = T (chunksF g.rows.toInt (1073741824 - size) ((f.cols.zip g.chunks).drop 0))) := hT2
      clear r3 HV2 hT2
      obtain ⟨WA, hWA⟩ : ∃ WA, wr.alloc (.cells #[.int .i64 g.rows.toInt, .slice A3 g.chunks.length c3] 44) = WA := ⟨_, rfl⟩
      have hkrA : Keep [] wr WA := by rw [← hWA]; exact (Keep.refl _ _).alloc _
      rw [hWA] at hka hba
      obtain ⟨z0, z1⟩ := at2 hba
      obtain ⟨x3, x4, x5⟩ := at3 (hbr.keep hkrA (by simp))
      obtain ⟨gb, hgb⟩ : ∃ gb, wr.heap.size = gb := ⟨_, rfl⟩
      rw [hgb] at hba z0 z1
      go_wp2
      clear hWA g0 g1 x0 x1 x2 x3 x4 x5 z0 z1 hgb
      go_loopw [5, 8] (fun sz i w => ∃ (j : Nat) (size' : Int), j ≤ g.chunks.length ∧ i = .int .i64 j ∧ sz = .int .i64 size' ∧ 0 ≤ size' ∧ size' ≤ 1073741824 ∧ Hid (v = T (chunksF g.rows.toInt (1073741824 - size') ((f.cols.zip g.chunks).drop j))) ∧ Keep [] WA w) (fun _ i _ => g.chunks.length - (intOf i).toNat)
      case atStart => exact ⟨0, _, Nat.zero_le _, rfl, rfl, by omega, by omega, v2, Keep.refl _ _⟩
      case round =>
        obtain ⟨j, size', hj, rfl, rfl, hs0, hs1, HW, hkj⟩ := hrel
        have hbj := hba.keep hkj (by simp)
        have hbfj := hbr.keep (hkrA.trans hkj) (by simp)
        have hkWj := hk12.trans (hka.trans hkj)
        obtain ⟨x0, x1, x2⟩ := at3 hbfj
        obtain ⟨z0, z1⟩ := at2 hbj
        by_cases hjt : j < g.chunks.length
        · have hjc : j < f.cols.length := by have := r5.out; omega
          obtain ⟨b', off', A4, c4, e4, d0, hpg, hc4, hc4'⟩ := hch.at_ hjt
          subst e4
          obtain ⟨cb, coff, ce, _, _, y0, y1, y2⟩ := Cols.at3 hcols hjc
          subst ce
          have HW2 := Lib.hid (HW.out.trans (congrArg T (chunksF_at f.cols g.chunks j hjc hjt)))
          generalize f.cols[j] = x at *
          generalize g.chunks[j] = l at *
          have hmeet := chunkF_chunkR (c := x) (R := g.rows.toInt) (Q := 1073741824 - size') ⟨by omega, by omega⟩ (by omega) l 0 0 (by omega) (by omega) (by omega) (by omega)
          rw [Int.sub_zero, Int.sub_zero] at hmeet
          have hbd := chunkR_bd (c := x) l 0 0 (by omega) (by omega) (by omega) (by omega)
          have hup := chunkR_up (c := x) l 0 0
          have CC := fun w (hw : Keep [] W w) => chunk_ref x w (hpg.pure hw)
          generalize chunkR x 0 0 l = nm at *
          obtain ⟨n, m⟩ := nm
          simp only [Prod.mk.injEq] at hmeet hbd CC hup
          replace CC := Lib.hid CC
          have HX : Hid (v = if n = g.rows.toInt ∧ m ≤ 1073741824 - size' then T (chunksF g.rows.toInt (1073741824 - size' - m) ((f.cols.zip g.chunks).drop (j + 1))) else false) := by
            rw [Hid, HW2.out, hmeet]
            by_cases hc : n = g.rows.toInt ∧ m ≤ 1073741824 - size'
            · rw [if_pos hc, if_pos hc]
            · rw [if_neg hc, if_neg hc]; exact hT0.out
          clear HW2 HW hmeet
          have d0' : ∀ w, Keep [] W w → _ := fun w hw => hw.cell d0
          have y0' : ∀ w, Keep [] W w → _ := fun w hw => hw.cell y0
          have y1' : ∀ w, Keep [] W w → _ := fun w hw => hw.cell y1
          have y2' : ∀ w, Keep [] W w → _ := fun w hw => hw.cell y2
          replace d0' := Lib.hid d0'
          replace y0' := Lib.hid y0'
          replace y1' := Lib.hid y1'
          replace y2' := Lib.hid y2'
          clear d0 y0 y1 y2
          have j0' : (0 : Int) ≤ (j : Int) := by omega
          have j1' : (j : Int) < (g.chunks.length : Int) := by omega
          have j2' : (j : Int) < (f.cols.length : Int) := by omega
          go_wp2_with fail
          refine wp_region_quietK (by kernel_rfl) (by kernel_rfl) (Keep.refl [] _) ?_
          repeat ((first | (refine q_skip rfl ?_) | (refine q_val (v := ?_) rfl ?_ ?_; rotate_left; (intro w hw; obtain ⟨x0, x1, x2⟩ := at3 (hbfj.keep hw (by simp)); obtain ⟨z0, z1⟩ := at2 (hbj.keep hw (by simp)); have d0 := d0'.out w (hkWj.trans hw); have y0 := y0'.out w (hkWj.trans hw); have y1 := y1'.out w (hkWj.trans hw); have y2 := y2'.out w (hkWj.trans hw); go_simp; exact rfl))); simp only [Act.put, List.setIfInBounds_toArray, List.set_cons_succ, List.set_cons_zero])
          refine q_call (v := ?_) (f := ?_) (args := ?_) rfl (fun w hw => ?_) (fun w hw => ?_) ?_
          rotate_left 3
          · go_simp; exact rfl
          · have C9 := keep_call (CC.out w (hkWj.trans hw)) hw; exact C9
          simp only [Act.put, List.setIfInBounds_toArray, List.set_cons_succ, List.set_cons_zero]
          repeat ((first | (refine q_skip rfl ?_) | (refine q_val (v := ?_) rfl ?_ ?_; rotate_left; (intro w hw; skip; go_simp; exact rfl))); simp only [Act.put, List.setIfInBounds_toArray, List.set_cons_succ, List.set_cons_zero])
          refine wpQuiet_nil (fun w3 hw => ?_)
          obtain ⟨z2, z3⟩ := at2 (hbj.keep hw (by simp))
          have hkj3 := hkj.trans hw
          clear CC d0' y0' y1' y2' x0 x1 x2 z0 z1
          by_cases s1 : n = g.rows.toInt
          · have s1' : (n != g.rows.toInt) = false := by rw [s1]; simp
            by_cases s2 : m ≤ 1073741824 - size'
            · have v3 : Hid (v = T (chunksF g.rows.toInt (1073741824 - (size' + m)) ((f.cols.zip g.chunks).drop (j + 1)))) := by rw [Hid, HX.out, if_pos ⟨s1, s2⟩, show 1073741824 - size' - m = 1073741824 - (size' + m) from by omega]
              have hm0 : 0 ≤ m := by omega
              replace s1 := Lib.hid s1
              clear HX hup
              go_wp2
              go_roundw
              case rel => exact ⟨j + 1, _, by omega, by go_num, rfl, by omega, by omega, v3, hkj3⟩
              case measure => simp [intOf]; omega
            · have v3 : Hid (v = false) := by rw [Hid, HX.out, if_neg (fun h => s2 h.2)]
              replace s1 := Lib.hid s1
              clear HX hup
              go_wp2
              go_ret
              exact ⟨ret_b (by rw [v3.out]), hk12.trans (hka.trans hkj3)⟩
          · have s1' : (n != g.rows.toInt) = true := by rw [bne_iff_ne]; exact s1
            have v3 : Hid (v = false) := by rw [Hid, HX.out, if_neg (fun h => s1 h.1)]
            clear HX s1 hup
            go_wp2
            go_ret
            exact ⟨ret_b (by rw [v3.out]), hk12.trans (hka.trans hkj3)⟩
        · obtain rfl : j = g.chunks.length := by omega
          have v3 : Hid (v = groupsF f.cols (f.rows.toInt - (rows + g.rows.toInt)) (1073741824 - size') (f.groups.drop (k + 1))) := by
            rw [Hid, HW.out, List.drop_of_length_le (by have := r5.out; simp; omega), chunksF, hT1.out, show f.rows.toInt - rows - g.rows.toInt = f.rows.toInt - (rows + g.rows.toInt) from by omega]
          clear HW
          go_wp2
          go_roundw
          case rel => exact ⟨k + 1, _, _, by omega, by go_num, rfl, rfl, by omega, by omega, by omega, by omega, v3, hka.trans hkj⟩
          case measure => simp [intOf]; omega
    · obtain rfl : k = f.groups.length := by omega
      have v2 : Hid (v = decide (f.rows.toInt - rows = 0)) := by rw [Hid, HV.out, List.drop_length]; rfl
      clear HV
      go_wp2
      go_ret
      exact ⟨ret_b (by rw [v2.out, Bool.eq_iff_iff]; simp; omega), hkWr⟩
end Go.Proofs.Ytcpimhefclfbaaa
