/-
  A small footer: no program here.
  The small case of layer 19's statements comes out right: hypostylelaw19.small.
  Is a footer small: hypostylelaw19.Few.
  The walks of layer 19's statements: bytes, places.
-/
import Derived.Test.YtcpimhefclfbaaaFFB
import Derived.Test.YtcpimhefclfbaaaFFA
import Derived.Test.YtcpimhefclfbaaaFFH
import Derived.Test.YtcpimhefclfbaaaFFE
import Derived.Test.YtcpimhefclfbaaaFFF
import Derived.Test.YtcpimhefclfbaaaFFG
import Derived.Test.YtcpimhefclfbaaaFFC
namespace Go.Proofs.Ytcpimhefclfbaaa
open Go Go.RowKit
set_option maxRecDepth 10000

def stSm : St := ⟨0, true, ⟨false, 1, ⟨#[]⟩, 0, 0⟩, ⟨false, 2, ⟨#[]⟩, 0, 0⟩⟩
def pgSm1 : Pg := ⟨5, 2, stSm⟩
def pgSm2 : Pg := ⟨7, 1, stSm⟩
def ftrSm : Ftr := ⟨[⟨⟨#[97]⟩, 0, false⟩], 3, [⟨3, [[pgSm1, pgSm2]]⟩]⟩
theorem ftrSm_right : rightF ftrSm = true := by decide +kernel
theorem ftrSm_len : (ftrB ftrSm).length = 51 := by decide +kernel
theorem ftrSm_head : (ftrB ftrSm).take 9 = [1, 1, 97, 0, 0, 3, 1, 3, 2] := by decide +kernel
theorem ftrSm_zero : rightF Ftr.zero = true ∧ ftrB Ftr.zero = [0, 0, 0] := by decide +kernel
theorem ftrSm_no : ftrO (ftrB ftrSm ++ [0]) = none := by decide +kernel
theorem ftrSm_one : rightF ⟨[], 1, []⟩ = false := by decide +kernel
theorem ftrSm_spans : spansF ftrSm 0 0 = [(0, 2), (2, 3)] := by decide +kernel
theorem ftrSm_place : placeF ftrSm 0 0 1 = 5 ∧ placeF ftrSm 1 0 0 = 12 ∧ placeF ftrSm 0 0 2 = -1 := by decide +kernel
end Go.Proofs.Ytcpimhefclfbaaa

namespace Go.Proofs.Ytcpimhefclfbaaa
open Go Go.RowKit
set_option maxRecDepth 10000
set_option linter.unusedVariables false
set_option linter.unusedSimpArgs false

theorem FtrR.form {X : List Nat} {w : World} {F : Value} {f : Ftr} (h : FtrR X w F f) : ∃ A n c A2 n2 c2, F = .agg #[.slice A n c, .int .i64 f.rows.toInt, .slice A2 n2 c2] := by
  obtain ⟨A, c, G, e, _, hg, _⟩ := h
  obtain ⟨A2, c2, rfl, _⟩ := hg.form
  exact ⟨_, _, _, _, _, _, e⟩
theorem eql_span (x y : Int × Int) (w : World) : (binOp .eql 46 (.agg #[.int .i64 x.1, .int .i64 x.2]) (.agg #[.int .i64 y.1, .int .i64 y.2])).run Try.prog w = .ok (.bool (decide (x = y))) w := by
  rw [run_eql_struct, show (10000 : Nat) = 9997 + 3 from rfl, equal_span]
  by_cases h : x = y
  · subst h; simp
  · rw [decide_eq_false h]
    apply congrArg (fun z => Result.ok (Value.bool z) w)
    apply Classical.byContradiction
    intro hc
    simp at hc
    exact h (Prod.ext hc.1 hc.2)

theorem FtrR.rows1 (Y : List Nat) (w : World) : FtrR Y w (.agg #[.slice none 0 0, .int .i64 1, .slice none 0 0]) ⟨[], 1, []⟩ :=
  ⟨none, 0, _, rfl, Rd.nil_ _ _ _, ⟨none, 0, [], rfl, rfl, Rd.nil_ _ _ _, fun k h => absurd h (by simp)⟩, by simp⟩
set_option maxHeartbeats 16000000 in
theorem small19 (W : World) : Calls Try.prog 8 #[] W fun e W' => e = .returned (.bool true) ∧ Keep [] W W' := by
  obtain ⟨i0, hi, hz0, hz1, hz2⟩ := info_parts Try.infoU8
  have hS1 : Blk (W.alloc (.cells #[.int .i64 0, .bool true, .bool false, .int .i64 1, .string { data := #[] }, .int .i64 0, .int .i64 0, .bool false, .int .i64 2, .string { data := #[] }, .int .i64 0, .int .i64 0] 52)) W.heap.size 52 [.int .i64 0, .bool true, .bool false, .int .i64 1, .string { data := #[] }, .int .i64 0, .int .i64 0, .bool false, .int .i64 2, .string { data := #[] }, .int .i64 0, .int .i64 0] := Blk.new W 52 _
  have hk1 : Keep [] W (W.alloc (.cells #[.int .i64 0, .bool true, .bool false, .int .i64 1, .string { data := #[] }, .int .i64 0, .int .i64 0, .bool false, .int .i64 2, .string { data := #[] }, .int .i64 0, .int .i64 0] 52)) := (Keep.refl _ _).alloc _
  obtain ⟨W2, hW2⟩ : ∃ W2, (W.alloc (.cells #[.int .i64 0, .bool true, .bool false, .int .i64 1, .string { data := #[] }, .int .i64 0, .int .i64 0, .bool false, .int .i64 2, .string { data := #[] }, .int .i64 0, .int .i64 0] 52)).alloc (.cells #[.string { data := #[97] }, .int .i64 0, .bool false] 56) = W2 := ⟨_, rfl⟩
  have hk2 := (Keep.refl [] (W.alloc (.cells #[.int .i64 0, .bool true, .bool false, .int .i64 1, .string { data := #[] }, .int .i64 0, .int .i64 0, .bool false, .int .i64 2, .string { data := #[] }, .int .i64 0, .int .i64 0] 52))).alloc (.cells #[.string { data := #[97] }, .int .i64 0, .bool false] 56)
  have hC2 : Blk W2 (W.heap.size + 1) 56 [.string { data := #[97] }, .int .i64 0, .bool false] := by rw [← hW2]; exact blk_alloc2 W _ _ _
  rw [hW2] at hk2
  have hS2 := hS1.keep hk2 (by simp)
  have hkW2 := hk1.trans hk2
  obtain ⟨s0, s1, s2, s3, s4, s5, s6, s7, s8, s9, s10, s11⟩ := at12 hS2
  obtain ⟨W3, hW3⟩ : ∃ W3, W2.alloc (.cells #[.int .i64 5, .int .i64 2, .int .i64 0, .bool true, .bool false, .int .i64 1, .string { data := #[] }, .int .i64 0, .int .i64 0, .bool false, .int .i64 2, .string { data := #[] }, .int .i64 0, .int .i64 0, .int .i64 7, .int .i64 1, .int .i64 0, .bool true, .bool false, .int .i64 1, .string { data := #[] }, .int .i64 0, .int .i64 0, .bool false, .int .i64 2, .string { data := #[] }, .int .i64 0, .int .i64 0] 54) = W3 := ⟨_, rfl⟩
  have hk3 : Keep [] W2 W3 := by rw [← hW3]; exact (Keep.refl _ _).alloc _
  have hP3 : Blk W3 W2.heap.size 54 ([pgSm1, pgSm2].flatMap Pg.cs) := by rw [← hW3]; exact Blk.new W2 54 _
  obtain ⟨W4, hW4⟩ : ∃ W4, W3.alloc (.cells #[.slice (some ⟨W2.heap.size, 0, none⟩) 2 2] 41) = W4 := ⟨_, rfl⟩
  have hk4 : Keep [] W3 W4 := by rw [← hW4]; exact (Keep.refl _ _).alloc _
  have hH4 : Blk W4 W3.heap.size 41 [.slice (some ⟨W2.heap.size, 0, none⟩) 2 2] := by rw [← hW4]; exact Blk.new W3 _ _
  obtain ⟨W5, hW5⟩ : ∃ W5, W4.alloc (.cells #[.int .i64 3, .slice (some ⟨W3.heap.size, 0, none⟩) 1 1] 44) = W5 := ⟨_, rfl⟩
  have hk5 : Keep [] W4 W5 := by rw [← hW5]; exact (Keep.refl _ _).alloc _
  have hG5 : Blk W5 W4.heap.size 44 [.int .i64 3, .slice (some ⟨W3.heap.size, 0, none⟩) 1 1] := by rw [← hW5]; exact Blk.new W4 _ _
  obtain ⟨W6, hW6⟩ : ∃ W6, W5.alloc (.cells #[.slice (some ⟨W.heap.size + 1, 0, none⟩) 1 1, .int .i64 3, .slice (some ⟨W4.heap.size, 0, none⟩) 1 1] 25) = W6 := ⟨_, rfl⟩
  have hk6 : Keep [] W5 W6 := by rw [← hW6]; exact (Keep.refl _ _).alloc _
  have hf6 : Blk W6 W5.heap.size 25 [.slice (some ⟨W.heap.size + 1, 0, none⟩) 1 1, .int .i64 3, .slice (some ⟨W4.heap.size, 0, none⟩) 1 1] := by rw [← hW6]; exact Blk.new W5 _ _
  have hkW6 : Keep [] W W6 := hkW2.trans (hk3.trans (hk4.trans (hk5.trans hk6)))
  have hF6 : FtrR [] W6 (.agg #[.slice (some ⟨W.heap.size + 1, 0, none⟩) 1 1, .int .i64 3, .slice (some ⟨W4.heap.size, 0, none⟩) 1 1]) ftrSm := by
    refine ⟨_, _, _, rfl, ?_, ⟨_, _, [.slice (some ⟨W3.heap.size, 0, none⟩) 1 1], rfl, rfl, ?_, fun k h h' => ?_⟩, ?_⟩
    · exact (hC2.keep (hk3.trans (hk4.trans (hk5.trans hk6))) (by simp)).rd (by simp) rfl (Nat.le_refl _) (by simp [maxLen]) rfl
    · exact (hG5.keep hk6 (by simp)).rd (by simp) rfl (Nat.le_refl _) (by simp [maxLen]) rfl
    · obtain rfl : k = 0 := by simp at h'; omega
      refine ⟨_, _, [.slice (some ⟨W2.heap.size, 0, none⟩) 2 2], rfl, rfl, ?_, fun j h1 h1' => ?_⟩
      · exact (hH4.keep (hk5.trans hk6) (by simp)).rd (by simp) rfl (Nat.le_refl _) (by simp [maxLen]) rfl
      · obtain rfl : j = 0 := by simp at h1'; omega
        exact ⟨_, _, rfl, (hP3.keep (hk4.trans (hk5.trans hk6)) (by simp)).rd (by simp) rfl (Nat.le_refl _) (by simp [maxLen]) rfl⟩
    · intro x hx
      simp [ftrSm] at hx
      subst hx
      show (1 : Nat) ≤ maxLen
      unfold maxLen
      omega
  obtain ⟨x0, x1, x2⟩ := at3 hf6
  have E1 := encode_ftr W6 hF6
  rw [ftrSm_right] at E1
  simp only [if_true] at E1
  replace E1 := Lib.hid E1
  go_enter Try.func8, Try.ntmps8
  go_wp2_with fail
  refine E1.out.mono ?_
  rintro e w1 ⟨B, kb, d, rfl, hk7, hB⟩
  have hB1 := hB [] (by simp)
  obtain rfl : 51 = kb := by have := hB1.len1; rw [ftrSm_len] at this; exact this
  have hkW7 := hkW6.trans hk7
  have hf7 := hf6.keep hk7 (by simp)
  have hF7 := hF6.pure hk7
  have D1 := decode_ftr w1 hB1 (by omega)
  rw [ftrO_put ftrSm_right] at D1
  replace D1 := Lib.hid D1
  clear E1 hB x0 x1 x2 hW2 hW3 hW4 hW5 hW6 s0 s1 s2 s3 s4 s5 s6 s7 s8 s9 s10 s11
  go_wp2_with fail
  refine D1.out.mono ?_
  rintro e w2 ⟨F2, rfl, hk8, hF2⟩
  replace hF2 := hF2 [] (by simp)
  simp only [Option.getD_some] at hF2
  simp only [Option.isSome_some]
  obtain ⟨A2, n2, c2, A3, n3, c3, rfl⟩ := hF2.form
  have hr3 : ftrSm.rows.toInt = 3 := by decide +kernel
  rw [hr3] at hF2 ⊢
  obtain ⟨w3, hw3⟩ : ∃ w3, w2.alloc (.cells #[.slice A2 n2 c2, .int .i64 3, .slice A3 n3 c3] 25) = w3 := ⟨_, rfl⟩
  have hk9 : Keep [] w2 w3 := by rw [← hw3]; exact (Keep.refl _ _).alloc _
  have hg3 : Blk w3 w2.heap.size 25 [.slice A2 n2 c2, .int .i64 3, .slice A3 n3 c3] := by rw [← hw3]; exact Blk.new w2 _ _
  have hF3 := hF2.pure hk9
  have hk89 := hk8.trans hk9
  have hf3 := hf7.keep hk89 (by simp)
  have hFm3 := hF7.pure hk89
  have hB3 := hB1.pure hk89
  have hkW3 := hkW7.trans hk89
  obtain ⟨x0, x1, x2⟩ := at3 hf3
  have S1 := spans_prog 0 0 w3 hFm3 (by omega) (by omega)
  rw [ftrSm_spans] at S1
  replace S1 := Lib.hid S1
  clear D1 hr3 hF2 hF7 hB1 hf7
  go_wp2_with fail
  refine S1.out.mono ?_
  rintro e w4 ⟨B4, k4, d4, rfl, hk10, hS4⟩
  have hS4' := hS4 [] (by simp)
  obtain rfl : 2 = k4 := hS4'.len
  have Z1 := encode_ftr w4 (FtrR.zero [] w4)
  rw [ftrSm_zero.1] at Z1
  simp only [if_true, ftrSm_zero.2] at Z1
  replace Z1 := Lib.hid Z1
  clear S1 hw3 x0 x1 x2 hS4
  go_wp2_with fail
  refine Z1.out.mono ?_
  rintro e w5 ⟨B5, k5, d5, rfl, hk11, hZ5⟩
  have hZ5' := hZ5 [] (by simp)
  obtain rfl : 3 = k5 := by have := hZ5'.len1; simpa using this
  have hk35 := hk10.trans hk11
  have hB5 := hB3.pure hk35
  have hbc := hB5.cap
  have hbl := hB5.le
  clear Z1 hZ5
  go_wp2_with (at_builtin; refine wpList_append_rd rfl _ _ 28 rfl w5.heap.size 5 i0 (.int .u8 0) 1 1 Try.underlying28 hi hz0 hz1 hz2 rfl (by omega) _ 0 [] rfl (World.ownsRow_lit w5 #[] 0 (Nat.le_refl _) (by simp [maxLen]) (by simp)) rfl (hB5.pure ((Keep.refl [] w5).alloc (.cells #[] 5))) (vU8_one (ftrB ftrSm)) (by unfold maxLen; omega) (by omega) (by simp) ?_)
  intro v6 w6 hown6 hgr6
  have hk12 : Keep [] w5 w6 := ((Keep.refl [] w5).alloc (.cells #[] 5)).grown hgr6 (fun g hg => .inr (by simp [Value.ownBlock] at hg; omega))
  try simp only [List.nil_append, Nat.zero_add] at hown6
  obtain ⟨B6, d6, rfl⟩ := own_form hown6
  have hck : Bys [] (w6.alloc (.cells #[.int .u8 0] 5)) (some ⟨w6.heap.size, 0, none⟩) 1 1 [0] := (Blk.new w6 5 [.int .u8 0]).rd (by simp) rfl (by omega) (by simp [maxLen]) rfl
  have hsz6 := hk12.size
  clear hgr6
  go_wp2_with (at_builtin; refine wpList_append_rd rfl _ _ 28 rfl w5.heap.size 5 i0 (.int .u8 0) 1 1 Try.underlying28 hi hz0 hz1 hz2 rfl (by omega) (.slice B6 51 d6) 51 _ rfl (hown6.alloc _) rfl hck (vU8_one [0]) (by unfold maxLen; omega) (by omega) (by simp; omega) ?_)
  intro v7 w7 hown7 hgr7
  have hk13 : Keep [] w5 w7 := (hk12.alloc _).grown hgr7 (fun g hg => .inr (own_ge hown6 g hg))
  obtain ⟨B7, d7, rfl⟩ := own_form hown7
  have hb7 : Bys [] w7 B7 (51 + 1) d7 (ftrB ftrSm ++ [0]) := by
    have := rd_of_own (X := []) hown7 (by simp)
    rw [Bys, List.map_append]
    exact this
  have D2 := decode_ftr w7 hb7 (by omega)
  rw [ftrSm_no] at D2
  replace D2 := Lib.hid D2
  clear hck hown6 hgr7 hown7 hb7
  go_wp2_with fail
  refine D2.out.mono ?_
  rintro e w8 ⟨F8, rfl, hk14, hF8⟩
  replace hF8 := hF8 [] (by simp)
  simp only [Option.getD_none] at hF8
  simp only [Option.isSome_none]
  obtain ⟨A8, n8, c8, A9, n9, c9, rfl⟩ := hF8.form
  have hk38 := hk35.trans (hk13.trans hk14)
  obtain ⟨w9, hw9⟩ : ∃ w9, w8.alloc (.cells #[.slice A8 n8 c8, .int .i64 Ftr.zero.rows.toInt, .slice A9 n9 c9] 25) = w9 := ⟨_, rfl⟩
  have hk15 : Keep [] w8 w9 := by rw [← hw9]; exact (Keep.refl _ _).alloc _
  have hk39 := hk38.trans hk15
  have hf9 := hf3.keep hk39 (by simp)
  have hg9 := hg3.keep hk39 (by simp)
  obtain ⟨x0, x1, x2⟩ := at3 hf9
  obtain ⟨y0, y1, y2⟩ := at3 hg9
  have hB9 := hB3.pure hk39
  have st1 := str_run (hB9.take1 (k := 9) (by omega))
  rw [ftrSm_head] at st1
  have SM := same_ref19 w9 (hFm3.pure hk39) (hF3.pure hk39)
  rw [decide_eq_true rfl] at SM
  replace SM := Lib.hid SM
  have hbd9 := hB9.cap
  clear D2 
  go_wp2_with fail
  refine SM.out.mono ?_
  rintro e wa ⟨rfl, hka⟩
  have hk4a := (hk11.trans (hk13.trans hk14)).trans (hk15.trans hka)
  obtain ⟨sb, so, e4, _, _, q0, q1⟩ := Sps.at2 (hS4'.pure hk4a) (k := 1) (by simp)
  simp only [List.getElem_cons_succ, List.getElem_cons_zero] at q0 q1
  subst e4
  have he4 := eql_span (2, 3) (2, 3)
  simp only [decide_true] at he4
  have hk5a := (hk13.trans hk14).trans (hk15.trans hka)
  have st2 := str_run (hZ5'.pure hk5a)
  have hk3a := hk39.trans hka
  have hfa := hf3.keep hk3a (by simp)
  obtain ⟨x0, x1, x2⟩ := at3 hfa
  have P1 := place_prog 0 0 1 wa (hFm3.pure hk3a) (by omega)
  rw [ftrSm_place.1] at P1
  replace P1 := Lib.hid P1
  clear SM st1 hw9 y0 y1 y2
  go_wp2_with fail
  refine P1.out.mono ?_
  rintro e wb ⟨rfl, hkb⟩
  have hk3b := hk3a.trans hkb
  obtain ⟨x0, x1, x2⟩ := at3 (hf3.keep hk3b (by simp))
  have P2 := place_prog 1 0 0 wb (hFm3.pure hk3b) (by omega)
  rw [ftrSm_place.2.1] at P2
  replace P2 := Lib.hid P2
  clear P1 st2
  go_wp2_with fail
  refine P2.out.mono ?_
  rintro e wc ⟨rfl, hkc⟩
  have hk3c := hk3b.trans hkc
  obtain ⟨x0, x1, x2⟩ := at3 (hf3.keep hk3c (by simp))
  have P3 := place_prog 0 0 2 wc (hFm3.pure hk3c) (by omega)
  rw [ftrSm_place.2.2] at P3
  replace P3 := Lib.hid P3
  clear P2
  go_wp2_with fail
  refine P3.out.mono ?_
  rintro e wd ⟨rfl, hkd⟩
  have hk3d := hk3c.trans hkd
  obtain ⟨x0, x1, x2⟩ := at3 (hf3.keep hk3d (by simp))
  have R1 := right_prog wd (hFm3.pure hk3d)
  rw [ftrSm_right] at R1
  replace R1 := Lib.hid R1
  clear P3
  go_wp2_with fail
  refine R1.out.mono ?_
  rintro e we ⟨rfl, hke⟩
  have R2 := right_prog we (FtrR.rows1 [] we)
  rw [ftrSm_one] at R2
  replace R2 := Lib.hid R2
  clear R1
  go_wp2_with fail
  refine R2.out.mono ?_
  rintro e wf ⟨rfl, hkf⟩
  go_wp2
  go_ret
  exact ⟨rfl, hkW3.trans (hk3d.trans (hke.trans hkf))⟩
end Go.Proofs.Ytcpimhefclfbaaa

namespace Go.Proofs.Ytcpimhefclfbaaa
open Go Go.RowKit
set_option maxRecDepth 10000
set_option linter.unusedVariables false
set_option linter.unusedSimpArgs false

def FewPost (W : World) (e : Ending) (W' : World) : Prop := ∃ v : Bool, e = .returned (.bool v) ∧ Keep [] W W'
set_option maxHeartbeats 8000000 in
theorem few19 {X : List Nat} {F : Value} {f : Ftr} (W : World) (h : FtrR X W F f) :
    Calls Try.prog 9 #[F] W (FewPost W) := by
  obtain ⟨A, c, G, rfl, hcols, hgr, ht⟩ := h
  obtain ⟨A2, c2, rfl, hg1, hg2⟩ := hgr.form
  have hcc := hcols.cap
  have hcl := hcols.le
  unfold maxLen at hg2
  obtain ⟨W1, hW1⟩ : ∃ W1, W.alloc (.cells #[.slice A f.cols.length c, .int .i64 f.rows.toInt, .slice A2 f.groups.length c2] 25) = W1 := ⟨_, rfl⟩
  have hk1 : Keep [] W W1 := by rw [← hW1]; exact (Keep.refl _ _).alloc _
  have hb1 : Blk W1 W.heap.size 25 [.slice A f.cols.length c, .int .i64 f.rows.toInt, .slice A2 f.groups.length c2] := by rw [← hW1]; exact Blk.new W 25 _
  obtain ⟨a0, a1, a2⟩ := at3 hb1
  replace ht := Lib.hid ht
  go_enter Try.func9, Try.ntmps9
  go_wp2
  clear hW1
  go_loopw [3, 4] (fun n i wr => ∃ (k : Nat) (z : Int), k ≤ f.cols.length ∧ i = .int .i64 k ∧ n = .int .i64 z ∧ Keep [] W1 wr) (fun _ i _ => f.cols.length - (intOf i).toNat)
  case atStart => exact ⟨0, 0, Nat.zero_le _, rfl, rfl, Keep.refl _ _⟩
  case round =>
    obtain ⟨k, z, hk, rfl, rfl, hkr⟩ := hrel
    have hkWr := hk1.trans hkr
    have hbr := hb1.keep hkr (by simp)
    obtain ⟨x0, x1, x2⟩ := at3 hbr
    by_cases hlt : k < f.cols.length
    · obtain ⟨cb, coff, ce, _, _, y0, y1, y2⟩ := Cols.at3 (hcols.pure hkWr) hlt
      subst ce
      have i0' : (0 : Int) ≤ (k : Int) := by omega
      have i1' : (k : Int) < (f.cols.length : Int) := by omega
      have hsz := ht.out _ (List.getElem_mem hlt)
      unfold maxLen at hsz
      generalize f.cols[k] = x at *
      go_wp2
      go_roundw
      case rel => exact ⟨k + 1, _, by omega, by go_num, rfl, hkr⟩
      case measure => simp [intOf]; omega
    · obtain rfl : k = f.cols.length := by omega
      go_wp2
      go_loopw [3, 5] (fun n i w => ∃ (k : Nat) (z : Int), k ≤ f.groups.length ∧ i = .int .i64 k ∧ n = .int .i64 z ∧ Keep [] wr w) (fun _ i _ => f.groups.length - (intOf i).toNat)
      case atStart => exact ⟨0, _, Nat.zero_le _, rfl, rfl, Keep.refl _ _⟩
      case round =>
        obtain ⟨k, z, hk, rfl, rfl, hkr2⟩ := hrel
        have hkW2 := hkWr.trans hkr2
        have hbr2 := hbr.keep hkr2 (by simp)
        obtain ⟨x0, x1, x2⟩ := at3 hbr2
        by_cases hlt : k < f.groups.length
        · obtain ⟨b, off, A3, c3, e1, g0, g1, hch, hc3, hc3'⟩ := hgr.at_ hlt
          subst e1
          generalize f.groups[k] = gr at *
          have G1 := Lib.hid (fun w (hw : Keep [] W w) => hw.cell g1)
          clear g0 g1
          unfold maxLen at hc3'
          have i0' : (0 : Int) ≤ (k : Int) := by omega
          have i1' : (k : Int) < (f.groups.length : Int) := by omega
          go_wp2
          go_loopw [3, 6] (fun n i w => ∃ (j : Nat) (z : Int), j ≤ gr.chunks.length ∧ i = .int .i64 j ∧ n = .int .i64 z ∧ Keep [] wr w) (fun _ i _ => gr.chunks.length - (intOf i).toNat)
          case atStart => exact ⟨0, _, Nat.zero_le _, rfl, rfl, Keep.refl _ _⟩
          case round =>
            obtain ⟨j, z, hj, rfl, rfl, hkj⟩ := hrel
            have hkWj := hkW2.trans hkj
            have hbj := hbr2.keep hkj (by simp)
            obtain ⟨x0, x1, x2⟩ := at3 hbj
            have g1 := G1.out _ hkWj
            by_cases hjt : j < gr.chunks.length
            · obtain ⟨b', off', A4, c4, e4, d0, hpg, hc4, hc4'⟩ := hch.at_ hjt
              subst e4
              replace d0 := hkWj.cell d0
              generalize gr.chunks[j] = l at *
              unfold maxLen at hc4'
              have j0' : (0 : Int) ≤ (j : Int) := by omega
              have j1' : (j : Int) < (gr.chunks.length : Int) := by omega
              go_wp2
              go_loopw [3, 8] (fun n i w => ∃ (m : Nat) (z : Int), m ≤ l.length ∧ i = .int .i64 m ∧ n = .int .i64 z ∧ Keep [] wr w) (fun _ i _ => l.length - (intOf i).toNat)
              case atStart => exact ⟨0, _, Nat.zero_le _, rfl, rfl, Keep.refl _ _⟩
              case round =>
                obtain ⟨m, z, hm, rfl, rfl, hkm⟩ := hrel
                have hkWm := hkWj.trans hkm
                by_cases hmt : m < l.length
                · have AT := Lib.hid (fun w (hw : Keep [] W w) => (hpg.pure hw).at14 hmt)
                  obtain ⟨pb, poff, e6, _⟩ := hpg.at14 hmt
                  subst e6
                  generalize l[m] = p at *
                  have m0' : (0 : Int) ≤ (m : Int) := by omega
                  have m1' : (m : Int) < (l.length : Int) := by omega
                  go_wp2_with fail
                  refine wp_region_quietK (by kernel_rfl) (by kernel_rfl) (Keep.refl [] _) ?_
                  repeat ((first | (refine q_skip rfl ?_) | (refine q_val (v := ?_) rfl ?_ ?_; rotate_left; (intro w hw; obtain ⟨_, _, e', _, _, ⟨y0, y1⟩, ⟨y2, y3⟩, ⟨y4, y5, y6, y7, y8⟩, ⟨y9, y10, y11, y12, y13⟩⟩ := AT.out w (hkWm.trans hw); cases e'; go_simp; exact rfl))); simp only [Act.put, List.setIfInBounds_toArray, List.set_cons_succ, List.set_cons_zero])
                  refine wpQuiet_nil (fun w5 hw5 => ?_)
                  go_wp2
                  go_roundw
                  case rel => exact ⟨m + 1, _, by omega, by go_num, rfl, hkm.trans hw5⟩
                  case measure => simp [intOf]; omega
                · obtain rfl : m = l.length := by omega
                  go_wp2
                  go_roundw
                  case rel => exact ⟨j + 1, _, by omega, by go_num, rfl, hkj.trans hkm⟩
                  case measure => simp [intOf]; omega
            · obtain rfl : j = gr.chunks.length := by omega
              go_wp2
              go_roundw
              case rel => exact ⟨k + 1, _, by omega, by go_num, rfl, hkr2.trans hkj⟩
              case measure => simp [intOf]; omega
        · obtain rfl : k = f.groups.length := by omega
          by_cases h70 : f.cols.length ≤ 70
          · by_cases h4 : z ≤ 4000
            · go_wp2
              go_ret
              exact ⟨_, rfl, hkW2⟩
            · go_wp2
              go_ret
              exact ⟨_, rfl, hkW2⟩
          · go_wp2
            go_ret
            exact ⟨_, rfl, hkW2⟩
end Go.Proofs.Ytcpimhefclfbaaa

namespace Go.Proofs.Ytcpimhefclfbaaa
open Go Go.RowKit
set_option maxRecDepth 10000
set_option linter.unusedVariables false
set_option linter.unusedSimpArgs false

set_option maxHeartbeats 8000000 in
theorem FooterEncodes_walk (F : Value) (f : Ftr) (W : World) (h : FtrR [] W F f) :
    Calls Try.prog 3 #[F] W fun e W' => e = .returned (.bool true) ∧ Below W.heap.size W W' := by
  obtain ⟨A, n, c, A2, n2, c2, rfl⟩ := h.form
  obtain ⟨W1, hW1⟩ : ∃ W1, W.alloc (.cells #[.slice A n c, .int .i64 f.rows.toInt, .slice A2 n2 c2] 25) = W1 := ⟨_, rfl⟩
  have hk1 : Keep [] W W1 := by rw [← hW1]; exact (Keep.refl _ _).alloc _
  have hb1 : Blk W1 W.heap.size 25 [.slice A n c, .int .i64 f.rows.toInt, .slice A2 n2 c2] := by rw [← hW1]; exact Blk.new W _ _
  have S := Lib.hid (small19 W1)
  go_enter Try.func3, Try.ntmps3
  go_wp2_with fail
  refine S.out.mono ?_
  rintro e w1 ⟨rfl, hk2⟩
  have hW1' := hk1.trans hk2
  have hb2 := hb1.keep hk2 (by simp)
  obtain ⟨x0, x1, x2⟩ := at3 hb2
  have FW := Lib.hid (few19 w1 (h.pure hW1'))
  clear S hW1
  go_wp2_with fail
  refine FW.out.mono ?_
  rintro e w2 ⟨v, rfl, hk3⟩
  have hW2 := hW1'.trans hk3
  have hb3 := hb2.keep hk3 (by simp)
  clear FW
  cases v with
  | false =>
    go_wp2
    go_ret
    exact ⟨rfl, hW2.below⟩
  | true =>
  obtain ⟨x0, x1, x2⟩ := at3 hb3
  have E1 := Lib.hid (encode_ftr w2 (h.pure hW2))
  go_wp2_with fail
  refine E1.out.mono ?_
  rintro e w3 ⟨B3, k3, d3, rfl, hk4, hB3⟩
  have hW3 := hW2.trans hk4
  have hb4 := hb3.keep hk4 (by simp)
  obtain ⟨x0, x1, x2⟩ := at3 hb4
  have E2 := Lib.hid (encode_ref19 w3 (h.pure hW3))
  clear E1
  go_wp2_with fail
  refine E2.out.mono ?_
  rintro e w4 ⟨B4, k4, d4, rfl, hk5, hB4⟩
  have hW4 := hW3.trans hk5
  have hb5 := hb4.keep hk5 (by simp)
  have hs3 := Lib.hid (fun w (hw : Keep [] w4 w) => str_run ((hB3 [] (by simp)).pure (hk5.trans hw)))
  have hs4 := Lib.hid (fun w (hw : Keep [] w4 w) => str_run ((hB4 [] (by simp)).pure hw))
  have R1 := Lib.hid (fun w (hw : Keep [] w4 w) => right_prog w (h.pure (hW4.trans hw)))
  have R2 := Lib.hid (fun w (hw : Keep [] w4 w) => right_ref w (h.pure (hW4.trans hw)))
  clear E2 hB3 hB4
  generalize (if rightF f = true then ftrB f else []) = bs at *
  generalize rightF f = b at *
  go_wp2_with fail
  refine wp_region_quietK (by kernel_rfl) (by kernel_rfl) (Keep.refl [] _) ?_
  repeat ((first | (refine q_skip rfl ?_) | (refine q_val (v := ?_) rfl ?_ ?_; rotate_left; (intro w hw; obtain ⟨x0, x1, x2⟩ := at3 (hb5.keep hw (by simp)); have s3 := hs3.out w hw; have s4 := hs4.out w hw; go_simp; exact rfl))); simp only [Act.put, List.setIfInBounds_toArray, List.set_cons_succ, List.set_cons_zero])
  refine q_call (v := ?_) (f := ?_) (args := ?_) rfl (fun w hw => ?_) (fun w hw => ?_) ?_
  rotate_left 3
  · go_simp; exact rfl
  · have C9 := keep_call (R1.out w hw) hw; exact C9
  simp only [Act.put, List.setIfInBounds_toArray, List.set_cons_succ, List.set_cons_zero]
  repeat ((first | (refine q_skip rfl ?_) | (refine q_val (v := ?_) rfl ?_ ?_; rotate_left; (intro w hw; obtain ⟨x0, x1, x2⟩ := at3 (hb5.keep hw (by simp)); go_simp; exact rfl))); simp only [Act.put, List.setIfInBounds_toArray, List.set_cons_succ, List.set_cons_zero])
  refine q_call (v := ?_) (f := ?_) (args := ?_) rfl (fun w hw => ?_) (fun w hw => ?_) ?_
  rotate_left 3
  · go_simp; exact rfl
  · have C9 := keep_call (R2.out w hw) hw; exact C9
  simp only [Act.put, List.setIfInBounds_toArray, List.set_cons_succ, List.set_cons_zero]
  repeat ((first | (refine q_skip rfl ?_) | (refine q_val (v := ?_) rfl ?_ ?_; rotate_left; (intro w hw; skip; go_simp; exact rfl))); simp only [Act.put, List.setIfInBounds_toArray, List.set_cons_succ, List.set_cons_zero])
  refine wpQuiet_nil (fun w5 hw5 => ?_)
  go_wp2
  go_ret
  exact ⟨rfl, (hW4.trans hw5).below⟩

set_option maxHeartbeats 8000000 in
theorem FooterPlaces_walk (F : Value) (f : Ftr) (g c p : Int) (W : World) (h : FtrR [] W F f) (hg : -9223372036854775808 ≤ g ∧ g ≤ 9223372036854775807) (hc : -9223372036854775808 ≤ c ∧ c ≤ 9223372036854775807) (hp : -9223372036854775808 ≤ p ∧ p ≤ 9223372036854775807) :
    Calls Try.prog 5 #[F, .int .i64 g, .int .i64 c, .int .i64 p] W fun e W' => e = .returned (.bool true) ∧ Below W.heap.size W W' := by
  obtain ⟨A, n, c1, A2, n2, c2, rfl⟩ := h.form
  obtain ⟨W1, hW1⟩ : ∃ W1, W.alloc (.cells #[.slice A n c1, .int .i64 f.rows.toInt, .slice A2 n2 c2] 25) = W1 := ⟨_, rfl⟩
  have hk1 : Keep [] W W1 := by rw [← hW1]; exact (Keep.refl _ _).alloc _
  have hb1 : Blk W1 W.heap.size 25 [.slice A n c1, .int .i64 f.rows.toInt, .slice A2 n2 c2] := by rw [← hW1]; exact Blk.new W _ _
  have S := Lib.hid (small19 W1)
  go_enter Try.func5, Try.ntmps5
  go_wp2_with fail
  refine S.out.mono ?_
  rintro e w1 ⟨rfl, hk2⟩
  have hW1' := hk1.trans hk2
  have hb2 := hb1.keep hk2 (by simp)
  obtain ⟨x0, x1, x2⟩ := at3 hb2
  have FW := Lib.hid (few19 w1 (h.pure hW1'))
  clear S hW1
  go_wp2_with fail
  refine FW.out.mono ?_
  rintro e w2 ⟨v, rfl, hk3⟩
  have hW2 := hW1'.trans hk3
  have hb3 := hb2.keep hk3 (by simp)
  clear FW
  cases v with
  | false =>
    go_wp2
    go_ret
    exact ⟨rfl, hW2.below⟩
  | true =>
  have hs1 := Lib.hid (fun w (hw : Keep [] w2 w) => spans_prog g c w (h.pure (hW2.trans hw)) hg hc)
  have hs2 := Lib.hid (fun w (hw : Keep [] w2 w) => spans_ref19 g c w (h.pure (hW2.trans hw)) hg hc)
  have P1 := Lib.hid (fun w (hw : Keep [] w2 w) => place_prog g c p w (h.pure (hW2.trans hw)) hp)
  have P2 := Lib.hid (fun w (hw : Keep [] w2 w) => place_ref19 g c p w (h.pure (hW2.trans hw)) hp)
  generalize placeF f g c p = pv at *
  generalize spansF f g c = sv at *
  go_wp2_with fail
  refine wp_region_ords 25 [] (fun _ _ => True) (List.replicate 25 false) (Slot.val ?_ :: Slot.val ?_ :: Slot.val ?_ :: Slot.val ?_ :: Slot.val ?_ :: Slot.spec (RdIs 2 (sv.flatMap spC)) :: Slot.val ?_ :: Slot.val ?_ :: Slot.val ?_ :: Slot.spec (RdIs 2 (sv.flatMap spC)) :: Slot.val ?_ :: Slot.val ?_ :: Slot.val ?_ :: Slot.val ?_ :: Slot.val ?_ :: Slot.val ?_ :: Slot.val ?_ :: Slot.val ?_ :: Slot.val ?_ :: Slot.val ?_ :: Slot.val ?_ :: Slot.val ?_ :: Slot.val ?_ :: Slot.val ?_ :: Slot.val ?_ :: []) (by kernel_rfl) rfl rfl (by kernel_rfl) ?_ (fun _ _ _ _ _ => trivial) trivial ?_
  rotate_left 23
  · intro t ht
    simp only [List.mem_cons, List.not_mem_nil, or_false] at ht
    rcases ht with rfl | rfl | rfl | rfl | rfl | rfl | rfl | rfl | rfl | rfl | rfl | rfl | rfl | rfl | rfl | rfl | rfl | rfl | rfl | rfl | rfl | rfl | rfl | rfl | rfl
    all_goals first | exact trivial | exact SlTo.lasts (by simp) | exact PtrTo.lasts (by simp) | exact RdIs.lasts
  simp only [List.take_succ_cons, List.take_zero, List.drop_succ_cons, List.drop_zero]
  repeat ((first | (refine obls_cons (obl_skip (fun vals => by rfl) ?_) ?_; (exact rfl)) | (refine obls_cons (obl_val (fun vals => by rfl) (fun vals w hw hd => ?_)) ?_; (obtain ⟨x0, x1, x2⟩ := at3 (hb3.keep hw (by simp)); go_simp; exact rfl))); simp only [Slot.put, Slot.chain, Bool.false_eq_true, if_false, if_true, Nat.add_zero, Nat.zero_add, Nat.reduceAdd, Act.put, List.setIfInBounds_toArray, List.set_cons_succ, List.set_cons_zero])
  refine obls_cons (obl_callT (f := ?_) (args := ?_) (fun vals => by rfl) (fun vals w hw hd => ?_) (fun vals w hw hd => ?_)) ?_
  rotate_left 2
  · go_simp; exact rfl
  · exact (hs1.out w hw).mono (fun e w' ⟨B, k, d, h1, h2, h3⟩ => ⟨_, h1, h2, B, k, d, rfl, h3 [] (by simp)⟩)
  simp only [Slot.put, Slot.chain, Bool.false_eq_true, if_false, if_true, Nat.add_zero, Nat.zero_add, Nat.reduceAdd, Act.put, List.setIfInBounds_toArray, List.set_cons_succ, List.set_cons_zero]
  repeat ((first | (refine obls_cons (obl_skip (fun vals => by rfl) ?_) ?_; (exact rfl)) | (refine obls_cons (obl_val (fun vals => by rfl) (fun vals w hw hd => ?_)) ?_; (obtain ⟨x0, x1, x2⟩ := at3 (hb3.keep hw (by simp)); go_simp; exact rfl))); simp only [Slot.put, Slot.chain, Bool.false_eq_true, if_false, if_true, Nat.add_zero, Nat.zero_add, Nat.reduceAdd, Act.put, List.setIfInBounds_toArray, List.set_cons_succ, List.set_cons_zero])
  refine obls_cons (obl_callT (f := ?_) (args := ?_) (fun vals => by rfl) (fun vals w hw hd => ?_) (fun vals w hw hd => ?_)) ?_
  rotate_left 2
  · go_simp; exact rfl
  · exact (hs2.out w hw).mono (fun e w' ⟨B, k, d, h1, h2, h3⟩ => ⟨_, h1, h2, B, k, d, rfl, h3 [] (by simp)⟩)
  simp only [Slot.put, Slot.chain, Bool.false_eq_true, if_false, if_true, Nat.add_zero, Nat.zero_add, Nat.reduceAdd, Act.put, List.setIfInBounds_toArray, List.set_cons_succ, List.set_cons_zero]
  refine obls_cons (obl_call (f := ?_) (args := ?_) (fun vals => by rfl) (fun vals w hw hd => ?_) (fun vals w hw hd => ?_)) ?_
  rotate_left 2
  · go_simp; exact rfl
  · obtain ⟨B, k, d, e5, hr5⟩ := hd 5 (by decide +kernel) _ rfl; obtain ⟨B', k', d', e9, hr9⟩ := hd 9 (by decide +kernel) _ rfl; rw [e5, e9]; have C := sameSp_ref w hr5 hr9; rw [decide_eq_true rfl] at C; exact C
  simp only [Slot.put, Slot.chain, Bool.false_eq_true, if_false, if_true, Nat.add_zero, Nat.zero_add, Nat.reduceAdd, Act.put, List.setIfInBounds_toArray, List.set_cons_succ, List.set_cons_zero]
  repeat ((first | (refine obls_cons (obl_skip (fun vals => by rfl) ?_) ?_; (exact rfl)) | (refine obls_cons (obl_val (fun vals => by rfl) (fun vals w hw hd => ?_)) ?_; (obtain ⟨x0, x1, x2⟩ := at3 (hb3.keep hw (by simp)); go_simp; exact rfl))); simp only [Slot.put, Slot.chain, Bool.false_eq_true, if_false, if_true, Nat.add_zero, Nat.zero_add, Nat.reduceAdd, Act.put, List.setIfInBounds_toArray, List.set_cons_succ, List.set_cons_zero])
  refine obls_cons (obl_call (f := ?_) (args := ?_) (fun vals => by rfl) (fun vals w hw hd => ?_) (fun vals w hw hd => ?_)) ?_
  rotate_left 2
  · go_simp; exact rfl
  · have C := P1.out w hw; exact C
  simp only [Slot.put, Slot.chain, Bool.false_eq_true, if_false, if_true, Nat.add_zero, Nat.zero_add, Nat.reduceAdd, Act.put, List.setIfInBounds_toArray, List.set_cons_succ, List.set_cons_zero]
  repeat ((first | (refine obls_cons (obl_skip (fun vals => by rfl) ?_) ?_; (exact rfl)) | (refine obls_cons (obl_val (fun vals => by rfl) (fun vals w hw hd => ?_)) ?_; (obtain ⟨x0, x1, x2⟩ := at3 (hb3.keep hw (by simp)); go_simp; exact rfl))); simp only [Slot.put, Slot.chain, Bool.false_eq_true, if_false, if_true, Nat.add_zero, Nat.zero_add, Nat.reduceAdd, Act.put, List.setIfInBounds_toArray, List.set_cons_succ, List.set_cons_zero])
  refine obls_cons (obl_call (f := ?_) (args := ?_) (fun vals => by rfl) (fun vals w hw hd => ?_) (fun vals w hw hd => ?_)) ?_
  rotate_left 2
  · go_simp; exact rfl
  · have C := P2.out w hw; exact C
  simp only [Slot.put, Slot.chain, Bool.false_eq_true, if_false, if_true, Nat.add_zero, Nat.zero_add, Nat.reduceAdd, Act.put, List.setIfInBounds_toArray, List.set_cons_succ, List.set_cons_zero]
  repeat ((first | (refine obls_cons (obl_skip (fun vals => by rfl) ?_) ?_; (exact rfl)) | (refine obls_cons (obl_val (fun vals => by rfl) (fun vals w hw hd => ?_)) ?_; (skip; go_simp; exact rfl))); simp only [Slot.put, Slot.chain, Bool.false_eq_true, if_false, if_true, Nat.add_zero, Nat.zero_add, Nat.reduceAdd, Act.put, List.setIfInBounds_toArray, List.set_cons_succ, List.set_cons_zero])
  refine obls_nil (fun vals w3 hw _ hall => ?_)
  go_wp2
  go_ret
  exact ⟨rfl, (hW2.trans hw).below⟩
end Go.Proofs.Ytcpimhefclfbaaa
