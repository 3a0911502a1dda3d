/-
  A footer's bytes: footer.Encode.
  A footer's bytes, as the document has them: hypostyleref19.Encode.
-/
import Derived.Test.YtcpimhefclfbaaaFFC
import Derived.Test.YtcpimhefclfbaaaFFB
import Derived.Test.YtcpimhefclfbaaaFStb
namespace Go.Proofs.Ytcpimhefclfbaaa
open Go Go.RowKit
set_option maxRecDepth 10000
set_option linter.unusedVariables false
set_option linter.unusedSimpArgs false

/-- A variable of its own block that holds bytes, new since 'base'. -/
def Out (base : Nat) (w : World) (g : Nat) (q : List UInt8) : Prop := base ≤ g ∧ ∃ B k d, Blk w g 28 [.slice B k d] ∧ k = q.length ∧ ∀ Y : List Nat, (∀ b ∈ Y, b < base ∨ b = g) → Bys Y w B k d q
theorem Out.pure {base : Nat} {w w' : World} {g : Nat} {q : List UInt8} (h : Out base w g q) (hk : Keep [] w w') : Out base w' g q := by
  obtain ⟨h0, B, k, d, h1, h2, h3⟩ := h
  exact ⟨h0, B, k, d, h1.keep hk (by simp), h2, fun Y hY => (h3 Y hY).pure hk⟩
theorem Out.lt {base : Nat} {w : World} {g : Nat} {q : List UInt8} (h : Out base w g q) : g < w.heap.size := by
  obtain ⟨h0, B, k, d, h1, h2, h3⟩ := h
  exact h1.lt
/-- What is stored there then. -/
theorem Out.set {base : Nat} {w w2 w3 : World} {g : Nat} {q : List UInt8} {B : Option Addr} {k d : Nat} {v : Value} (h0 : base ≤ g) (hb : Blk w g 28 [v]) (hk : Keep [] w w2) (ho : w2.ownsRow w.heap.size 5 1 (.slice B k d) k (q.map vU8)) (h3 : w3 = w2.setCell ⟨g, 0, none⟩ (.slice B k d)) : Out base w3 g q ∧ Keep [g] w w3 := by
  subst h3
  have hb2 := hb.keep hk (by simp)
  have hg := hb.lt
  refine ⟨⟨h0, B, k, d, ?_, own_len ho, fun Y hY => ?_⟩, hk.nil.setCell (.inl (by simp)) _⟩
  · have := hb2.set_ 0 (.slice B k d)
    simpa using this
  · have hr : Bys (g :: Y) w2 B k d q := rd_of_own ho (fun b hb => by
      rcases List.mem_cons.1 hb with rfl | hb
      · exact hg
      · have := hY b hb; omega)
    exact (hr.keep ((Keep.refl [g] w2).setCell (.inl (by simp)) _) (by simp)).weaken (fun b hb => .inl (List.mem_cons_of_mem _ hb))

set_option maxHeartbeats 1000000 in
theorem num_prog {base g : Nat} {q : List UInt8} (n : Int) (W : World) (h : Out base W g q) (hn : -9223372036854775808 ≤ n ∧ n ≤ 9223372036854775807) (hq : q.length ≤ 1000000000000) :
    Calls Try.prog 23 #[.int .i64 n, .pointer (some ⟨g, 0, none⟩)] W fun e W' => e = .returned (.tuple #[]) ∧ Keep [g] W W' ∧ Out base W' g (q ++ putB (uN n)) := by
  obtain ⟨h0, B, k, d, h1, rfl, h3'⟩ := h
  have h3 := h3' [g] (by simp)
  have c0 := h1.cell 0
  have f0 := h1.frozen 0
  simp only [List.getElem?_cons_zero] at c0
  have P := put_prog (uN n) W h3 (uN_lt _) (by omega)
  rw [← wrap_uN n] at P
  replace P := Lib.hid P
  go_enter Try.func23, Try.ntmps23
  go_wp2_with fail
  refine P.out.mono ?_
  rintro e w2 ⟨B2, k2, d2, rfl, hk2, ho2⟩
  have c1 := (h1.keep hk2 (by simp)).cell 0
  have f1 := (h1.keep hk2 (by simp)).frozen 0
  simp only [List.getElem?_cons_zero] at c1
  obtain ⟨o1, o2⟩ := Out.set h0 h1 hk2 ho2 rfl
  clear ho2
  go_wp2
  go_end0
  exact ⟨rfl, o2, o1⟩

set_option maxHeartbeats 8000000 in
theorem encode_ftr {X : List Nat} {F : Value} {f : Ftr} (W : World) (h : FtrR X W F f) :
    Calls Try.prog 10 #[F] W fun e W' => ∃ B k d, e = .returned (.tuple #[.slice B k d, .bool (rightF f)]) ∧ Keep [] W W' ∧ ∀ Y : List Nat, (∀ b ∈ Y, b < W.heap.size) → Bys Y W' B k d (if rightF f = true then ftrB f else []) := by
  have hF := h
  obtain ⟨A, c, G, rfl, hcols, hgr, ht⟩ := h
  obtain ⟨A2, c2, rfl, hg1, hg2⟩ := hgr.form
  have hcc := hcols.cap
  have hcl := hcols.le
  unfold maxLen at hg2
  obtain ⟨W1, hW1⟩ : ∃ W1, W.alloc (.cells #[.slice A f.cols.length c, .int .i64 f.rows.toInt, .slice A2 f.groups.length c2] 25) = W1 := ⟨_, rfl⟩
  have hk1 : Keep [] W W1 := by rw [← hW1]; exact (Keep.refl _ _).alloc _
  have hb1 : Blk W1 W.heap.size 25 [.slice A f.cols.length c, .int .i64 f.rows.toInt, .slice A2 f.groups.length c2] := by rw [← hW1]; exact Blk.new W 25 _
  obtain ⟨a0, a1, a2⟩ := at3 hb1
  have C := right_prog W1 (hF.pure hk1)
  clear hF
  cases hR : rightF f with
  | false =>
    rw [hR] at C
    replace C := Lib.hid C
    clear hR
    go_enter Try.func10, Try.ntmps10
    go_wp2_with fail
    refine C.out.mono ?_
    rintro e w1 ⟨rfl, hk2⟩
    go_wp2
    go_ret2
    exact ⟨_, _, _, rfl, hk1.trans hk2, fun Y _ => Rd.nil_ _ _ _⟩
  | true =>
  have hlen := ftrB_len hR
  obtain ⟨r1, r2, r3, r4, r5, r6⟩ := rightF_is hR
  have hcol := colsE_len r1
  have hmem := Lib.hid (fun g hg => (r4 g hg).2.1)
  have hglen := sumZ_len (f := grR) f.groups (fun g hg => (r4 g hg).1)
  rw [hR] at C
  rw [if_pos rfl]
  replace C := Lib.hid C
  obtain ⟨v, hv⟩ : ∃ v, Hid (v = ftrB f) := ⟨_, rfl⟩
  rw [← hv.out] at hlen ⊢
  clear hR r4 r6
  go_enter Try.func10, Try.ntmps10
  go_wp2_with fail
  refine C.out.mono ?_
  rintro e w1 ⟨rfl, hk2⟩
  have hb2 := hb1.keep hk2 (by simp)
  have hk12 := hk1.trans hk2
  obtain ⟨a0, a1, a2⟩ := at3 hb2
  have P := Lib.hid (schemaPut_prog (X := []) (b := []) w1 (Rd.nil_ [] w1 1) (by omega) (hcols.pure hk12) ht)
  clear C hW1
  go_wp2_with fail
  refine P.out.mono ?_
  rintro e w2 ⟨B2, k2, d2, rfl, hk3, ho2⟩
  have hkw2 := hk12.trans hk3
  obtain ⟨wA, hwA⟩ : ∃ wA, w2.alloc (.cells #[.slice B2 k2 d2] 28) = wA := ⟨_, rfl⟩
  obtain ⟨g, hg⟩ : ∃ g, Hid (w2.heap.size = g) := ⟨_, rfl⟩
  have hkA : Keep [] w2 wA := by rw [← hwA]; exact (Keep.refl _ _).alloc _
  have hgW : W.heap.size < g := by have := hb2.lt; have := hk3.size; rw [← hg.out]; omega
  have hoA : Out W.heap.size wA g (colsB f.cols) := by
    refine ⟨by omega, B2, k2, d2, ?_, by simpa using own_len ho2, fun Y hY => ?_⟩
    · rw [← hwA, ← hg.out]
      exact Blk.new w2 28 _
    · have e1 : Bys (Y.filter (fun b => decide (b < W.heap.size))) w2 B2 k2 d2 (colsB f.cols) := by
        simpa using (rd_of_own (X := Y.filter (fun b => decide (b < W.heap.size))) ho2 (fun b hb => by
          have h1 := of_decide_eq_true (List.mem_filter.1 hb).2
          have := hk12.size
          omega))
      refine (e1.weaken (fun b hb => ?_)).pure hkA
      rcases hY b hb with h1 | h1
      · exact .inl (List.mem_filter.2 ⟨hb, decide_eq_true h1⟩)
      · exact .inr (by have := hg.out; omega)
  have hgn : W.heap.size ∉ [g] := by simp; omega
  have hkWA : Keep [] W wA := hkw2.trans hkA
  have hbA := (hb2.keep hk3 (by simp)).keep hkA (by simp)
  obtain ⟨a0, a1, a2⟩ := at3 hbA
  have hr := i64_hi f.rows
  have hr' := i64_lo f.rows
  have hv2 : Hid (v = (colsB f.cols ++ nB f.rows ++ putB f.groups.length) ++ (f.groups.drop 0).flatMap (grB f.cols)) := by rw [Hid, hv.out, List.drop_zero]; rfl
  have l1 := colsB_len f.cols
  have l2 := nB_len f.rows
  have N1 := Lib.hid (num_prog f.rows.toInt wA hoA ⟨by omega, by omega⟩ (by omega))
  clear P ho2 hv
  have hgs : w2.heap.size = g := hg.out
  go_wp2_with fail
  refine N1.out.mono ?_
  rintro e w3 ⟨rfl, hk4, ho3⟩
  have hb3 := hbA.keep hk4 hgn
  obtain ⟨a0, a1, a2⟩ := at3 hb3
  have N2 := num_prog (f.groups.length : Int) w3 ho3 ⟨by omega, by omega⟩ (by rw [List.length_append]; unfold nB at l2; omega)
  rw [show uN (f.groups.length : Int) = f.groups.length from by unfold uN; omega] at N2
  replace N2 := Lib.hid N2
  clear N1
  go_wp2_with fail
  refine N2.out.mono ?_
  rintro e w4 ⟨rfl, hk5, ho4⟩
  have hb4 := hb3.keep hk5 hgn
  have hkW4 : Keep [] W w4 := (hkWA.after hk4 (by simp; omega)).after hk5 (by simp; omega)
  obtain ⟨a0, a1, a2⟩ := at3 hb4
  clear N2 hgs hwA
  go_wp2
  go_loopw [31] (fun i wr => ∃ (k : Nat) (q : List UInt8), k ≤ f.groups.length ∧ i = .int .i64 k ∧ Out W.heap.size wr g q ∧ Hid (v = q ++ (f.groups.drop k).flatMap (grB f.cols)) ∧ Keep [g] w4 wr) (fun i _ => f.groups.length - (intOf i).toNat)
  case atStart => exact ⟨0, _, Nat.zero_le _, rfl, ho4, hv2, Keep.refl _ _⟩
  case round =>
    obtain ⟨k, q, hk, rfl, hO, HV, hkr⟩ := hrel
    have hkWr : Keep [] W wr := hkW4.after hkr (by simp; omega)
    have hbr := hb4.keep hkr hgn
    obtain ⟨x0, x1, x2⟩ := at3 hbr
    have hWlt := hbr.lt
    by_cases hlt : k < f.groups.length
    · obtain ⟨b, off, A3, c3, e1, g0, g1, hch, hc3, hc3'⟩ := hgr.at_ hlt
      subst e1
      replace g0 := hkWr.cell g0
      replace g1 := hkWr.cell g1
      have hr5 := Lib.hid (hmem.out _ (List.getElem_mem hlt))
      rw [List.drop_eq_getElem_cons hlt, List.flatMap_cons] at HV
      generalize f.groups[k] = gr at *
      obtain ⟨R2, hR2⟩ : ∃ R2, Hid (R2 = (f.groups.drop (k + 1)).flatMap (grB f.cols)) := ⟨_, rfl⟩
      have HW : Hid (v = (q ++ nB gr.rows) ++ ((f.cols.zip gr.chunks).drop 0).flatMap chB ++ R2) := by rw [Hid, HV.out, hR2.out, List.drop_zero]; unfold grB; simp only [List.append_assoc]
      unfold maxLen at hc3'
      have lq : q.length ≤ 600000000000 := by have := congrArg List.length HV.out; rw [List.length_append] at this; omega
      have i0' : (0 : Int) ≤ (k : Int) := by omega
      have i1' : (k : Int) < (f.groups.length : Int) := by omega
      obtain ⟨WA, hWA⟩ : ∃ WA, wr.alloc (.cells #[.int .i64 gr.rows.toInt, .slice A3 gr.chunks.length c3] 44) = WA := ⟨_, rfl⟩
      have hkrA : Keep [] wr WA := by rw [← hWA]; exact (Keep.refl _ _).alloc _
      have hba : Blk WA wr.heap.size 44 [.int .i64 gr.rows.toInt, .slice A3 gr.chunks.length c3] := by rw [← hWA]; exact Blk.new wr 44 _
      have hgb : wr.heap.size ∉ [g] := by have := hO.lt; simp; omega
      have hr := i64_hi gr.rows
      have hr' := i64_lo gr.rows
      have N3 := Lib.hid (num_prog gr.rows.toInt WA (hO.pure hkrA) ⟨by omega, by omega⟩ (by omega))
      obtain ⟨z0, z1⟩ := at2 hba
      obtain ⟨x3, x4, x5⟩ := at3 (hbr.keep hkrA (by simp))
      clear HV
      go_wp2_with fail
      refine N3.out.mono ?_
      rintro e w6 ⟨rfl, hk6, ho6⟩
      have hba6 := hba.keep hk6 hgb
      have hbr6 := (hbr.keep hkrA (by simp)).keep hk6 hgn
      have hkr6 : Keep [g] w4 w6 := hkr.trans (hkrA.nil.trans hk6)
      have hkW6 : Keep [] W w6 := (hkWr.trans hkrA).after hk6 (by simp; omega)
      clear hWA N3 g0 g1 x0 x1 x2 x3 x4 x5 z0 z1
      obtain ⟨z0, z1⟩ := at2 hba6
      obtain ⟨x0, x1, x2⟩ := at3 hbr6
      obtain ⟨gb, hgb'⟩ : ∃ gb, wr.heap.size = gb := ⟨_, rfl⟩
      rw [hgb'] at hba6 hgb z0 z1
      go_wp2
      clear hgb'
      go_loopw [42] (fun i w => ∃ (j : Nat) (q : List UInt8), j ≤ gr.chunks.length ∧ i = .int .i64 j ∧ Out W.heap.size w g q ∧ Hid (v = q ++ ((f.cols.zip gr.chunks).drop j).flatMap chB ++ R2) ∧ Keep [g] w6 w) (fun i _ => gr.chunks.length - (intOf i).toNat)
      case atStart => exact ⟨0, _, Nat.zero_le _, rfl, ho6, HW, Keep.refl _ _⟩
      case round =>
        obtain ⟨j, q, hj, rfl, hO, HV, hkj⟩ := hrel
        have hbj := hba6.keep hkj hgb
        have hbfj := hbr6.keep hkj hgn
        have hkWj : Keep [] W wr := hkW6.after hkj (by simp; omega)
        obtain ⟨x0, x1, x2⟩ := at3 hbfj
        obtain ⟨z0, z1⟩ := at2 hbj
        by_cases hjt : j < gr.chunks.length
        · have hjc : j < f.cols.length := by have := hr5.out; omega
          obtain ⟨b', off', A4, c4, e4, d0, hpg, hc4, hc4'⟩ := hch.at_ hjt
          subst e4
          obtain ⟨cb, coff, ce, _, _, y0, y1, y2⟩ := Cols.at3 hcols hjc
          subst ce
          replace d0 := hkWj.cell d0
          have hcx : ∀ w, Keep [] W w → w.cell? ⟨cb, coff + j * 3, none⟩ = some (.string f.cols[j].name) ∧ w.cell? ⟨cb, coff + j * 3 + 1, none⟩ = some (.int .i64 f.cols[j].typ.toInt) ∧ w.cell? ⟨cb, coff + j * 3 + 2, none⟩ = some (.bool f.cols[j].null) := fun w hw => ⟨hw.cell y0, hw.cell y1, hw.cell y2⟩
          replace hcx := Lib.hid hcx
          clear y0 y1 y2
          rw [List.drop_eq_getElem_cons (by simp; omega), List.flatMap_cons] at HV
          simp only [List.getElem_zip] at HV
          generalize f.cols[j] = x at *
          generalize gr.chunks[j] = l at *
          obtain ⟨R3, hR3⟩ : ∃ R3, Hid (R3 = ((f.cols.zip gr.chunks).drop (j + 1)).flatMap chB ++ R2) := ⟨_, rfl⟩
          have HW : Hid (v = (q ++ putB l.length) ++ (l.drop 0).flatMap (pgB x) ++ R3) := by rw [Hid, HV.out, hR3.out, List.drop_zero]; unfold chB; simp only [List.append_assoc]
          unfold maxLen at hc4'
          have lq : q.length ≤ 600000000000 := by have := congrArg List.length HV.out; simp only [List.length_append] at this; omega
          have j0' : (0 : Int) ≤ (j : Int) := by omega
          have j1' : (j : Int) < (gr.chunks.length : Int) := by omega
          have j2' : (j : Int) < (f.cols.length : Int) := by omega
          have N4 := num_prog (l.length : Int) wr hO ⟨by omega, by omega⟩ (by omega)
          rw [show uN (l.length : Int) = l.length from by unfold uN; omega] at N4
          replace N4 := Lib.hid N4
          clear HV
          go_wp2_with fail
          refine N4.out.mono ?_
          rintro e w8 ⟨rfl, hk8, ho8⟩
          have hbj8 := hbj.keep hk8 hgb
          have hbf8 := hbfj.keep hk8 hgn
          have hkW8 : Keep [] W w8 := hkWj.after hk8 (by simp; omega)
          have hk68 := hkj.trans hk8
          clear N4 x0 x1 x2 z0 z1
          obtain ⟨x0, x1, x2⟩ := at3 hbf8
          go_wp2
          go_loopw [53] (fun i w => ∃ (m : Nat) (q : List UInt8), m ≤ l.length ∧ i = .int .i64 m ∧ Out W.heap.size w g q ∧ Hid (v = q ++ (l.drop m).flatMap (pgB x) ++ R3) ∧ Keep [g] w8 w) (fun i _ => l.length - (intOf i).toNat)
          case atStart => exact ⟨0, _, Nat.zero_le _, rfl, ho8, HW, Keep.refl _ _⟩
          case round =>
            obtain ⟨m, q, hm, rfl, hO, HV, hkm⟩ := hrel
            have hkWm : Keep [] W wr := hkW8.after hkm (by simp; omega)
            have hbfm := hbf8.keep hkm hgn
            by_cases hmt : m < l.length
            · obtain ⟨pb, poff, e5, _, _, ⟨z0, z1⟩, ⟨z2, z3⟩, ⟨z4, z5, z6, z7, z8⟩, ⟨z9, z10, z11, z12, z13⟩⟩ := (hpg.pure hkWm).at14 hmt
              subst e5
              rw [List.drop_eq_getElem_cons hmt, List.flatMap_cons] at HV
              generalize l[m] = p at *
              have HX : Hid (v = (q ++ nB p.size ++ nB p.rows ++ putS x.typ.toInt p.stat) ++ (l.drop (m + 1)).flatMap (pgB x) ++ R3) := by rw [Hid, HV.out]; unfold pgB; simp only [List.append_assoc]
              have lq : (q ++ nB p.size ++ nB p.rows).length ≤ 600000000000 := by have := congrArg List.length HX.out; simp only [List.length_append] at this ⊢; omega
              have lq0 : q.length ≤ 600000000000 := by simp only [List.length_append] at lq; omega
              have lq1 : (q ++ nB p.size).length ≤ 600000000000 := by simp only [List.length_append] at lq ⊢; omega
              have m0' : (0 : Int) ≤ (m : Int) := by omega
              have m1' : (m : Int) < (l.length : Int) := by omega
              obtain ⟨WP, hWP⟩ : ∃ WP, wr.alloc (.cells #[.int .i64 p.size.toInt, .int .i64 p.rows.toInt, .int .i64 p.stat.nulls.toInt, .bool p.stat.has, .bool p.stat.min.null, .int .i64 p.stat.min.int.toInt, .string p.stat.min.text, .int .i64 p.stat.min.x.toInt, .int .i64 p.stat.min.y.toInt, .bool p.stat.max.null, .int .i64 p.stat.max.int.toInt, .string p.stat.max.text, .int .i64 p.stat.max.x.toInt, .int .i64 p.stat.max.y.toInt] 54) = WP := ⟨_, rfl⟩
              have hkmP : Keep [] wr WP := by rw [← hWP]; exact (Keep.refl _ _).alloc _
              have hpP : Blk WP wr.heap.size 54 p.cs := by rw [← hWP]; exact Blk.new wr 54 _
              have hpn : wr.heap.size ∉ [g] := by have := hO.lt; simp; omega
              obtain ⟨pp, hpp⟩ : ∃ pp, wr.heap.size = pp := ⟨_, rfl⟩
              rw [hpp] at hpP hpn
              have hb9 := hbfm.keep hkmP (by simp)
              have s1 := i64_hi p.size
              have s1' := i64_lo p.size
              have s2 := i64_hi p.rows
              have s2' := i64_lo p.rows
              have N5 := Lib.hid (num_prog p.size.toInt WP (hO.pure hkmP) ⟨by omega, by omega⟩ (by omega))
              obtain ⟨⟨u0, u1⟩, _⟩ := pgAt hpP
              clear HV
              go_wp2_with fail
              refine N5.out.mono ?_
              rintro e w9 ⟨rfl, hk9, ho9⟩
              have hp9 := hpP.keep hk9 hpn
              have hb9' := hb9.keep hk9 hgn
              obtain ⟨⟨v0, v1⟩, _⟩ := pgAt hp9
              have N6 := Lib.hid (num_prog p.rows.toInt w9 ho9 ⟨by omega, by omega⟩ (by unfold nB at lq1; omega))
              clear hWP N5 z0 z1 z2 z3 z4 z5 z6 z7 z8 z9 z10 z11 z12 z13 u0 u1
              go_wp2_with fail
              refine N6.out.mono ?_
              rintro e w10 ⟨rfl, hk10, ho10⟩
              have hp10 := hp9.keep hk10 hpn
              have hb10 := hb9'.keep hk10 hgn
              have hkm10 : Keep [g] w8 w10 := hkm.trans (hkmP.nil.trans (hk9.trans hk10))
              have hkW10 : Keep [] W w10 := hkW8.after hkm10 (by simp; omega)
              obtain ⟨h0, B6, k6, d6, hbo, hk6, hr6⟩ := ho10
              have hr6' := hr6 [] (by simp)
              have lk6 : k6 ≤ 600000000000 := by unfold nB at lq; omega
              replace hk6 := Lib.hid hk6
              clear N6 v0 v1 hpp
              go_wp2_with fail
              refine wp_region_ords 10 [] (fun _ _ => True) (List.replicate 10 false) (Slot.val ?_ :: Slot.val ?_ :: Slot.val ?_ :: Slot.val ?_ :: Slot.val ?_ :: Slot.val ?_ :: Slot.val ?_ :: Slot.val ?_ :: Slot.val ?_ :: Slot.spec (OwnU8 w10.heap.size (q ++ putB (uN p.size.toInt) ++ putB (uN p.rows.toInt) ++ putS x.typ.toInt p.stat)) :: []) (by kernel_rfl) rfl rfl (by kernel_rfl) ?_ (fun _ _ _ _ _ => trivial) trivial ?_
              rotate_left 9
              · intro t ht
                simp only [List.mem_cons, List.not_mem_nil, or_false] at ht
                rcases ht with rfl | rfl | rfl | rfl | rfl | rfl | rfl | rfl | rfl | rfl
                all_goals first | exact trivial | exact SlTo.lasts (by simp) | exact PtrTo.lasts (by simp) | exact RdIs.lasts | exact OwnU8.lasts
              simp only [List.take_succ_cons, List.take_zero, List.drop_succ_cons, List.drop_zero]
              repeat ((first | (refine obls_cons (obl_skip (fun vals => by rfl) ?_) ?_; (exact rfl)) | (refine obls_cons (obl_val (fun vals => by rfl) (fun vals w hw hd => ?_)) ?_; (obtain ⟨x0, x1, x2⟩ := at3 (hb10.keep hw (by simp)); obtain ⟨y0, y1, y2⟩ := hcx.out w (hkW10.trans hw); obtain ⟨⟨z0, z1⟩, ⟨z2, z3⟩, ⟨z4, z5, z6, z7, z8⟩, ⟨z9, z10, z11, z12, z13⟩⟩ := pgAt (hp10.keep hw (by simp)); have o0 := (hbo.keep hw (by simp)).cell 0; simp only [List.getElem?_cons_zero] at o0; go_simp; exact rfl))); simp only [Slot.put, Slot.chain, Bool.false_eq_true, if_false, if_true, Nat.add_zero, Nat.zero_add, Nat.reduceAdd, Act.put, List.setIfInBounds_toArray, List.set_cons_succ, List.set_cons_zero])
              refine obls_cons (obl_callT (f := ?_) (args := ?_) (fun vals => by rfl) (fun vals w hw hd => ?_) (fun vals w hw hd => ?_)) ?_
              rotate_left 2
              · go_simp; exact rfl
              · exact OwnU8.of (statPut_prog x.typ.toInt p.stat w (hr6'.pure hw) (by omega)) hw.size _
              simp only [Slot.put, Slot.chain, Bool.false_eq_true, if_false, if_true, Nat.add_zero, Nat.zero_add, Nat.reduceAdd, Act.put, List.setIfInBounds_toArray, List.set_cons_succ, List.set_cons_zero]
              refine obls_nil (fun vals w11 hw _ hall => ?_)
              obtain ⟨B7, k7, d7, e7, hm7, ho7⟩ := hall 9 _ rfl
              simp only [e7]
              have f0 := (hbo.keep hw (by simp)).frozen 0
              obtain ⟨o1, o2⟩ := Out.set h0 hbo hw ho7 rfl
              have c0 := (hbo.keep hw (by simp)).cell 0
              simp only [List.getElem?_cons_zero] at c0
              clear hall e7 hm7
              go_wp2
              go_roundw
              case rel => exact ⟨m + 1, _, by omega, by go_num, o1, HX, hkm10.trans o2⟩
              case measure => simp [intOf]; omega
            · obtain rfl : m = l.length := by omega
              have HX : Hid (v = q ++ ((f.cols.zip gr.chunks).drop (j + 1)).flatMap chB ++ R2) := by
                rw [Hid, HV.out, List.drop_length, hR3.out]
                simp only [List.flatMap_nil, List.append_nil, List.append_assoc]
              clear HV
              go_wp2
              go_roundw
              case rel => exact ⟨j + 1, q, by omega, by go_num, hO, HX, hk68.trans hkm⟩
              case measure => simp [intOf]; omega
        · obtain rfl : j = gr.chunks.length := by omega
          have HX : Hid (v = q ++ (f.groups.drop (k + 1)).flatMap (grB f.cols)) := by
            rw [Hid, HV.out, List.drop_of_length_le (by have := hr5.out; simp; omega), hR2.out]
            simp
          clear HV
          go_wp2
          go_roundw
          case rel => exact ⟨k + 1, q, by omega, by go_num, hO, HX, hkr6.trans hkj⟩
          case measure => simp [intOf]; omega
    · obtain rfl : k = f.groups.length := by omega
      have HX : Hid (v = q) := by rw [Hid, HV.out, List.drop_length]; simp
      obtain ⟨_, B5, k5, d5, hb5, rfl, hr5⟩ := hO
      have c5 := hb5.cell 0
      simp only [List.getElem?_cons_zero] at c5
      clear HV
      go_wp2
      go_ret2
      refine ⟨_, _, _, rfl, hkWr, fun Y hY => ?_⟩
      rw [HX.out]
      exact hr5 Y (fun b hb => .inl (hY b hb))
end Go.Proofs.Ytcpimhefclfbaaa

namespace Go.Proofs.Ytcpimhefclfbaaa
open Go Go.RowKit
set_option maxRecDepth 10000
set_option linter.unusedVariables false
set_option linter.unusedSimpArgs false

/-- A number is laid behind bytes of the call's own. -/
theorem put_own {base : Nat} {B : Option Addr} {k d : Nat} {q : List UInt8} (x : Int) (w : World) (h : w.ownsRow base 5 1 (.slice B k d) k (q.map vU8)) (hb : base ≤ w.heap.size) (hq : q.length ≤ 1000000000000) :
    Calls Try.prog 27 #[.slice B k d, .int .u64 (IntKind.u64.wrap x)] w fun e W' => ∃ B' k' d', e = .returned (.slice B' k' d') ∧ Keep [] w W' ∧ k' = (q ++ putB (uN x)).length ∧ W'.ownsRow base 5 1 (.slice B' k' d') k' ((q ++ putB (uN x)).map vU8) := by
  have hr : Bys [] w B k d q := rd_of_own h (by simp)
  have hk := hr.len1
  rw [wrap_uN]
  refine (put_ref (uN x) w hr (uN_lt _) (by omega)).mono ?_
  rintro e w2 ⟨B', k', d', rfl, hk2, ho⟩
  exact ⟨B', k', d', rfl, hk2, own_len ho, own_lower ho hb⟩

set_option maxHeartbeats 8000000 in
theorem encode_ref19 {X : List Nat} {F : Value} {f : Ftr} (W : World) (h : FtrR X W F f) :
    Calls Try.prog 11 #[F] W fun e W' => ∃ B k d, e = .returned (.tuple #[.slice B k d, .bool (rightF f)]) ∧ Keep [] W W' ∧ ∀ Y : List Nat, (∀ b ∈ Y, b < W.heap.size) → Bys Y W' B k d (if rightF f = true then ftrB f else []) := by
  have hF := h
  obtain ⟨A, c, G, rfl, hcols, hgr, ht⟩ := h
  obtain ⟨A2, c2, rfl, hg1, hg2⟩ := hgr.form
  have hcc := hcols.cap
  have hcl := hcols.le
  unfold maxLen at hg2
  obtain ⟨W1, hW1⟩ : ∃ W1, W.alloc (.cells #[.slice A f.cols.length c, .int .i64 f.rows.toInt, .slice A2 f.groups.length c2] 25) = W1 := ⟨_, rfl⟩
  have hk1 : Keep [] W W1 := by rw [← hW1]; exact (Keep.refl _ _).alloc _
  have hb1 : Blk W1 W.heap.size 25 [.slice A f.cols.length c, .int .i64 f.rows.toInt, .slice A2 f.groups.length c2] := by rw [← hW1]; exact Blk.new W 25 _
  obtain ⟨a0, a1, a2⟩ := at3 hb1
  have C := right_ref W1 (hF.pure hk1)
  clear hF
  cases hR : rightF f with
  | false =>
    rw [hR] at C
    replace C := Lib.hid C
    clear hR
    go_enter Try.func11, Try.ntmps11
    go_wp2_with fail
    refine C.out.mono ?_
    rintro e w1 ⟨rfl, hk2⟩
    go_wp2
    go_ret2
    exact ⟨_, _, _, rfl, hk1.trans hk2, fun Y _ => Rd.nil_ _ _ _⟩
  | true =>
  have hlen := ftrB_len hR
  obtain ⟨r1, r2, r3, r4, r5, r6⟩ := rightF_is hR
  have hcol := colsE_len r1
  have hmem := Lib.hid (fun g hg => (r4 g hg).2.1)
  have hglen := sumZ_len (f := grR) f.groups (fun g hg => (r4 g hg).1)
  rw [hR] at C
  rw [if_pos rfl]
  replace C := Lib.hid C
  obtain ⟨v, hv⟩ : ∃ v, Hid (v = ftrB f) := ⟨_, rfl⟩
  rw [← hv.out] at hlen ⊢
  clear hR r4 r6
  go_enter Try.func11, Try.ntmps11
  go_wp2_with fail
  refine C.out.mono ?_
  rintro e w1 ⟨rfl, hk2⟩
  have hb2 := hb1.keep hk2 (by simp)
  have hk12 := hk1.trans hk2
  obtain ⟨a0, a1, a2⟩ := at3 hb2
  have P := Lib.hid (schemaPut_ref (X := []) (b := []) w1 (Rd.nil_ [] w1 1) (by omega) (hcols.pure hk12))
  clear C hW1
  go_wp2_with fail
  refine P.out.mono ?_
  rintro e w2 ⟨B2, k2, d2, rfl, hk3, ho2⟩
  have hkw2 := hk12.trans hk3
  have hbA := hb2.keep hk3 (by simp)
  obtain ⟨a0, a1, a2⟩ := at3 hbA
  replace ho2 := own_lower ho2 hk12.size
  rw [List.nil_append] at ho2
  have l1 := colsB_len f.cols
  have l2 := nB_len f.rows
  have hv2 : Hid (v = (colsB f.cols ++ putB (uN f.rows.toInt) ++ putB (uN (f.groups.length : Int))) ++ (f.groups.drop 0).flatMap (grB f.cols)) := by
    rw [Hid, hv.out, List.drop_zero, show uN (f.groups.length : Int) = f.groups.length from by unfold uN; omega]
    rfl
  have N1 := put_own f.rows.toInt w2 ho2 hkw2.size (by omega)
  rw [show IntKind.u64.wrap f.rows.toInt = f.rows.toInt from IntWalk.u64_in _ (by omega)] at N1
  replace N1 := Lib.hid N1
  clear P ho2 hv
  go_wp2_with fail
  refine N1.out.mono ?_
  rintro e w3 ⟨B3, k3, d3, rfl, hk4, hn3, ho3⟩
  have hb3 := hbA.keep hk4 (by simp)
  have hkw3 := hkw2.trans hk4
  obtain ⟨a0, a1, a2⟩ := at3 hb3
  replace hn3 := Lib.hid hn3
  have N2 := put_own (f.groups.length : Int) w3 ho3 hkw3.size (by rw [List.length_append]; unfold nB at l2; omega)
  rw [show IntKind.u64.wrap (f.groups.length : Int) = f.groups.length from IntWalk.u64_in _ (by omega)] at N2
  replace N2 := Lib.hid N2
  clear N1 ho3
  go_wp2_with fail
  refine N2.out.mono ?_
  rintro e w4 ⟨B4, k4, d4, rfl, hk5, hn4, ho4⟩
  have hb4 := hb3.keep hk5 (by simp)
  have hkW4 := hkw3.trans hk5
  obtain ⟨a0, a1, a2⟩ := at3 hb4
  replace hn4 := Lib.hid hn4
  clear N2
  go_wp2
  go_loopw [5, 6] (fun s i wr => ∃ (k : Nat) (q : List UInt8), k ≤ f.groups.length ∧ i = .int .i64 k ∧ wr.ownsRow W.heap.size 5 1 s q.length (q.map vU8) ∧ Hid (v = q ++ (f.groups.drop k).flatMap (grB f.cols)) ∧ Keep [] w4 wr) (fun _ i _ => f.groups.length - (intOf i).toNat)
  case atStart => exact ⟨0, _, Nat.zero_le _, rfl, by rw [← hn4.out]; exact ho4, hv2, Keep.refl _ _⟩
  case round =>
    obtain ⟨k, q, hk, rfl, hO, HV, hkr⟩ := hrel
    have hkWr : Keep [] W wr := hkW4.trans hkr
    obtain ⟨B5, d5, rfl⟩ := own_form hO
    have hbr := hb4.keep hkr (by simp)
    obtain ⟨x0, x1, x2⟩ := at3 hbr
    by_cases hlt : k < f.groups.length
    · obtain ⟨b, off, A3, c3, e1, g0, g1, hch, hc3, hc3'⟩ := hgr.at_ hlt
      subst e1
      have hr5 := Lib.hid (hmem.out _ (List.getElem_mem hlt))
      rw [List.drop_eq_getElem_cons hlt, List.flatMap_cons] at HV
      generalize f.groups[k] = gr at *
      obtain ⟨R2, hR2⟩ : ∃ R2, Hid (R2 = (f.groups.drop (k + 1)).flatMap (grB f.cols)) := ⟨_, rfl⟩
      have HW : Hid (v = (q ++ putB (uN gr.rows.toInt)) ++ ((f.cols.zip gr.chunks).drop 0).flatMap chB ++ R2) := by rw [Hid, HV.out, hR2.out, List.drop_zero]; unfold grB nB; simp only [List.append_assoc]
      unfold maxLen at hc3'
      have lq : q.length ≤ 600000000000 := by have := congrArg List.length HV.out; rw [List.length_append] at this; omega
      have i0' : (0 : Int) ≤ (k : Int) := by omega
      have i1' : (k : Int) < (f.groups.length : Int) := by omega
      have G0 := Lib.hid (fun w (hw : Keep [] W w) => hw.cell g0)
      have G1 := Lib.hid (fun w (hw : Keep [] W w) => hw.cell g1)
      clear g0 g1
      have g0 := G0.out _ hkWr
      have g1 := G1.out _ hkWr
      have N3 := Lib.hid (put_own gr.rows.toInt wr hO hkWr.size (by omega))
      clear HV hO
      go_wp2_with fail
      refine N3.out.mono ?_
      rintro e w6 ⟨B6, k6, d6, rfl, hk6, hn6, ho6⟩
      have hkW6 := hkWr.trans hk6
      have hkr6 := hkr.trans hk6
      replace hn6 := Lib.hid hn6
      clear N3 g0 g1 x0 x1 x2
      go_wp2
      go_loopw [5, 7] (fun s i w => ∃ (j : Nat) (q : List UInt8), j ≤ f.cols.length ∧ i = .int .i64 j ∧ w.ownsRow W.heap.size 5 1 s q.length (q.map vU8) ∧ Hid (v = q ++ ((f.cols.zip gr.chunks).drop j).flatMap chB ++ R2) ∧ Keep [] w6 w) (fun _ i _ => f.cols.length - (intOf i).toNat)
      case atStart => exact ⟨0, _, Nat.zero_le _, rfl, by rw [← hn6.out]; exact ho6, HW, Keep.refl _ _⟩
      case round =>
        obtain ⟨j, q, hj, rfl, hO, HV, hkj⟩ := hrel
        obtain ⟨B7, d7, rfl⟩ := own_form hO
        have hkWj := hkW6.trans hkj
        have hkrj := hkr6.trans hkj
        have hbj := hb4.keep hkrj (by simp)
        obtain ⟨x0, x1, x2⟩ := at3 hbj
        by_cases hjc : j < f.cols.length
        · have hjt : j < gr.chunks.length := by have := hr5.out; omega
          obtain ⟨b', off', A4, c4, e4, d0, hpg, hc4, hc4'⟩ := hch.at_ hjt
          subst e4
          obtain ⟨cb, coff, ce, _, _, y0, y1, y2⟩ := Cols.at3 hcols hjc
          subst ce
          have Y0 := Lib.hid (fun w (hw : Keep [] W w) => hw.cell y0)
          have Y1 := Lib.hid (fun w (hw : Keep [] W w) => hw.cell y1)
          have Y2 := Lib.hid (fun w (hw : Keep [] W w) => hw.cell y2)
          replace d0 := hkWj.cell d0
          have g0 := G0.out _ hkWj
          have g1 := G1.out _ hkWj
          clear y0 y1 y2
          rw [List.drop_eq_getElem_cons (by simp; omega), List.flatMap_cons] at HV
          simp only [List.getElem_zip] at HV
          generalize f.cols[j] = x at *
          generalize gr.chunks[j] = l at *
          obtain ⟨R3, hR3⟩ : ∃ R3, Hid (R3 = ((f.cols.zip gr.chunks).drop (j + 1)).flatMap chB ++ R2) := ⟨_, rfl⟩
          unfold maxLen at hc4'
          have HW : Hid (v = (q ++ putB (uN (l.length : Int))) ++ (l.drop 0).flatMap (pgB x) ++ R3) := by
            rw [Hid, HV.out, hR3.out, List.drop_zero, show uN (l.length : Int) = l.length from by unfold uN; omega]
            unfold chB
            simp only [List.append_assoc]
          have lq : q.length ≤ 600000000000 := by have := congrArg List.length HV.out; simp only [List.length_append] at this; omega
          have j0' : (0 : Int) ≤ (j : Int) := by omega
          have j1' : (j : Int) < (gr.chunks.length : Int) := by omega
          have j2' : (j : Int) < (f.cols.length : Int) := by omega
          have N4 := put_own (l.length : Int) wr hO hkWj.size (by omega)
          rw [show IntKind.u64.wrap (l.length : Int) = l.length from IntWalk.u64_in _ (by omega)] at N4
          replace N4 := Lib.hid N4
          clear HV hO
          go_wp2_with fail
          refine N4.out.mono ?_
          rintro e w8 ⟨B8, k8, d8, rfl, hk8, hn8, ho8⟩
          have hkW8 := hkWj.trans hk8
          have hk68 := hkj.trans hk8
          have hb8 := hbj.keep hk8 (by simp)
          replace hn8 := Lib.hid hn8
          clear N4 x0 x1 x2 g0 g1 d0
          go_wp2
          go_loopw [5, 9] (fun s i w => ∃ (m : Nat) (q : List UInt8), m ≤ l.length ∧ i = .int .i64 m ∧ w.ownsRow W.heap.size 5 1 s q.length (q.map vU8) ∧ Hid (v = q ++ (l.drop m).flatMap (pgB x) ++ R3) ∧ Keep [] w8 w) (fun _ i _ => l.length - (intOf i).toNat)
          case atStart => exact ⟨0, _, Nat.zero_le _, rfl, by rw [← hn8.out]; exact ho8, HW, Keep.refl _ _⟩
          case round =>
            obtain ⟨m, q, hm, rfl, hO, HV, hkm⟩ := hrel
            obtain ⟨B9, d9, rfl⟩ := own_form hO
            have hkWm := hkW8.trans hkm
            have hbm := hb8.keep hkm (by simp)
            by_cases hmt : m < l.length
            · have AT := Lib.hid (fun w (hw : Keep [] W w) => (hpg.pure hw).at14 hmt)
              obtain ⟨pb, poff, e5, _, _, ⟨z0, z1⟩, _⟩ := hpg.at14 hmt
              subst e5
              rw [List.drop_eq_getElem_cons hmt, List.flatMap_cons] at HV
              generalize l[m] = p at *
              have Z0 := Lib.hid (fun w (hw : Keep [] W w) => hw.cell z0)
              have Z1 := Lib.hid (fun w (hw : Keep [] W w) => hw.cell z1)
              clear z0 z1
              have z0 := Z0.out _ hkWm
              have HX : Hid (v = (q ++ putB (uN p.size.toInt) ++ putB (uN p.rows.toInt) ++ putS x.typ.toInt p.stat) ++ (l.drop (m + 1)).flatMap (pgB x) ++ R3) := by rw [Hid, HV.out]; unfold pgB nB; simp only [List.append_assoc]
              have lq : (q ++ putB (uN p.size.toInt) ++ putB (uN p.rows.toInt)).length ≤ 600000000000 := by have := congrArg List.length HX.out; simp only [List.length_append] at this ⊢; omega
              have lq0 : q.length ≤ 600000000000 := by simp only [List.length_append] at lq; omega
              have lq1 : (q ++ putB (uN p.size.toInt)).length ≤ 600000000000 := by simp only [List.length_append] at lq ⊢; omega
              have m0' : (0 : Int) ≤ (m : Int) := by omega
              have m1' : (m : Int) < (l.length : Int) := by omega
              have N5 := Lib.hid (put_own p.size.toInt wr hO hkWm.size (by omega))
              clear HV hO
              go_wp2_with fail
              refine N5.out.mono ?_
              rintro e w9 ⟨BA, kA, dA, rfl, hk9, hn9, ho9⟩
              have hkW9 := hkWm.trans hk9
              have z1 := Z1.out _ hkW9
              replace hn9 := Lib.hid hn9
              have N6 := Lib.hid (put_own p.rows.toInt w9 ho9 hkW9.size (by omega))
              clear N5 z0 ho9
              go_wp2_with fail
              refine N6.out.mono ?_
              rintro e w10 ⟨BB, kB, dB, rfl, hk10, hn10, ho10⟩
              have hkW10 := hkW9.trans hk10
              have hkm10 := hkm.trans (hk9.trans hk10)
              have hb10 := hb8.keep hkm10 (by simp)
              have hr6 : Bys [] w10 BB kB dB (q ++ putB (uN p.size.toInt) ++ putB (uN p.rows.toInt)) := rd_of_own ho10 (by simp)
              have lk : kB ≤ 600000000000 := by omega
              replace hn10 := Lib.hid hn10
              clear N6 z1 ho10
              go_wp2_with fail
              refine wp_region_ords 13 [] (fun _ _ => True) (List.replicate 13 false) (Slot.val ?_ :: Slot.val ?_ :: Slot.val ?_ :: Slot.val ?_ :: Slot.val ?_ :: Slot.val ?_ :: Slot.val ?_ :: Slot.val ?_ :: Slot.val ?_ :: Slot.val ?_ :: Slot.val ?_ :: Slot.val ?_ :: Slot.spec (OwnU8 w10.heap.size (q ++ putB (uN p.size.toInt) ++ putB (uN p.rows.toInt) ++ putS x.typ.toInt p.stat)) :: []) (by kernel_rfl) rfl rfl (by kernel_rfl) ?_ (fun _ _ _ _ _ => trivial) trivial ?_
              rotate_left 12
              · intro t ht
                simp only [List.mem_cons, List.not_mem_nil, or_false] at ht
                rcases ht with rfl | rfl | rfl | rfl | rfl | rfl | rfl | rfl | rfl | rfl | rfl | rfl | rfl
                all_goals first | exact trivial | exact SlTo.lasts (by simp) | exact PtrTo.lasts (by simp) | exact RdIs.lasts | exact OwnU8.lasts
              simp only [List.take_succ_cons, List.take_zero, List.drop_succ_cons, List.drop_zero]
              repeat ((first | (refine obls_cons (obl_skip (fun vals => by rfl) ?_) ?_; (exact rfl)) | (refine obls_cons (obl_val (fun vals => by rfl) (fun vals w hw hd => ?_)) ?_; (obtain ⟨x0, x1, x2⟩ := at3 (hb10.keep hw (by simp)); have y0 := Y0.out w (hkW10.trans hw); have y1 := Y1.out w (hkW10.trans hw); have y2 := Y2.out w (hkW10.trans hw); obtain ⟨_, _, e', _, _, ⟨z0, z1⟩, ⟨z2, z3⟩, ⟨z4, z5, z6, z7, z8⟩, ⟨z9, z10, z11, z12, z13⟩⟩ := AT.out w (hkW10.trans hw); cases e'; go_simp; exact rfl))); simp only [Slot.put, Slot.chain, Bool.false_eq_true, if_false, if_true, Nat.add_zero, Nat.zero_add, Nat.reduceAdd, Act.put, List.setIfInBounds_toArray, List.set_cons_succ, List.set_cons_zero])
              refine obls_cons (obl_callT (f := ?_) (args := ?_) (fun vals => by rfl) (fun vals w hw hd => ?_) (fun vals w hw hd => ?_)) ?_
              rotate_left 2
              · go_simp; exact rfl
              · exact OwnU8.of (statPut_ref x.typ.toInt p.stat w (hr6.pure hw) (by omega)) hw.size _
              simp only [Slot.put, Slot.chain, Bool.false_eq_true, if_false, if_true, Nat.add_zero, Nat.zero_add, Nat.reduceAdd, Act.put, List.setIfInBounds_toArray, List.set_cons_succ, List.set_cons_zero]
              refine obls_nil (fun vals w11 hw _ hall => ?_)
              obtain ⟨B7, k7, d7, e7, hm7, ho7⟩ := hall 12 _ rfl
              simp only [e7]
              replace ho7 := own_lower ho7 hkW10.size
              replace hm7 := Lib.hid hm7
              clear hall e7
              go_wp2
              go_roundw
              case rel => exact ⟨m + 1, _, by omega, by go_num, by rw [← hm7.out]; exact ho7, HX, hkm10.trans hw⟩
              case measure => simp [intOf]; omega
            · obtain rfl : m = l.length := by omega
              have HX : Hid (v = q ++ ((f.cols.zip gr.chunks).drop (j + 1)).flatMap chB ++ R2) := by
                rw [Hid, HV.out, List.drop_length, hR3.out]
                simp only [List.flatMap_nil, List.append_nil, List.append_assoc]
              clear HV
              go_wp2
              go_roundw
              case rel => exact ⟨j + 1, q, by omega, by go_num, hO, HX, hk68.trans hkm⟩
              case measure => simp [intOf]; omega
        · obtain rfl : j = f.cols.length := by omega
          have HX : Hid (v = q ++ (f.groups.drop (k + 1)).flatMap (grB f.cols)) := by
            rw [Hid, HV.out, List.drop_of_length_le (by have := hr5.out; simp; omega), hR2.out]
            simp
          clear HV
          go_wp2
          go_roundw
          case rel => exact ⟨k + 1, q, by omega, by go_num, hO, HX, hkrj⟩
          case measure => simp [intOf]; omega
    · obtain rfl : k = f.groups.length := by omega
      have HX : Hid (v = q) := by rw [Hid, HV.out, List.drop_length]; simp
      clear HV
      go_wp2
      go_ret2
      refine ⟨_, _, _, rfl, hkWr, fun Y hY => ?_⟩
      rw [HX.out]
      exact rd_of_own hO hY
end Go.Proofs.Ytcpimhefclfbaaa
