/-
  The rows of pages: footer.Spans, and the document's.
  Where pages stand: footer.Place, and the document's.
  The rows of pages, as the document has them: hypostyleref19.Spans; two rows of spans are compared.
  Where pages stand, as the document has it: hypostyleref19.Place.
-/
import Derived.Test.YtcpimhefclfbaaaFFC
namespace Go.Proofs.Ytcpimhefclfbaaa
open Go Go.RowKit
set_option maxRecDepth 10000
set_option linter.unusedVariables false
set_option linter.unusedSimpArgs false

def spC (x : Int × Int) : List Value := [.int .i64 x.1, .int .i64 x.2]
theorem spC_len (x : Int × Int) : (spC x).length = 2 := rfl
theorem spC_one (x : Int × Int) : ∀ u ∈ spC x, u.oneCell' = true := by simp [spC, Value.oneCell']
theorem Try.infoSp : (Try.prog.info? 46).map (fun i => (i.zero, i.size, i.bytes)) = some (some (.agg #[.int .i64 0, .int .i64 0]), 2, 16) := by kernel_rfl
abbrev Sps (X : List Nat) (w : World) (A : Option Addr) (n c : Nat) (l : List (Int × Int)) : Prop := Rd X w 2 A n c (l.flatMap spC)
theorem Sps.len {X : List Nat} {w : World} {A : Option Addr} {n c : Nat} {l : List (Int × Int)} (h : Sps X w A n c l) : l.length = n := Rd.lenF spC_len h (by omega)
theorem Sps.at2 {X : List Nat} {w : World} {A : Option Addr} {n c k : Nat} {l : List (Int × Int)} (h : Sps X w A n c l) (hk : k < l.length) :
    ∃ b off, A = some ⟨b, off, none⟩ ∧ b < w.heap.size ∧ b ∉ X ∧ w.cell? ⟨b, off + k * 2, none⟩ = some (.int .i64 l[k].1) ∧ w.cell? ⟨b, off + k * 2 + 1, none⟩ = some (.int .i64 l[k].2) := by
  have hlen : l.length = n := h.len
  obtain ⟨b, off, rfl, hlt, hb, hc⟩ := Rd.at_ h (k := k) (by omega)
  have hg := fun j hj => flat_get spC_len l k j hk hj
  refine ⟨b, off, rfl, hlt, hb, ?_, ?_⟩
  · have := hc 0 (by omega)
    rw [hg 0 (by omega)] at this
    simpa [spC] using this
  · have := hc 1 (by omega)
    rw [hg 1 (by omega)] at this
    simpa [spC, Nat.add_assoc] using this

theorem rowsTo_succ (f : Ftr) {k : Nat} (hk : k < f.groups.length) : rowsTo f (k + 1) = rowsTo f k + f.groups[k].rows.toInt := by
  unfold rowsTo
  rw [List.take_succ_eq_append_getElem hk, sumZ_append]
  simp [sumZ, grR]
theorem rowsTo_le {f : Ftr} (h : rightF f = true) (k : Nat) : 0 ≤ rowsTo f k ∧ rowsTo f k ≤ 65536 := by
  obtain ⟨_, _, h3, h4, h5, _⟩ := rightF_is h
  have e1 := sumZ_pos (f := grR) (f.groups.take k) (fun g hg => by have := (h4 g (List.mem_of_mem_take hg)).1; unfold grR; omega)
  have e2 := sumZ_pos (f := grR) (f.groups.drop k) (fun g hg => by have := (h4 g (List.mem_of_mem_drop hg)).1; unfold grR; omega)
  have e3 := sumZ_append grR (f.groups.take k) (f.groups.drop k)
  rw [List.take_append_drop, h5] at e3
  unfold rowsTo
  omega
/-- What a chunk of a right footer is. -/
theorem chunk_is {f : Ftr} (h : rightF f = true) {g c : Nat} (hg : g < f.groups.length) (hc : c < f.cols.length) : ∃ hc' : c < f.groups[g].chunks.length, (∀ p ∈ f.groups[g].chunks[c], pageOk f.cols[c] p = true) ∧ sumZ pgR f.groups[g].chunks[c] = f.groups[g].rows.toInt ∧ f.groups[g].rows.toInt ≤ 65536 ∧ 1 ≤ f.groups[g].rows.toInt ∧ f.groups[g].chunks.length = f.cols.length := by
  obtain ⟨_, _, h3, h4, h5, _⟩ := rightF_is h
  obtain ⟨g1, g2, g3⟩ := h4 _ (List.getElem_mem hg)
  have hc' : c < f.groups[g].chunks.length := by omega
  have hle := grR_le (fun g hg => (h4 g hg).1) _ (List.getElem_mem hg)
  have hz : c < (f.cols.zip f.groups[g].chunks).length := by simp; omega
  have := g3 (f.cols.zip f.groups[g].chunks)[c] (List.getElem_mem hz)
  rw [List.getElem_zip] at this
  exact ⟨hc', this.1, this.2, by omega, g1, g2⟩
theorem spansF_bad {f : Ftr} {g c : Int} (h : g < 0 ∨ f.groups.length ≤ g ∨ c < 0 ∨ f.cols.length ≤ c ∨ rightF f = false) : spansF f g c = [] := if_pos h
theorem spansF_ok {f : Ftr} {g c : Nat} (h : rightF f = true) (hg : g < f.groups.length) (hc : c < f.cols.length) (hc' : c < f.groups[g].chunks.length) : spansF f (g : Nat) (c : Nat) = spansP (rowsTo f g) f.groups[g].chunks[c] := by
  unfold spansF
  rw [if_neg (by rw [h]; simp; omega)]
  simp [List.getElem?_eq_getElem hg, List.getElem?_eq_getElem hc']
theorem spansP_drop (a : Int) {l : List Pg} {m : Nat} (hm : m < l.length) : spansP a (l.drop m) = (a, a + l[m].rows.toInt) :: spansP (a + l[m].rows.toInt) (l.drop (m + 1)) := by
  rw [List.drop_eq_getElem_cons hm, spansP]
theorem sum_drop {l : List Pg} {m : Nat} (hm : m < l.length) : sumZ pgR (l.drop m) = l[m].rows.toInt + sumZ pgR (l.drop (m + 1)) := by
  rw [List.drop_eq_getElem_cons hm, sumZ]
  rfl

def SpansPost (v : List (Int × Int)) (W : World) (e : Ending) (W' : World) : Prop := ∃ B k d, e = .returned (.slice B k d) ∧ Keep [] W W' ∧ ∀ Y : List Nat, (∀ b ∈ Y, b < W.heap.size) → Sps Y W' B k d v
theorem SpansPost.nil {v : List (Int × Int)} {W W' : World} (hv : v = []) (hk : Keep [] W W') : SpansPost v W (.returned (.slice none 0 0)) W' := by
  subst hv
  exact ⟨_, _, _, rfl, hk, fun Y _ => Rd.nil_ _ _ _⟩

set_option maxHeartbeats 8000000 in
theorem spans_prog {X : List Nat} {F : Value} {f : Ftr} (g c : Int) (W : World) (h : FtrR X W F f) (hgi : -9223372036854775808 ≤ g ∧ g ≤ 9223372036854775807) (hci : -9223372036854775808 ≤ c ∧ c ≤ 9223372036854775807) :
    Calls Try.prog 18 #[F, .int .i64 g, .int .i64 c] W (SpansPost (spansF f g c) W) := by
  have hF := h
  obtain ⟨A, ca, G, rfl, hcols, hgr, ht⟩ := h
  obtain ⟨A2, c2, rfl, hg1, hg2⟩ := hgr.form
  have hcc := hcols.cap
  have hcl := hcols.le
  unfold maxLen at hg2
  obtain ⟨i0, hi, hz0, hz1, hz2⟩ := info_parts Try.infoSp
  obtain ⟨v, hv⟩ : ∃ v, Hid (spansF f g c = v) := ⟨_, rfl⟩
  rw [hv.out]
  obtain ⟨W1, hW1⟩ : ∃ W1, W.alloc (.cells #[.slice A f.cols.length ca, .int .i64 f.rows.toInt, .slice A2 f.groups.length c2] 25) = W1 := ⟨_, rfl⟩
  have hk1 : Keep [] W W1 := by rw [← hW1]; exact (Keep.refl _ _).alloc _
  have hb1 : Blk W1 W.heap.size 25 [.slice A f.cols.length ca, .int .i64 f.rows.toInt, .slice A2 f.groups.length c2] := by rw [← hW1]; exact Blk.new W 25 _
  obtain ⟨a0, a1, a2⟩ := at3 hb1
  have vbad : (g < 0 ∨ f.groups.length ≤ g ∨ c < 0 ∨ f.cols.length ≤ c ∨ rightF f = false) → Hid (v = []) := fun h => by rw [Hid, ← hv.out, spansF_bad h]
  replace vbad := Lib.hid vbad
  by_cases q1 : g < 0
  · have v1 := vbad.out (.inl q1)
    go_enter Try.func18, Try.ntmps18
    go_wp2
    go_ret
    exact SpansPost.nil v1.out hk1
  obtain ⟨gn, rfl⟩ : ∃ n : Nat, g = n := ⟨g.toNat, by omega⟩
  by_cases q2 : f.groups.length ≤ gn
  · have v1 := vbad.out (.inr (.inl (by omega)))
    go_enter Try.func18, Try.ntmps18
    go_wp2
    go_ret
    exact SpansPost.nil v1.out hk1
  by_cases q3 : c < 0
  · have v1 := vbad.out (.inr (.inr (.inl q3)))
    go_enter Try.func18, Try.ntmps18
    go_wp2
    go_ret
    exact SpansPost.nil v1.out hk1
  obtain ⟨cn, rfl⟩ : ∃ n : Nat, c = n := ⟨c.toNat, by omega⟩
  by_cases q4 : f.cols.length ≤ cn
  · have v1 := vbad.out (.inr (.inr (.inr (.inl (by omega)))))
    go_enter Try.func18, Try.ntmps18
    go_wp2
    go_ret
    exact SpansPost.nil v1.out hk1
  have C := right_prog W1 (hF.pure hk1)
  cases hR : rightF f with
  | false =>
    have v1 := vbad.out (.inr (.inr (.inr (.inr hR))))
    rw [hR] at C
    replace C := Lib.hid C
    clear hR
    go_enter Try.func18, Try.ntmps18
    go_wp2_with fail
    refine C.out.mono ?_
    rintro e w1 ⟨rfl, hk2⟩
    go_wp2
    go_ret
    exact SpansPost.nil v1.out (hk1.trans hk2)
  | true =>
  obtain ⟨hct, hp, hsum, hg65, hg0, hlen⟩ := chunk_is hR (g := gn) (c := cn) (by omega) (by omega)
  have hv2 : Hid (v = spansP (rowsTo f gn) f.groups[gn].chunks[cn]) := by rw [Hid, ← hv.out]; exact spansF_ok hR (by omega) (by omega) hct
  have hrt := Lib.hid (rowsTo_le hR)
  have hlenp := sumZ_len (f := pgR) _ (fun p hp' => (pageOk_is (hp p hp')).1)
  replace hp := Lib.hid hp
  rw [hR] at C
  replace C := Lib.hid C
  clear hv vbad hR
  have hgl : gn < f.groups.length := by omega
  obtain ⟨bG, oG, A3, c3, e1, g0, g1, hch, hc3, hc3'⟩ := hgr.at_ hgl
  subst e1
  obtain ⟨bC, oC, A4, c4, e4, d0, hpg, hc4, hc4'⟩ := hch.at_ hct
  subst e4
  have hgat : ∀ (k : Nat) (hk : k < f.groups.length) w, Keep [] W w → ∃ A' c', w.cell? ⟨bG, oG + k * 2, none⟩ = some (.int .i64 f.groups[k].rows.toInt) ∧ w.cell? ⟨bG, oG + k * 2 + 1, none⟩ = some (.slice A' f.groups[k].chunks.length c') := fun k hk w hw => by
    obtain ⟨_, _, A', c', e', h0, h1, _⟩ := hgr.at_ hk
    cases e'
    exact ⟨A', c', hw.cell h0, hw.cell h1⟩
  replace hgat := Lib.hid hgat
  have G1 := Lib.hid (fun w (hw : Keep [] W w) => hw.cell g1)
  have D0 := Lib.hid (fun w (hw : Keep [] W w) => hw.cell d0)
  have hclen := Lib.hid hlen
  unfold maxLen at hc3' hc4'
  clear g0 g1 d0 hlen
  generalize f.groups[gn].chunks[cn] = l at *
  go_enter Try.func18, Try.ntmps18
  go_wp2_with fail
  refine C.out.mono ?_
  rintro e w1 ⟨rfl, hk2⟩
  have hb2 := hb1.keep hk2 (by simp)
  have hk12 := hk1.trans hk2
  obtain ⟨a0, a1, a2⟩ := at3 hb2
  have hsl0 : (0 : Int) ≤ (gn : Int) := by omega
  have hsl1 : (gn : Int) ≤ (c2 : Int) := by omega
  clear C hW1
  go_wp2
  go_loopw [7, 43] (fun at_ i wr => ∃ k : Nat, k ≤ gn ∧ i = .int .i64 k ∧ at_ = .int .i64 (rowsTo f k) ∧ Keep [] w1 wr) (fun _ i _ => gn - (intOf i).toNat)
  case atStart => exact ⟨0, Nat.zero_le _, rfl, by simp [rowsTo, sumZ], Keep.refl _ _⟩
  case round =>
    obtain ⟨k, hk, rfl, rfl, hkr⟩ := hrel
    have hkWr := hk12.trans hkr
    have hbr := hb2.keep hkr (by simp)
    obtain ⟨x0, x1, x2⟩ := at3 hbr
    by_cases hlt : k < gn
    · obtain ⟨A5, c5, g0, g1⟩ := hgat.out k (by omega) wr hkWr
      have hs := Lib.hid (rowsTo_succ f (k := k) (by omega))
      have hr1 := hrt.out k
      have hr2 := hrt.out (k + 1)
      rw [hs.out] at hr2
      generalize rowsTo f k = a at *
      generalize f.groups[k] = gr at *
      have i0' : (0 : Int) ≤ (k : Int) := by omega
      have i1' : (k : Int) < (gn : Int) := by omega
      go_wp2
      go_roundw
      case rel => exact ⟨k + 1, by omega, by go_num, by rw [hs.out], hkr.alloc _⟩
      case measure => simp [intOf]; omega
    · obtain rfl : k = gn := by omega
      have hr1 := hrt.out k
      have g1 := G1.out wr hkWr
      have d0 := D0.out wr hkWr
      generalize rowsTo f k = a at *
      have i0' : (0 : Int) ≤ (k : Int) := by omega
      have i1' : (k : Int) < (f.groups.length : Int) := by omega
      have j0' : (0 : Int) ≤ (cn : Int) := by omega
      have j1' : (cn : Int) < (f.groups[k].chunks.length : Int) := by omega
      go_wp2
      have hps := Lib.hid (fun (a' : Int) (m : Nat) (hm : m < l.length) => spansP_drop a' hm)
      have hsd := Lib.hid (fun (m : Nat) (hm : m < l.length) => sum_drop hm)
      have hl65 : l.length ≤ 65536 := by omega
      go_loopw [7, 10, 62] (fun at_ s i w => ∃ (m : Nat) (a' : Int) (q : List (Int × Int)), m ≤ l.length ∧ i = .int .i64 m ∧ at_ = .int .i64 a' ∧ 0 ≤ a' ∧ Hid (a' + sumZ pgR (l.drop m) ≤ 131072) ∧ q.length = m ∧ w.ownsRow W.heap.size 46 2 s m (q.flatMap spC) ∧ Hid (v = q ++ spansP a' (l.drop m)) ∧ Keep [] W w) (fun _ _ i _ => l.length - (intOf i).toNat)
      case atStart => exact ⟨0, a, [], Nat.zero_le _, rfl, rfl, by omega, by rw [Hid, List.drop_zero, hsum]; omega, rfl, World.ownsRow_nil _ _ _ _, by rw [Hid, hv2.out]; simp, hkWr⟩
      case round =>
        obtain ⟨m, a', q, hm, rfl, rfl, ha0, ha1, hql, hO, HV, hkWm⟩ := hrel
        obtain ⟨B5, d5, rfl⟩ := own_form hO
        by_cases hmt : m < l.length
        · obtain ⟨pb, poff, e5, _, _, ⟨z0, z1⟩, ⟨z2, z3⟩, ⟨z4, z5, z6, z7, z8⟩, ⟨z9, z10, z11, z12, z13⟩⟩ := (hpg.pure hkWm).at14 hmt
          subst e5
          have hpo := pageOk_is (hp.out _ (List.getElem_mem hmt))
          have h1 := hps.out a' m hmt
          have h2 := hsd.out m hmt
          have h3 := ha1.out
          have h4 := sumZ_pos (f := pgR) (l.drop (m + 1)) (fun x hx => by have := pageOk_is (hp.out x (List.mem_of_mem_drop hx)); unfold pgR; omega)
          rw [h2] at h3
          have HX := HV.out
          rw [h1] at HX
          generalize l[m] = p at *
          obtain ⟨hp1, hp2, _⟩ := hpo
          have hnew : Hid (v = (q ++ [(a', a' + p.rows.toInt)]) ++ spansP (a' + p.rows.toInt) (l.drop (m + 1))) := by rw [Hid, HX]; simp
          have hsum2 : Hid (a' + p.rows.toInt + sumZ pgR (l.drop (m + 1)) ≤ 131072) := by rw [Hid]; omega
          have hbnd : a' + p.rows.toInt ≤ 131072 := by omega
          clear HX h1 h2 h3 h4 HV ha1
          have m0' : (0 : Int) ≤ (m : Int) := by omega
          have m1' : (m : Int) < (l.length : Int) := by omega
          have hkp : Keep [] wr (wr.alloc (.cells #[.int .i64 p.size.toInt, .int .i64 p.rows.toInt, .int .i64 p.stat.nulls.toInt, .bool p.stat.has, .bool p.stat.min.null, .int .i64 p.stat.min.int.toInt, .string p.stat.min.text, .int .i64 p.stat.min.x.toInt, .int .i64 p.stat.min.y.toInt, .bool p.stat.max.null, .int .i64 p.stat.max.int.toInt, .string p.stat.max.text, .int .i64 p.stat.max.x.toInt, .int .i64 p.stat.max.y.toInt] 54)) := (Keep.refl _ _).alloc _
          have hbp : Blk (wr.alloc (.cells #[.int .i64 p.size.toInt, .int .i64 p.rows.toInt, .int .i64 p.stat.nulls.toInt, .bool p.stat.has, .bool p.stat.min.null, .int .i64 p.stat.min.int.toInt, .string p.stat.min.text, .int .i64 p.stat.min.x.toInt, .int .i64 p.stat.min.y.toInt, .bool p.stat.max.null, .int .i64 p.stat.max.int.toInt, .string p.stat.max.text, .int .i64 p.stat.max.x.toInt, .int .i64 p.stat.max.y.toInt] 54)) wr.heap.size 54 p.cs := Blk.new wr 54 _
          have hOp := hO.alloc (.cells #[.int .i64 p.size.toInt, .int .i64 p.rows.toInt, .int .i64 p.stat.nulls.toInt, .bool p.stat.has, .bool p.stat.min.null, .int .i64 p.stat.min.int.toInt, .string p.stat.min.text, .int .i64 p.stat.min.x.toInt, .int .i64 p.stat.min.y.toInt, .bool p.stat.max.null, .int .i64 p.stat.max.int.toInt, .string p.stat.max.text, .int .i64 p.stat.max.x.toInt, .int .i64 p.stat.max.y.toInt] 54)
          obtain ⟨WP, hWP⟩ : ∃ WP, wr.alloc (.cells #[.int .i64 p.size.toInt, .int .i64 p.rows.toInt, .int .i64 p.stat.nulls.toInt, .bool p.stat.has, .bool p.stat.min.null, .int .i64 p.stat.min.int.toInt, .string p.stat.min.text, .int .i64 p.stat.min.x.toInt, .int .i64 p.stat.min.y.toInt, .bool p.stat.max.null, .int .i64 p.stat.max.int.toInt, .string p.stat.max.text, .int .i64 p.stat.max.x.toInt, .int .i64 p.stat.max.y.toInt] 54) = WP := ⟨_, rfl⟩
          rw [hWP] at hkp hbp hOp
          obtain ⟨⟨u0, u1⟩, _⟩ := pgAt hbp
          have hszP := (hkWm.trans hkp).size
          have hck : Sps [] (WP.alloc (.cells #[.int .i64 a', .int .i64 (a' + p.rows.toInt)] 46)) (some ⟨WP.heap.size, 0, none⟩) 1 1 [(a', a' + p.rows.toInt)] := by
            refine (Blk.new WP 46 [.int .i64 a', .int .i64 (a' + p.rows.toInt)]).rd (by simp) ?_ (by omega) (by simp [maxLen]) ?_
            · simp [spC]
            · simp [spC]
          go_wp2_with (at_builtin; refine wpList_append_rd rfl _ _ 36 rfl W.heap.size 46 i0 (.agg #[.int .i64 0, .int .i64 0]) 2 16 Try.underlying36 hi hz0 hz1 hz2 rfl (by omega) (.slice B5 m d5) m _ rfl (hOp.alloc _) rfl hck (flat_one spC_one [(a', a' + p.rows.toInt)]) (by unfold maxLen; omega) (by omega) (by simp; omega) ?_)
          intro v' w4 hown' hgr
          have hk4 : Keep [] W w4 := ((hkWm.trans hkp).alloc _).grown hgr (fun g hg => .inr (own_ge hO g hg))
          have hb4 : Blk w4 wr.heap.size 54 p.cs := (hgr.block _ (by have := hbp.lt; simp; omega) (fun e => own_blk hOp hbp (by decide) e.symm)).trans (hbp.alloc (.cells #[.int .i64 a', .int .i64 (a' + p.rows.toInt)] 46))
          obtain ⟨⟨u2, u3⟩, _⟩ := pgAt hb4
          clear hck hgr hWP u0 u1
          go_wp2
          go_roundw
          case rel => exact ⟨m + 1, _, _, by omega, by go_num, rfl, by omega, hsum2, by simp [hql], by rw [List.flatMap_append]; exact hown', hnew, hk4⟩
          case measure => simp [intOf]; omega
        · obtain rfl : m = l.length := by omega
          have HX : Hid (v = q) := by rw [Hid, HV.out, List.drop_length, spansP]; simp
          go_wp2
          go_ret
          refine ⟨_, _, _, rfl, hkWm, fun Y hY => ?_⟩
          rw [HX.out]
          exact rd_of_own hO hY
end Go.Proofs.Ytcpimhefclfbaaa

namespace Go.Proofs.Ytcpimhefclfbaaa
open Go Go.RowKit
set_option maxRecDepth 10000
set_option linter.unusedVariables false
set_option linter.unusedSimpArgs false

theorem sizes_pos {f : Ftr} (h : rightF f = true) : ∀ g ∈ f.groups, ∀ l ∈ g.chunks, ∀ p ∈ l, 1 ≤ p.size.toInt ∧ p.size.toInt ≤ 268435456 := fun g hg l hl p hp => by
  obtain ⟨_, _, _, h4, _, _⟩ := rightF_is h
  obtain ⟨_, g2, g3⟩ := h4 g hg
  obtain ⟨i, hi, rfl⟩ := List.getElem_of_mem hl
  have hz : i < (f.cols.zip g.chunks).length := by simp; omega
  have := g3 (f.cols.zip g.chunks)[i] (List.getElem_mem hz)
  rw [List.getElem_zip] at this
  obtain ⟨_, _, h5, h6, _⟩ := pageOk_is (this.1 p hp)
  exact ⟨h5, h6⟩
theorem chS_pos {f : Ftr} (h : rightF f = true) {g : Grp} (hg : g ∈ f.groups) {l : List Pg} (hl : ∀ p ∈ l, ∃ l' ∈ g.chunks, p ∈ l') : 0 ≤ chS l := by
  refine sumZ_pos l (fun p hp => ?_)
  obtain ⟨l', h1, h2⟩ := hl p hp
  have := (sizes_pos h g hg l' h1 p h2).1
  unfold pgS
  omega
theorem chsS_pos {f : Ftr} (h : rightF f = true) {g : Grp} (hg : g ∈ f.groups) {ls : List (List Pg)} (hl : ∀ l ∈ ls, l ∈ g.chunks) : 0 ≤ sumZ chS ls :=
  sumZ_pos ls (fun l hm => chS_pos h hg (fun p hp => ⟨l, hl l hm, hp⟩))
theorem grsS_pos {f : Ftr} (h : rightF f = true) {gs : List Grp} (hl : ∀ g ∈ gs, g ∈ f.groups) : 0 ≤ sumZ grS gs :=
  sumZ_pos gs (fun g hm => chsS_pos h (hl g hm) (fun l hl => hl))

def finP (n : Nat) (g c p : Int) (r : Bool × Int) : Int := if r.1 = true then r.2 else if g = n ∧ c = 0 ∧ p = 0 then r.2 else -1
theorem placeF_bad {f : Ftr} {g c p : Int} (h : rightF f = false) : placeF f g c p = -1 := if_pos h
theorem placeF_ok {f : Ftr} {g c p : Int} (h : rightF f = true) : placeF f g c p = finP f.groups.length g c p (placeG g c p 0 0 (f.groups.drop 0)) := by
  unfold placeF finP
  rw [if_neg (by simp [h])]
  rfl
theorem placeG_at {g c p at_ : Int} (l : List Grp) (i : Nat) (hi : i < l.length) : placeG g c p i at_ (l.drop i) =
    if (placeC (decide ((i : Int) = g)) c p 0 at_ (l[i].chunks.drop 0)).1 = true then placeC (decide ((i : Int) = g)) c p 0 at_ (l[i].chunks.drop 0) else placeG g c p (i + 1) (placeC (decide ((i : Int) = g)) c p 0 at_ (l[i].chunks.drop 0)).2 (l.drop (i + 1)) := by
  rw [List.drop_eq_getElem_cons hi, placeG]
  rfl
theorem placeC_at {hit : Bool} {c p at_ : Int} (l : List (List Pg)) (k : Nat) (hk : k < l.length) : placeC hit c p k at_ (l.drop k) =
    if (placeP (hit && decide ((k : Int) = c)) p 0 at_ (l[k].drop 0)).1 = true then placeP (hit && decide ((k : Int) = c)) p 0 at_ (l[k].drop 0) else placeC hit c p (k + 1) (placeP (hit && decide ((k : Int) = c)) p 0 at_ (l[k].drop 0)).2 (l.drop (k + 1)) := by
  rw [List.drop_eq_getElem_cons hk, placeC]
  rfl
theorem placeP_at {hit : Bool} {p at_ : Int} (l : List Pg) (m : Nat) (hm : m < l.length) : placeP hit p m at_ (l.drop m) =
    if hit = true ∧ (m : Int) = p then (true, at_) else placeP hit p (m + 1) (at_ + l[m].size.toInt) (l.drop (m + 1)) := by
  rw [List.drop_eq_getElem_cons hm, placeP]
theorem dropS {α : Type} (f : α → Int) {l : List α} {m : Nat} (hm : m < l.length) : sumZ f (l.drop m) = f l[m] + sumZ f (l.drop (m + 1)) := by
  rw [List.drop_eq_getElem_cons hm, sumZ]

set_option maxHeartbeats 8000000 in
theorem place_prog {X : List Nat} {F : Value} {f : Ftr} (g c p : Int) (W : World) (h : FtrR X W F f) (hpi : -9223372036854775808 ≤ p ∧ p ≤ 9223372036854775807) :
    Calls Try.prog 20 #[F, .int .i64 g, .int .i64 c, .int .i64 p] W fun e W' => e = .returned (.int .i64 (placeF f g c p)) ∧ Keep [] W W' := by
  have hF := h
  obtain ⟨A, ca, G, rfl, hcols, hgr, ht⟩ := h
  obtain ⟨A2, c2, rfl, hg1, hg2⟩ := hgr.form
  have hcc := hcols.cap
  have hcl := hcols.le
  unfold maxLen at hg2
  obtain ⟨v, hv⟩ : ∃ v, Hid (placeF f g c p = v) := ⟨_, rfl⟩
  rw [hv.out]
  obtain ⟨W1, hW1⟩ : ∃ W1, W.alloc (.cells #[.slice A f.cols.length ca, .int .i64 f.rows.toInt, .slice A2 f.groups.length c2] 25) = W1 := ⟨_, rfl⟩
  have hk1 : Keep [] W W1 := by rw [← hW1]; exact (Keep.refl _ _).alloc _
  have hb1 : Blk W1 W.heap.size 25 [.slice A f.cols.length ca, .int .i64 f.rows.toInt, .slice A2 f.groups.length c2] := by rw [← hW1]; exact Blk.new W 25 _
  obtain ⟨a0, a1, a2⟩ := at3 hb1
  have C := right_prog W1 (hF.pure hk1)
  cases hR : rightF f with
  | false =>
    have v1 : Hid (v = -1) := by rw [Hid, ← hv.out, placeF_bad hR]
    rw [hR] at C
    replace C := Lib.hid C
    clear hR hv
    go_enter Try.func20, Try.ntmps20
    go_wp2_with fail
    refine C.out.mono ?_
    rintro e w1 ⟨rfl, hk2⟩
    go_wp2
    go_ret
    exact ⟨ret_i v1.out.symm, hk1.trans hk2⟩
  | true =>
  have v1 : Hid (v = finP f.groups.length g c p (placeG g c p 0 0 (f.groups.drop 0))) := by rw [Hid, ← hv.out, placeF_ok hR]
  have hbytes := (rightF_is hR).2.2.2.2.2
  have hRR := Lib.hid hR
  rw [hR] at C
  replace C := Lib.hid C
  clear hv hR
  go_enter Try.func20, Try.ntmps20
  go_wp2_with fail
  refine C.out.mono ?_
  rintro e w1 ⟨rfl, hk2⟩
  have hb2 := hb1.keep hk2 (by simp)
  have hk12 := hk1.trans hk2
  obtain ⟨a0, a1, a2⟩ := at3 hb2
  clear C hW1
  go_wp2
  go_loopw [9, 22] (fun at_ i wr => ∃ (k : Nat) (a : Int), k ≤ f.groups.length ∧ i = .int .i64 k ∧ at_ = .int .i64 a ∧ 0 ≤ a ∧ Hid (a + sumZ grS (f.groups.drop k) ≤ 1073741824) ∧ Hid (v = finP f.groups.length g c p (placeG g c p k a (f.groups.drop k))) ∧ Keep [] w1 wr) (fun _ i _ => f.groups.length - (intOf i).toNat)
  case atStart => exact ⟨0, 0, Nat.zero_le _, rfl, rfl, by omega, by rw [Hid, List.drop_zero]; omega, v1, Keep.refl _ _⟩
  case round =>
    obtain ⟨k, a, hk, rfl, rfl, ha0, ha1, HV, hkr⟩ := hrel
    have hkWr := hk12.trans hkr
    have hbr := hb2.keep hkr (by simp)
    obtain ⟨x0, x1, x2⟩ := at3 hbr
    have hWlt := hbr.lt
    by_cases hlt : k < f.groups.length
    · obtain ⟨b, off, A3, c3, e1, g0, g1, hch, hc3, hc3'⟩ := hgr.at_ hlt
      subst e1
      replace g0 := hkWr.cell g0
      replace g1 := hkWr.cell g1
      have hgm := Lib.hid (List.getElem_mem hlt)
      have hS := ha1.out
      rw [dropS grS hlt] at hS
      have HV2 := HV.out
      rw [placeG_at _ k hlt] at HV2
      generalize f.groups[k] = gr at *
      unfold maxLen at hc3'
      obtain ⟨S2, hS2⟩ : ∃ S2, Hid (S2 = sumZ grS (f.groups.drop (k + 1))) := ⟨_, rfl⟩
      have hS20 : 0 ≤ S2 := by rw [hS2.out]; exact grsS_pos hRR.out (fun x hx => List.mem_of_mem_drop hx)
      obtain ⟨b1, hb1'⟩ : ∃ b1, decide ((k : Int) = g) = b1 := ⟨_, rfl⟩
      obtain ⟨T, hT0, hT1, hT2⟩ : ∃ T : Bool × Int → Int, (∀ x, T (true, x) = x) ∧ (∀ x, T (false, x) = finP f.groups.length g c p (placeG g c p (k + 1) x (f.groups.drop (k + 1)))) ∧ v = T (placeC b1 c p 0 a (gr.chunks.drop 0)) :=
        ⟨fun r => if r.1 = true then finP f.groups.length g c p r else finP f.groups.length g c p (placeG g c p (k + 1) r.2 (f.groups.drop (k + 1))), fun x => by simp [finP], fun x => by simp, by
          rw [HV2, hb1']
          simp only []
          split
          · rfl
          · rfl⟩
      replace hT0 := Lib.hid hT0
      replace hT1 := Lib.hid hT1
      replace hT2 := Lib.hid hT2
      have hs2 : Hid (a + sumZ chS (gr.chunks.drop 0) + S2 ≤ 1073741824) := by rw [Hid, List.drop_zero, hS2.out]; have e : grS gr = sumZ chS gr.chunks := rfl; rw [e] at hS; omega
      have e1 : ((k : Int) == g) = b1 := by rw [← hb1', Bool.eq_iff_iff]; simp
      clear HV HV2 hS ha1 hb1'
      have i0' : (0 : Int) ≤ (k : Int) := by omega
      have i1' : (k : Int) < (f.groups.length : Int) := by omega
      obtain ⟨WA, hWA⟩ : ∃ WA, wr.alloc (.cells #[.int .i64 gr.rows.toInt, .slice A3 gr.chunks.length c3] 44) = WA := ⟨_, rfl⟩
      have hkrA : Keep [] wr WA := by rw [← hWA]; exact (Keep.refl _ _).alloc _
      have hba : Blk WA wr.heap.size 44 [.int .i64 gr.rows.toInt, .slice A3 gr.chunks.length c3] := by rw [← hWA]; exact Blk.new wr 44 _
      obtain ⟨z0, z1⟩ := at2 hba
      obtain ⟨gb, hgb⟩ : ∃ gb, wr.heap.size = gb := ⟨_, rfl⟩
      rw [hgb] at hba z0 z1
      go_wp2
      clear hWA g0 g1 x0 x1 x2 z0 z1 hgb
      go_loopw [9, 30] (fun at_ i w => ∃ (j : Nat) (a : Int), j ≤ gr.chunks.length ∧ i = .int .i64 j ∧ at_ = .int .i64 a ∧ 0 ≤ a ∧ Hid (a + sumZ chS (gr.chunks.drop j) + S2 ≤ 1073741824) ∧ Hid (v = T (placeC b1 c p j a (gr.chunks.drop j))) ∧ Keep [] WA w) (fun _ i _ => gr.chunks.length - (intOf i).toNat)
      case atStart => exact ⟨0, a, Nat.zero_le _, rfl, rfl, ha0, hs2, hT2.out, Keep.refl _ _⟩
      case round =>
        obtain ⟨j, a, hj, rfl, rfl, ha0, ha1, HV, hkj⟩ := hrel
        have hkWj := (hkWr.trans hkrA).trans hkj
        by_cases hjt : j < gr.chunks.length
        · obtain ⟨b', off', A4, c4, e4, d0, hpg, hc4, hc4'⟩ := hch.at_ hjt
          subst e4
          replace d0 := hkWj.cell d0
          have hlm := Lib.hid (List.getElem_mem hjt)
          have hS := ha1.out
          rw [dropS chS hjt] at hS
          have HV2 := HV.out
          rw [placeC_at _ j hjt] at HV2
          generalize gr.chunks[j] = l at *
          unfold maxLen at hc4'
          obtain ⟨S3, hS3⟩ : ∃ S3, Hid (S3 = sumZ chS (gr.chunks.drop (j + 1)) + S2) := ⟨_, rfl⟩
          have hS30 : 0 ≤ S3 := by have := chsS_pos hRR.out hgm.out (ls := gr.chunks.drop (j + 1)) (fun x hx => List.mem_of_mem_drop hx); rw [hS3.out]; omega
          obtain ⟨b2, hb2'⟩ : ∃ b2, decide ((j : Int) = c) = b2 := ⟨_, rfl⟩
          obtain ⟨T2, hU0, hU1, hU2⟩ : ∃ T2 : Bool × Int → Int, (∀ x, T2 (true, x) = x) ∧ (∀ x, T2 (false, x) = T (placeC b1 c p (j + 1) x (gr.chunks.drop (j + 1)))) ∧ v = T2 (placeP (b1 && b2) p 0 a (l.drop 0)) :=
            ⟨fun r => if r.1 = true then T r else T (placeC b1 c p (j + 1) r.2 (gr.chunks.drop (j + 1))), fun x => by simp only [if_true]; exact hT0.out x, fun x => by simp, by
              rw [HV2, hb2']
              simp only []
              split
              · rfl
              · rfl⟩
          replace hU0 := Lib.hid hU0
          replace hU1 := Lib.hid hU1
          replace hU2 := Lib.hid hU2
          have hs3 : Hid (a + chS (l.drop 0) + S3 ≤ 1073741824) := by rw [Hid, List.drop_zero, hS3.out]; omega
          have e2 : ((j : Int) == c) = b2 := by rw [← hb2', Bool.eq_iff_iff]; simp
          clear HV HV2 hS ha1 hb2'
          have j0' : (0 : Int) ≤ (j : Int) := by omega
          have j1' : (j : Int) < (gr.chunks.length : Int) := by omega
          go_wp2
          go_loopw [9, 37] (fun at_ i w => ∃ (m : Nat) (a : Int), m ≤ l.length ∧ i = .int .i64 m ∧ at_ = .int .i64 a ∧ 0 ≤ a ∧ Hid (a + chS (l.drop m) + S3 ≤ 1073741824) ∧ Hid (v = T2 (placeP (b1 && b2) p m a (l.drop m))) ∧ Keep [] wr w) (fun _ i _ => l.length - (intOf i).toNat)
          case atStart => exact ⟨0, a, Nat.zero_le _, rfl, rfl, ha0, hs3, hU2.out, Keep.refl _ _⟩
          case round =>
            obtain ⟨m, a, hm, rfl, rfl, ha0, ha1, HV, hkm⟩ := hrel
            have hkWm := hkWj.trans hkm
            by_cases hmt : m < l.length
            · obtain ⟨pb, poff, e5, _, _, ⟨z0, z1⟩, ⟨z2, z3⟩, ⟨z4, z5, z6, z7, z8⟩, ⟨z9, z10, z11, z12, z13⟩⟩ := (hpg.pure hkWm).at14 hmt
              subst e5
              have hsz := sizes_pos hRR.out _ hgm.out _ hlm.out _ (List.getElem_mem hmt)
              have hS := ha1.out
              unfold chS at hS
              rw [dropS pgS hmt] at hS
              have hdp := chS_pos hRR.out hgm.out (l := l.drop (m + 1)) (fun x hx => ⟨l, hlm.out, List.mem_of_mem_drop hx⟩)
              have HV2 := Lib.hid HV.out
              have HP := Lib.hid (placeP_at (hit := b1 && b2) (p := p) (at_ := a) l m hmt)
              generalize l[m] = pg at *
              have es1 : pgS pg = pg.size.toInt := rfl
              have es2 : chS (l.drop (m + 1)) = sumZ pgS (l.drop (m + 1)) := rfl
              rw [es1, ← es2] at hS
              have hs4 : Hid (a + pg.size.toInt + chS (l.drop (m + 1)) + S3 ≤ 1073741824) := by rw [Hid]; omega
              have hbd : a + pg.size.toInt ≤ 1073741824 := by omega
              obtain ⟨b3, hb3'⟩ : ∃ b3, decide ((m : Int) = p) = b3 := ⟨_, rfl⟩
              have e3 : ((m : Int) == p) = b3 := by rw [← hb3', Bool.eq_iff_iff]; simp
              have hyes : b1 = true → b2 = true → b3 = true → Hid (v = a) := fun h1 h2 h3 => by
                rw [Hid, HV2.out, HP.out, if_pos ⟨by simp [h1, h2], by rw [h3] at hb3'; exact of_decide_eq_true hb3'⟩]
                exact hU0.out a
              have hno : ¬ (b1 = true ∧ b2 = true ∧ b3 = true) → Hid (v = T2 (placeP (b1 && b2) p (m + 1) (a + pg.size.toInt) (l.drop (m + 1)))) := fun h => by
                rw [Hid, HV2.out, HP.out, if_neg]
                rintro ⟨h1, h2⟩
                simp at h1
                exact h ⟨h1.1, h1.2, by rw [← hb3']; exact decide_eq_true h2⟩
              replace hyes := Lib.hid hyes
              replace hno := Lib.hid hno
              clear HV HV2 HP hS ha1 hb3' hdp es1 es2
              have m0' : (0 : Int) ≤ (m : Int) := by omega
              have m1' : (m : Int) < (l.length : Int) := by omega
              obtain ⟨WP, hWP⟩ : ∃ WP, wr.alloc (.cells #[.int .i64 pg.size.toInt, .int .i64 pg.rows.toInt, .int .i64 pg.stat.nulls.toInt, .bool pg.stat.has, .bool pg.stat.min.null, .int .i64 pg.stat.min.int.toInt, .string pg.stat.min.text, .int .i64 pg.stat.min.x.toInt, .int .i64 pg.stat.min.y.toInt, .bool pg.stat.max.null, .int .i64 pg.stat.max.int.toInt, .string pg.stat.max.text, .int .i64 pg.stat.max.x.toInt, .int .i64 pg.stat.max.y.toInt] 54) = WP := ⟨_, rfl⟩
              have hkmP : Keep [] wr WP := by rw [← hWP]; exact (Keep.refl _ _).alloc _
              have hpP : Blk WP wr.heap.size 54 pg.cs := by rw [← hWP]; exact Blk.new wr 54 _
              obtain ⟨⟨u0, u1⟩, _⟩ := pgAt hpP
              cases b1 with
              | false =>
                have v2 := hno.out (by simp)
                go_wp2
                go_roundw
                case rel => exact ⟨m + 1, _, by omega, by go_num, rfl, by omega, hs4, v2, hkm.trans hkmP⟩
                case measure => simp [intOf]; omega
              | true =>
                cases b2 with
                | false =>
                  have v2 := hno.out (by simp)
                  go_wp2
                  go_roundw
                  case rel => exact ⟨m + 1, _, by omega, by go_num, rfl, by omega, hs4, v2, hkm.trans hkmP⟩
                  case measure => simp [intOf]; omega
                | true =>
                  cases b3 with
                  | false =>
                    have v2 := hno.out (by simp)
                    go_wp2
                    go_roundw
                    case rel => exact ⟨m + 1, _, by omega, by go_num, rfl, by omega, hs4, v2, hkm.trans hkmP⟩
                    case measure => simp [intOf]; omega
                  | true =>
                    have v2 := hyes.out rfl rfl rfl
                    go_wp2
                    go_ret
                    exact ⟨ret_i v2.out.symm, hkWm.trans hkmP⟩
            · obtain rfl : m = l.length := by omega
              have HX : Hid (v = T (placeC b1 c p (j + 1) a (gr.chunks.drop (j + 1)))) := by rw [Hid, HV.out, List.drop_length, placeP]; exact hU1.out a
              have hs5 : Hid (a + sumZ chS (gr.chunks.drop (j + 1)) + S2 ≤ 1073741824) := by have := ha1.out; rw [List.drop_length, hS3.out] at this; have e : chS ([] : List Pg) = 0 := rfl; rw [e] at this; rw [Hid]; omega
              clear HV
              go_wp2
              go_roundw
              case rel => exact ⟨j + 1, a, by omega, by go_num, rfl, ha0, hs5, HX, hkj.trans hkm⟩
              case measure => simp [intOf]; omega
        · obtain rfl : j = gr.chunks.length := by omega
          have HX : Hid (v = finP f.groups.length g c p (placeG g c p (k + 1) a (f.groups.drop (k + 1)))) := by rw [Hid, HV.out, List.drop_length, placeC]; exact hT1.out a
          have hs5 : Hid (a + sumZ grS (f.groups.drop (k + 1)) ≤ 1073741824) := by have := ha1.out; rw [List.drop_length, hS2.out] at this; rw [Hid]; simp only [sumZ] at this; omega
          clear HV
          go_wp2
          go_roundw
          case rel => exact ⟨k + 1, a, by omega, by go_num, rfl, ha0, hs5, HX, (hkr.trans hkrA).trans hkj⟩
          case measure => simp [intOf]; omega
    · obtain rfl : k = f.groups.length := by omega
      rw [List.drop_length, placeG] at HV
      have hend : Hid (v = if g = (f.groups.length : Int) ∧ c = 0 ∧ p = 0 then a else -1) := HV
      obtain ⟨b1, hb1'⟩ : ∃ b1, decide (g = (f.groups.length : Int)) = b1 := ⟨_, rfl⟩
      obtain ⟨b2, hb2'⟩ : ∃ b2, decide (c = 0) = b2 := ⟨_, rfl⟩
      obtain ⟨b3, hb3'⟩ : ∃ b3, decide (p = 0) = b3 := ⟨_, rfl⟩
      have e1 : (g == (f.groups.length : Int)) = b1 := by rw [← hb1', Bool.eq_iff_iff]; simp
      have e2 : (c == 0) = b2 := by rw [← hb2', Bool.eq_iff_iff]; simp
      have e3 : (p == 0) = b3 := by rw [← hb3', Bool.eq_iff_iff]; simp
      have hyes : b1 = true → b2 = true → b3 = true → Hid (v = a) := fun h1 h2 h3 => by
        rw [h1] at hb1'; rw [h2] at hb2'; rw [h3] at hb3'
        rw [Hid, hend.out, if_pos ⟨of_decide_eq_true hb1', of_decide_eq_true hb2', of_decide_eq_true hb3'⟩]
      have hno : ¬ (b1 = true ∧ b2 = true ∧ b3 = true) → Hid (v = -1) := fun h => by
        rw [Hid, hend.out, if_neg]
        rintro ⟨h1, h2, h3⟩
        exact h ⟨by rw [← hb1']; exact decide_eq_true h1, by rw [← hb2']; exact decide_eq_true h2, by rw [← hb3']; exact decide_eq_true h3⟩
      replace hyes := Lib.hid hyes
      replace hno := Lib.hid hno
      clear HV hend hb1' hb2' hb3'
      cases b1 with
      | false =>
        have v2 := hno.out (by simp)
        go_wp2
        go_ret
        exact ⟨ret_i v2.out.symm, hkWr⟩
      | true =>
        cases b2 with
        | false =>
          have v2 := hno.out (by simp)
          go_wp2
          go_ret
          exact ⟨ret_i v2.out.symm, hkWr⟩
        | true =>
          cases b3 with
          | false =>
            have v2 := hno.out (by simp)
            go_wp2
            go_ret
            exact ⟨ret_i v2.out.symm, hkWr⟩
          | true =>
            have v2 := hyes.out rfl rfl rfl
            go_wp2
            go_ret
            exact ⟨ret_i v2.out.symm, hkWr⟩
end Go.Proofs.Ytcpimhefclfbaaa

namespace Go.Proofs.Ytcpimhefclfbaaa
open Go Go.RowKit
set_option maxRecDepth 10000
set_option linter.unusedVariables false
set_option linter.unusedSimpArgs false

set_option maxHeartbeats 8000000 in
theorem spans_ref19 {X : List Nat} {F : Value} {f : Ftr} (g c : Int) (W : World) (h : FtrR X W F f) (hgi : -9223372036854775808 ≤ g ∧ g ≤ 9223372036854775807) (hci : -9223372036854775808 ≤ c ∧ c ≤ 9223372036854775807) :
    Calls Try.prog 19 #[F, .int .i64 g, .int .i64 c] W (SpansPost (spansF f g c) W) := by
  have hF := h
  obtain ⟨A, ca, G, rfl, hcols, hgr, ht⟩ := h
  obtain ⟨A2, c2, rfl, hg1, hg2⟩ := hgr.form
  have hcc := hcols.cap
  have hcl := hcols.le
  unfold maxLen at hg2
  obtain ⟨i0, hi, hz0, hz1, hz2⟩ := info_parts Try.infoSp
  obtain ⟨v, hv⟩ : ∃ v, Hid (spansF f g c = v) := ⟨_, rfl⟩
  rw [hv.out]
  obtain ⟨W1, hW1⟩ : ∃ W1, W.alloc (.cells #[.slice A f.cols.length ca, .int .i64 f.rows.toInt, .slice A2 f.groups.length c2] 25) = W1 := ⟨_, rfl⟩
  have hk1 : Keep [] W W1 := by rw [← hW1]; exact (Keep.refl _ _).alloc _
  have hb1 : Blk W1 W.heap.size 25 [.slice A f.cols.length ca, .int .i64 f.rows.toInt, .slice A2 f.groups.length c2] := by rw [← hW1]; exact Blk.new W 25 _
  obtain ⟨a0, a1, a2⟩ := at3 hb1
  have vbad : (g < 0 ∨ f.groups.length ≤ g ∨ c < 0 ∨ f.cols.length ≤ c ∨ rightF f = false) → Hid (v = []) := fun h => by rw [Hid, ← hv.out, spansF_bad h]
  replace vbad := Lib.hid vbad
  have C := right_ref W1 (hF.pure hk1)
  cases hR : rightF f with
  | false =>
    have v1 := vbad.out (.inr (.inr (.inr (.inr hR))))
    rw [hR] at C
    replace C := Lib.hid C
    clear hR
    go_enter Try.func19, Try.ntmps19
    go_wp2_with fail
    refine C.out.mono ?_
    rintro e w1 ⟨rfl, hk2⟩
    go_wp2
    go_ret
    exact SpansPost.nil v1.out (hk1.trans hk2)
  | true =>
  rw [hR] at C
  replace C := Lib.hid C
  by_cases q1 : g < 0
  · have v1 := vbad.out (.inl q1)
    clear hR
    go_enter Try.func19, Try.ntmps19
    go_wp2_with fail
    refine C.out.mono ?_
    rintro e w1 ⟨rfl, hk2⟩
    obtain ⟨a0, a1, a2⟩ := at3 (hb1.keep hk2 (by simp))
    go_wp2
    go_ret
    exact SpansPost.nil v1.out (hk1.trans hk2)
  obtain ⟨gn, rfl⟩ : ∃ n : Nat, g = n := ⟨g.toNat, by omega⟩
  by_cases q2 : f.groups.length ≤ gn
  · have v1 := vbad.out (.inr (.inl (by omega)))
    clear hR
    go_enter Try.func19, Try.ntmps19
    go_wp2_with fail
    refine C.out.mono ?_
    rintro e w1 ⟨rfl, hk2⟩
    obtain ⟨a0, a1, a2⟩ := at3 (hb1.keep hk2 (by simp))
    go_wp2
    go_ret
    exact SpansPost.nil v1.out (hk1.trans hk2)
  by_cases q3 : c < 0
  · have v1 := vbad.out (.inr (.inr (.inl q3)))
    clear hR
    go_enter Try.func19, Try.ntmps19
    go_wp2_with fail
    refine C.out.mono ?_
    rintro e w1 ⟨rfl, hk2⟩
    obtain ⟨a0, a1, a2⟩ := at3 (hb1.keep hk2 (by simp))
    go_wp2
    go_ret
    exact SpansPost.nil v1.out (hk1.trans hk2)
  obtain ⟨cn, rfl⟩ : ∃ n : Nat, c = n := ⟨c.toNat, by omega⟩
  by_cases q4 : f.cols.length ≤ cn
  · have v1 := vbad.out (.inr (.inr (.inr (.inl (by omega)))))
    clear hR
    go_enter Try.func19, Try.ntmps19
    go_wp2_with fail
    refine C.out.mono ?_
    rintro e w1 ⟨rfl, hk2⟩
    obtain ⟨a0, a1, a2⟩ := at3 (hb1.keep hk2 (by simp))
    go_wp2
    go_ret
    exact SpansPost.nil v1.out (hk1.trans hk2)
  obtain ⟨hct, hp, hsum, hg65, hg0, hlen⟩ := chunk_is hR (g := gn) (c := cn) (by omega) (by omega)
  have hv2 : Hid (v = spansP (rowsTo f gn) f.groups[gn].chunks[cn]) := by rw [Hid, ← hv.out]; exact spansF_ok hR (by omega) (by omega) hct
  have hrt := Lib.hid (rowsTo_le hR)
  have hlenp := sumZ_len (f := pgR) _ (fun p hp' => (pageOk_is (hp p hp')).1)
  replace hp := Lib.hid hp
  clear hv vbad hR
  have hgl : gn < f.groups.length := by omega
  obtain ⟨bG, oG, A3, c3, e1, g0, g1, hch, hc3, hc3'⟩ := hgr.at_ hgl
  subst e1
  obtain ⟨bC, oC, A4, c4, e4, d0, hpg, hc4, hc4'⟩ := hch.at_ hct
  subst e4
  have hgat : ∀ (k : Nat) (hk : k < f.groups.length) w, Keep [] W w → ∃ A' c', w.cell? ⟨bG, oG + k * 2, none⟩ = some (.int .i64 f.groups[k].rows.toInt) ∧ w.cell? ⟨bG, oG + k * 2 + 1, none⟩ = some (.slice A' f.groups[k].chunks.length c') := fun k hk w hw => by
    obtain ⟨_, _, A', c', e', h0, h1, _⟩ := hgr.at_ hk
    cases e'
    exact ⟨A', c', hw.cell h0, hw.cell h1⟩
  replace hgat := Lib.hid hgat
  have G1 := Lib.hid (fun w (hw : Keep [] W w) => hw.cell g1)
  have D0 := Lib.hid (fun w (hw : Keep [] W w) => hw.cell d0)
  have hclen := Lib.hid hlen
  unfold maxLen at hc3' hc4'
  clear g0 g1 d0 hlen
  generalize f.groups[gn].chunks[cn] = l at *
  go_enter Try.func19, Try.ntmps19
  go_wp2_with fail
  refine C.out.mono ?_
  rintro e w1 ⟨rfl, hk2⟩
  have hb2 := hb1.keep hk2 (by simp)
  have hk12 := hk1.trans hk2
  obtain ⟨a0, a1, a2⟩ := at3 hb2
  have hsl0 : (0 : Int) ≤ (gn : Int) := by omega
  have hsl1 : (gn : Int) ≤ (c2 : Int) := by omega
  clear C hW1
  go_wp2
  go_loopw [8, 9] (fun at_ i wr => ∃ k : Nat, k ≤ gn ∧ i = .int .i64 k ∧ at_ = .int .i64 (rowsTo f k) ∧ Keep [] w1 wr) (fun _ i _ => gn - (intOf i).toNat)
  case atStart => exact ⟨0, Nat.zero_le _, rfl, by simp [rowsTo, sumZ], Keep.refl _ _⟩
  case round =>
    obtain ⟨k, hk, rfl, rfl, hkr⟩ := hrel
    have hkWr := hk12.trans hkr
    have hbr := hb2.keep hkr (by simp)
    obtain ⟨x0, x1, x2⟩ := at3 hbr
    by_cases hlt : k < gn
    · obtain ⟨A5, c5, g0, g1⟩ := hgat.out k (by omega) wr hkWr
      have hs := Lib.hid (rowsTo_succ f (k := k) (by omega))
      have hr1 := hrt.out k
      have hr2 := hrt.out (k + 1)
      rw [hs.out] at hr2
      generalize rowsTo f k = a at *
      generalize f.groups[k] = gr at *
      have i0' : (0 : Int) ≤ (k : Int) := by omega
      have i1' : (k : Int) < (f.groups.length : Int) := by omega
      go_wp2
      go_roundw
      case rel => exact ⟨k + 1, by omega, by go_num, by rw [hs.out], hkr⟩
      case measure => simp [intOf]; omega
    · obtain rfl : k = gn := by omega
      have hr1 := hrt.out k
      have g1 := G1.out wr hkWr
      have d0 := D0.out wr hkWr
      generalize rowsTo f k = a at *
      have i0' : (0 : Int) ≤ (k : Int) := by omega
      have i1' : (k : Int) < (f.groups.length : Int) := by omega
      have j0' : (0 : Int) ≤ (cn : Int) := by omega
      have j1' : (cn : Int) < (f.groups[k].chunks.length : Int) := by omega
      go_wp2
      have hps := Lib.hid (fun (a' : Int) (m : Nat) (hm : m < l.length) => spansP_drop a' hm)
      have hsd := Lib.hid (fun (m : Nat) (hm : m < l.length) => sum_drop hm)
      have hl65 : l.length ≤ 65536 := by omega
      go_loopw [8, 10, 12] (fun at_ s i w => ∃ (m : Nat) (a' : Int) (q : List (Int × Int)), m ≤ l.length ∧ i = .int .i64 m ∧ at_ = .int .i64 a' ∧ 0 ≤ a' ∧ Hid (a' + sumZ pgR (l.drop m) ≤ 131072) ∧ q.length = m ∧ w.ownsRow W.heap.size 46 2 s m (q.flatMap spC) ∧ Hid (v = q ++ spansP a' (l.drop m)) ∧ Keep [] W w) (fun _ _ i _ => l.length - (intOf i).toNat)
      case atStart => exact ⟨0, a, [], Nat.zero_le _, rfl, rfl, by omega, by rw [Hid, List.drop_zero, hsum]; omega, rfl, World.ownsRow_nil _ _ _ _, by rw [Hid, hv2.out]; simp, hkWr⟩
      case round =>
        obtain ⟨m, a', q, hm, rfl, rfl, ha0, ha1, hql, hO, HV, hkWm⟩ := hrel
        obtain ⟨B5, d5, rfl⟩ := own_form hO
        by_cases hmt : m < l.length
        · obtain ⟨pb, poff, e5, _, _, ⟨z0, z1⟩, ⟨z2, z3⟩, ⟨z4, z5, z6, z7, z8⟩, ⟨z9, z10, z11, z12, z13⟩⟩ := (hpg.pure hkWm).at14 hmt
          subst e5
          have hpo := pageOk_is (hp.out _ (List.getElem_mem hmt))
          have h1 := hps.out a' m hmt
          have h2 := hsd.out m hmt
          have h3 := ha1.out
          have h4 := sumZ_pos (f := pgR) (l.drop (m + 1)) (fun x hx => by have := pageOk_is (hp.out x (List.mem_of_mem_drop hx)); unfold pgR; omega)
          rw [h2] at h3
          have HX := HV.out
          rw [h1] at HX
          have Z1 := Lib.hid (fun w (hw : Keep [] W w) => by
            obtain ⟨_, _, e', _, _, ⟨_, z⟩, _⟩ := (hpg.pure hw).at14 hmt
            cases e'
            exact z)
          generalize l[m] = p at *
          obtain ⟨hp1, hp2, _⟩ := hpo
          have hnew : Hid (v = (q ++ [(a', a' + p.rows.toInt)]) ++ spansP (a' + p.rows.toInt) (l.drop (m + 1))) := by rw [Hid, HX]; simp
          have hsum2 : Hid (a' + p.rows.toInt + sumZ pgR (l.drop (m + 1)) ≤ 131072) := by rw [Hid]; omega
          have hbnd : a' + p.rows.toInt ≤ 131072 := by omega
          clear HX h1 h2 h3 h4 HV ha1
          have m0' : (0 : Int) ≤ (m : Int) := by omega
          have m1' : (m : Int) < (l.length : Int) := by omega
          have hszP := hkWm.size
          have hck : Sps [] (wr.alloc (.cells #[.int .i64 a', .int .i64 (a' + p.rows.toInt)] 46)) (some ⟨wr.heap.size, 0, none⟩) 1 1 [(a', a' + p.rows.toInt)] := by
            refine (Blk.new wr 46 [.int .i64 a', .int .i64 (a' + p.rows.toInt)]).rd (by simp) ?_ (by omega) (by simp [maxLen]) ?_
            · simp [spC]
            · simp [spC]
          go_wp2_with (at_builtin; refine wpList_append_rd rfl _ _ 36 rfl W.heap.size 46 i0 (.agg #[.int .i64 0, .int .i64 0]) 2 16 Try.underlying36 hi hz0 hz1 hz2 rfl (by omega) (.slice B5 m d5) m _ rfl (hO.alloc _) rfl hck (flat_one spC_one [(a', a' + p.rows.toInt)]) (by unfold maxLen; omega) (by omega) (by simp; omega) ?_)
          intro v' w4 hown' hgr
          have hk4 : Keep [] W w4 := (hkWm.alloc _).grown hgr (fun g hg => .inr (own_ge hO g hg))
          have z1' := Z1.out w4 hk4
          clear hck hgr z0 z1 z2 z3 z4 z5 z6 z7 z8 z9 z10 z11 z12 z13
          go_wp2
          go_roundw
          case rel => exact ⟨m + 1, _, _, by omega, by go_num, rfl, by omega, hsum2, by simp [hql], by rw [List.flatMap_append]; exact hown', hnew, hk4⟩
          case measure => simp [intOf]; omega
        · obtain rfl : m = l.length := by omega
          have HX : Hid (v = q) := by rw [Hid, HV.out, List.drop_length, spansP]; simp
          go_wp2
          go_ret
          refine ⟨_, _, _, rfl, hkWm, fun Y hY => ?_⟩
          rw [HX.out]
          exact rd_of_own hO hY

theorem equal_span (d : Nat) (a b i j : Int) (w : World) : (Op.equalIn (d + 3) 46 (.agg #[.int .i64 a, .int .i64 b]) (.agg #[.int .i64 i, .int .i64 j])).run Try.prog w = .ok (a == i && b == j) w := by
  have hu : Try.prog.underlying 46 = some (.struct (Try.prog.fieldsOf 46)) := by kernel_rfl
  rw [run_equalIn_agg w (d + 2) _ _ _ hu Try.stoodInHeld46]
  simp only [Program.fieldsOf, Try.underlying46]
  go_simp
  by_cases h1 : a = i <;> by_cases h2 : b = j <;> simp [h1, h2]
theorem neq_span (x y : Int × Int) (w : World) : (binOp .neq 46 (.agg #[.int .i64 x.1, .int .i64 x.2]) (.agg #[.int .i64 y.1, .int .i64 y.2])).run Try.prog w = .ok (.bool (decide (x ≠ y))) w := by
  rw [run_neq_struct, show (10000 : Nat) = 9997 + 3 from rfl, equal_span]
  by_cases h : x = y
  · subst h; simp
  · rw [decide_eq_true h]
    apply congrArg (fun z => Result.ok (Value.bool z) w)
    apply Classical.byContradiction
    intro hc
    simp at hc
    exact h (Prod.ext hc.1 hc.2)
set_option maxHeartbeats 1000000 in
theorem sameSp_ref {X Y : List Nat} {A B : Option Addr} {n c m d : Nat} {l r : List (Int × Int)} (W : World) (h : Sps X W A n c l) (h' : Sps Y W B m d r) :
    Calls Try.prog 17 #[.slice A n c, .slice B m d] W fun e W' => e = .returned (.bool (decide (l = r))) ∧ Keep [] W W' := by
  have hn := h.len
  have hc := h.cap
  have hnc := h.le
  have hn' := h'.len
  have hc' := h'.cap
  have hnc' := h'.le
  obtain rfl := hn
  obtain rfl := hn'
  have HP : ∃ v : Bool, Hid (v = decide (l = r)) := ⟨_, rfl⟩
  obtain ⟨v, HP⟩ := HP
  rw [← HP.out]
  by_cases hne : l.length = r.length
  · have hne' : ((l.length : Int) != (r.length : Int)) = false := by simp [hne]
    have hle : l.length ≤ r.length ∧ r.length ≤ l.length := by omega
    have HL := Lib.hid hne
    clear hne
    go_enter Try.func17, Try.ntmps17
    go_wp2
    go_loopw [5] (fun i w => ∃ k : Nat, k ≤ l.length ∧ i = .int .i64 k ∧ Hid (l.take k = r.take k) ∧ Keep [] W w) (fun i _ => l.length - (intOf i).toNat)
    case atStart => exact ⟨0, by omega, rfl, rfl, Keep.refl _ _⟩
    case round =>
      rename_i wr
      obtain ⟨k, hk, rfl, HE, hkeep⟩ := hrel
      by_cases hlt : k < l.length
      · have hlt' : k < r.length := by omega
        obtain ⟨b, off, rfl, hb1, hb2, hc0, hc1⟩ := Sps.at2 (h.pure hkeep) hlt
        obtain ⟨b', off', rfl, hb1', hb2', hd0, hd1⟩ := Sps.at2 (h'.pure hkeep) hlt'
        by_cases heq : l[k] = r[k]
        · have hneq : ∀ w, (binOp .neq 46 (.agg #[.int .i64 l[k].1, .int .i64 l[k].2]) (.agg #[.int .i64 r[k].1, .int .i64 r[k].2])).run Try.prog w = .ok (.bool false) w := fun w => by rw [neq_span]; simp [heq]
          have HE2 : Hid (l.take (k + 1) = r.take (k + 1)) := by
            unfold Hid
            rw [List.take_succ_eq_append_getElem hlt, List.take_succ_eq_append_getElem (by omega), HE.out, heq]
          clear heq
          go_wp2
          go_quiet (fail)
          go_wp2
          go_roundw
          case rel => exact ⟨k + 1, by omega, by go_num, HE2, hkeep.drewN _⟩
          case measure => simp [intOf]; omega
        · have hneq : ∀ w, (binOp .neq 46 (.agg #[.int .i64 l[k].1, .int .i64 l[k].2]) (.agg #[.int .i64 r[k].1, .int .i64 r[k].2])).run Try.prog w = .ok (.bool true) w := fun w => by rw [neq_span]; simp [heq]
          have hv : Hid (v = false) := by
            rw [Hid, HP.out]
            exact decide_eq_false (fun h => heq (by subst h; rfl))
          clear heq
          go_wp2
          go_quiet (fail)
          go_wp2
          go_ret
          exact ⟨ret_b hv.out.symm, hkeep.drewN _⟩
      · have hv : Hid (v = true) := by
          rw [Hid, HP.out]
          refine decide_eq_true ?_
          have := HE.out
          rwa [List.take_of_length_le (by omega), List.take_of_length_le (by omega)] at this
        go_wp2
        go_ret
        exact ⟨ret_b hv.out.symm, hkeep⟩
  · have hv : Hid (v = false) := by
      rw [Hid, HP.out]
      exact decide_eq_false (fun h => hne (by rw [h]))
    have hne' : ((l.length : Int) != (r.length : Int)) = true := by rw [bne_iff_ne]; omega
    clear hne
    go_enter Try.func17, Try.ntmps17
    go_wp2
    go_ret
    exact ⟨ret_b hv.out.symm, Keep.refl _ _⟩
end Go.Proofs.Ytcpimhefclfbaaa

namespace Go.Proofs.Ytcpimhefclfbaaa
open Go Go.RowKit
set_option maxRecDepth 10000
set_option linter.unusedVariables false
set_option linter.unusedSimpArgs false

set_option maxHeartbeats 8000000 in
theorem place_ref19 {X : List Nat} {F : Value} {f : Ftr} (g c p : Int) (W : World) (h : FtrR X W F f) (hpi : -9223372036854775808 ≤ p ∧ p ≤ 9223372036854775807) :
    Calls Try.prog 21 #[F, .int .i64 g, .int .i64 c, .int .i64 p] W fun e W' => e = .returned (.int .i64 (placeF f g c p)) ∧ Keep [] W W' := by
  have hF := h
  obtain ⟨A, ca, G, rfl, hcols, hgr, ht⟩ := h
  obtain ⟨A2, c2, rfl, hg1, hg2⟩ := hgr.form
  have hcc := hcols.cap
  have hcl := hcols.le
  unfold maxLen at hg2
  obtain ⟨v, hv⟩ : ∃ v, Hid (placeF f g c p = v) := ⟨_, rfl⟩
  rw [hv.out]
  obtain ⟨W1, hW1⟩ : ∃ W1, W.alloc (.cells #[.slice A f.cols.length ca, .int .i64 f.rows.toInt, .slice A2 f.groups.length c2] 25) = W1 := ⟨_, rfl⟩
  have hk1 : Keep [] W W1 := by rw [← hW1]; exact (Keep.refl _ _).alloc _
  have hb1 : Blk W1 W.heap.size 25 [.slice A f.cols.length ca, .int .i64 f.rows.toInt, .slice A2 f.groups.length c2] := by rw [← hW1]; exact Blk.new W 25 _
  obtain ⟨a0, a1, a2⟩ := at3 hb1
  have C := right_ref W1 (hF.pure hk1)
  cases hR : rightF f with
  | false =>
    have v1 : Hid (v = -1) := by rw [Hid, ← hv.out, placeF_bad hR]
    rw [hR] at C
    replace C := Lib.hid C
    clear hR hv
    go_enter Try.func21, Try.ntmps21
    go_wp2_with fail
    refine C.out.mono ?_
    rintro e w1 ⟨rfl, hk2⟩
    go_wp2
    go_ret
    exact ⟨ret_i v1.out.symm, hk1.trans hk2⟩
  | true =>
  have v1 : Hid (v = finP f.groups.length g c p (placeG g c p 0 0 (f.groups.drop 0))) := by rw [Hid, ← hv.out, placeF_ok hR]
  have hbytes := (rightF_is hR).2.2.2.2.2
  have hRR := Lib.hid hR
  rw [hR] at C
  replace C := Lib.hid C
  clear hv hR
  go_enter Try.func21, Try.ntmps21
  go_wp2_with fail
  refine C.out.mono ?_
  rintro e w1 ⟨rfl, hk2⟩
  have hb2 := hb1.keep hk2 (by simp)
  have hk12 := hk1.trans hk2
  obtain ⟨a0, a1, a2⟩ := at3 hb2
  clear C hW1
  go_wp2
  go_loopw [10, 11] (fun at_ i wr => ∃ (k : Nat) (a : Int), k ≤ f.groups.length ∧ i = .int .i64 k ∧ at_ = .int .i64 a ∧ 0 ≤ a ∧ Hid (a + sumZ grS (f.groups.drop k) ≤ 1073741824) ∧ Hid (v = finP f.groups.length g c p (placeG g c p k a (f.groups.drop k))) ∧ Keep [] w1 wr) (fun _ i _ => f.groups.length - (intOf i).toNat)
  case atStart => exact ⟨0, 0, Nat.zero_le _, rfl, rfl, by omega, by rw [Hid, List.drop_zero]; omega, v1, Keep.refl _ _⟩
  case round =>
    obtain ⟨k, a, hk, rfl, rfl, ha0, ha1, HV, hkr⟩ := hrel
    have hkWr := hk12.trans hkr
    have hbr := hb2.keep hkr (by simp)
    obtain ⟨x0, x1, x2⟩ := at3 hbr
    have hWlt := hbr.lt
    by_cases hlt : k < f.groups.length
    · obtain ⟨b, off, A3, c3, e1, g0, g1, hch, hc3, hc3'⟩ := hgr.at_ hlt
      subst e1
      have hgm := Lib.hid (List.getElem_mem hlt)
      have hS := ha1.out
      rw [dropS grS hlt] at hS
      have HV2 := HV.out
      rw [placeG_at _ k hlt] at HV2
      generalize f.groups[k] = gr at *
      unfold maxLen at hc3'
      obtain ⟨S2, hS2⟩ : ∃ S2, Hid (S2 = sumZ grS (f.groups.drop (k + 1))) := ⟨_, rfl⟩
      have hS20 : 0 ≤ S2 := by rw [hS2.out]; exact grsS_pos hRR.out (fun x hx => List.mem_of_mem_drop hx)
      obtain ⟨b1, hb1'⟩ : ∃ b1, decide ((k : Int) = g) = b1 := ⟨_, rfl⟩
      obtain ⟨T, hT0, hT1, hT2⟩ : ∃ T : Bool × Int → Int, (∀ x, T (true, x) = x) ∧ (∀ x, T (false, x) = finP f.groups.length g c p (placeG g c p (k + 1) x (f.groups.drop (k + 1)))) ∧ v = T (placeC b1 c p 0 a (gr.chunks.drop 0)) :=
        ⟨fun r => if r.1 = true then finP f.groups.length g c p r else finP f.groups.length g c p (placeG g c p (k + 1) r.2 (f.groups.drop (k + 1))), fun x => by simp [finP], fun x => by simp, by
          rw [HV2, hb1']
          simp only []
          split
          · rfl
          · rfl⟩
      replace hT0 := Lib.hid hT0
      replace hT1 := Lib.hid hT1
      replace hT2 := Lib.hid hT2
      have hs2 : Hid (a + sumZ chS (gr.chunks.drop 0) + S2 ≤ 1073741824) := by rw [Hid, List.drop_zero, hS2.out]; have e : grS gr = sumZ chS gr.chunks := rfl; rw [e] at hS; omega
      have e1 : ((k : Int) == g) = b1 := by rw [← hb1', Bool.eq_iff_iff]; simp
      clear HV HV2 hS ha1 hb1'
      have i0' : (0 : Int) ≤ (k : Int) := by omega
      have i1' : (k : Int) < (f.groups.length : Int) := by omega
      have hglen := Lib.hid (((rightF_is hRR.out).2.2.2.1 _ hgm.out).2.1)
      have G0 := Lib.hid (fun w (hw : Keep [] W w) => hw.cell g0)
      have G1 := Lib.hid (fun w (hw : Keep [] W w) => hw.cell g1)
      clear g0 g1
      go_wp2
      clear x0 x1 x2
      go_loopw [10, 12] (fun at_ i w => ∃ (j : Nat) (a : Int), j ≤ f.cols.length ∧ i = .int .i64 j ∧ at_ = .int .i64 a ∧ 0 ≤ a ∧ Hid (a + sumZ chS (gr.chunks.drop j) + S2 ≤ 1073741824) ∧ Hid (v = T (placeC b1 c p j a (gr.chunks.drop j))) ∧ Keep [] wr w) (fun _ i _ => f.cols.length - (intOf i).toNat)
      case atStart => exact ⟨0, a, Nat.zero_le _, rfl, rfl, ha0, hs2, hT2.out, Keep.refl _ _⟩
      case round =>
        obtain ⟨j, a, hj, rfl, rfl, ha0, ha1, HV, hkj⟩ := hrel
        have hkWj := hkWr.trans hkj
        have hbj := hbr.keep hkj (by simp)
        obtain ⟨x0, x1, x2⟩ := at3 hbj
        by_cases hjc : j < f.cols.length
        · have hjt : j < gr.chunks.length := by have := hglen.out; omega
          have g1 := G1.out _ hkWj
          obtain ⟨b', off', A4, c4, e4, d0, hpg, hc4, hc4'⟩ := hch.at_ hjt
          subst e4
          replace d0 := hkWj.cell d0
          have hlm := Lib.hid (List.getElem_mem hjt)
          have hS := ha1.out
          rw [dropS chS hjt] at hS
          have HV2 := HV.out
          rw [placeC_at _ j hjt] at HV2
          generalize gr.chunks[j] = l at *
          unfold maxLen at hc4'
          obtain ⟨S3, hS3⟩ : ∃ S3, Hid (S3 = sumZ chS (gr.chunks.drop (j + 1)) + S2) := ⟨_, rfl⟩
          have hS30 : 0 ≤ S3 := by have := chsS_pos hRR.out hgm.out (ls := gr.chunks.drop (j + 1)) (fun x hx => List.mem_of_mem_drop hx); rw [hS3.out]; omega
          obtain ⟨b2, hb2'⟩ : ∃ b2, decide ((j : Int) = c) = b2 := ⟨_, rfl⟩
          obtain ⟨T2, hU0, hU1, hU2⟩ : ∃ T2 : Bool × Int → Int, (∀ x, T2 (true, x) = x) ∧ (∀ x, T2 (false, x) = T (placeC b1 c p (j + 1) x (gr.chunks.drop (j + 1)))) ∧ v = T2 (placeP (b1 && b2) p 0 a (l.drop 0)) :=
            ⟨fun r => if r.1 = true then T r else T (placeC b1 c p (j + 1) r.2 (gr.chunks.drop (j + 1))), fun x => by simp only [if_true]; exact hT0.out x, fun x => by simp, by
              rw [HV2, hb2']
              simp only []
              split
              · rfl
              · rfl⟩
          replace hU0 := Lib.hid hU0
          replace hU1 := Lib.hid hU1
          replace hU2 := Lib.hid hU2
          have hs3 : Hid (a + chS (l.drop 0) + S3 ≤ 1073741824) := by rw [Hid, List.drop_zero, hS3.out]; omega
          have e2 : ((j : Int) == c) = b2 := by rw [← hb2', Bool.eq_iff_iff]; simp
          clear HV HV2 hS ha1 hb2'
          have j0' : (0 : Int) ≤ (j : Int) := by omega
          have j1' : (j : Int) < (gr.chunks.length : Int) := by omega
          have j2' : (j : Int) < (f.cols.length : Int) := by omega
          go_wp2
          go_loopw [10, 14] (fun at_ i w => ∃ (m : Nat) (a : Int), m ≤ l.length ∧ i = .int .i64 m ∧ at_ = .int .i64 a ∧ 0 ≤ a ∧ Hid (a + chS (l.drop m) + S3 ≤ 1073741824) ∧ Hid (v = T2 (placeP (b1 && b2) p m a (l.drop m))) ∧ Keep [] wr w) (fun _ i _ => l.length - (intOf i).toNat)
          case atStart => exact ⟨0, a, Nat.zero_le _, rfl, rfl, ha0, hs3, hU2.out, Keep.refl _ _⟩
          case round =>
            obtain ⟨m, a, hm, rfl, rfl, ha0, ha1, HV, hkm⟩ := hrel
            have hkWm := hkWj.trans hkm
            by_cases hmt : m < l.length
            · obtain ⟨pb, poff, e5, _, _, ⟨z0, z1⟩, ⟨z2, z3⟩, ⟨z4, z5, z6, z7, z8⟩, ⟨z9, z10, z11, z12, z13⟩⟩ := (hpg.pure hkWm).at14 hmt
              subst e5
              have hsz := sizes_pos hRR.out _ hgm.out _ hlm.out _ (List.getElem_mem hmt)
              have hS := ha1.out
              unfold chS at hS
              rw [dropS pgS hmt] at hS
              have hdp := chS_pos hRR.out hgm.out (l := l.drop (m + 1)) (fun x hx => ⟨l, hlm.out, List.mem_of_mem_drop hx⟩)
              have HV2 := Lib.hid HV.out
              have HP := Lib.hid (placeP_at (hit := b1 && b2) (p := p) (at_ := a) l m hmt)
              generalize l[m] = pg at *
              have es1 : pgS pg = pg.size.toInt := rfl
              have es2 : chS (l.drop (m + 1)) = sumZ pgS (l.drop (m + 1)) := rfl
              rw [es1, ← es2] at hS
              have hs4 : Hid (a + pg.size.toInt + chS (l.drop (m + 1)) + S3 ≤ 1073741824) := by rw [Hid]; omega
              have hbd : a + pg.size.toInt ≤ 1073741824 := by omega
              obtain ⟨b3, hb3'⟩ : ∃ b3, decide ((m : Int) = p) = b3 := ⟨_, rfl⟩
              have e3 : ((m : Int) == p) = b3 := by rw [← hb3', Bool.eq_iff_iff]; simp
              have hyes : b1 = true → b2 = true → b3 = true → Hid (v = a) := fun h1 h2 h3 => by
                rw [Hid, HV2.out, HP.out, if_pos ⟨by simp [h1, h2], by rw [h3] at hb3'; exact of_decide_eq_true hb3'⟩]
                exact hU0.out a
              have hno : ¬ (b1 = true ∧ b2 = true ∧ b3 = true) → Hid (v = T2 (placeP (b1 && b2) p (m + 1) (a + pg.size.toInt) (l.drop (m + 1)))) := fun h => by
                rw [Hid, HV2.out, HP.out, if_neg]
                rintro ⟨h1, h2⟩
                simp at h1
                exact h ⟨h1.1, h1.2, by rw [← hb3']; exact decide_eq_true h2⟩
              replace hyes := Lib.hid hyes
              replace hno := Lib.hid hno
              clear HV HV2 HP hS ha1 hb3' hdp es1 es2
              have m0' : (0 : Int) ≤ (m : Int) := by omega
              have m1' : (m : Int) < (l.length : Int) := by omega
              cases b1 with
              | false =>
                have v2 := hno.out (by simp)
                go_wp2
                go_roundw
                case rel => exact ⟨m + 1, _, by omega, by go_num, rfl, by omega, hs4, v2, hkm⟩
                case measure => simp [intOf]; omega
              | true =>
                cases b2 with
                | false =>
                  have v2 := hno.out (by simp)
                  go_wp2
                  go_roundw
                  case rel => exact ⟨m + 1, _, by omega, by go_num, rfl, by omega, hs4, v2, hkm⟩
                  case measure => simp [intOf]; omega
                | true =>
                  cases b3 with
                  | false =>
                    have v2 := hno.out (by simp)
                    go_wp2
                    go_roundw
                    case rel => exact ⟨m + 1, _, by omega, by go_num, rfl, by omega, hs4, v2, hkm⟩
                    case measure => simp [intOf]; omega
                  | true =>
                    have v2 := hyes.out rfl rfl rfl
                    go_wp2
                    go_ret
                    exact ⟨ret_i v2.out.symm, hkWm⟩
            · obtain rfl : m = l.length := by omega
              have HX : Hid (v = T (placeC b1 c p (j + 1) a (gr.chunks.drop (j + 1)))) := by rw [Hid, HV.out, List.drop_length, placeP]; exact hU1.out a
              have hs5 : Hid (a + sumZ chS (gr.chunks.drop (j + 1)) + S2 ≤ 1073741824) := by have := ha1.out; rw [List.drop_length, hS3.out] at this; have e : chS ([] : List Pg) = 0 := rfl; rw [e] at this; rw [Hid]; omega
              clear HV
              go_wp2
              go_roundw
              case rel => exact ⟨j + 1, a, by omega, by go_num, rfl, ha0, hs5, HX, hkj.trans hkm⟩
              case measure => simp [intOf]; omega
        · obtain rfl : j = f.cols.length := by omega
          rw [← hglen.out] at HV ha1
          have HX : Hid (v = finP f.groups.length g c p (placeG g c p (k + 1) a (f.groups.drop (k + 1)))) := by rw [Hid, HV.out, List.drop_length, placeC]; exact hT1.out a
          have hs5 : Hid (a + sumZ grS (f.groups.drop (k + 1)) ≤ 1073741824) := by have := ha1.out; rw [List.drop_length, hS2.out] at this; rw [Hid]; simp only [sumZ] at this; omega
          clear HV
          go_wp2
          go_roundw
          case rel => exact ⟨k + 1, a, by omega, by go_num, rfl, ha0, hs5, HX, hkr.trans hkj⟩
          case measure => simp [intOf]; omega
    · obtain rfl : k = f.groups.length := by omega
      rw [List.drop_length, placeG] at HV
      have hend : Hid (v = if g = (f.groups.length : Int) ∧ c = 0 ∧ p = 0 then a else -1) := HV
      obtain ⟨b1, hb1'⟩ : ∃ b1, decide (g = (f.groups.length : Int)) = b1 := ⟨_, rfl⟩
      obtain ⟨b2, hb2'⟩ : ∃ b2, decide (c = 0) = b2 := ⟨_, rfl⟩
      obtain ⟨b3, hb3'⟩ : ∃ b3, decide (p = 0) = b3 := ⟨_, rfl⟩
      have e1 : (g == (f.groups.length : Int)) = b1 := by rw [← hb1', Bool.eq_iff_iff]; simp
      have e2 : (c == 0) = b2 := by rw [← hb2', Bool.eq_iff_iff]; simp
      have e3 : (p == 0) = b3 := by rw [← hb3', Bool.eq_iff_iff]; simp
      have hyes : b1 = true → b2 = true → b3 = true → Hid (v = a) := fun h1 h2 h3 => by
        rw [h1] at hb1'; rw [h2] at hb2'; rw [h3] at hb3'
        rw [Hid, hend.out, if_pos ⟨of_decide_eq_true hb1', of_decide_eq_true hb2', of_decide_eq_true hb3'⟩]
      have hno : ¬ (b1 = true ∧ b2 = true ∧ b3 = true) → Hid (v = -1) := fun h => by
        rw [Hid, hend.out, if_neg]
        rintro ⟨h1, h2, h3⟩
        exact h ⟨by rw [← hb1']; exact decide_eq_true h1, by rw [← hb2']; exact decide_eq_true h2, by rw [← hb3']; exact decide_eq_true h3⟩
      replace hyes := Lib.hid hyes
      replace hno := Lib.hid hno
      clear HV hend hb1' hb2' hb3'
      cases b1 with
      | false =>
        have v2 := hno.out (by simp)
        go_wp2
        go_ret
        exact ⟨ret_i v2.out.symm, hkWr⟩
      | true =>
        cases b2 with
        | false =>
          have v2 := hno.out (by simp)
          go_wp2
          go_ret
          exact ⟨ret_i v2.out.symm, hkWr⟩
        | true =>
          cases b3 with
          | false =>
            have v2 := hno.out (by simp)
            go_wp2
            go_ret
            exact ⟨ret_i v2.out.symm, hkWr⟩
          | true =>
            have v2 := hyes.out rfl rfl rfl
            go_wp2
            go_ret
            exact ⟨ret_i v2.out.symm, hkWr⟩
end Go.Proofs.Ytcpimhefclfbaaa
