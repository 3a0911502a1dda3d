/-
  Where pages of a right footer stand, one behind the other: no program here.
  Regions whose order is open, whole, as Qk has them, behind a wall: what is left is not looked into while a step is shown (a chain of passed-over operations would be).
  The walks of layer 19's statements: pages stand one behind the other.
-/
import Derived.Test.YtcpimhefclfbaaaFFF
import Derived.Test.YtcpimhefclfbaaaFFC
import Derived.Test.YtcpimhefclfbaaaFFI
namespace Go.Proofs.Ytcpimhefclfbaaa
open Go Go.RowKit
set_option maxRecDepth 10000
set_option linter.unusedVariables false
set_option linter.unusedSimpArgs false

/-- How many bytes stand ahead of a group; of a chunk; of a page. -/
def toG (f : Ftr) (g : Nat) : Int := sumZ grS (f.groups.take g)
theorem sum_take {α : Type} (f : α → Int) (l : List α) {k : Nat} (hk : k < l.length) : sumZ f (l.take (k + 1)) = sumZ f (l.take k) + f l[k] := by
  rw [List.take_succ_eq_append_getElem hk, sumZ_append]
  simp [sumZ]
theorem placeG_first {f : Ftr} {g c p : Int} (h : rightF f = true) : placeF f g c p = if (placeG g c p 0 0 f.groups).1 = true then (placeG g c p 0 0 f.groups).2 else if g = f.groups.length ∧ c = 0 ∧ p = 0 then (placeG g c p 0 0 f.groups).2 else -1 := by
  unfold placeF
  rw [if_neg (show ¬ (rightF f = false) by simp [h])]
theorem place_page {f : Ftr} (h : rightF f = true) {g c p : Nat} (hg : g < f.groups.length) (hc : c < f.groups[g].chunks.length) (hp : p < f.groups[g].chunks[c].length) :
    placeF f g c p = toG f g + sumZ chS (f.groups[g].chunks.take c) + sumZ pgS (f.groups[g].chunks[c].take p) := by
  have e := placeG_is (g : Int) (c : Int) (p : Int) f.groups 0 0
  have e1 : ((g : Int) - ((0 : Nat) : Int)).toNat = g := by omega
  have eg : f.groups.getD g default = f.groups[g] := by simp [List.getElem?_eq_getElem hg]
  have ec : f.groups[g].chunks.getD (c : Int).toNat [] = f.groups[g].chunks[c] := by simp [List.getElem?_eq_getElem hc]
  rw [e1, eg, ec, if_pos (by refine ⟨?_, ?_, ?_, ?_, ?_, ?_⟩ <;> omega)] at e
  rw [placeG_first h, e]
  simp only [if_true, Int.toNat_natCast, Int.zero_add]
  rfl
theorem place_none {f : Ftr} (h : rightF f = true) {g c : Nat} (hg : g < f.groups.length) (hc : c < f.groups[g].chunks.length) : placeF f g c (f.groups[g].chunks[c].length : Nat) = -1 := by
  have e := placeG_is (g : Int) (c : Int) (f.groups[g].chunks[c].length : Int) f.groups 0 0
  have e1 : ((g : Int) - ((0 : Nat) : Int)).toNat = g := by omega
  have eg : f.groups.getD g default = f.groups[g] := by simp [List.getElem?_eq_getElem hg]
  have ec : f.groups[g].chunks.getD (c : Int).toNat [] = f.groups[g].chunks[c] := by simp [List.getElem?_eq_getElem hc]
  rw [e1, eg, ec, if_neg (by rintro ⟨_, _, _, _, _, h6⟩; omega)] at e
  rw [placeG_first h, e]
  simp only [Bool.false_eq_true, if_false]
  rw [if_neg (by rintro ⟨h1, _⟩; omega)]
theorem place_end {f : Ftr} (h : rightF f = true) : placeF f (f.groups.length : Nat) 0 0 = toG f f.groups.length := by
  have e := placeG_is (f.groups.length : Int) 0 0 f.groups 0 0
  rw [if_neg (by rintro ⟨_, h1, _⟩; omega)] at e
  rw [placeG_first h, e]
  simp only [Bool.false_eq_true, if_false, and_self, if_true]
  unfold toG
  rw [List.take_length]
  omega
theorem spans_page {f : Ftr} (h : rightF f = true) {g c : Nat} (hg : g < f.groups.length) (hc : c < f.cols.length) (hc' : c < f.groups[g].chunks.length) :
    (spansF f (g : Nat) (c : Nat)).length = f.groups[g].chunks[c].length ∧ ∀ p (hp : p < f.groups[g].chunks[c].length) (hp' : p < (spansF f (g : Nat) (c : Nat)).length), (spansF f (g : Nat) (c : Nat))[p] = (rowsTo f g + sumZ pgR (f.groups[g].chunks[c].take p), rowsTo f g + sumZ pgR (f.groups[g].chunks[c].take p) + f.groups[g].chunks[c][p].rows.toInt) := by
  have e := spansF_ok h hg hc hc'
  refine ⟨by rw [e, spansP_len], fun p hp hp' => ?_⟩
  have h1 : (spansF f (g : Nat) (c : Nat))[p]? = some ((spansF f (g : Nat) (c : Nat))[p]) := List.getElem?_eq_getElem hp'
  have h2 : (spansF f (g : Nat) (c : Nat))[p]? = some (rowsTo f g + sumZ pgR (f.groups[g].chunks[c].take p), rowsTo f g + sumZ pgR (f.groups[g].chunks[c].take p) + f.groups[g].chunks[c][p].rows.toInt) := by
    rw [e, spansP_at, List.getElem?_eq_getElem hp]
    rfl
  exact Option.some.inj (h1.symm.trans h2)
def StandsC (f : Ftr) (k j : Nat) (l : List Pg) (u a : Nat → Int) : Prop :=
  l.length ≠ 0 ∧ l.length ≤ 65536 ∧ placeF f (k : Nat) (j : Nat) (l.length : Nat) = -1 ∧ (spansF f (k : Nat) (j : Nat)).length = l.length ∧
  ∀ m (hm : m < l.length), (spansF f (k : Nat) (j : Nat))[m]? = some (u m, u (m + 1)) ∧ placeF f (k : Nat) (j : Nat) (m : Nat) = a m ∧ u (m + 1) = u m + l[m].rows.toInt ∧ a (m + 1) = a m + l[m].size.toInt ∧
    0 ≤ u m ∧ u m ≤ 65536 ∧ 0 ≤ u (m + 1) ∧ u (m + 1) ≤ 65536 ∧ 0 ≤ a m ∧ a m ≤ 1073741824 ∧ 0 ≤ a (m + 1) ∧ a (m + 1) ≤ 1073741824
theorem sum_take_le {α : Type} (f : α → Int) (l : List α) (h : ∀ x ∈ l, 0 ≤ f x) (k : Nat) : 0 ≤ sumZ f (l.take k) ∧ sumZ f (l.take k) ≤ sumZ f l := by
  have e1 := sumZ_pos (f := f) (l.take k) (fun x hx => h x (List.mem_of_mem_take hx))
  have e2 := sumZ_pos (f := f) (l.drop k) (fun x hx => h x (List.mem_of_mem_drop hx))
  have e3 := sumZ_append f (l.take k) (l.drop k)
  rw [List.take_append_drop] at e3
  omega
theorem sum_take_lt {α : Type} (f : α → Int) (l : List α) (h : ∀ x ∈ l, 0 ≤ f x) {k : Nat} (hk : k < l.length) : 0 ≤ sumZ f (l.take k) ∧ sumZ f (l.take k) + f l[k] ≤ sumZ f l := by
  have e1 := sum_take_le f l h k
  have e2 := sum_take_le f l h (k + 1)
  rw [sum_take f l hk] at e2
  omega
/-- What stands in a right footer, place by place. -/
theorem stands {f : Ftr} (h : rightF f = true) : ∃ t r : Nat → Int, t 0 = 0 ∧ r 0 = 0 ∧ r f.groups.length = f.rows.toInt ∧ placeF f (f.groups.length : Nat) 0 0 = t f.groups.length ∧ (∀ k, 0 ≤ r k ∧ r k ≤ 65536) ∧
    ∀ (k : Nat) (hk : k < f.groups.length), r (k + 1) = r k + f.groups[k].rows.toInt ∧ f.groups[k].chunks.length = f.cols.length ∧
      ∃ b : Nat → Int, b 0 = t k ∧ b f.cols.length = t (k + 1) ∧ ∀ (j : Nat) (hj : j < f.cols.length) (hj' : j < f.groups[k].chunks.length),
        ∃ u a : Nat → Int, StandsC f k j (f.groups[k].chunks[j]) u a ∧ u 0 = r k ∧ u (f.groups[k].chunks[j].length) = r (k + 1) ∧ a 0 = b j ∧ a (f.groups[k].chunks[j].length) = b (j + 1) := by
  obtain ⟨_, _, h3, h4, h5, h6⟩ := rightF_is h
  have hsz := sizes_pos h
  refine ⟨toG f, rowsTo f, by simp [toG, sumZ], by simp [rowsTo, sumZ], by unfold rowsTo; rw [List.take_length, h5], place_end h, rowsTo_le h, fun k hk => ?_⟩
  have hgm := List.getElem_mem hk
  have hgl := (h4 _ hgm).2.1
  refine ⟨rowsTo_succ f hk, hgl, fun j => toG f k + sumZ chS (f.groups[k].chunks.take j), by simp [sumZ], ?_, fun j hj hj' => ?_⟩
  · show toG f k + sumZ chS (f.groups[k].chunks.take f.cols.length) = toG f (k + 1)
    unfold toG
    rw [← hgl, List.take_length, sum_take grS f.groups hk]
    rfl
  obtain ⟨_, hp, hsum, hg65, hg1, _⟩ := chunk_is h hk hj
  have hlm := List.getElem_mem hj'
  obtain ⟨sp1, sp2⟩ := spans_page h hk hj hj'
  have hpos : ∀ p ∈ f.groups[k].chunks[j], 0 ≤ pgR p := fun p hp' => by have := (pageOk_is (hp p hp')).1; unfold pgR; omega
  have hposS : ∀ p ∈ f.groups[k].chunks[j], 0 ≤ pgS p := fun p hp' => by have := hsz _ hgm _ hlm p hp'; unfold pgS; omega
  have hposC : ∀ l ∈ f.groups[k].chunks, 0 ≤ chS l := fun l hl => chS_pos h hgm (fun p hp' => ⟨l, hl, hp'⟩)
  have hposG : ∀ g ∈ f.groups, 0 ≤ grS g := fun g hg => chsS_pos h hg (fun l hl => hl)
  have b1 := sum_take_lt grS f.groups hposG hk
  have b2 := sum_take_lt chS f.groups[k].chunks hposC hj'
  have eg : grS f.groups[k] = sumZ chS f.groups[k].chunks := rfl
  have ec : chS f.groups[k].chunks[j] = sumZ pgS f.groups[k].chunks[j] := rfl
  have hr1 := rowsTo_le h k
  have hr2 := rowsTo_le h (k + 1)
  rw [rowsTo_succ f hk] at hr2
  have hlenp := sumZ_len (f := pgR) _ (fun p hp' => (pageOk_is (hp p hp')).1)
  refine ⟨fun m => rowsTo f k + sumZ pgR (f.groups[k].chunks[j].take m), fun m => toG f k + sumZ chS (f.groups[k].chunks.take j) + sumZ pgS (f.groups[k].chunks[j].take m), ⟨?_, ?_, place_none h hk hj', sp1, fun m hm => ?_⟩, by simp [sumZ], ?_, by simp [sumZ], ?_⟩
  · intro e
    have : f.groups[k].chunks[j] = [] := List.eq_nil_of_length_eq_zero e
    rw [this] at hsum
    simp only [sumZ] at hsum
    omega
  · omega
  · have q1 := sum_take_lt pgR _ hpos hm
    have q2 := sum_take_lt pgS _ hposS hm
    have q3 := sum_take pgR f.groups[k].chunks[j] hm
    have q4 := sum_take pgS f.groups[k].chunks[j] hm
    have er : pgR f.groups[k].chunks[j][m] = f.groups[k].chunks[j][m].rows.toInt := rfl
    have es : pgS f.groups[k].chunks[j][m] = f.groups[k].chunks[j][m].size.toInt := rfl
    have hp0 := hpos _ (List.getElem_mem hm)
    have hs0 := hposS _ (List.getElem_mem hm)
    have hm' : m < (spansF f (k : Nat) (j : Nat)).length := by omega
    refine ⟨?_, place_page h hk hj' hm, ?_, ?_, ?_⟩
    · rw [List.getElem?_eq_getElem hm', sp2 m hm hm']
      congr 2
      show _ = rowsTo f k + sumZ pgR (f.groups[k].chunks[j].take (m + 1))
      rw [q3, er]
      omega
    · show rowsTo f k + sumZ pgR (f.groups[k].chunks[j].take (m + 1)) = rowsTo f k + sumZ pgR (f.groups[k].chunks[j].take m) + _
      rw [q3, er]
      omega
    · show toG f k + sumZ chS (f.groups[k].chunks.take j) + sumZ pgS (f.groups[k].chunks[j].take (m + 1)) = toG f k + sumZ chS (f.groups[k].chunks.take j) + sumZ pgS (f.groups[k].chunks[j].take m) + _
      rw [q4, es]
      omega
    · show 0 ≤ rowsTo f k + sumZ pgR (f.groups[k].chunks[j].take m) ∧ rowsTo f k + sumZ pgR (f.groups[k].chunks[j].take m) ≤ 65536 ∧ 0 ≤ rowsTo f k + sumZ pgR (f.groups[k].chunks[j].take (m + 1)) ∧ rowsTo f k + sumZ pgR (f.groups[k].chunks[j].take (m + 1)) ≤ 65536 ∧ 0 ≤ toG f k + sumZ chS (f.groups[k].chunks.take j) + sumZ pgS (f.groups[k].chunks[j].take m) ∧ toG f k + sumZ chS (f.groups[k].chunks.take j) + sumZ pgS (f.groups[k].chunks[j].take m) ≤ 1073741824 ∧ 0 ≤ toG f k + sumZ chS (f.groups[k].chunks.take j) + sumZ pgS (f.groups[k].chunks[j].take (m + 1)) ∧ toG f k + sumZ chS (f.groups[k].chunks.take j) + sumZ pgS (f.groups[k].chunks[j].take (m + 1)) ≤ 1073741824
      unfold toG
      rw [q3, q4]
      omega
  · show rowsTo f k + sumZ pgR (f.groups[k].chunks[j].take f.groups[k].chunks[j].length) = rowsTo f (k + 1)
    rw [List.take_length, hsum, rowsTo_succ f hk]
  · show toG f k + sumZ chS (f.groups[k].chunks.take j) + sumZ pgS (f.groups[k].chunks[j].take f.groups[k].chunks[j].length) = toG f k + sumZ chS (f.groups[k].chunks.take (j + 1))
    rw [List.take_length, sum_take chS f.groups[k].chunks hj', ec]
    omega
end Go.Proofs.Ytcpimhefclfbaaa

namespace Go.Proofs.Ytcpimhefclfbaaa
open Go Go.RowKit
set_option linter.unusedVariables false
set_option linter.unusedSimpArgs false

structure QQ (P : Program) (ops : Array Oper) (C : World → Prop) (Qa : Act → Prop) (l : List Oper) (a : Act) : Prop where
  out : wpQuiet P ops C Qa l a
section
variable {P : Program} {ops : Array Oper} {C : World → Prop} {Qa : Act → Prop} {a : Act} {o : Oper} {rest : List Oper}
theorem wp_region_qq {id : Nat} {Q : Exit → Act → World → Prop} {w0 w : World} {l : List Oper} (hm : P.follows .mixedOrders = true) (hB : Region.lexB .any l.toArray = true) (hw0 : Keep [] w0 w)
    (h : QQ P l.toArray (fun w' => Keep [] w0 w') (fun a' => ∀ w', Keep [] w0 w' → Q .normal a' w') l a) : (Code.region id l.toArray true).wp P Q a w :=
  wp_region_quietK hm hB hw0 h.out
theorem qq_val {v : Value} (hg : Region.wanted o (yielded ops a.tmps) = true) (h : ∀ w, C w → Gives v w ((execOp a.eval o).run P w)) (hr : QQ P ops C Qa rest (a.put o.dst v)) : QQ P ops C Qa (o :: rest) a := ⟨q_val hg h hr.out⟩
theorem qq_skip (hg : Region.wanted o (yielded ops a.tmps) = false) (hr : QQ P ops C Qa rest (a.put o.dst undef)) : QQ P ops C Qa (o :: rest) a := ⟨q_skip hg hr.out⟩
theorem qq_call {v : Value} {f : FuncId} {args : Array Value} (hg : Region.wanted o (yielded ops a.tmps) = true) (h : ∀ w, C w → Enters f args w ((execOp a.eval o).run P w))
    (hc : ∀ w, C w → Calls P f args w fun e w' => e = .returned v ∧ C w') (hr : QQ P ops C Qa rest (a.put o.dst v)) : QQ P ops C Qa (o :: rest) a := ⟨q_call hg h hc hr.out⟩
theorem qq_nil (h : Qa a) : QQ P ops C Qa [] a := ⟨wpQuiet_nil h⟩
end
end Go.Proofs.Ytcpimhefclfbaaa

namespace Go.Proofs.Ytcpimhefclfbaaa
open Go Go.RowKit
set_option maxRecDepth 10000
set_option linter.unusedVariables false
set_option linter.unusedSimpArgs false

theorem Sps.cell {X : List Nat} {w : World} {A : Option Addr} {n c m : Nat} {l : List (Int × Int)} {x y : Int} (h : Sps X w A n c l) (hm : l[m]? = some (x, y)) :
    ∃ b off, A = some ⟨b, off, none⟩ ∧ w.cell? ⟨b, off + m * 2, none⟩ = some (.int .i64 x) ∧ w.cell? ⟨b, off + m * 2 + 1, none⟩ = some (.int .i64 y) := by
  obtain ⟨hk, e⟩ := List.getElem?_eq_some_iff.1 hm
  obtain ⟨b, off, rfl, _, _, h0, h1⟩ := Sps.at2 h hk
  rw [e] at h0 h1
  exact ⟨b, off, rfl, h0, h1⟩

set_option maxHeartbeats 16000000 in
theorem FooterStands_walk (F : Value) (f : Ftr) (W : World) (h : FtrR [] W F f) :
    Calls Try.prog 7 #[F] W fun e W' => e = .returned (.bool true) ∧ Below W.heap.size W W' := by
  have hF := h
  obtain ⟨A, c, G, rfl, hcols, hgr, ht⟩ := h
  obtain ⟨A2, c2, rfl, hg1, hg2⟩ := hgr.form
  have hcc := hcols.cap
  have hcl := hcols.le
  unfold maxLen at hg2
  obtain ⟨W1, hW1⟩ : ∃ W1, W.alloc (.cells #[.slice A f.cols.length c, .int .i64 f.rows.toInt, .slice A2 f.groups.length c2] 25) = W1 := ⟨_, rfl⟩
  have hk1 : Keep [] W W1 := by rw [← hW1]; exact (Keep.refl _ _).alloc _
  have hb1 : Blk W1 W.heap.size 25 [.slice A f.cols.length c, .int .i64 f.rows.toInt, .slice A2 f.groups.length c2] := by rw [← hW1]; exact Blk.new W _ _
  have S := Lib.hid (small19 W1)
  go_enter Try.func7, Try.ntmps7
  go_wp2_with fail
  refine S.out.mono ?_
  rintro e w1 ⟨rfl, hk2⟩
  have hW1' := hk1.trans hk2
  have hb2 := hb1.keep hk2 (by simp)
  obtain ⟨x0, x1, x2⟩ := at3 hb2
  have FW := Lib.hid (few19 w1 (hF.pure hW1'))
  clear S hW1
  go_wp2_with fail
  refine FW.out.mono ?_
  rintro e w2 ⟨v, rfl, hk3⟩
  have hW2 := hW1'.trans hk3
  have hb3 := hb2.keep hk3 (by simp)
  clear FW
  cases v with
  | false =>
    go_wp2
    go_ret
    exact ⟨rfl, hW2.below⟩
  | true =>
  obtain ⟨x0, x1, x2⟩ := at3 hb3
  have R1 := right_ref w2 (hF.pure hW2)
  cases hR : rightF f with
  | false =>
    rw [hR] at R1
    replace R1 := Lib.hid R1
    clear hR
    go_wp2_with fail
    refine R1.out.mono ?_
    rintro e w3 ⟨rfl, hk4⟩
    go_wp2
    go_ret
    exact ⟨rfl, (hW2.trans hk4).below⟩
  | true =>
  rw [hR] at R1
  replace R1 := Lib.hid R1
  obtain ⟨t, r, t0, r0, rn, pn, hr, hall⟩ := stands hR
  replace hall := Lib.hid hall
  replace hr := Lib.hid hr
  replace t0 := Lib.hid t0
  replace r0 := Lib.hid r0
  replace rn := Lib.hid rn
  replace pn := Lib.hid pn
  have hPL := Lib.hid (fun (g c p : Int) w (hw : Keep [] W w) (hpi : -9223372036854775808 ≤ p ∧ p ≤ 9223372036854775807) => place_prog g c p w (hF.pure hw) hpi)
  have hSP := Lib.hid (fun (g c : Int) w (hw : Keep [] W w) hgi hci => spans_prog g c w (hF.pure hw) hgi hci)
  clear hR
  go_wp2_with fail
  refine R1.out.mono ?_
  rintro e w3 ⟨rfl, hk4⟩
  have hW3 := hW2.trans hk4
  have hb4 := hb3.keep hk4 (by simp)
  clear R1 x0 x1 x2
  go_wp2
  go_loopw [5, 6, 7] (fun at_ rw_ g wr => ∃ k : Nat, k ≤ f.groups.length ∧ at_ = .int .i64 (t k) ∧ rw_ = .int .i64 (r k) ∧ g = .int .i64 k ∧ Keep [] w3 wr) (fun _ _ g _ => f.groups.length - (intOf g).toNat)
  case atStart => exact ⟨0, Nat.zero_le _, by rw [t0.out], by rw [r0.out], rfl, Keep.refl _ _⟩
  case round =>
    obtain ⟨k, hk, rfl, rfl, rfl, hkr⟩ := hrel
    have hkWr := hW3.trans hkr
    have hbr := hb4.keep hkr (by simp)
    obtain ⟨x0, x1, x2⟩ := at3 hbr
    by_cases hlt : k < f.groups.length
    · obtain ⟨b, off, A3, c3, e1, g0, g1, hch, hc3, hc3'⟩ := hgr.at_ hlt
      subst e1
      obtain ⟨hrs, hlen, bb, b0, bn, hbb⟩ := hall.out k hlt
      have hr1 := hr.out k
      have hr2 := hr.out (k + 1)
      generalize f.groups[k] = gr at g0 g1 hch hc3 hc3' hrs hlen hbb
      replace hbb := Lib.hid hbb
      replace b0 := Lib.hid b0
      replace bn := Lib.hid bn
      replace hrs := Lib.hid hrs
      replace hlen := Lib.hid hlen
      have G0 := Lib.hid (fun w (hw : Keep [] W w) => hw.cell g0)
      have G1 := Lib.hid (fun w (hw : Keep [] W w) => hw.cell g1)
      clear g0 g1
      unfold maxLen at hc3'
      have i0' : (0 : Int) ≤ (k : Int) := by omega
      have i1' : (k : Int) < (f.groups.length : Int) := by omega
      obtain ⟨R, hR⟩ : ∃ R, Hid (r k = R) := ⟨_, rfl⟩
      obtain ⟨T, hT⟩ : ∃ T, Hid (t k = T) := ⟨_, rfl⟩
      rw [hR.out, hT.out]
      go_wp2
      go_loopw [5, 8] (fun at_ cc w => ∃ j : Nat, j ≤ f.cols.length ∧ at_ = .int .i64 (bb j) ∧ cc = .int .i64 j ∧ Keep [] wr w) (fun _ cc _ => f.cols.length - (intOf cc).toNat)
      case atStart => exact ⟨0, Nat.zero_le _, by rw [b0.out, hT.out], rfl, Keep.refl _ _⟩
      case round =>
        obtain ⟨j, hj, rfl, rfl, hkj⟩ := hrel
        have hkWj := hkWr.trans hkj
        obtain ⟨x0, x1, x2⟩ := at3 (hbr.keep hkj (by simp))
        have g0 := G0.out wr hkWj
        have g1 := G1.out wr hkWj
        by_cases hjt : j < f.cols.length
        · have hjt' : j < gr.chunks.length := by rw [hlen.out]; exact hjt
          obtain ⟨b', off', A4, c4, e4, d0, hpg, hc4, hc4'⟩ := hch.at_ hjt'
          subst e4
          obtain ⟨u, a, hST, u0, un, a0, an⟩ := hbb.out j hjt hjt'
          replace d0 := hkWj.cell d0
          generalize gr.chunks[j] = l at *
          obtain ⟨hl0, hl65, hpn, hsl, hst⟩ := hST
          replace hst := Lib.hid hst
          replace hpn := Lib.hid hpn
          replace u0 := Lib.hid u0
          replace un := Lib.hid un
          replace a0 := Lib.hid a0
          replace an := Lib.hid an
          unfold maxLen at hc4'
          have j0' : (0 : Int) ≤ (j : Int) := by omega
          have j1' : (j : Int) < (f.cols.length : Int) := by omega
          have j2' : (j : Int) < (gr.chunks.length : Int) := by omega
          have SP := Lib.hid (hSP.out k j wr hkWj (by omega) (by omega))
          generalize spansF f (k : Nat) (j : Nat) = sv at *
          go_wp2_with fail
          refine SP.out.mono ?_
          rintro e w5 ⟨B, n5, d5, rfl, hk5, hS5⟩
          replace hS5 := hS5 [] (by simp)
          obtain rfl : l.length = n5 := by rw [← hsl]; exact hS5.len
          have hS5c := hS5.cap
          have hS5l := hS5.le
          have hkW5 := hkWj.trans hk5
          have hb5 := (hbr.keep hkj (by simp)).keep hk5 (by simp)
          obtain ⟨q, hq⟩ : ∃ q, Hid (l.length = q + 1) := ⟨l.length - 1, by rw [Hid]; omega⟩
          have hs0 := (hst.out 0 (by omega)).1
          have hs1 := (hst.out q (by rw [hq.out]; omega)).1
          rw [u0.out, hR.out] at hs0
          rw [← hq.out, un.out, hrs.out, hR.out] at hs1
          rw [hR.out] at hr1
          rw [hrs.out, hR.out] at hr2
          have SC := Lib.hid (fun m x y (hm : sv[m]? = some (x, y)) w (hw : Keep [] w5 w) => Sps.cell (Rd.pure hS5 hw) hm)
          obtain ⟨sb, so, eB, _, _⟩ := SC.out _ _ _ hs0 w5 (Keep.refl _ _)
          subst eB
          replace hs0 := Lib.hid hs0
          replace hs1 := Lib.hid hs1
          obtain ⟨R2, hR2⟩ : ∃ R2, Hid (R + gr.rows.toInt = R2) := ⟨_, rfl⟩
          rw [hR2.out] at hr2 hs1
          have hsum : R + gr.rows.toInt = R2 := hR2.out
          have hqI : (l.length : Int) - 1 = (q : Int) := by have := hq.out; omega
          have q0' : (0 : Int) ≤ (q : Int) := by omega
          have q1' : (q : Int) < (l.length : Int) := by omega
          have l1' : (0 : Int) < (l.length : Int) := by omega
          have hR2w : IntKind.i64.wrap R2 = R2 := IntWalk.i64_in _ (by omega)
          have l1n : 0 < l.length := by omega
          have hqw : IntKind.i64.wrap (q : Int) = (q : Int) := IntWalk.i64_in _ (by omega)
          have q1n : q < l.length := by omega
          have hne : ((l.length : Int) == 0) = false := by rw [beq_eq_false_iff_ne]; omega
          have hne2 : decide ((l.length : Int) = 0) = false := by rw [decide_eq_false_iff_not]; omega
          clear SP hS5 hl0 d0
          go_wp2_with fail
          refine wp_region_qq (by kernel_rfl) (by kernel_rfl) (Keep.refl [] _) ?_
          repeat ((first | (refine qq_skip rfl ?_) | (refine qq_val (v := ?_) rfl ?_ ?_; rotate_left; (intro w hw; obtain ⟨x0, x1, x2⟩ := at3 (hb5.keep hw (by simp)); have g0 := G0.out w (hkW5.trans hw); obtain ⟨_, _, E', z0, z1⟩ := SC.out _ _ _ hs0.out w hw; cases E'; simp only [Nat.zero_mul, Nat.add_zero] at z0 z1; obtain ⟨_, _, E', z2, z3⟩ := SC.out _ _ _ hs1.out w hw; cases E'; go_simp; exact rfl))); simp only [Act.put, List.setIfInBounds_toArray, List.set_cons_succ, List.set_cons_zero])
          refine qq_nil (fun w6 hw6 => ?_)
          have hkW6 := hkW5.trans hw6
          have hb6 := hb5.keep hw6 (by simp)
          clear g0 g1 x0 x1 x2 hne hne2 hqw hR2w hqI hsum q0' q1' q1n
          go_wp2
          go_loopw [5, 11] (fun at_ p w => ∃ m : Nat, m ≤ l.length ∧ at_ = .int .i64 (a m) ∧ p = .int .i64 m ∧ Keep [] w6 w) (fun _ p _ => l.length - (intOf p).toNat)
          case atStart => exact ⟨0, Nat.zero_le _, by rw [a0.out], rfl, Keep.refl _ _⟩
          case round =>
            obtain ⟨m, hm, rfl, rfl, hkm⟩ := hrel
            have hkWm := hkW6.trans hkm
            have hbm := hb6.keep hkm (by simp)
            obtain ⟨x0, x1, x2⟩ := at3 hbm
            by_cases hmt : m < l.length
            · obtain ⟨hs2, hp2, hu2, ha2, v0, v1, v2, v3, v4, v5, v6, v7⟩ := hst.out m hmt
              have AT := Lib.hid (fun w (hw : Keep [] W w) => (hpg.pure hw).at14 hmt)
              obtain ⟨pb, poff, e6, _⟩ := hpg.at14 hmt
              subst e6
              have PL := fun w (hw : Keep [] W w) => hPL.out (k : Nat) (j : Nat) (m : Nat) w hw (by omega)
              rw [hp2] at PL
              replace PL := Lib.hid PL
              replace hs2 := Lib.hid hs2
              generalize l[m] = p at *
              have hprev : ∀ m', m = m' + 1 → Hid (∃ y, sv[m']? = some (y, u m)) := fun m' e => by
                subst e
                exact ⟨_, (hst.out m' (by omega)).1⟩
              replace hprev := Lib.hid hprev
              obtain ⟨a1, ha1⟩ : ∃ x, Hid (a m = x) := ⟨_, rfl⟩
              obtain ⟨a2, ha2'⟩ : ∃ x, Hid (a (m + 1) = x) := ⟨_, rfl⟩
              rw [ha1.out, ha2'.out] at ha2
              rw [ha1.out] at PL v4 v5
              rw [ha2'.out] at v6 v7
              rw [ha1.out]
              obtain ⟨u1, hu1⟩ : ∃ x, Hid (u m = x) := ⟨_, rfl⟩
              obtain ⟨u2', hu2'⟩ : ∃ x, Hid (u (m + 1) = x) := ⟨_, rfl⟩
              rw [hu1.out, hu2'.out] at hu2 hs2
              rw [hu1.out] at v0 v1 hprev
              rw [hu2'.out] at v2 v3
              have hus : u2' - u1 = p.rows.toInt := by omega
              have has : a1 + p.size.toInt = a2 := by omega
              have hasw : IntKind.i64.wrap a2 = a2 := IntWalk.i64_in _ (by omega)
              have husw : IntKind.i64.wrap p.rows.toInt = p.rows.toInt := IntWalk.i64_in _ (by omega)
              replace ha2 := Lib.hid ha2
              replace hu2 := Lib.hid hu2
              have m0' : (0 : Int) ≤ (m : Int) := by omega
              have m1' : (m : Int) < (l.length : Int) := by omega
              rcases Nat.eq_zero_or_pos m with hz | hz
              · have hgt : decide ((0 : Int) < (m : Int)) = false := by rw [decide_eq_false_iff_not]; omega
                have hgt2 : decide (0 < m) = false := by rw [decide_eq_false_iff_not]; omega
                replace hz := Lib.hid hz
                go_wp2_with fail
                refine wp_region_qq (by kernel_rfl) (by kernel_rfl) (Keep.refl [] _) ?_
                repeat ((first | (refine qq_skip rfl ?_) | (refine qq_val (v := ?_) rfl ?_ ?_; rotate_left; (intro w hw; obtain ⟨x0, x1, x2⟩ := at3 (hbm.keep hw (by simp)); go_simp; exact rfl))); simp only [Act.put, List.setIfInBounds_toArray, List.set_cons_succ, List.set_cons_zero])
                refine qq_call (v := ?_) (f := ?_) (args := ?_) rfl (fun w hw => ?_) (fun w hw => ?_) ?_
                rotate_left 3
                · go_simp; exact rfl
                · have C9 := keep_call (PL.out w (hkWm.trans hw)) hw; exact C9
                simp only [Act.put, List.setIfInBounds_toArray, List.set_cons_succ, List.set_cons_zero]
                repeat ((first | (refine qq_skip rfl ?_) | (refine qq_val (v := ?_) rfl ?_ ?_; rotate_left; (intro w hw; obtain ⟨_, _, E', z0, z1⟩ := SC.out _ _ _ hs2.out w (hw6.trans (hkm.trans hw)); cases E'; obtain ⟨_, _, e', _, _, ⟨y0, y1⟩, _⟩ := AT.out w (hkWm.trans hw); cases e'; go_simp; exact rfl))); simp only [Act.put, List.setIfInBounds_toArray, List.set_cons_succ, List.set_cons_zero])
                refine qq_nil (fun w7 hw7 => ?_)
                have hkW7 := hkWm.trans hw7
                obtain ⟨_, _, e', _, _, ⟨y0, y1⟩, _⟩ := AT.out w7 hkW7
                cases e'
                clear PL hgt hgt2 x0 x1 x2
                go_wp2
                go_roundw
                case rel => exact ⟨m + 1, by omega, by rw [ha2'.out], by go_num, hkm.trans hw7⟩
                case measure => simp [intOf]; omega
              · obtain ⟨m', hm'⟩ : ∃ m', m = m' + 1 := ⟨m - 1, by omega⟩
                obtain ⟨y', hy'⟩ := (hprev.out m' hm').out
                replace hy' := Lib.hid hy'
                have hgt : decide ((0 : Int) < (m : Int)) = true := by rw [decide_eq_true_iff]; omega
                have hgt2 : decide (0 < m) = true := by rw [decide_eq_true_iff]; omega
                have hmI : (m : Int) - 1 = (m' : Int) := by omega
                have hmw : IntKind.i64.wrap (m' : Int) = (m' : Int) := IntWalk.i64_in _ (by omega)
                have m2' : (0 : Int) ≤ (m' : Int) := by omega
                have m3' : (m' : Int) < (l.length : Int) := by omega
                have m3n : m' < l.length := by omega
                replace hm' := Lib.hid hm'
                go_wp2_with fail
                refine wp_region_qq (by kernel_rfl) (by kernel_rfl) (Keep.refl [] _) ?_
                repeat ((first | (refine qq_skip rfl ?_) | (refine qq_val (v := ?_) rfl ?_ ?_; rotate_left; (intro w hw; obtain ⟨x0, x1, x2⟩ := at3 (hbm.keep hw (by simp)); go_simp; exact rfl))); simp only [Act.put, List.setIfInBounds_toArray, List.set_cons_succ, List.set_cons_zero])
                refine qq_call (v := ?_) (f := ?_) (args := ?_) rfl (fun w hw => ?_) (fun w hw => ?_) ?_
                rotate_left 3
                · go_simp; exact rfl
                · have C9 := keep_call (PL.out w (hkWm.trans hw)) hw; exact C9
                simp only [Act.put, List.setIfInBounds_toArray, List.set_cons_succ, List.set_cons_zero]
                repeat ((first | (refine qq_skip rfl ?_) | (refine qq_val (v := ?_) rfl ?_ ?_; rotate_left; (intro w hw; obtain ⟨_, _, E', z0, z1⟩ := SC.out _ _ _ hs2.out w (hw6.trans (hkm.trans hw)); cases E'; obtain ⟨_, _, E', z2, z3⟩ := SC.out _ _ _ hy'.out w (hw6.trans (hkm.trans hw)); cases E'; obtain ⟨_, _, e', _, _, ⟨y0, y1⟩, _⟩ := AT.out w (hkWm.trans hw); cases e'; go_simp; exact rfl))); simp only [Act.put, List.setIfInBounds_toArray, List.set_cons_succ, List.set_cons_zero])
                refine qq_nil (fun w7 hw7 => ?_)
                have hkW7 := hkWm.trans hw7
                obtain ⟨_, _, e', _, _, ⟨y0, y1⟩, _⟩ := AT.out w7 hkW7
                cases e'
                clear PL hgt hgt2 x0 x1 x2 hmI hmw
                go_wp2
                go_roundw
                case rel => exact ⟨m + 1, by omega, by rw [ha2'.out], by go_num, hkm.trans hw7⟩
                case measure => simp [intOf]; omega
            · obtain rfl : m = l.length := by omega
              have PL := hPL.out (k : Nat) (j : Nat) (l.length : Nat) wr hkWm (by omega)
              rw [hpn.out] at PL
              replace PL := Lib.hid PL
              go_wp2_with fail
              refine PL.out.mono ?_
              rintro e w7 ⟨rfl, hk7⟩
              clear PL x0 x1 x2
              go_wp2
              go_roundw
              case rel => exact ⟨j + 1, by omega, by rw [an.out], by go_num, ((hkj.trans hk5).trans hw6).trans (hkm.trans hk7)⟩
              case measure => simp [intOf]; omega
        · obtain rfl : j = f.cols.length := by omega
          have hRs : R + gr.rows.toInt = r (k + 1) := by rw [hrs.out, hR.out]
          obtain ⟨R2, hR2⟩ : ∃ R2, Hid (r (k + 1) = R2) := ⟨_, rfl⟩
          rw [hR2.out] at hRs hr2
          have hR2w : IntKind.i64.wrap R2 = R2 := IntWalk.i64_in _ (by omega)
          obtain ⟨x0, x1, x2⟩ := at3 (hbr.keep hkj (by simp))
          rw [bn.out]
          go_wp2
          go_roundw
          case rel => exact ⟨k + 1, by omega, rfl, by rw [hR2.out], by go_num, hkr.trans hkj⟩
          case measure => simp [intOf]; omega
    · obtain rfl : k = f.groups.length := by omega
      have PL := hPL.out (f.groups.length : Nat) 0 0 wr hkWr (by omega)
      rw [pn.out] at PL
      rw [rn.out]
      obtain ⟨T, hT⟩ : ∃ T, Hid (t f.groups.length = T) := ⟨_, rfl⟩
      rw [hT.out] at PL ⊢
      replace PL := Lib.hid PL
      go_wp2_with fail
      refine PL.out.mono ?_
      rintro e w7 ⟨rfl, hk7⟩
      obtain ⟨x0, x1, x2⟩ := at3 (hbr.keep hk7 (by simp))
      clear PL
      go_wp2
      go_ret
      exact ⟨rfl, (hkWr.trans hk7).below⟩
end Go.Proofs.Ytcpimhefclfbaaa
