/-
  Columns that are read: schema.one, schema.Get.
  Columns that are read: schema.Get, and the document's.
-/
import Derived.Test.YtcpimhefclfbaaaFFB
import Derived.Test.YtcpimhefclfbaaaFStc
import Derived.Test.YtcpimhefclfbaaaFFC
import Derived.Test.YtcpimhefclfbaaaFCr
namespace Go.Proofs.Ytcpimhefclfbaaa
open Go Go.RowKit
set_option maxRecDepth 10000
set_option linter.unusedVariables false
set_option linter.unusedSimpArgs false

theorem ret_col {fn : Func} {p : Tmp} (h : fn.results = #[.cell p 56]) {tmps : Array Value} {w : World} {g : Nat} (c : Col) (hp : tmps.getD p undef = .pointer (some ⟨g, 0, none⟩)) (hb : Blk w g 56 c.cs) :
    (results fn tmps).run Try.prog w = .ok (colV3 c) w :=
  results_cell_row h tmps w g 56 _ (0, 0) _ hp hb Try.underlying56 rfl (by show (Try.prog.info? 56).map (·.size) = some 3; kernel_rfl)
theorem OwnU8.lastsM {M : List Nat} {base : Nat} {xs : List UInt8} (h : ∀ b ∈ M, b < base) : (Slot.mutS (OwnU8 base xs)).lasts M := fun _ _ _ _ ⟨B, k, d, h1, h2, h3⟩ hk => ⟨B, k, d, h1, h2, own_keep h3 hk h⟩

set_option maxHeartbeats 4000000 in
theorem one_prog {g : Nat} {s : Option (List UInt8)} (W : World) (h : Cur 88 W g s) :
    Calls Try.prog 52 #[.pointer (some ⟨g, 0, none⟩)] W fun e W' => e = .returned (colV3 (oneC s).1) ∧ Keep [g] W W' ∧ Cur 88 W' g (oneC s).2 := by
  have hg := h.lt
  obtain ⟨r, hr⟩ : ∃ r, Hid (oneC s = r) := ⟨_, rfl⟩
  rw [hr.out]
  have hr' := hr.out
  unfold oneC at hr'
  have hm1 := lenC_max s (most := 100) (by omega)
  have L1 := fun w hc => len_prog (g := g) (s := s) 100 w hc (by omega)
  generalize lenC s 100 = n1 at *
  obtain ⟨n, s1⟩ := n1
  simp only [] at hr' hm1 L1
  have T1 := fun w hc => take_prog (g := g) (s := s1) (n : Int) w hc (by omega)
  generalize takeC s1 (n : Int) = t1 at *
  obtain ⟨x, s2⟩ := t1
  simp only [] at hr' T1
  have B1 := fun w hc => byte_prog (g := g) (s := s2) w hc
  have hb1 := byteC_lt s2
  generalize byteC s2 = y at *
  generalize (takeC s2 1).2 = s3 at *
  have B2 := fun w hc => byte_prog (g := g) (s := s3) w hc
  have hb2 := byteC_lt s3
  generalize byteC s3 = z at *
  generalize (takeC s3 1).2 = s4 at *
  have hr2 := Lib.hid hr'
  clear hr' hr
  have hyi : (Int64.ofInt (y : Int)).toInt = y := toI (by unfold isI64; omega)
  replace hyi := Lib.hid hyi
  obtain ⟨W1, hW1⟩ : ∃ W1, W.alloc (.cells #[.string { data := #[] }, .int .i64 0, .bool false] 56) = W1 := ⟨_, rfl⟩
  have hk1 : Keep [] W W1 := by rw [← hW1]; exact (Keep.refl _ _).alloc _
  have hbR : Blk W1 W.heap.size 56 [.string { data := #[] }, .int .i64 0, .bool false] := by rw [← hW1]; exact Blk.new W 56 _
  have hgn : W.heap.size ∉ [g] := by simp; omega
  have hg1 : g < W1.heap.size := by have := hk1.size; omega
  have h1 := h.pure hk1
  have hsC : ∀ w, (Go.sizeOf 56).run Try.prog w = .ok 3 w := Try.sizeOf56
  replace hsC := Lib.hid hsC
  replace L1 := Lib.hid L1
  replace T1 := Lib.hid T1
  replace B1 := Lib.hid B1
  replace B2 := Lib.hid B2
  go_enter Try.func52, Try.ntmps52
  go_wp2_with fail
  refine wp_region_ords 10 [g] (fun c w => Cur 88 w g (([s, s1, s2, s3] : List (Option (List UInt8))).getD c none)) [false, false, true, true, false, false, true, false, false, false]
    (.val ?_ :: .val ?_ :: .mut ?_ :: .mutS (OwnU8 W1.heap.size x) :: .val (.string ⟨x.toArray⟩) :: .val ?_ :: .mut ?_ :: .val ?_ :: .val ?_ :: .spec (PtrTo W1.heap.size 56 [.string { data := #[] }, .int .i64 0, .bool false]) :: []) (by kernel_rfl) rfl rfl (by kernel_rfl) ?_ (fun c w w' hc hk => Cur.pure hc hk) (Cur.pure h1 (Keep.refl _ _).drew) ?_
  rotate_left 7
  · intro t ht
    simp only [List.mem_cons, List.not_mem_nil, or_false] at ht
    rcases ht with rfl | rfl | rfl | rfl | rfl | rfl | rfl | rfl | rfl | rfl
    all_goals first | exact trivial | exact PtrTo.lasts (by simp; omega) | exact OwnU8.lastsM (by simp; omega)
  simp only [List.take_succ_cons, List.take_zero, List.drop_succ_cons, List.drop_zero]
  repeat ((first | (refine obls_cons (obl_skip (fun vals => by rfl) ?_) ?_; (exact rfl)) | (refine obls_cons (obl_val (fun vals => by rfl) (fun vals w hw hd => ?_)) ?_; (skip; go_simp; exact rfl))); simp only [Slot.put, Slot.chain, Bool.false_eq_true, if_false, if_true, Nat.add_zero, Nat.zero_add, Nat.reduceAdd, Act.put, List.setIfInBounds_toArray, List.set_cons_succ, List.set_cons_zero])
  refine obls_cons (obl_mut (f := ?_) (args := ?_) (fun vals => by rfl) (fun vals w hw hd => ?_) (fun vals w hw hC hd => ?_)) ?_
  rotate_left 2
  · go_simp; exact rfl
  · exact L1.out w hC
  simp only [Slot.put, Slot.chain, Bool.false_eq_true, if_false, if_true, Nat.add_zero, Nat.zero_add, Nat.reduceAdd, Act.put, List.setIfInBounds_toArray, List.set_cons_succ, List.set_cons_zero]
  refine obls_cons (obl_mutT (f := ?_) (args := ?_) (fun vals => by rfl) (fun vals w hw hd => ?_) (fun vals w hw hC hd => ?_)) ?_
  rotate_left 2
  · go_simp; exact rfl
  · exact (T1.out w hC).mono (fun e w' ⟨B, m, d, h1, h2, h3, h4⟩ => ⟨_, h1, ⟨h2, h3⟩, B, m, d, rfl, own_len h4, own_lower h4 hw.size⟩)
  simp only [Slot.put, Slot.chain, Bool.false_eq_true, if_false, if_true, Nat.add_zero, Nat.zero_add, Nat.reduceAdd, Act.put, List.setIfInBounds_toArray, List.set_cons_succ, List.set_cons_zero]
  refine obls_cons (obl_val (fun vals => by rfl) (fun vals w hw hd => ?_)) ?_
  · obtain ⟨B, k, d, e, rfl, ho⟩ := hd 3 (by decide +kernel) _ rfl; have s1 := str_run (rd_of_own (X := []) ho (by simp)); go_simp; exact rfl
  simp only [Slot.put, Slot.chain, Bool.false_eq_true, if_false, if_true, Nat.add_zero, Nat.zero_add, Nat.reduceAdd, Act.put, List.setIfInBounds_toArray, List.set_cons_succ, List.set_cons_zero]
  repeat ((first | (refine obls_cons (obl_skip (fun vals => by rfl) ?_) ?_; (exact rfl)) | (refine obls_cons (obl_val (fun vals => by rfl) (fun vals w hw hd => ?_)) ?_; (skip; go_simp; exact rfl))); simp only [Slot.put, Slot.chain, Bool.false_eq_true, if_false, if_true, Nat.add_zero, Nat.zero_add, Nat.reduceAdd, Act.put, List.setIfInBounds_toArray, List.set_cons_succ, List.set_cons_zero])
  refine obls_cons (obl_mut (f := ?_) (args := ?_) (fun vals => by rfl) (fun vals w hw hd => ?_) (fun vals w hw hC hd => ?_)) ?_
  rotate_left 2
  · go_simp; exact rfl
  · exact B1.out w hC
  simp only [Slot.put, Slot.chain, Bool.false_eq_true, if_false, if_true, Nat.add_zero, Nat.zero_add, Nat.reduceAdd, Act.put, List.setIfInBounds_toArray, List.set_cons_succ, List.set_cons_zero]
  repeat ((first | (refine obls_cons (obl_skip (fun vals => by rfl) ?_) ?_; (exact rfl)) | (refine obls_cons (obl_val (fun vals => by rfl) (fun vals w hw hd => ?_)) ?_; (skip; go_simp; exact rfl))); simp only [Slot.put, Slot.chain, Bool.false_eq_true, if_false, if_true, Nat.add_zero, Nat.zero_add, Nat.reduceAdd, Act.put, List.setIfInBounds_toArray, List.set_cons_succ, List.set_cons_zero])
  refine obls_cons (obl_make (v := fun _ w => .pointer (some ⟨w.heap.size, 0, none⟩)) (w' := fun _ w => w.alloc (.cells ([.string { data := #[] }, .int .i64 0, .bool false]).toArray 56)) (fun vals => by rfl) (fun vals w hw hd => ?_) (fun vals w hw => ptrTo_new hw.size)) ?_
  · go_simp; exact rfl
  simp only [Slot.put, Slot.chain, Bool.false_eq_true, if_false, if_true, Nat.add_zero, Nat.zero_add, Nat.reduceAdd, Act.put, List.setIfInBounds_toArray, List.set_cons_succ, List.set_cons_zero]
  refine obls_nil (fun vals w2 hw hC hall => ?_)
  obtain ⟨p, e9, hp1, hbp⟩ := hall 9 _ rfl
  simp only [e9]
  have hcur : Cur 88 w2 g s3 := hC
  have hkW2 : Keep [g] W w2 := hk1.nil.trans hw
  have hbR2 := hbR.keep hw hgn
  clear hall e9 hC L1 T1 B1
  obtain ⟨c0, c1, c2⟩ := at3 hbp
  have f0 := hbp.frozen 0
  have f1 := hbp.frozen 1
  have f2 := hbp.frozen 2
  obtain ⟨w3, hw3⟩ : ∃ w3, ((w2.setCell ⟨p, 0, none⟩ (.string ⟨x.toArray⟩)).setCell ⟨p, 1, none⟩ (.int .i64 y)).setCell ⟨p, 2, none⟩ (.bool false) = w3 := ⟨_, rfl⟩
  have hb3 : Blk w3 p 56 [.string ⟨x.toArray⟩, .int .i64 y, .bool false] := by rw [← hw3]; exact ((hbp.set_ 0 _).set_ 1 _).set_ 2 _
  have hk3 : Keep [p] w2 w3 := by rw [← hw3]; exact (((Keep.refl _ _).setCell (p := ⟨p, 0, none⟩) (.inl (by simp)) _).setCell (p := ⟨p, 1, none⟩) (.inl (by simp)) _).setCell (p := ⟨p, 2, none⟩) (.inl (by simp)) _
  have hcur3 := hcur.keep hk3 (by simp; omega)
  have hbR3 := hbR2.keep hk3 (by have := hbR.lt; simp; omega)
  have hkW3 : Keep [g] W w3 := hkW2.after hk3 (by have := hk1.size; simp; omega)
  have hpg : p ∉ [g] := by simp; omega
  have hRp : W.heap.size ≠ p := by have := hbR.lt; omega
  have hyw : IntKind.i64.wrap (y : Int) = y := IntWalk.i64_in _ (by omega)
  go_wp2_with fail
  refine (B2.out _ hcur3).mono ?_
  rintro e w4 ⟨rfl, hk4, hcur4⟩
  have hb4 := hb3.keep hk4 hpg
  have hbR4 := hbR3.keep hk4 hgn
  have hkW4 := hkW3.trans hk4
  have hgR : ∀ b ∈ [W.heap.size], g < b := by simp; omega
  have hgp : ∀ b ∈ [p], g < b := by simp; omega
  have hend : ∀ (w5 : World) (q : Option (List UInt8)) (c : Col), Blk w5 p 56 c.cs → Blk w5 W.heap.size 56 [.string { data := #[] }, .int .i64 0, .bool false] → Keep [g] W w5 → Cur 88 w5 g q →
      Blk (((w5.setCell ⟨W.heap.size, 0, none⟩ (.string c.name)).setCell ⟨W.heap.size, 1, none⟩ (.int .i64 c.typ.toInt)).setCell ⟨W.heap.size, 2, none⟩ (.bool c.null)) W.heap.size 56 c.cs ∧
      Keep [g] W (((w5.setCell ⟨W.heap.size, 0, none⟩ (.string c.name)).setCell ⟨W.heap.size, 1, none⟩ (.int .i64 c.typ.toInt)).setCell ⟨W.heap.size, 2, none⟩ (.bool c.null)) ∧
      Cur 88 (((w5.setCell ⟨W.heap.size, 0, none⟩ (.string c.name)).setCell ⟨W.heap.size, 1, none⟩ (.int .i64 c.typ.toInt)).setCell ⟨W.heap.size, 2, none⟩ (.bool c.null)) g q := fun w5 q c _ hR hk hc =>
    ⟨((hR.set_ 0 _).set_ 1 _).set_ 2 _, ((hk.setCell (p := ⟨W.heap.size, 0, none⟩) (.inr (Nat.le_refl _)) _).setCell (p := ⟨W.heap.size, 1, none⟩) (.inr (Nat.le_refl _)) _).setCell (p := ⟨W.heap.size, 2, none⟩) (.inr (Nat.le_refl _)) _,
      hc.keep ((((Keep.refl [W.heap.size] w5).setCell (p := ⟨W.heap.size, 0, none⟩) (.inl (by simp)) _).setCell (p := ⟨W.heap.size, 1, none⟩) (.inl (by simp)) _).setCell (p := ⟨W.heap.size, 2, none⟩) (.inl (by simp)) _) hgR⟩
  replace hend := Lib.hid hend
  replace hgR := Lib.hid hgR
  replace hgp := Lib.hid hgp
  clear hw3 c0 c1 c2 f0 f1 f2 hb3 hbR3 hk3 hcur3 B2 hyw
  by_cases z0 : z = 0
  · subst z0
    have v1 : Hid (r = (⟨⟨x.toArray⟩, Int64.ofInt (y : Int), false⟩, s4)) := hr2.out.symm
    obtain ⟨c0, c1, c2⟩ := at3 hb4
    obtain ⟨r0, r1, r2⟩ := at3 hbR4
    have f0 := hbR4.frozen 0
    have f1 := hbR4.frozen 1
    have f2 := hbR4.frozen 2
    go_wp2
    obtain ⟨e1, e2, e3⟩ := hend.out w4 s4 ⟨⟨x.toArray⟩, Int64.ofInt (y : Int), false⟩ (by simp only [Col.cs, vI, hyi.out]; exact hb4) hbR4 hkW4 hcur4
    simp only [hyi.out] at e1 e2 e3
    refine bodyPost_ret (ret_col rfl ⟨⟨x.toArray⟩, Int64.ofInt (y : Int), false⟩ rfl e1) rfl ⟨by rw [v1.out], e2, by rw [v1.out]; exact e3⟩
  by_cases z1 : z = 1
  · subst z1
    have v1 : Hid (r = (⟨⟨x.toArray⟩, Int64.ofInt (y : Int), true⟩, s4)) := hr2.out.symm
    have g2 := hb4.frozen 2
    obtain ⟨d0, d1, d2⟩ := at3 hb4
    obtain ⟨w5, hw5⟩ : ∃ w5, w4.setCell ⟨p, 2, none⟩ (.bool true) = w5 := ⟨_, rfl⟩
    have hb5 : Blk w5 p 56 [.string ⟨x.toArray⟩, .int .i64 y, .bool true] := by rw [← hw5]; exact hb4.set_ 2 _
    have hk5 : Keep [p] w4 w5 := by rw [← hw5]; exact (Keep.refl _ _).setCell (p := ⟨p, 2, none⟩) (.inl (by simp)) _
    have hcur5 := hcur4.keep hk5 hgp.out
    have hbR5 := hbR4.keep hk5 (by simp; omega)
    have hkW5 : Keep [g] W w5 := hkW4.after hk5 (by have := hk1.size; simp; omega)
    obtain ⟨c0, c1, c2⟩ := at3 hb5
    obtain ⟨r0, r1, r2⟩ := at3 hbR5
    have f0 := hbR5.frozen 0
    have f1 := hbR5.frozen 1
    have f2 := hbR5.frozen 2
    go_wp2
    obtain ⟨e1, e2, e3⟩ := hend.out w5 s4 ⟨⟨x.toArray⟩, Int64.ofInt (y : Int), true⟩ (by simp only [Col.cs, vI, hyi.out]; exact hb5) hbR5 hkW5 hcur5
    simp only [hyi.out] at e1 e2 e3
    refine bodyPost_ret (ret_col rfl ⟨⟨x.toArray⟩, Int64.ofInt (y : Int), true⟩ rfl e1) rfl ⟨by rw [v1.out], e2, by rw [v1.out]; exact e3⟩
  · have v1 : Hid (r = (⟨⟨x.toArray⟩, Int64.ofInt (y : Int), false⟩, none)) := by rw [Hid, ← hr2.out, decide_eq_false z1, if_neg (by omega)]
    have F := Lib.hid (fail_prog w4 hcur4)
    have z0' : ((z : Int) == 0) = false := by rw [beq_eq_false_iff_ne]; omega
    have z1' : ((z : Int) == 1) = false := by rw [beq_eq_false_iff_ne]; omega
    go_wp2_with fail
    refine F.out.mono ?_
    rintro e w5 ⟨rfl, hk5, hcur5⟩
    have hb5 := hb4.keep hk5 hpg
    have hbR5 := hbR4.keep hk5 hgn
    have hkW5 := hkW4.trans hk5
    obtain ⟨c0, c1, c2⟩ := at3 hb5
    obtain ⟨r0, r1, r2⟩ := at3 hbR5
    have f0 := hbR5.frozen 0
    have f1 := hbR5.frozen 1
    have f2 := hbR5.frozen 2
    go_wp2
    obtain ⟨e1, e2, e3⟩ := hend.out w5 none ⟨⟨x.toArray⟩, Int64.ofInt (y : Int), false⟩ (by simp only [Col.cs, vI, hyi.out]; exact hb5) hbR5 hkW5 hcur5
    simp only [hyi.out] at e1 e2 e3
    refine bodyPost_ret (ret_col rfl ⟨⟨x.toArray⟩, Int64.ofInt (y : Int), false⟩ rfl e1) rfl ⟨by rw [v1.out], e2, by rw [v1.out]; exact e3⟩
end Go.Proofs.Ytcpimhefclfbaaa

namespace Go.Proofs.Ytcpimhefclfbaaa
open Go Go.RowKit
set_option maxRecDepth 10000
set_option linter.unusedVariables false
set_option linter.unusedSimpArgs false

theorem Try.infoCol : (Try.prog.info? 56).map (fun i => (i.zero, i.size, i.bytes)) = some (some (.agg #[.string { data := #[] }, .int .i64 0, .bool false]), 3, 32) := by kernel_rfl
theorem oneC_name (s : Option (List UInt8)) : (oneC s).1.name.size ≤ 100 := by
  unfold oneC
  simp only []
  have h1 := takeC_len (lenC s 100).2 (lenC s 100).1
  have h2 := lenC_max s (most := 100) (by omega)
  have : (⟨(takeC (lenC s 100).2 (lenC s 100).1).1.toArray⟩ : ByteArray).size = (takeC (lenC s 100).2 (lenC s 100).1).1.length := by simp [ByteArray.size]
  rw [this]
  omega
def ColsPost (t : TypeId) (g : Nat) (v : List Col × Option (List UInt8)) (W : World) (e : Ending) (W' : World) : Prop :=
  ∃ B d, e = .returned (.slice B v.1.length d) ∧ Keep [g] W W' ∧ Cur t W' g v.2 ∧ (∀ c ∈ v.1, c.name.size ≤ 100) ∧ W'.ownsRow W.heap.size 56 3 (.slice B v.1.length d) v.1.length (v.1.flatMap Col.cs)

set_option maxHeartbeats 4000000 in
theorem getCols_prog {g : Nat} {s : Option (List UInt8)} (W : World) (h : Cur 88 W g s) :
    Calls Try.prog 34 #[.pointer (some ⟨g, 0, none⟩)] W (ColsPost 88 g (colsG s) W) := by
  have hg := h.lt
  obtain ⟨v, hv⟩ : ∃ v, Hid (colsG s = v) := ⟨_, rfl⟩
  rw [hv.out]
  have hv' := hv.out
  unfold colsG at hv'
  have hm1 := lenC_max s (most := 64) (by omega)
  have L1 := len_prog (g := g) (s := s) 64 W h (by omega)
  generalize lenC s 64 = n1 at *
  obtain ⟨n, s1⟩ := n1
  simp only [] at hv' hm1 L1
  replace hv' := Lib.hid hv'
  replace L1 := Lib.hid L1
  obtain ⟨i0, hi, hz0, hz1, hz2⟩ := info_parts Try.infoCol
  clear hv
  go_enter Try.func34, Try.ntmps34
  go_wp2_with fail
  refine L1.out.mono ?_
  rintro e w1 ⟨rfl, hk1, hc1⟩
  clear L1
  go_wp2
  go_loopw [3, 6] (fun o i wr => ∃ (k : Nat) (q : List Col) (s' : Option (List UInt8)), k ≤ n ∧ i = .int .i64 k ∧ q.length = k ∧ wr.ownsRow W.heap.size 56 3 o k (q.flatMap Col.cs) ∧ Cur 88 wr g s' ∧ (∀ c ∈ q, c.name.size ≤ 100) ∧ Hid (getCs n s1 = (q ++ (getCs (n - k) s').1, (getCs (n - k) s').2)) ∧ Keep [g] W wr) (fun _ i _ => n - (intOf i).toNat)
  case atStart => exact ⟨0, [], s1, Nat.zero_le _, rfl, rfl, World.ownsRow_nil _ _ _ _, hc1, by simp, by simp [Hid], hk1⟩
  case round =>
    obtain ⟨k, q, s', hk, rfl, hql, hO, hc, hnm, HV, hkr⟩ := hrel
    obtain ⟨B3, d3, rfl⟩ := own_form hO
    by_cases hlt : k < n
    · have N1 := Lib.hid (one_prog wr hc)
      have hst : Hid (getCs n s1 = ((q ++ [(oneC s').1]) ++ (getCs (n - (k + 1)) (oneC s').2).1, (getCs (n - (k + 1)) (oneC s').2).2)) := by
        rw [Hid, HV.out, show n - k = (n - (k + 1)) + 1 from by omega, getCs]
        simp
      have hnm1 := oneC_name s'
      generalize oneC s' = cs2 at *
      obtain ⟨c, s2⟩ := cs2
      simp only [] at hst hnm1 N1
      have i1' : (k : Int) < (n : Int) := by omega
      clear HV
      go_wp2_with fail
      refine N1.out.mono ?_
      rintro e w2 ⟨rfl, hk2, hc2⟩
      have hO2 := own_keep hO hk2 (by simp; omega)
      have hkW2 := hkr.trans hk2
      have hsz := hkW2.size
      have hck : Cols [] (w2.alloc (.cells #[.string c.name, .int .i64 c.typ.toInt, .bool c.null] 56)) (some ⟨w2.heap.size, 0, none⟩) 1 1 [c] := by
        refine (Blk.new w2 56 [.string c.name, .int .i64 c.typ.toInt, .bool c.null]).rd (by simp) ?_ (by omega) (by simp [maxLen]) ?_
        · simp [Col.cs]
        · simp [Col.cs, vI]
      clear N1 hO
      go_wp2_with (at_builtin; refine wpList_append_rd rfl _ _ 22 rfl W.heap.size 56 i0 (.agg #[.string { data := #[] }, .int .i64 0, .bool false]) 3 32 Try.underlying22 hi hz0 hz1 hz2 rfl (by omega) (.slice B3 k d3) k _ rfl (hO2.alloc _) rfl hck (flat_one Col.one [c]) (by unfold maxLen; omega) (by omega) (by simp; omega) ?_)
      intro v' w4 hown' hgr
      have hka := (Keep.refl [] w2).alloc (.cells #[.string c.name, .int .i64 c.typ.toInt, .bool c.null] 56)
      have hk4 : Keep [g] W w4 := (hkW2.alloc _).grown hgr (fun x hx => .inr (own_ge hO2 x hx))
      have hc4 : Cur 88 w4 g s2 := (hc2.pure hka).keep (keep_of_grown hgr) (fun b hb => by
        have := own_ge hO2 b (by simpa using hb)
        omega)
      clear hck hgr hO2
      go_wp2
      go_roundw
      case rel => exact ⟨k + 1, q ++ [c], s2, by omega, by go_num, by simp [hql], by rw [List.flatMap_append]; exact hown', hc4, by simpa using fun x hx => hx.elim (fun h => hnm x h) (fun h => h ▸ hnm1), hst, hk4⟩
      case measure => simp [intOf]; omega
    · obtain rfl : k = n := by omega
      have HX : Hid (getCs k s1 = (q, s')) := by rw [Hid, HV.out]; simp [getCs]
      have hcl : Cols [] wr B3 k d3 q := rd_of_own hO (by simp)
      have E1 := cols_prog wr hcl (fun x hx => by have := hnm x hx; unfold maxLen; omega)
      have hvv := hv'.out
      rw [HX.out] at hvv
      simp only [] at hvv
      clear HV HX
      by_cases hE : colsE q = 0
      · rw [hE] at E1
        replace E1 := Lib.hid E1
        cases s' with
        | none =>
          have hv1 : v = ([], none) := by rw [← hvv, if_neg (by simp)]
          subst hv1
          clear hvv hE
          go_wp2_with fail
          refine E1.out.mono ?_
          rintro e w2 ⟨rfl, hk2⟩
          have hc2 := hc.pure hk2
          have Bd := Lib.hid (bad_prog w2 hc2)
          go_wp2_with fail
          refine Bd.out.mono ?_
          rintro e w3 ⟨rfl, rfl⟩
          simp only [Option.isNone_none]
          go_wp2
          go_ret
          exact ⟨_, _, rfl, hkr.trans hk2.nil, hc2, by simp, World.ownsRow_nil _ _ _ _⟩
        | some b =>
          have hv1 : v = (q, some b) := by rw [← hvv, if_pos ⟨hE, rfl⟩]
          subst hv1
          clear hvv hE
          go_wp2_with fail
          refine E1.out.mono ?_
          rintro e w2 ⟨rfl, hk2⟩
          have hc2 := hc.pure hk2
          have Bd := Lib.hid (bad_prog w2 hc2)
          go_wp2_with fail
          refine Bd.out.mono ?_
          rintro e w3 ⟨rfl, rfl⟩
          simp only [Option.isNone_some]
          have hO3 := own_keep hO hk2 (by simp)
          rw [← hql] at hO3
          go_wp2
          go_ret
          exact ⟨B3, d3, by simp only [hql]; rfl, hkr.trans hk2.nil, hc2, hnm, hO3⟩
      · have hne : (colsE q != 0) = true := by simpa using hE
        have hv1 : v = ([], none) := by rw [← hvv, if_neg (fun h => hE h.1)]
        subst hv1
        generalize colsE q = ce at *
        replace E1 := Lib.hid E1
        clear hvv hE
        go_wp2_with fail
        refine E1.out.mono ?_
        rintro e w2 ⟨rfl, hk2⟩
        have F := Lib.hid (fail_prog w2 (hc.pure hk2))
        go_wp2_with fail
        refine F.out.mono ?_
        rintro e w3 ⟨rfl, hk3, hc3⟩
        have Bd := Lib.hid (bad_prog w3 hc3)
        go_wp2_with fail
        refine Bd.out.mono ?_
        rintro e w4 ⟨rfl, rfl⟩
        simp only [Option.isNone_none]
        go_wp2
        go_ret
        exact ⟨_, _, rfl, (hkr.trans hk2.nil).trans hk3, hc3, by simp, World.ownsRow_nil _ _ _ _⟩
end Go.Proofs.Ytcpimhefclfbaaa
