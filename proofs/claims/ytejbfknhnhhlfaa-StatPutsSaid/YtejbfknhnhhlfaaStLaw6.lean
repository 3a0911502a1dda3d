/-
  The walks of layer 15's statements: a stat's bytes, and what is read of bytes.
-/
import Derived.Test.YtejbfknhnhhlfaaFStS
import Derived.Test.YtejbfknhnhhlfaaFO
namespace Go.Proofs.Ytejbfknhnhhlfaa
open Go Go.RowKit
set_option maxRecDepth 10000
set_option linter.unusedVariables false
set_option linter.unusedSimpArgs false

/-- Put's answer, as a slice that is read. -/
theorem put_is {P : Program} {f : FuncId} {args : Array Value} {w : World} {t : TypeId} {xs : List UInt8} (h : Calls P f args w fun e w' => ∃ B k d, e = .returned (.slice B k d) ∧ Keep [] w w' ∧ w'.ownsRow w.heap.size t 1 (.slice B k d) k (xs.map vU8)) (ds : List Value) :
    Calls P f args w fun e w' => ∃ v, e = .returned v ∧ Keep [] w w' ∧ RdIs 1 (xs.map vU8) ds v w' :=
  h.mono fun e w' ⟨B, k, d, h1, h2, h3⟩ => ⟨_, h1, h2, B, k, d, rfl, rd_of_own h3 (by simp)⟩
theorem cellAt {w : World} {p : Nat} {t : TypeId} {c : Cell} (h : Blk w p t c.cs) : w.cell? ⟨p, 0, none⟩ = some (.bool c.null) ∧ w.cell? ⟨p, 1, none⟩ = some (.int .i64 c.int.toInt) ∧ w.cell? ⟨p, 2, none⟩ = some (.string c.text) ∧ w.cell? ⟨p, 3, none⟩ = some (.int .i64 c.x.toInt) ∧ w.cell? ⟨p, 4, none⟩ = some (.int .i64 c.y.toInt) :=
  ⟨h.cell 0, h.cell 1, h.cell 2, h.cell 3, h.cell 4⟩
theorem near_of_right {typ : Int} {s : St} (h : rightS typ s = true) (hh : s.has = true) : s.min.near ∧ s.max.near := by
  obtain ⟨_, _, hc⟩ := rightL_mem (rightS_has h hh)
  exact ⟨rightC_near (hc _ (by simp)), rightC_near (hc _ (by simp))⟩

set_option maxHeartbeats 4000000 in
theorem StatPuts_walk (typ : Int) (s : St) (c : Cell) (A : Option Addr) (n cap : Nat) (b : List UInt8) (W : World) (ht : c.text.size ≤ maxLen) (h : Bys [] W A n cap b) :
    Calls Try.prog 7 #[.int .i64 typ, stVal s, cellVal c, .slice A n cap] W fun e W' => e = .returned (.bool true) ∧ Below W.heap.size W W' := by
  have hcap := h.cap
  have hnc := h.le
  obtain rfl := h.len1
  have ht' : c.text.size ≤ 9223372036854775807 := by unfold maxLen at ht; omega
  go_enter Try.func7, Try.ntmps7
  go_upto_region 2 with (refine (small15 _).mono ?_; rintro e w1 ⟨rfl, hk1⟩)
  have hW1 : Keep [] W w1 := (((Keep.refl _ _).alloc _).alloc _).trans hk1
  have hb1 : Blk w1 W.heap.size 31 s.cs := ((Blk.new W 31 s.cs).alloc _).keep hk1 (by simp)
  have hq1 : Blk w1 (W.heap.size + 1) 29 c.cs := (blk_alloc2 W _ 29 c.cs).keep hk1 (by simp)
  clear hk1
  go_cut [39] (fun v wx => ∃ o : Bool, v = .bool o ∧ (o = false → b.length ≤ 500) ∧ Keep [] w1 wx)
  case first =>
    have c4 := hb1.cell 4
    have c9 := hb1.cell 9
    have d2 := (cellAt hq1).2.2.1
    simp only [List.getElem?_cons_succ, List.getElem?_cons_zero] at c4 c9
    by_cases h1 : 2000 < s.min.text.size
    · go_wp2
      go_meet
      exact ⟨_, rfl, fun ho => by simp at ho, Keep.refl _ _⟩
    by_cases h2 : 2000 < s.max.text.size
    · go_wp2
      go_meet
      exact ⟨_, rfl, fun ho => by simp at ho, Keep.refl _ _⟩
    by_cases h4 : 2000 < c.text.size
    · go_wp2
      go_meet
      exact ⟨_, rfl, fun ho => by simp at ho, Keep.refl _ _⟩
    by_cases h3 : 500 < b.length
    · go_wp2
      go_meet
      exact ⟨_, rfl, fun ho => by simp at ho; omega, Keep.refl _ _⟩
    · go_wp2
      go_meet
      exact ⟨_, rfl, fun ho => by simp at ho; omega, Keep.refl _ _⟩
  case rest =>
  obtain ⟨o, rfl, ho, hk2⟩ := hcut
  have hW2 := hW1.trans hk2
  have hb2 := hb1.keep hk2 (by simp)
  have hq2 := hq1.keep hk2 (by simp)
  have hlt2 := hq2.lt
  cases o with
  | true =>
    go_wp2
    go_ret
    exact ⟨rfl, hW2.below⟩
  | false =>
  have hbl := ho rfl
  clear ho hk2 hb1 hW1 hq1
  have hy2 := h.pure hW2
  go_wp2_with fail
  refine wp_region_ords 19 [] (fun _ _ => True) (List.replicate 19 false) (Slot.val ?_ :: Slot.val ?_ :: Slot.val ?_ :: Slot.val ?_ :: Slot.val ?_ :: Slot.val ?_ :: Slot.val ?_ :: Slot.val ?_ :: Slot.val ?_ :: Slot.val ?_ :: Slot.val ?_ :: Slot.spec (RdIs 1 ((b ++ putS typ s).map vU8)) :: Slot.val ?_ :: Slot.val ?_ :: Slot.val ?_ :: Slot.val ?_ :: Slot.spec (RdIs 1 ((b ++ putS typ s).map vU8)) :: Slot.val ?_ :: Slot.val ?_ :: []) (by kernel_rfl) rfl rfl (by kernel_rfl) ?_ (fun _ _ _ _ _ => trivial) trivial ?_
  rotate_left 17
  · intro t ht
    simp only [List.mem_cons, List.not_mem_nil, or_false] at ht
    rcases ht with rfl | rfl | rfl | rfl | rfl | rfl | rfl | rfl | rfl | rfl | rfl | rfl | rfl | rfl | rfl | rfl | rfl | rfl | rfl
    all_goals first | exact trivial | exact SlTo.lasts (by simp) | exact PtrTo.lasts (by simp) | exact RdIs.lasts
  simp only [List.take_succ_cons, List.take_zero, List.drop_succ_cons, List.drop_zero]
  repeat ((first | (refine obls_cons (obl_skip (fun vals => by rfl) ?_) ?_; (exact rfl)) | (refine obls_cons (obl_val (fun vals => by rfl) (fun vals w hw hd => ?_)) ?_; (have aX := stAt (hb2.keep hw (by simp)); obtain ⟨x0, x1, x2, x3, x4, x5, x6, x7, x8, x9, x10, x11⟩ := aX; go_simp; exact rfl))); simp only [Slot.put, Slot.chain, Bool.false_eq_true, if_false, if_true, Nat.add_zero, Nat.zero_add, Nat.reduceAdd, Act.put, List.setIfInBounds_toArray, List.set_cons_succ, List.set_cons_zero])
  refine obls_cons (obl_call (f := ?_) (args := ?_) (fun vals => by rfl) (fun vals w hw hd => ?_) (fun vals w hw hd => ?_)) ?_
  rotate_left 2
  · go_simp; exact rfl
  · have C := rightS_prog typ s w; exact C
  simp only [Slot.put, Slot.chain, Bool.false_eq_true, if_false, if_true, Nat.add_zero, Nat.zero_add, Nat.reduceAdd, Act.put, List.setIfInBounds_toArray, List.set_cons_succ, List.set_cons_zero]
  repeat ((first | (refine obls_cons (obl_skip (fun vals => by rfl) ?_) ?_; (exact rfl)) | (refine obls_cons (obl_val (fun vals => by rfl) (fun vals w hw hd => ?_)) ?_; (have aX := stAt (hb2.keep hw (by simp)); obtain ⟨x0, x1, x2, x3, x4, x5, x6, x7, x8, x9, x10, x11⟩ := aX; go_simp; exact rfl))); simp only [Slot.put, Slot.chain, Bool.false_eq_true, if_false, if_true, Nat.add_zero, Nat.zero_add, Nat.reduceAdd, Act.put, List.setIfInBounds_toArray, List.set_cons_succ, List.set_cons_zero])
  refine obls_cons (obl_call (f := ?_) (args := ?_) (fun vals => by rfl) (fun vals w hw hd => ?_) (fun vals w hw hd => ?_)) ?_
  rotate_left 2
  · go_simp; exact rfl
  · have C := rightS_ref typ s w; exact C
  simp only [Slot.put, Slot.chain, Bool.false_eq_true, if_false, if_true, Nat.add_zero, Nat.zero_add, Nat.reduceAdd, Act.put, List.setIfInBounds_toArray, List.set_cons_succ, List.set_cons_zero]
  repeat ((first | (refine obls_cons (obl_skip (fun vals => by rfl) ?_) ?_; (exact rfl)) | (refine obls_cons (obl_val (fun vals => by rfl) (fun vals w hw hd => ?_)) ?_; (have aX := stAt (hb2.keep hw (by simp)); obtain ⟨x0, x1, x2, x3, x4, x5, x6, x7, x8, x9, x10, x11⟩ := aX; go_simp; exact rfl))); simp only [Slot.put, Slot.chain, Bool.false_eq_true, if_false, if_true, Nat.add_zero, Nat.zero_add, Nat.reduceAdd, Act.put, List.setIfInBounds_toArray, List.set_cons_succ, List.set_cons_zero])
  refine obls_cons (obl_callT (f := ?_) (args := ?_) (fun vals => by rfl) (fun vals w hw hd => ?_) (fun vals w hw hd => ?_)) ?_
  rotate_left 2
  · go_simp; exact rfl
  · exact put_is (statPut_prog typ s w (hy2.pure hw) (by omega)) _
  simp only [Slot.put, Slot.chain, Bool.false_eq_true, if_false, if_true, Nat.add_zero, Nat.zero_add, Nat.reduceAdd, Act.put, List.setIfInBounds_toArray, List.set_cons_succ, List.set_cons_zero]
  refine obls_cons (obl_val (fun vals => by rfl) (fun vals w hw hd => ?_)) ?_
  · obtain ⟨B, k, d, e, hr⟩ := hd 11 (by decide +kernel) _ rfl; have s1 := str_run hr; go_simp; exact rfl
  simp only [Slot.put, Slot.chain, Bool.false_eq_true, if_false, if_true, Nat.add_zero, Nat.zero_add, Nat.reduceAdd, Act.put, List.setIfInBounds_toArray, List.set_cons_succ, List.set_cons_zero]
  repeat ((first | (refine obls_cons (obl_skip (fun vals => by rfl) ?_) ?_; (exact rfl)) | (refine obls_cons (obl_val (fun vals => by rfl) (fun vals w hw hd => ?_)) ?_; (have aX := stAt (hb2.keep hw (by simp)); obtain ⟨x0, x1, x2, x3, x4, x5, x6, x7, x8, x9, x10, x11⟩ := aX; go_simp; exact rfl))); simp only [Slot.put, Slot.chain, Bool.false_eq_true, if_false, if_true, Nat.add_zero, Nat.zero_add, Nat.reduceAdd, Act.put, List.setIfInBounds_toArray, List.set_cons_succ, List.set_cons_zero])
  refine obls_cons (obl_callT (f := ?_) (args := ?_) (fun vals => by rfl) (fun vals w hw hd => ?_) (fun vals w hw hd => ?_)) ?_
  rotate_left 2
  · go_simp; exact rfl
  · exact put_is (statPut_ref typ s w (hy2.pure hw) (by omega)) _
  simp only [Slot.put, Slot.chain, Bool.false_eq_true, if_false, if_true, Nat.add_zero, Nat.zero_add, Nat.reduceAdd, Act.put, List.setIfInBounds_toArray, List.set_cons_succ, List.set_cons_zero]
  refine obls_cons (obl_val (fun vals => by rfl) (fun vals w hw hd => ?_)) ?_
  · obtain ⟨B, k, d, e, hr⟩ := hd 16 (by decide +kernel) _ rfl; have s1 := str_run hr; go_simp; exact rfl
  simp only [Slot.put, Slot.chain, Bool.false_eq_true, if_false, if_true, Nat.add_zero, Nat.zero_add, Nat.reduceAdd, Act.put, List.setIfInBounds_toArray, List.set_cons_succ, List.set_cons_zero]
  repeat ((first | (refine obls_cons (obl_skip (fun vals => by rfl) ?_) ?_; (exact rfl)) | (refine obls_cons (obl_val (fun vals => by rfl) (fun vals w hw hd => ?_)) ?_; (skip; go_simp; exact rfl))); simp only [Slot.put, Slot.chain, Bool.false_eq_true, if_false, if_true, Nat.add_zero, Nat.zero_add, Nat.reduceAdd, Act.put, List.setIfInBounds_toArray, List.set_cons_succ, List.set_cons_zero])
  refine obls_nil (fun vals w3 hw _ hall => ?_)
  have hW3 := hW2.trans hw
  have hb3 := hb2.keep hw (by simp)
  have hq3 := hq2.keep hw (by simp)
  have hy3 := h.pure hW3
  clear hb2 hq2 hy2 hall hw hW2 hlt2
  have hlt3 := hq3.lt
  go_wp2_with fail
  refine (overN_prog w3 hy3 (by omega)).mono ?_
  rintro e w4 ⟨g4, rfl, hk4, hc4⟩
  have hyb := Blk.new w4 45 [.slice A b.length cap, .bool false]
  have hz4 := (Keep.refl [] w4).alloc (.cells #[.slice A b.length cap, .bool false] 45)
  have hk34 := hk4.trans hz4
  have hl4 := hc4.cur.lt
  have hs4 := hc4.1
  have G := statGet_prog typ _ (hc4.keep hz4 (by simp)).cur
  have hc4s := hk4.size
  go_wp2_with fail
  refine G.mono ?_
  rintro e w5 ⟨rfl, hk5, hc5⟩
  have hg4 : W.heap.size ∉ [g4] ∧ W.heap.size + 1 ∉ [g4] ∧ w4.heap.size ∉ [g4] := by simp; omega
  have hW5 := (hW3.trans hk34).after hk5 (by have := hW3.size; simp; omega)
  have hb5 := (hb3.keep hk34 (by simp)).keep hk5 hg4.1
  have hq5 := (hq3.keep hk34 (by simp)).keep hk5 hg4.2.1
  have hyb5 := hyb.keep hk5 hg4.2.2
  have hz5 := (Keep.refl [] w5).alloc (.cells #[.int .i64 (getS typ (some b)).1.nulls.toInt, .bool (getS typ (some b)).1.has, .bool (getS typ (some b)).1.min.null, .int .i64 (getS typ (some b)).1.min.int.toInt, .string (getS typ (some b)).1.min.text, .int .i64 (getS typ (some b)).1.min.x.toInt, .int .i64 (getS typ (some b)).1.min.y.toInt, .bool (getS typ (some b)).1.max.null, .int .i64 (getS typ (some b)).1.max.int.toInt, .string (getS typ (some b)).1.max.text, .int .i64 (getS typ (some b)).1.max.x.toInt, .int .i64 (getS typ (some b)).1.max.y.toInt] 31)
  have hp5 := Blk.new w5 31 (St.cs (getS typ (some b)).1)
  have hcy := cur_at (t := 45) (hyb5.keep hz5 (by simp)) (h.pure (hW5.trans hz5)) (by omega) (low_of h (by have := hW3.size; omega))
  have G2 := statGet_ref typ _ hcy
  have hl5 := hyb5.lt
  go_wp2_with fail
  refine G2.mono ?_
  rintro e w6 ⟨rfl, hk6, hc6⟩
  clear G G2 hcy
  generalize getS typ (some b) = gs at *
  have hg6 : W.heap.size ∉ [w4.heap.size] ∧ W.heap.size + 1 ∉ [w4.heap.size] ∧ w5.heap.size ∉ [w4.heap.size] := by simp; omega
  have hW6 := (hW5.trans hz5).after hk6 (by have := hW3.size; simp; omega)
  have hb6 := (hb5.keep hz5 (by simp)).keep hk6 hg6.1
  have hq6 := (hq5.keep hz5 (by simp)).keep hk6 hg6.2.1
  have hp6 := hp5.keep hk6 hg6.2.2
  have hcx6 := (hc5.pure hz5).keep hk6 (by simp; omega)
  have hz6 := (Keep.refl [] w6).alloc (.cells #[.int .i64 gs.1.nulls.toInt, .bool gs.1.has, .bool gs.1.min.null, .int .i64 gs.1.min.int.toInt, .string gs.1.min.text, .int .i64 gs.1.min.x.toInt, .int .i64 gs.1.min.y.toInt, .bool gs.1.max.null, .int .i64 gs.1.max.int.toInt, .string gs.1.max.text, .int .i64 gs.1.max.x.toInt, .int .i64 gs.1.max.y.toInt] 31)
  have hr7 := Blk.new w6 31 (St.cs gs.1)
  have hb7 := hb6.keep hz6 (by simp)
  have hq7 := hq6.keep hz6 (by simp)
  have hp7 := hp6.keep hz6 (by simp)
  have hcx7 := hcx6.pure hz6
  have hcy7 := hc6.pure hz6
  have hW7 := hW6.trans hz6
  obtain ⟨W7, hW7e⟩ : ∃ W7, w6.alloc (.cells #[.int .i64 gs.1.nulls.toInt, .bool gs.1.has, .bool gs.1.min.null, .int .i64 gs.1.min.int.toInt, .string gs.1.min.text, .int .i64 gs.1.min.x.toInt, .int .i64 gs.1.min.y.toInt, .bool gs.1.max.null, .int .i64 gs.1.max.int.toInt, .string gs.1.max.text, .int .i64 gs.1.max.x.toInt, .int .i64 gs.1.max.y.toInt] 31) = W7 := ⟨_, rfl⟩
  rw [hW7e] at hr7 hb7 hq7 hp7 hcx7 hcy7 hW7
  clear hz5 hp5 hl5 hk6 hc6 hg6 hW6 hb6 hq6 hp6 hcx6 hz6 hb5 hq5 hyb5 hW5 hg4 hc5 hk5 hc4s hs4 hl4 hk34 hz4 hyb hc4 hk4 hlt3 hy3 hq3 hb3 hW3
  obtain ⟨AY, nY, cY, hyc, hyr, _, _⟩ := hcy7
  obtain rfl := hyr.len1
  obtain ⟨y0, y1, y2, y3, y4⟩ := cellAt hq7
  have hck : Cells [] (W7.alloc (.cells #[.bool c.null, .int .i64 c.int.toInt, .string c.text, .int .i64 c.x.toInt, .int .i64 c.y.toInt] 29)) (some ⟨W7.heap.size, 0, none⟩) 1 1 [c] :=
    (Blk.new W7 29 [.bool c.null, .int .i64 c.int.toInt, .string c.text, .int .i64 c.x.toInt, .int .i64 c.y.toInt]).rd (by simp) (by simp [Cell.cs]) (by omega) (by simp [maxLen]) (by simp [Cell.cs, vI])
  have hka := (Keep.refl [] W7).alloc (.cells #[.bool c.null, .int .i64 c.int.toInt, .string c.text, .int .i64 c.x.toInt, .int .i64 c.y.toInt] 29)
  have C := Lib.hid (cells_law typ _ hck)
  go_wp2_with fail
  clear hW7e
  refine C.out.mono ?_
  rintro e w8 ⟨rfl, hk8⟩
  have hk78 := hka.trans hk8
  clear y0 y1 y2 y3 y4 hck hka C hk8
  have hb8 := hb7.keep hk78 (by simp)
  obtain ⟨x0, x1, x2, x3, x4, x5, x6, x7, x8, x9, x10, x11⟩ := stAt hb8
  have R := Lib.hid (rightS_prog typ s w8)
  go_wp2_with fail
  refine R.out.mono ?_
  rintro e w9 ⟨rfl, hk9⟩
  have hk79 := hk78.trans hk9
  have hb9 := hb7.keep hk79 (by simp)
  have hq9 := hq7.keep hk79 (by simp)
  have hp9 := hp7.keep hk79 (by simp)
  have hr9 := hr7.keep hk79 (by simp)
  have hcx := hcx7.pure hk79
  replace hyc := hyc.keep hk79 (by simp)
  have hW9 := hW7.trans hk79
  clear x0 x1 x2 x3 x4 x5 x6 x7 x8 x9 x10 x11 R hb8 hb7 hq7 hp7 hr7 hcx7 hW7 hk78 hk9 hyr
  cases hfine : cellsOk typ [c] with
  | false =>
    go_wp2_with fail
    refine wp_region_ords 43 [] (fun _ _ => True) (List.replicate 43 false) (Slot.val ?_ :: Slot.val ?_ :: Slot.val ?_ :: Slot.val ?_ :: Slot.val ?_ :: Slot.val ?_ :: Slot.val ?_ :: Slot.val ?_ :: Slot.val ?_ :: Slot.val ?_ :: Slot.val ?_ :: Slot.val ?_ :: Slot.val ?_ :: Slot.val ?_ :: Slot.val ?_ :: Slot.val ?_ :: Slot.val ?_ :: Slot.val ?_ :: Slot.val ?_ :: Slot.val ?_ :: Slot.val ?_ :: Slot.val ?_ :: Slot.val ?_ :: Slot.val ?_ :: Slot.val ?_ :: Slot.val ?_ :: Slot.val ?_ :: Slot.val ?_ :: Slot.val ?_ :: Slot.val ?_ :: Slot.val ?_ :: Slot.val ?_ :: Slot.val ?_ :: Slot.val ?_ :: Slot.val ?_ :: Slot.val ?_ :: Slot.val ?_ :: Slot.val ?_ :: Slot.val ?_ :: Slot.val ?_ :: Slot.val ?_ :: Slot.val ?_ :: Slot.val ?_ :: []) (by kernel_rfl) rfl rfl (by kernel_rfl) ?_ (fun _ _ _ _ _ => trivial) trivial ?_
    rotate_left 43
    · intro t ht
      simp only [List.mem_cons, List.not_mem_nil, or_false] at ht
      rcases ht with rfl | rfl | rfl | rfl | rfl | rfl | rfl | rfl | rfl | rfl | rfl | rfl | rfl | rfl | rfl | rfl | rfl | rfl | rfl | rfl | rfl | rfl | rfl | rfl | rfl | rfl | rfl | rfl | rfl | rfl | rfl | rfl | rfl | rfl | rfl | rfl | rfl | rfl | rfl | rfl | rfl | rfl | rfl
      all_goals first | exact trivial | exact SlTo.lasts (by simp) | exact PtrTo.lasts (by simp) | exact RdIs.lasts
    simp only [List.take_succ_cons, List.take_zero, List.drop_succ_cons, List.drop_zero]
    repeat ((first | (refine obls_cons (obl_skip (fun vals => by rfl) ?_) ?_; (exact rfl)) | (refine obls_cons (obl_val (fun vals => by rfl) (fun vals w hw hd => ?_)) ?_; (have aP := stAt (hp9.keep hw (by simp)); have aR := stAt (hr9.keep hw (by simp)); obtain ⟨p0, p1, p2, p3, p4, p5, p6, p7, p8, p9, p10, p11⟩ := aP; obtain ⟨r0, r1, r2, r3, r4, r5, r6, r7, r8, r9, r10, r11⟩ := aR; have E := eql_st gs.1 gs.1 w; rw [decide_eq_true rfl] at E; go_simp; exact rfl))); simp only [Slot.put, Slot.chain, Bool.false_eq_true, if_false, if_true, Nat.add_zero, Nat.zero_add, Nat.reduceAdd, Act.put, List.setIfInBounds_toArray, List.set_cons_succ, List.set_cons_zero])
    refine obls_cons (obl_call (f := ?_) (args := ?_) (fun vals => by rfl) (fun vals w hw hd => ?_) (fun vals w hw hd => ?_)) ?_
    rotate_left 2
    · go_simp; exact rfl
    · have C := left_prog w (hcx.pure hw); have C2 := quiet_keep C; exact C2
    simp only [Slot.put, Slot.chain, Bool.false_eq_true, if_false, if_true, Nat.add_zero, Nat.zero_add, Nat.reduceAdd, Act.put, List.setIfInBounds_toArray, List.set_cons_succ, List.set_cons_zero]
    repeat ((first | (refine obls_cons (obl_skip (fun vals => by rfl) ?_) ?_; (exact rfl)) | (refine obls_cons (obl_val (fun vals => by rfl) (fun vals w hw hd => ?_)) ?_; (have yB := (hyc.keep hw (by simp)).cell 0; have yI := (hyc.keep hw (by simp)).cell 1; simp only [List.getElem?_cons_succ, List.getElem?_cons_zero] at yB yI; go_simp; exact rfl))); simp only [Slot.put, Slot.chain, Bool.false_eq_true, if_false, if_true, Nat.add_zero, Nat.zero_add, Nat.reduceAdd, Act.put, List.setIfInBounds_toArray, List.set_cons_succ, List.set_cons_zero])
    refine obls_cons (obl_call (f := ?_) (args := ?_) (fun vals => by rfl) (fun vals w hw hd => ?_) (fun vals w hw hd => ?_)) ?_
    rotate_left 2
    · go_simp; exact rfl
    · have C := bad_prog w (hcx.pure hw); have C2 := quiet_keep C; exact C2
    simp only [Slot.put, Slot.chain, Bool.false_eq_true, if_false, if_true, Nat.add_zero, Nat.zero_add, Nat.reduceAdd, Act.put, List.setIfInBounds_toArray, List.set_cons_succ, List.set_cons_zero]
    repeat ((first | (refine obls_cons (obl_skip (fun vals => by rfl) ?_) ?_; (exact rfl)) | (refine obls_cons (obl_val (fun vals => by rfl) (fun vals w hw hd => ?_)) ?_; (have yB := (hyc.keep hw (by simp)).cell 0; have yI := (hyc.keep hw (by simp)).cell 1; simp only [List.getElem?_cons_succ, List.getElem?_cons_zero] at yB yI; have z := (fun b : Bool => beq_self_eq_true b); go_simp; exact rfl))); simp only [Slot.put, Slot.chain, Bool.false_eq_true, if_false, if_true, Nat.add_zero, Nat.zero_add, Nat.reduceAdd, Act.put, List.setIfInBounds_toArray, List.set_cons_succ, List.set_cons_zero])
    refine obls_nil (fun vals w10 hw _ hall => ?_)
    go_wp2
    go_ret
    exact ⟨rfl, (hW9.trans hw).below⟩
  | true =>
  cases hR : rightS typ s with
  | false =>
    go_wp2_with fail
    refine wp_region_ords 43 [] (fun _ _ => True) (List.replicate 43 false) (Slot.val ?_ :: Slot.val ?_ :: Slot.val ?_ :: Slot.val ?_ :: Slot.val ?_ :: Slot.val ?_ :: Slot.val ?_ :: Slot.val ?_ :: Slot.val ?_ :: Slot.val ?_ :: Slot.val ?_ :: Slot.val ?_ :: Slot.val ?_ :: Slot.val ?_ :: Slot.val ?_ :: Slot.val ?_ :: Slot.val ?_ :: Slot.val ?_ :: Slot.val ?_ :: Slot.val ?_ :: Slot.val ?_ :: Slot.val ?_ :: Slot.val ?_ :: Slot.val ?_ :: Slot.val ?_ :: Slot.val ?_ :: Slot.val ?_ :: Slot.val ?_ :: Slot.val ?_ :: Slot.val ?_ :: Slot.val ?_ :: Slot.val ?_ :: Slot.val ?_ :: Slot.val ?_ :: Slot.val ?_ :: Slot.val ?_ :: Slot.val ?_ :: Slot.val ?_ :: Slot.val ?_ :: Slot.val ?_ :: Slot.val ?_ :: Slot.val ?_ :: Slot.val ?_ :: []) (by kernel_rfl) rfl rfl (by kernel_rfl) ?_ (fun _ _ _ _ _ => trivial) trivial ?_
    rotate_left 43
    · intro t ht
      simp only [List.mem_cons, List.not_mem_nil, or_false] at ht
      rcases ht with rfl | rfl | rfl | rfl | rfl | rfl | rfl | rfl | rfl | rfl | rfl | rfl | rfl | rfl | rfl | rfl | rfl | rfl | rfl | rfl | rfl | rfl | rfl | rfl | rfl | rfl | rfl | rfl | rfl | rfl | rfl | rfl | rfl | rfl | rfl | rfl | rfl | rfl | rfl | rfl | rfl | rfl | rfl
      all_goals first | exact trivial | exact SlTo.lasts (by simp) | exact PtrTo.lasts (by simp) | exact RdIs.lasts
    simp only [List.take_succ_cons, List.take_zero, List.drop_succ_cons, List.drop_zero]
    repeat ((first | (refine obls_cons (obl_skip (fun vals => by rfl) ?_) ?_; (exact rfl)) | (refine obls_cons (obl_val (fun vals => by rfl) (fun vals w hw hd => ?_)) ?_; (have aP := stAt (hp9.keep hw (by simp)); have aR := stAt (hr9.keep hw (by simp)); obtain ⟨p0, p1, p2, p3, p4, p5, p6, p7, p8, p9, p10, p11⟩ := aP; obtain ⟨r0, r1, r2, r3, r4, r5, r6, r7, r8, r9, r10, r11⟩ := aR; have E := eql_st gs.1 gs.1 w; rw [decide_eq_true rfl] at E; go_simp; exact rfl))); simp only [Slot.put, Slot.chain, Bool.false_eq_true, if_false, if_true, Nat.add_zero, Nat.zero_add, Nat.reduceAdd, Act.put, List.setIfInBounds_toArray, List.set_cons_succ, List.set_cons_zero])
    refine obls_cons (obl_call (f := ?_) (args := ?_) (fun vals => by rfl) (fun vals w hw hd => ?_) (fun vals w hw hd => ?_)) ?_
    rotate_left 2
    · go_simp; exact rfl
    · have C := left_prog w (hcx.pure hw); have C2 := quiet_keep C; exact C2
    simp only [Slot.put, Slot.chain, Bool.false_eq_true, if_false, if_true, Nat.add_zero, Nat.zero_add, Nat.reduceAdd, Act.put, List.setIfInBounds_toArray, List.set_cons_succ, List.set_cons_zero]
    repeat ((first | (refine obls_cons (obl_skip (fun vals => by rfl) ?_) ?_; (exact rfl)) | (refine obls_cons (obl_val (fun vals => by rfl) (fun vals w hw hd => ?_)) ?_; (have yB := (hyc.keep hw (by simp)).cell 0; have yI := (hyc.keep hw (by simp)).cell 1; simp only [List.getElem?_cons_succ, List.getElem?_cons_zero] at yB yI; go_simp; exact rfl))); simp only [Slot.put, Slot.chain, Bool.false_eq_true, if_false, if_true, Nat.add_zero, Nat.zero_add, Nat.reduceAdd, Act.put, List.setIfInBounds_toArray, List.set_cons_succ, List.set_cons_zero])
    refine obls_cons (obl_call (f := ?_) (args := ?_) (fun vals => by rfl) (fun vals w hw hd => ?_) (fun vals w hw hd => ?_)) ?_
    rotate_left 2
    · go_simp; exact rfl
    · have C := bad_prog w (hcx.pure hw); have C2 := quiet_keep C; exact C2
    simp only [Slot.put, Slot.chain, Bool.false_eq_true, if_false, if_true, Nat.add_zero, Nat.zero_add, Nat.reduceAdd, Act.put, List.setIfInBounds_toArray, List.set_cons_succ, List.set_cons_zero]
    repeat ((first | (refine obls_cons (obl_skip (fun vals => by rfl) ?_) ?_; (exact rfl)) | (refine obls_cons (obl_val (fun vals => by rfl) (fun vals w hw hd => ?_)) ?_; (have yB := (hyc.keep hw (by simp)).cell 0; have yI := (hyc.keep hw (by simp)).cell 1; simp only [List.getElem?_cons_succ, List.getElem?_cons_zero] at yB yI; have z := (fun b : Bool => beq_self_eq_true b); go_simp; exact rfl))); simp only [Slot.put, Slot.chain, Bool.false_eq_true, if_false, if_true, Nat.add_zero, Nat.zero_add, Nat.reduceAdd, Act.put, List.setIfInBounds_toArray, List.set_cons_succ, List.set_cons_zero])
    refine obls_nil (fun vals w10 hw _ hall => ?_)
    go_wp2
    go_ret
    exact ⟨rfl, (hW9.trans hw).below⟩
  | true =>
    have hnr : Hid (c.null = false → s.has = true → typ = 3 → c.near ∧ s.min.near ∧ s.max.near) := fun h1 h2 _ => ⟨rightC_near ((cellsOk_of hfine).2 c (by simp)), near_of_right hR h2⟩
    clear hfine hR
    go_wp2_with fail
    refine wp_region_ords 43 [] (fun _ _ => True) (List.replicate 43 false) (Slot.val ?_ :: Slot.val ?_ :: Slot.val ?_ :: Slot.val ?_ :: Slot.val ?_ :: Slot.val ?_ :: Slot.val ?_ :: Slot.val ?_ :: Slot.val ?_ :: Slot.val ?_ :: Slot.val ?_ :: Slot.val ?_ :: Slot.val ?_ :: Slot.val ?_ :: Slot.val ?_ :: Slot.val ?_ :: Slot.val ?_ :: Slot.val ?_ :: Slot.val ?_ :: Slot.val ?_ :: Slot.val ?_ :: Slot.val ?_ :: Slot.val ?_ :: Slot.val ?_ :: Slot.val ?_ :: Slot.val ?_ :: Slot.val ?_ :: Slot.val ?_ :: Slot.val ?_ :: Slot.val ?_ :: Slot.val ?_ :: Slot.val ?_ :: Slot.val ?_ :: Slot.val ?_ :: Slot.val ?_ :: Slot.val ?_ :: Slot.val ?_ :: Slot.val ?_ :: Slot.val ?_ :: Slot.val ?_ :: Slot.val ?_ :: Slot.val ?_ :: Slot.val ?_ :: []) (by kernel_rfl) rfl rfl (by kernel_rfl) ?_ (fun _ _ _ _ _ => trivial) trivial ?_
    rotate_left 43
    · intro t ht
      simp only [List.mem_cons, List.not_mem_nil, or_false] at ht
      rcases ht with rfl | rfl | rfl | rfl | rfl | rfl | rfl | rfl | rfl | rfl | rfl | rfl | rfl | rfl | rfl | rfl | rfl | rfl | rfl | rfl | rfl | rfl | rfl | rfl | rfl | rfl | rfl | rfl | rfl | rfl | rfl | rfl | rfl | rfl | rfl | rfl | rfl | rfl | rfl | rfl | rfl | rfl | rfl
      all_goals first | exact trivial | exact SlTo.lasts (by simp) | exact PtrTo.lasts (by simp) | exact RdIs.lasts
    simp only [List.take_succ_cons, List.take_zero, List.drop_succ_cons, List.drop_zero]
    repeat ((first | (refine obls_cons (obl_skip (fun vals => by rfl) ?_) ?_; (exact rfl)) | (refine obls_cons (obl_val (fun vals => by rfl) (fun vals w hw hd => ?_)) ?_; (have aP := stAt (hp9.keep hw (by simp)); have aR := stAt (hr9.keep hw (by simp)); obtain ⟨p0, p1, p2, p3, p4, p5, p6, p7, p8, p9, p10, p11⟩ := aP; obtain ⟨r0, r1, r2, r3, r4, r5, r6, r7, r8, r9, r10, r11⟩ := aR; have E := eql_st gs.1 gs.1 w; rw [decide_eq_true rfl] at E; go_simp; exact rfl))); simp only [Slot.put, Slot.chain, Bool.false_eq_true, if_false, if_true, Nat.add_zero, Nat.zero_add, Nat.reduceAdd, Act.put, List.setIfInBounds_toArray, List.set_cons_succ, List.set_cons_zero])
    refine obls_cons (obl_call (f := ?_) (args := ?_) (fun vals => by rfl) (fun vals w hw hd => ?_) (fun vals w hw hd => ?_)) ?_
    rotate_left 2
    · go_simp; exact rfl
    · have C := left_prog w (hcx.pure hw); have C2 := quiet_keep C; exact C2
    simp only [Slot.put, Slot.chain, Bool.false_eq_true, if_false, if_true, Nat.add_zero, Nat.zero_add, Nat.reduceAdd, Act.put, List.setIfInBounds_toArray, List.set_cons_succ, List.set_cons_zero]
    repeat ((first | (refine obls_cons (obl_skip (fun vals => by rfl) ?_) ?_; (exact rfl)) | (refine obls_cons (obl_val (fun vals => by rfl) (fun vals w hw hd => ?_)) ?_; (have yB := (hyc.keep hw (by simp)).cell 0; have yI := (hyc.keep hw (by simp)).cell 1; simp only [List.getElem?_cons_succ, List.getElem?_cons_zero] at yB yI; go_simp; exact rfl))); simp only [Slot.put, Slot.chain, Bool.false_eq_true, if_false, if_true, Nat.add_zero, Nat.zero_add, Nat.reduceAdd, Act.put, List.setIfInBounds_toArray, List.set_cons_succ, List.set_cons_zero])
    refine obls_cons (obl_call (f := ?_) (args := ?_) (fun vals => by rfl) (fun vals w hw hd => ?_) (fun vals w hw hd => ?_)) ?_
    rotate_left 2
    · go_simp; exact rfl
    · have C := bad_prog w (hcx.pure hw); have C2 := quiet_keep C; exact C2
    simp only [Slot.put, Slot.chain, Bool.false_eq_true, if_false, if_true, Nat.add_zero, Nat.zero_add, Nat.reduceAdd, Act.put, List.setIfInBounds_toArray, List.set_cons_succ, List.set_cons_zero]
    repeat ((first | (refine obls_cons (obl_skip (fun vals => by rfl) ?_) ?_; (exact rfl)) | (refine obls_cons (obl_val (fun vals => by rfl) (fun vals w hw hd => ?_)) ?_; (have yB := (hyc.keep hw (by simp)).cell 0; have yI := (hyc.keep hw (by simp)).cell 1; simp only [List.getElem?_cons_succ, List.getElem?_cons_zero] at yB yI; have z := (fun b : Bool => beq_self_eq_true b); go_simp; exact rfl))); simp only [Slot.put, Slot.chain, Bool.false_eq_true, if_false, if_true, Nat.add_zero, Nat.zero_add, Nat.reduceAdd, Act.put, List.setIfInBounds_toArray, List.set_cons_succ, List.set_cons_zero])
    repeat ((first | (refine obls_cons (obl_skip (fun vals => by rfl) ?_) ?_; (exact rfl)) | (refine obls_cons (obl_val (fun vals => by rfl) (fun vals w hw hd => ?_)) ?_; (have aX := stAt (hb9.keep hw (by simp)); obtain ⟨x0, x1, x2, x3, x4, x5, x6, x7, x8, x9, x10, x11⟩ := aX; have aC := cellAt (hq9.keep hw (by simp)); obtain ⟨y0, y1, y2, y3, y4⟩ := aC; go_simp; exact rfl))); simp only [Slot.put, Slot.chain, Bool.false_eq_true, if_false, if_true, Nat.add_zero, Nat.zero_add, Nat.reduceAdd, Act.put, List.setIfInBounds_toArray, List.set_cons_succ, List.set_cons_zero])
    refine obls_cons (obl_call (f := ?_) (args := ?_) (fun vals => by rfl) (fun vals w hw hd => ?_) (fun vals w hw hd => ?_)) ?_
    rotate_left 2
    · go_simp; exact rfl
    · have C := may_prog typ s c w hnr.out; exact C
    simp only [Slot.put, Slot.chain, Bool.false_eq_true, if_false, if_true, Nat.add_zero, Nat.zero_add, Nat.reduceAdd, Act.put, List.setIfInBounds_toArray, List.set_cons_succ, List.set_cons_zero]
    repeat ((first | (refine obls_cons (obl_skip (fun vals => by rfl) ?_) ?_; (exact rfl)) | (refine obls_cons (obl_val (fun vals => by rfl) (fun vals w hw hd => ?_)) ?_; (have aX := stAt (hb9.keep hw (by simp)); obtain ⟨x0, x1, x2, x3, x4, x5, x6, x7, x8, x9, x10, x11⟩ := aX; have aC := cellAt (hq9.keep hw (by simp)); obtain ⟨y0, y1, y2, y3, y4⟩ := aC; go_simp; exact rfl))); simp only [Slot.put, Slot.chain, Bool.false_eq_true, if_false, if_true, Nat.add_zero, Nat.zero_add, Nat.reduceAdd, Act.put, List.setIfInBounds_toArray, List.set_cons_succ, List.set_cons_zero])
    refine obls_cons (obl_call (f := ?_) (args := ?_) (fun vals => by rfl) (fun vals w hw hd => ?_) (fun vals w hw hd => ?_)) ?_
    rotate_left 2
    · go_simp; exact rfl
    · have C := may_ref typ s c w hnr.out; exact C
    simp only [Slot.put, Slot.chain, Bool.false_eq_true, if_false, if_true, Nat.add_zero, Nat.zero_add, Nat.reduceAdd, Act.put, List.setIfInBounds_toArray, List.set_cons_succ, List.set_cons_zero]
    repeat ((first | (refine obls_cons (obl_skip (fun vals => by rfl) ?_) ?_; (exact rfl)) | (refine obls_cons (obl_val (fun vals => by rfl) (fun vals w hw hd => ?_)) ?_; (have z := (fun b : Bool => beq_self_eq_true b); go_simp; exact rfl))); simp only [Slot.put, Slot.chain, Bool.false_eq_true, if_false, if_true, Nat.add_zero, Nat.zero_add, Nat.reduceAdd, Act.put, List.setIfInBounds_toArray, List.set_cons_succ, List.set_cons_zero])
    refine obls_nil (fun vals w10 hw _ hall => ?_)
    go_wp2
    go_ret
    exact ⟨rfl, (hW9.trans hw).below⟩
end Go.Proofs.Ytejbfknhnhhlfaa
