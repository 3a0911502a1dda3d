/-
  The walks of layer 15's statements: what is told of cells.
-/
import Derived.Test.YtejbfknhnhhlfaaFStS
namespace Go.Proofs.Ytejbfknhnhhlfaa
open Go Go.RowKit
set_option maxRecDepth 10000
set_option linter.unusedVariables false
set_option linter.unusedSimpArgs false

theorem mergeOf_ref (typ : Int) {a b : List Cell} (W : World) (ha : a.length ≤ 1000) (hb : b.length ≤ 1000) (na : ∀ x ∈ a, x.near) (nb : ∀ x ∈ b, x.near) :
    Calls Try.prog 18 #[.int .i64 typ, stVal (ofS typ a), stVal (ofS typ b)] W fun e W' => e = .returned (stVal (mergeS typ (ofS typ a) (ofS typ b))) ∧ Keep [] W W' :=
  merge_ref typ _ _ W (of_sum ha hb) (fun h1 h2 _ => ⟨(of_near hb nb h2).1, (of_near ha na h1).1, (of_near hb nb h2).2, (of_near ha na h1).2⟩)

set_option maxHeartbeats 4000000 in
theorem StatTells_walk (typ : Int) (A : Option Addr) (n c : Nat) (a : List Cell) (B : Option Addr) (m d : Nat) (b : List Cell) (W : World) (h : Cells [] W A n c a) (h' : Cells [] W B m d b) :
    Calls Try.prog 3 #[.int .i64 typ, .slice A n c, .slice B m d] W fun e W' => e = .returned (.bool true) ∧ Below W.heap.size W W' := by
  go_enter Try.func3, Try.ntmps3
  go_upto_region 2 with (refine (small15 W).mono ?_; rintro e w1 ⟨rfl, hk1⟩)
  go_cut [8] (fun v wx => ∃ o : Bool, v = .bool o ∧ (o = true → a.length ≤ 300 ∧ cellsOk typ a = true) ∧ Keep [] W wx)
  case first =>
    go_wp2_with fail
    refine (few_prog w1 (h.pure hk1)).mono ?_
    rintro e w2 ⟨⟨v, rfl, hv⟩, hk2⟩
    have hk12 := hk1.trans hk2
    cases v with
    | false =>
      go_wp2
      go_meet
      exact ⟨false, rfl, by simp, hk12⟩
    | true =>
      have hl := hv rfl
      clear hv
      go_wp2_with fail
      refine (cells_law typ w2 (h.pure hk12)).mono ?_
      rintro e w3 ⟨rfl, hk3⟩
      have hk13 := hk12.trans hk3
      go_wp2
      go_meet
      exact ⟨_, rfl, fun he => ⟨hl, he⟩, hk13⟩
  case rest =>
  obtain ⟨o1, rfl, ho1, hkA⟩ := hcut
  clear hk1
  go_upto_region 3 with (fail)
  go_cut [9] (fun v wx => ∃ o : Bool, v = .bool o ∧ (o = true → b.length ≤ 300 ∧ cellsOk typ b = true) ∧ Keep [] W wx)
  case first =>
    go_wp2_with fail
    refine (few_prog _ (h'.pure hkA)).mono ?_
    rintro e w2 ⟨⟨v, rfl, hv⟩, hk2⟩
    have hk12 := hkA.trans hk2
    cases v with
    | false =>
      go_wp2
      go_meet
      exact ⟨false, rfl, by simp, hk12⟩
    | true =>
      have hl := hv rfl
      clear hv
      go_wp2_with fail
      refine (cells_law typ w2 (h'.pure hk12)).mono ?_
      rintro e w3 ⟨rfl, hk3⟩
      have hk13 := hk12.trans hk3
      go_wp2
      go_meet
      exact ⟨_, rfl, fun he => ⟨hl, he⟩, hk13⟩
  case rest =>
  obtain ⟨o2, rfl, ho2, hkB⟩ := hcut
  rename_i wq
  cases o1 with
  | false =>
    go_wp2
    go_ret
    exact ⟨rfl, hkB.below⟩
  | true =>
  cases o2 with
  | false =>
    go_wp2
    go_ret
    exact ⟨rfl, hkB.below⟩
  | true =>
  obtain ⟨la, oka⟩ := ho1 rfl
  obtain ⟨lb, okb⟩ := ho2 rfl
  obtain ⟨hkn, hra⟩ := cellsOk_of oka
  obtain ⟨_, hrb⟩ := cellsOk_of okb
  have na := Lib.hid (fun x hx => rightC_near (hra x hx))
  have nb := Lib.hid (fun x hx => rightC_near (hrb x hx))
  clear ho1 ho2 oka okb hra hrb hkA
  have hca := h.pure hkB
  have hcb := h'.pure hkB
  go_wp2_with fail
  refine (ofS_prog typ _ hca (by omega) (fun _ => na.out)).mono ?_
  rintro e w4 ⟨rfl, hk4⟩
  have hz4 := (Keep.refl [] w4).alloc (.cells #[.int .i64 (ofS typ a).nulls.toInt, .bool (ofS typ a).has, .bool (ofS typ a).min.null, .int .i64 (ofS typ a).min.int.toInt, .string (ofS typ a).min.text, .int .i64 (ofS typ a).min.x.toInt, .int .i64 (ofS typ a).min.y.toInt, .bool (ofS typ a).max.null, .int .i64 (ofS typ a).max.int.toInt, .string (ofS typ a).max.text, .int .i64 (ofS typ a).max.x.toInt, .int .i64 (ofS typ a).max.y.toInt] 31)
  have hbx := Blk.new w4 31 (St.cs (ofS typ a))
  go_wp2_with fail
  refine (ofS_prog typ _ ((hcb.pure hk4).pure ((Keep.refl _ _).alloc _)) (by omega) (fun _ => nb.out)).mono ?_
  rintro e w5 ⟨rfl, hk5⟩
  have hk45 := hz4.trans hk5
  obtain ⟨W6, hW6⟩ : ∃ W6, w5.alloc (.cells #[.int .i64 (ofS typ b).nulls.toInt, .bool (ofS typ b).has, .bool (ofS typ b).min.null, .int .i64 (ofS typ b).min.int.toInt, .string (ofS typ b).min.text, .int .i64 (ofS typ b).min.x.toInt, .int .i64 (ofS typ b).min.y.toInt, .bool (ofS typ b).max.null, .int .i64 (ofS typ b).max.int.toInt, .string (ofS typ b).max.text, .int .i64 (ofS typ b).max.x.toInt, .int .i64 (ofS typ b).max.y.toInt] 31) = W6 := ⟨_, rfl⟩
  have hby : Blk W6 w5.heap.size 31 (St.cs (ofS typ b)) := hW6 ▸ Blk.new w5 31 _
  have hz5 : Keep [] w5 W6 := hW6 ▸ (Keep.refl [] w5).alloc _
  have hbx6 : Blk W6 w4.heap.size 31 (St.cs (ofS typ a)) := (hbx.keep hk5 (by simp)).keep hz5 (by simp)
  have hk46 := hk45.trans hz5
  have hkW := (hkB.trans hk4).trans hk46
  have hca6 := h.pure hkW
  have hcb6 := h'.pure hkW
  clear hbx hk45 hz4 hk5 hz5 hk46 hca hcb hk4 hkB
  go_wp2_with fail
  clear hW6
  refine wp_region_ords 26 [] (fun _ _ => True) (List.replicate 26 false) (Slot.val ?_ :: Slot.val ?_ :: Slot.val ?_ :: Slot.val ?_ :: Slot.val ?_ :: Slot.val ?_ :: Slot.val ?_ :: Slot.val ?_ :: Slot.val ?_ :: Slot.val ?_ :: Slot.val ?_ :: Slot.val ?_ :: Slot.val ?_ :: Slot.val ?_ :: Slot.val ?_ :: Slot.val ?_ :: Slot.val ?_ :: Slot.val ?_ :: Slot.val ?_ :: Slot.val ?_ :: Slot.val ?_ :: Slot.val ?_ :: Slot.val ?_ :: Slot.val ?_ :: Slot.val ?_ :: Slot.val ?_ :: []) (by kernel_rfl) rfl rfl (by kernel_rfl) ?_ (fun _ _ _ _ _ => trivial) trivial ?_
  rotate_left 26
  · intro t ht
    simp only [List.mem_cons, List.not_mem_nil, or_false] at ht
    rcases ht with rfl | rfl | rfl | rfl | rfl | rfl | rfl | rfl | rfl | rfl | rfl | rfl | rfl | rfl | rfl | rfl | rfl | rfl | rfl | rfl | rfl | rfl | rfl | rfl | rfl | rfl
    all_goals first | exact trivial | exact SlTo.lasts (by simp) | exact PtrTo.lasts (by simp) | exact RdIs.lasts
  simp only [List.take_succ_cons, List.take_zero, List.drop_succ_cons, List.drop_zero]
  repeat ((first | (refine obls_cons (obl_skip (fun vals => by rfl) ?_) ?_; (exact rfl)) | (refine obls_cons (obl_val (fun vals => by rfl) (fun vals w hw hd => ?_)) ?_; (have aX := stAt (hbx6.keep hw (by simp)); have aY := stAt (hby.keep hw (by simp)); obtain ⟨x0, x1, x2, x3, x4, x5, x6, x7, x8, x9, x10, x11⟩ := aX; obtain ⟨y0, y1, y2, y3, y4, y5, y6, y7, y8, y9, y10, y11⟩ := aY; go_simp; exact rfl))); simp only [Slot.put, Slot.chain, Bool.false_eq_true, if_false, if_true, Nat.add_zero, Nat.zero_add, Nat.reduceAdd, Act.put, List.setIfInBounds_toArray, List.set_cons_succ, List.set_cons_zero])
  refine obls_cons (obl_call (f := ?_) (args := ?_) (fun vals => by rfl) (fun vals w hw hd => ?_) (fun vals w hw hd => ?_)) ?_
  rotate_left 2
  · go_simp; exact rfl
  · exact ofS_ref typ w (hca6.pure hw) (by omega) (fun _ => na.out)
  simp only [Slot.put, Slot.chain, Bool.false_eq_true, if_false, if_true, Nat.add_zero, Nat.zero_add, Nat.reduceAdd, Act.put, List.setIfInBounds_toArray, List.set_cons_succ, List.set_cons_zero]
  repeat ((first | (refine obls_cons (obl_skip (fun vals => by rfl) ?_) ?_; (exact rfl)) | (refine obls_cons (obl_val (fun vals => by rfl) (fun vals w hw hd => ?_)) ?_; (have E := eql_st (ofS typ a) (ofS typ a) w; rw [decide_eq_true rfl] at E; have aX := stAt (hbx6.keep hw (by simp)); have aY := stAt (hby.keep hw (by simp)); obtain ⟨x0, x1, x2, x3, x4, x5, x6, x7, x8, x9, x10, x11⟩ := aX; obtain ⟨y0, y1, y2, y3, y4, y5, y6, y7, y8, y9, y10, y11⟩ := aY; go_simp; exact rfl))); simp only [Slot.put, Slot.chain, Bool.false_eq_true, if_false, if_true, Nat.add_zero, Nat.zero_add, Nat.reduceAdd, Act.put, List.setIfInBounds_toArray, List.set_cons_succ, List.set_cons_zero])
  refine obls_cons (obl_call (f := ?_) (args := ?_) (fun vals => by rfl) (fun vals w hw hd => ?_) (fun vals w hw hd => ?_)) ?_
  rotate_left 2
  · go_simp; exact rfl
  · exact ofS_ref typ w (hcb6.pure hw) (by omega) (fun _ => nb.out)
  simp only [Slot.put, Slot.chain, Bool.false_eq_true, if_false, if_true, Nat.add_zero, Nat.zero_add, Nat.reduceAdd, Act.put, List.setIfInBounds_toArray, List.set_cons_succ, List.set_cons_zero]
  repeat ((first | (refine obls_cons (obl_skip (fun vals => by rfl) ?_) ?_; (exact rfl)) | (refine obls_cons (obl_val (fun vals => by rfl) (fun vals w hw hd => ?_)) ?_; (have E := eql_st (ofS typ b) (ofS typ b) w; rw [decide_eq_true rfl] at E; have aX := stAt (hbx6.keep hw (by simp)); have aY := stAt (hby.keep hw (by simp)); obtain ⟨x0, x1, x2, x3, x4, x5, x6, x7, x8, x9, x10, x11⟩ := aX; obtain ⟨y0, y1, y2, y3, y4, y5, y6, y7, y8, y9, y10, y11⟩ := aY; go_simp; exact rfl))); simp only [Slot.put, Slot.chain, Bool.false_eq_true, if_false, if_true, Nat.add_zero, Nat.zero_add, Nat.reduceAdd, Act.put, List.setIfInBounds_toArray, List.set_cons_succ, List.set_cons_zero])
  refine obls_cons (obl_call (f := ?_) (args := ?_) (fun vals => by rfl) (fun vals w hw hd => ?_) (fun vals w hw hd => ?_)) ?_
  rotate_left 2
  · go_simp; exact rfl
  · exact mergeOf_prog typ w (by omega) (by omega) na.out nb.out
  simp only [Slot.put, Slot.chain, Bool.false_eq_true, if_false, if_true, Nat.add_zero, Nat.zero_add, Nat.reduceAdd, Act.put, List.setIfInBounds_toArray, List.set_cons_succ, List.set_cons_zero]
  repeat ((first | (refine obls_cons (obl_skip (fun vals => by rfl) ?_) ?_; (exact rfl)) | (refine obls_cons (obl_val (fun vals => by rfl) (fun vals w hw hd => ?_)) ?_; (have aX := stAt (hbx6.keep hw (by simp)); have aY := stAt (hby.keep hw (by simp)); obtain ⟨x0, x1, x2, x3, x4, x5, x6, x7, x8, x9, x10, x11⟩ := aX; obtain ⟨y0, y1, y2, y3, y4, y5, y6, y7, y8, y9, y10, y11⟩ := aY; go_simp; exact rfl))); simp only [Slot.put, Slot.chain, Bool.false_eq_true, if_false, if_true, Nat.add_zero, Nat.zero_add, Nat.reduceAdd, Act.put, List.setIfInBounds_toArray, List.set_cons_succ, List.set_cons_zero])
  refine obls_cons (obl_call (f := ?_) (args := ?_) (fun vals => by rfl) (fun vals w hw hd => ?_) (fun vals w hw hd => ?_)) ?_
  rotate_left 2
  · go_simp; exact rfl
  · exact mergeOf_ref typ w (by omega) (by omega) na.out nb.out
  simp only [Slot.put, Slot.chain, Bool.false_eq_true, if_false, if_true, Nat.add_zero, Nat.zero_add, Nat.reduceAdd, Act.put, List.setIfInBounds_toArray, List.set_cons_succ, List.set_cons_zero]
  repeat ((first | (refine obls_cons (obl_skip (fun vals => by rfl) ?_) ?_; (exact rfl)) | (refine obls_cons (obl_val (fun vals => by rfl) (fun vals w hw hd => ?_)) ?_; (have E := eql_st (mergeS typ (ofS typ a) (ofS typ b)) (mergeS typ (ofS typ a) (ofS typ b)) w; rw [decide_eq_true rfl] at E; have aX := stAt (hbx6.keep hw (by simp)); have aY := stAt (hby.keep hw (by simp)); obtain ⟨x0, x1, x2, x3, x4, x5, x6, x7, x8, x9, x10, x11⟩ := aX; obtain ⟨y0, y1, y2, y3, y4, y5, y6, y7, y8, y9, y10, y11⟩ := aY; go_simp; exact rfl))); simp only [Slot.put, Slot.chain, Bool.false_eq_true, if_false, if_true, Nat.add_zero, Nat.zero_add, Nat.reduceAdd, Act.put, List.setIfInBounds_toArray, List.set_cons_succ, List.set_cons_zero])
  refine obls_nil (fun vals w hw _ hall => ?_)
  go_wp2
  go_ret
  exact ⟨rfl, (hkW.trans hw).below⟩
end Go.Proofs.Ytejbfknhnhhlfaa
