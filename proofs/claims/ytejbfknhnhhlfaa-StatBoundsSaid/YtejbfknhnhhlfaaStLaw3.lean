/-
  The walks of layer 15's statements: no cell is beyond its stat.
-/
import Derived.Test.YtejbfknhnhhlfaaFStS
namespace Go.Proofs.Ytejbfknhnhhlfaa
open Go Go.RowKit
set_option maxRecDepth 10000
set_option linter.unusedVariables false
set_option linter.unusedSimpArgs false

/-- How many are null; whether one of them is c. -/
def nullsL (l : List Cell) : Nat := (l.filter (·.null)).length
def hasL (l : List Cell) (c : Cell) : Bool := l.any fun x => !x.null && decide (x = c)
theorem nullsL_snoc (l : List Cell) (k : Nat) (hk : k < l.length) : nullsL (l.take (k + 1)) = nullsL (l.take k) + if l[k].null then 1 else 0 := by
  unfold nullsL
  rw [List.take_succ_eq_append_getElem hk, List.filter_append, List.length_append]
  cases h : l[k].null <;> simp [h]
theorem hasL_snoc (l : List Cell) (c : Cell) (k : Nat) (hk : k < l.length) : hasL (l.take (k + 1)) c = (hasL (l.take k) c || (!l[k].null && decide (l[k] = c))) := by
  unfold hasL
  rw [List.take_succ_eq_append_getElem hk, List.any_append]
  simp
theorem nullsL_le (l : List Cell) : nullsL l ≤ l.length := List.length_filter_le _ _
/-- What StatBounds tells at last. -/
theorem bounds_end {typ : Int} {l : List Cell} (hl : l.length ≤ 1000000) : (ofS typ l).nulls.toInt = nullsL l ∧ (ofS typ l).has = decide (nullsL l < l.length) ∧
    (!(ofS typ l).has || hasL l (ofS typ l).min) = true ∧ (!(ofS typ l).has || hasL l (ofS typ l).max) = true := by
  obtain ⟨h1, h2, h3⟩ := ofS_ok typ l hl
  refine ⟨h1, ?_, ?_, ?_⟩
  · cases hh : (ofS typ l).has with
    | true =>
      obtain ⟨⟨h4, h5⟩, _⟩ := h3 hh
      refine (decide_eq_true ?_).symm
      unfold nullsL
      apply Nat.lt_of_le_of_ne (List.length_filter_le _ _)
      intro he
      rw [List.length_filter_eq_length_iff] at he
      rw [he _ h4] at h5
      cases h5
    | false =>
      refine (decide_eq_false ?_).symm
      have : l.filter (·.null) = l := List.filter_eq_self.2 (h2 hh)
      unfold nullsL
      rw [this]
      omega
  · cases hh : (ofS typ l).has with
    | false => rfl
    | true =>
      obtain ⟨⟨h4, h5⟩, _⟩ := h3 hh
      simp only [Bool.not_true, Bool.false_or, hasL, List.any_eq_true]
      exact ⟨_, h4, by simp [h5]⟩
  · cases hh : (ofS typ l).has with
    | false => rfl
    | true =>
      obtain ⟨_, ⟨h4, h5⟩, _⟩ := h3 hh
      simp only [Bool.not_true, Bool.false_or, hasL, List.any_eq_true]
      exact ⟨_, h4, by simp [h5]⟩

set_option maxHeartbeats 4000000 in
theorem StatBounds_walk (typ : Int) (A : Option Addr) (n c : Nat) (l : List Cell) (W : World) (h : Cells [] W A n c l) :
    Calls Try.prog 4 #[.int .i64 typ, .slice A n c] W fun e W' => e = .returned (.bool true) ∧ Below W.heap.size W W' := by
  have hc := h.cap
  have hnc := h.le
  obtain rfl := h.len
  go_enter Try.func4, Try.ntmps4
  go_wp2_with fail
  refine (small15 W).mono ?_
  rintro e w1 ⟨rfl, hk1⟩
  go_wp2_with fail
  refine (few_prog w1 (h.pure hk1)).mono ?_
  rintro e w2 ⟨⟨v, rfl, hv⟩, hk2⟩
  have hk12 := hk1.trans hk2
  cases v with
  | false =>
    go_wp2
    go_ret
    exact ⟨rfl, hk12.below⟩
  | true =>
  have hl := hv rfl
  clear hv
  go_wp2_with fail
  refine (cells_law typ w2 (h.pure hk12)).mono ?_
  rintro e w3 ⟨rfl, hk3⟩
  have hk13 := hk12.trans hk3
  cases hok : cellsOk typ l with
  | false =>
    go_wp2
    go_ret
    exact ⟨rfl, hk13.below⟩
  | true =>
  obtain ⟨hkn, hr⟩ := cellsOk_of hok
  clear hok
  have hnear : ∀ x ∈ l, x.near := fun x hx => rightC_near (hr x hx)
  have hmay : Hid (∀ x ∈ l, mayS typ (ofS typ l) x = true) := fun x hx => may_ofS (by omega) hx
  have hS := Lib.hid (of_near (typ := typ) (l := l) (by omega) hnear)
  have hR : Hid (rightS typ (ofS typ l) = true) := right_ofS (by omega) hkn hr
  have hend := bounds_end (typ := typ) (l := l) (by omega)
  have hc3 := h.pure hk13
  replace hnear := Lib.hid hnear
  clear hr
  go_wp2_with fail
  refine (ofS_prog typ w3 hc3 (by omega) (fun _ => hnear.out)).mono ?_
  rintro e w4 ⟨rfl, hk4⟩
  generalize ofS typ l = s at *
  replace hend := Lib.hid hend
  have hk14 := hk13.trans hk4
  have hcar : Hid (∀ wr, Keep [] W wr → Cells [] wr A l.length c l) := fun wr hk => h.pure hk
  have hb4 : Blk (w4.alloc (.cells #[.int .i64 s.nulls.toInt, .bool s.has, .bool s.min.null, .int .i64 s.min.int.toInt, .string s.min.text, .int .i64 s.min.x.toInt, .int .i64 s.min.y.toInt, .bool s.max.null, .int .i64 s.max.int.toInt, .string s.max.text, .int .i64 s.max.x.toInt, .int .i64 s.max.y.toInt] 31)) w4.heap.size 31 (St.cs s) := Blk.new w4 31 _
  obtain ⟨W4, hW4⟩ : ∃ W4, w4.alloc (.cells #[.int .i64 s.nulls.toInt, .bool s.has, .bool s.min.null, .int .i64 s.min.int.toInt, .string s.min.text, .int .i64 s.min.x.toInt, .int .i64 s.min.y.toInt, .bool s.max.null, .int .i64 s.max.int.toInt, .string s.max.text, .int .i64 s.max.x.toInt, .int .i64 s.max.y.toInt] 31) = W4 := ⟨_, rfl⟩
  have hk4' : Keep [] W W4 := hW4 ▸ hk14.alloc _
  rw [hW4] at hb4
  clear hk4 hk14 hk13 hk12 hk3 hk2 hk1 hc3
  have s1 := hb4.cell 1
  simp only [List.getElem?_cons_succ, List.getElem?_cons_zero] at s1
  go_wp2
  clear hW4
  go_loopw [8, 9, 10, 11] (fun n le mo i wr => ∃ (k : Nat) (vl vm : Bool), k ≤ l.length ∧ i = .int .i64 k ∧ n = .int .i64 (nullsL (l.take k)) ∧ le = .bool vl ∧ mo = .bool vm ∧
      Hid (vl = (!s.has || hasL (l.take k) s.min)) ∧ Hid (vm = (!s.has || hasL (l.take k) s.max)) ∧ Keep [] W4 wr) (fun _ _ _ i _ => l.length - (intOf i).toNat)
  case atStart => exact ⟨0, !s.has, !s.has, Nat.zero_le _, rfl, rfl, rfl, rfl, by simp [Hid, hasL], by simp [Hid, hasL], Keep.refl _ _⟩
  case round =>
    obtain ⟨k, vl, vm, hk, rfl, rfl, rfl, rfl, hvl, hvm, hkr⟩ := hrel
    have hnl := nullsL_le (l.take k)
    have hnl2 : (l.take k).length ≤ k := List.length_take_le _ _
    by_cases hlt : k < l.length
    · obtain ⟨b, off, rfl, _⟩ := (hcar.out _ (hk4'.trans hkr)).at5 hlt
      have hat : Hid (∀ w, Keep [] W w → w.cell? ⟨b, off + k * 5, none⟩ = some (.bool l[k].null) ∧ w.cell? ⟨b, off + k * 5 + 1, none⟩ = some (.int .i64 l[k].int.toInt) ∧
          w.cell? ⟨b, off + k * 5 + 2, none⟩ = some (.string l[k].text) ∧ w.cell? ⟨b, off + k * 5 + 3, none⟩ = some (.int .i64 l[k].x.toInt) ∧ w.cell? ⟨b, off + k * 5 + 4, none⟩ = some (.int .i64 l[k].y.toInt)) := fun w hk => by
        obtain ⟨b', off', he, _, _, c0, c1, c2, c3, c4⟩ := (hcar.out w hk).at5 hlt
        cases he
        exact ⟨c0, c1, c2, c3, c4⟩
      have hm := Lib.hid (hmay.out l[k] (List.getElem_mem hlt))
      have hnr := Lib.hid (hnear.out l[k] (List.getElem_mem hlt))
      have hn1 := Lib.hid (nullsL_snoc l k hlt)
      have ha1 := Lib.hid (hasL_snoc l s.min k hlt)
      have ha2 := Lib.hid (hasL_snoc l s.max k hlt)
      generalize l[k] = x at *
      have hkw := hk4'.trans hkr
      have hb5 := hb4.keep hkr (by simp)
      have i0 : (0 : Int) ≤ (k : Int) := by omega
      have i1 : (k : Int) < (l.length : Int) := by omega
      clear s1
      replace hnl2 : nullsL (l.take k) ≤ 300 := by omega
      generalize nullsL (l.take k) = nn at *
      go_wp2
      refine wp_region_ords 7 [] (fun _ _ => True) (List.replicate 7 false) (Slot.val ?_ :: Slot.val ?_ :: Slot.val ?_ :: Slot.val ?_ :: Slot.val ?_ :: Slot.val ?_ :: Slot.val ?_ :: []) (by kernel_rfl) rfl rfl (by kernel_rfl) ?_ (fun _ _ _ _ _ => trivial) trivial ?_
      rotate_left 7
      · intro t ht
        simp only [List.mem_cons, List.not_mem_nil, or_false] at ht
        rcases ht with rfl | rfl | rfl | rfl | rfl | rfl | rfl
        all_goals first | exact trivial | exact SlTo.lasts (by simp) | exact PtrTo.lasts (by simp) | exact RdIs.lasts
      simp only [List.take_succ_cons, List.take_zero, List.drop_succ_cons, List.drop_zero]
      repeat ((first | (refine obls_cons (obl_skip (fun vals => by rfl) ?_) ?_; (exact rfl)) | (refine obls_cons (obl_val (fun vals => by rfl) (fun vals w hw hd => ?_)) ?_; (have aX := hat.out w (hkw.trans hw); have aS := stAt (hb5.keep hw (by simp)); obtain ⟨x0, x1, x2, x3, x4⟩ := aX; obtain ⟨y0, y1, y2, y3, y4, y5, y6, y7, y8, y9, y10, y11⟩ := aS; go_simp; exact rfl))); simp only [Slot.put, Slot.chain, Bool.false_eq_true, if_false, if_true, Nat.add_zero, Nat.zero_add, Nat.reduceAdd, Act.put, List.setIfInBounds_toArray, List.set_cons_succ, List.set_cons_zero])
      refine obls_cons (obl_call (f := ?_) (args := ?_) (fun vals => by rfl) (fun vals w hw hd => ?_) (fun vals w hw hd => ?_)) ?_
      rotate_left 2
      · go_simp; exact rfl
      · have C := may_prog typ s x w (fun _ hh _ => ⟨hnr.out, hS.out hh⟩); rw [hm.out] at C; exact C
      simp only [Slot.put, Slot.chain, Bool.false_eq_true, if_false, if_true, Nat.add_zero, Nat.zero_add, Nat.reduceAdd, Act.put, List.setIfInBounds_toArray, List.set_cons_succ, List.set_cons_zero]
      refine obls_nil (fun vals w hw _ hall => ?_)
      have hkr2 := hkr.trans hw
      have hkw2 := hk4'.trans hkr2
      have hb6 := hb4.keep hkr2 (by simp)
      obtain ⟨x0, x1, x2, x3, x4⟩ := hat.out w hkw2
      cases hx : x.null with
      | true =>
        rw [hx] at x0
        go_wp2
        go_roundw
        case rel =>
          refine ⟨k + 1, vl, vm, by omega, by go_num, by rw [hn1.out, hx]; go_num, rfl, rfl, ?_, ?_, hkr2⟩
          · rw [Hid, ha1.out, hx, hvl.out]; simp
          · rw [Hid, ha2.out, hx, hvm.out]; simp
        case measure => simp [intOf]; omega
      | false =>
        rw [hx] at x0
        cases vl with
        | true =>
          go_wp2
          replace hx := Lib.hid hx
          refine wp_region_ords 10 [] (fun _ _ => True) (List.replicate 10 false) (Slot.val ?_ :: Slot.val ?_ :: Slot.val ?_ :: Slot.val ?_ :: Slot.val ?_ :: Slot.val ?_ :: Slot.val ?_ :: Slot.val ?_ :: Slot.val ?_ :: Slot.val ?_ :: []) (by kernel_rfl) rfl rfl (by kernel_rfl) ?_ (fun _ _ _ _ _ => trivial) trivial ?_
          rotate_left 10
          · intro t ht
            simp only [List.mem_cons, List.not_mem_nil, or_false] at ht
            rcases ht with rfl | rfl | rfl | rfl | rfl | rfl | rfl | rfl | rfl | rfl
            all_goals first | exact trivial | exact SlTo.lasts (by simp) | exact PtrTo.lasts (by simp) | exact RdIs.lasts
          simp only [List.take_succ_cons, List.take_zero, List.drop_succ_cons, List.drop_zero]
          repeat ((first | (refine obls_cons (obl_skip (fun vals => by rfl) ?_) ?_; (exact rfl)) | (refine obls_cons (obl_val (fun vals => by rfl) (fun vals w hw hd => ?_)) ?_; (have aX := hat.out w ((hkw2).trans hw); have aS := stAt (hb6.keep ((Keep.refl [] _).trans hw) (by simp)); obtain ⟨x0, x1, x2, x3, x4⟩ := aX; obtain ⟨y0, y1, y2, y3, y4, y5, y6, y7, y8, y9, y10, y11⟩ := aS; have E := eql_cell x s.min; unfold cellVal at E; go_simp; exact rfl))); simp only [Slot.put, Slot.chain, Bool.false_eq_true, if_false, if_true, Nat.add_zero, Nat.zero_add, Nat.reduceAdd, Act.put, List.setIfInBounds_toArray, List.set_cons_succ, List.set_cons_zero])
          refine obls_nil (fun vals w2 hw2 _ hall => ?_)
          have hkr3 := hkr2.trans hw2
          have hkw3 := hkw2.trans hw2
          cases vm with
          | true =>
            go_wp2
            refine wp_region_ords 10 [] (fun _ _ => True) (List.replicate 10 false) (Slot.val ?_ :: Slot.val ?_ :: Slot.val ?_ :: Slot.val ?_ :: Slot.val ?_ :: Slot.val ?_ :: Slot.val ?_ :: Slot.val ?_ :: Slot.val ?_ :: Slot.val ?_ :: []) (by kernel_rfl) rfl rfl (by kernel_rfl) ?_ (fun _ _ _ _ _ => trivial) trivial ?_
            rotate_left 10
            · intro t ht
              simp only [List.mem_cons, List.not_mem_nil, or_false] at ht
              rcases ht with rfl | rfl | rfl | rfl | rfl | rfl | rfl | rfl | rfl | rfl
              all_goals first | exact trivial | exact SlTo.lasts (by simp) | exact PtrTo.lasts (by simp) | exact RdIs.lasts
            simp only [List.take_succ_cons, List.take_zero, List.drop_succ_cons, List.drop_zero]
            repeat ((first | (refine obls_cons (obl_skip (fun vals => by rfl) ?_) ?_; (exact rfl)) | (refine obls_cons (obl_val (fun vals => by rfl) (fun vals w hw hd => ?_)) ?_; (have aX := hat.out w ((hkw3).trans hw); have aS := stAt (hb6.keep ((hw2).trans hw) (by simp)); obtain ⟨x0, x1, x2, x3, x4⟩ := aX; obtain ⟨y0, y1, y2, y3, y4, y5, y6, y7, y8, y9, y10, y11⟩ := aS; have E := eql_cell x s.max; unfold cellVal at E; go_simp; exact rfl))); simp only [Slot.put, Slot.chain, Bool.false_eq_true, if_false, if_true, Nat.add_zero, Nat.zero_add, Nat.reduceAdd, Act.put, List.setIfInBounds_toArray, List.set_cons_succ, List.set_cons_zero])
            refine obls_nil (fun vals w' hw' _ hall => ?_)
            go_wp2
            go_roundw
            case rel =>
              refine ⟨k + 1, true, true, by omega, by go_num, by rw [hn1.out, hx.out]; go_num, rfl, rfl, ?_, ?_, ?_⟩
              · rw [Hid, ha1.out, hx.out, ← Bool.or_assoc, ← hvl.out]; simp
              · rw [Hid, ha2.out, hx.out, ← Bool.or_assoc, ← hvm.out]; simp
              · exact hkr3.trans hw'
            case measure => simp [intOf]; omega
          | false =>
            go_wp2
            refine wp_region_ords 10 [] (fun _ _ => True) (List.replicate 10 false) (Slot.val ?_ :: Slot.val ?_ :: Slot.val ?_ :: Slot.val ?_ :: Slot.val ?_ :: Slot.val ?_ :: Slot.val ?_ :: Slot.val ?_ :: Slot.val ?_ :: Slot.val ?_ :: []) (by kernel_rfl) rfl rfl (by kernel_rfl) ?_ (fun _ _ _ _ _ => trivial) trivial ?_
            rotate_left 10
            · intro t ht
              simp only [List.mem_cons, List.not_mem_nil, or_false] at ht
              rcases ht with rfl | rfl | rfl | rfl | rfl | rfl | rfl | rfl | rfl | rfl
              all_goals first | exact trivial | exact SlTo.lasts (by simp) | exact PtrTo.lasts (by simp) | exact RdIs.lasts
            simp only [List.take_succ_cons, List.take_zero, List.drop_succ_cons, List.drop_zero]
            repeat ((first | (refine obls_cons (obl_skip (fun vals => by rfl) ?_) ?_; (exact rfl)) | (refine obls_cons (obl_val (fun vals => by rfl) (fun vals w hw hd => ?_)) ?_; (have aX := hat.out w ((hkw3).trans hw); have aS := stAt (hb6.keep ((hw2).trans hw) (by simp)); obtain ⟨x0, x1, x2, x3, x4⟩ := aX; obtain ⟨y0, y1, y2, y3, y4, y5, y6, y7, y8, y9, y10, y11⟩ := aS; have E := eql_cell x s.max; unfold cellVal at E; go_simp; exact rfl))); simp only [Slot.put, Slot.chain, Bool.false_eq_true, if_false, if_true, Nat.add_zero, Nat.zero_add, Nat.reduceAdd, Act.put, List.setIfInBounds_toArray, List.set_cons_succ, List.set_cons_zero])
            refine obls_nil (fun vals w' hw' _ hall => ?_)
            go_wp2
            go_roundw
            case rel =>
              refine ⟨k + 1, true, decide (x = s.max), by omega, by go_num, by rw [hn1.out, hx.out]; go_num, rfl, rfl, ?_, ?_, ?_⟩
              · rw [Hid, ha1.out, hx.out, ← Bool.or_assoc, ← hvl.out]; simp
              · rw [Hid, ha2.out, hx.out, ← Bool.or_assoc, ← hvm.out]; simp
              · exact hkr3.trans hw'
            case measure => simp [intOf]; omega
        | false =>
          go_wp2
          replace hx := Lib.hid hx
          refine wp_region_ords 10 [] (fun _ _ => True) (List.replicate 10 false) (Slot.val ?_ :: Slot.val ?_ :: Slot.val ?_ :: Slot.val ?_ :: Slot.val ?_ :: Slot.val ?_ :: Slot.val ?_ :: Slot.val ?_ :: Slot.val ?_ :: Slot.val ?_ :: []) (by kernel_rfl) rfl rfl (by kernel_rfl) ?_ (fun _ _ _ _ _ => trivial) trivial ?_
          rotate_left 10
          · intro t ht
            simp only [List.mem_cons, List.not_mem_nil, or_false] at ht
            rcases ht with rfl | rfl | rfl | rfl | rfl | rfl | rfl | rfl | rfl | rfl
            all_goals first | exact trivial | exact SlTo.lasts (by simp) | exact PtrTo.lasts (by simp) | exact RdIs.lasts
          simp only [List.take_succ_cons, List.take_zero, List.drop_succ_cons, List.drop_zero]
          repeat ((first | (refine obls_cons (obl_skip (fun vals => by rfl) ?_) ?_; (exact rfl)) | (refine obls_cons (obl_val (fun vals => by rfl) (fun vals w hw hd => ?_)) ?_; (have aX := hat.out w ((hkw2).trans hw); have aS := stAt (hb6.keep ((Keep.refl [] _).trans hw) (by simp)); obtain ⟨x0, x1, x2, x3, x4⟩ := aX; obtain ⟨y0, y1, y2, y3, y4, y5, y6, y7, y8, y9, y10, y11⟩ := aS; have E := eql_cell x s.min; unfold cellVal at E; go_simp; exact rfl))); simp only [Slot.put, Slot.chain, Bool.false_eq_true, if_false, if_true, Nat.add_zero, Nat.zero_add, Nat.reduceAdd, Act.put, List.setIfInBounds_toArray, List.set_cons_succ, List.set_cons_zero])
          refine obls_nil (fun vals w2 hw2 _ hall => ?_)
          have hkr3 := hkr2.trans hw2
          have hkw3 := hkw2.trans hw2
          cases vm with
          | true =>
            go_wp2
            refine wp_region_ords 10 [] (fun _ _ => True) (List.replicate 10 false) (Slot.val ?_ :: Slot.val ?_ :: Slot.val ?_ :: Slot.val ?_ :: Slot.val ?_ :: Slot.val ?_ :: Slot.val ?_ :: Slot.val ?_ :: Slot.val ?_ :: Slot.val ?_ :: []) (by kernel_rfl) rfl rfl (by kernel_rfl) ?_ (fun _ _ _ _ _ => trivial) trivial ?_
            rotate_left 10
            · intro t ht
              simp only [List.mem_cons, List.not_mem_nil, or_false] at ht
              rcases ht with rfl | rfl | rfl | rfl | rfl | rfl | rfl | rfl | rfl | rfl
              all_goals first | exact trivial | exact SlTo.lasts (by simp) | exact PtrTo.lasts (by simp) | exact RdIs.lasts
            simp only [List.take_succ_cons, List.take_zero, List.drop_succ_cons, List.drop_zero]
            repeat ((first | (refine obls_cons (obl_skip (fun vals => by rfl) ?_) ?_; (exact rfl)) | (refine obls_cons (obl_val (fun vals => by rfl) (fun vals w hw hd => ?_)) ?_; (have aX := hat.out w ((hkw3).trans hw); have aS := stAt (hb6.keep ((hw2).trans hw) (by simp)); obtain ⟨x0, x1, x2, x3, x4⟩ := aX; obtain ⟨y0, y1, y2, y3, y4, y5, y6, y7, y8, y9, y10, y11⟩ := aS; have E := eql_cell x s.max; unfold cellVal at E; go_simp; exact rfl))); simp only [Slot.put, Slot.chain, Bool.false_eq_true, if_false, if_true, Nat.add_zero, Nat.zero_add, Nat.reduceAdd, Act.put, List.setIfInBounds_toArray, List.set_cons_succ, List.set_cons_zero])
            refine obls_nil (fun vals w' hw' _ hall => ?_)
            go_wp2
            go_roundw
            case rel =>
              refine ⟨k + 1, decide (x = s.min), true, by omega, by go_num, by rw [hn1.out, hx.out]; go_num, rfl, rfl, ?_, ?_, ?_⟩
              · rw [Hid, ha1.out, hx.out, ← Bool.or_assoc, ← hvl.out]; simp
              · rw [Hid, ha2.out, hx.out, ← Bool.or_assoc, ← hvm.out]; simp
              · exact hkr3.trans hw'
            case measure => simp [intOf]; omega
          | false =>
            go_wp2
            refine wp_region_ords 10 [] (fun _ _ => True) (List.replicate 10 false) (Slot.val ?_ :: Slot.val ?_ :: Slot.val ?_ :: Slot.val ?_ :: Slot.val ?_ :: Slot.val ?_ :: Slot.val ?_ :: Slot.val ?_ :: Slot.val ?_ :: Slot.val ?_ :: []) (by kernel_rfl) rfl rfl (by kernel_rfl) ?_ (fun _ _ _ _ _ => trivial) trivial ?_
            rotate_left 10
            · intro t ht
              simp only [List.mem_cons, List.not_mem_nil, or_false] at ht
              rcases ht with rfl | rfl | rfl | rfl | rfl | rfl | rfl | rfl | rfl | rfl
              all_goals first | exact trivial | exact SlTo.lasts (by simp) | exact PtrTo.lasts (by simp) | exact RdIs.lasts
            simp only [List.take_succ_cons, List.take_zero, List.drop_succ_cons, List.drop_zero]
            repeat ((first | (refine obls_cons (obl_skip (fun vals => by rfl) ?_) ?_; (exact rfl)) | (refine obls_cons (obl_val (fun vals => by rfl) (fun vals w hw hd => ?_)) ?_; (have aX := hat.out w ((hkw3).trans hw); have aS := stAt (hb6.keep ((hw2).trans hw) (by simp)); obtain ⟨x0, x1, x2, x3, x4⟩ := aX; obtain ⟨y0, y1, y2, y3, y4, y5, y6, y7, y8, y9, y10, y11⟩ := aS; have E := eql_cell x s.max; unfold cellVal at E; go_simp; exact rfl))); simp only [Slot.put, Slot.chain, Bool.false_eq_true, if_false, if_true, Nat.add_zero, Nat.zero_add, Nat.reduceAdd, Act.put, List.setIfInBounds_toArray, List.set_cons_succ, List.set_cons_zero])
            refine obls_nil (fun vals w' hw' _ hall => ?_)
            go_wp2
            go_roundw
            case rel =>
              refine ⟨k + 1, decide (x = s.min), decide (x = s.max), by omega, by go_num, by rw [hn1.out, hx.out]; go_num, rfl, rfl, ?_, ?_, ?_⟩
              · rw [Hid, ha1.out, hx.out, ← Bool.or_assoc, ← hvl.out]; simp
              · rw [Hid, ha2.out, hx.out, ← Bool.or_assoc, ← hvm.out]; simp
              · exact hkr3.trans hw'
            case measure => simp [intOf]; omega
    · obtain rfl : k = l.length := by omega
      rw [List.take_length] at hvl hvm hnl2 ⊢
      obtain ⟨e1, e2, e3, e4⟩ := hend.out
      have e5 : vl = true := hvl.out.trans e3
      have e6 : vm = true := hvm.out.trans e4
      subst e5 e6
      clear e3 e4
      have hb5 := hb4.keep hkr (by simp)
      obtain ⟨y0, y1, y2, y3, y4, y5, y6, y7, y8, y9, y10, y11⟩ := stAt hb5
      have C := rightS_prog typ s wr
      rw [hR.out] at C
      replace e1 := Lib.hid e1
      replace e2 := Lib.hid e2
      replace C := Lib.hid C
      clear s1
      go_wp2_with fail
      refine C.out.mono ?_
      rintro e w6 ⟨rfl, hk6⟩
      clear y0 y1 y2 y3 y4 y5 y6 y7 y8 y9 y10 y11
      have hb6 := hb5.keep hk6 (by simp)
      have y0 := hb6.cell 0
      have y1 := hb6.cell 1
      simp only [List.getElem?_cons_succ, List.getElem?_cons_zero] at y0 y1
      rw [e1.out] at y0
      rw [e2.out] at y1
      clear e2
      have hz : ∀ b : Bool, (b == b) = true := fun b => by cases b <;> rfl
      go_wp2
      go_ret
      exact ⟨rfl, ((hk4'.trans hkr).trans hk6).below⟩
end Go.Proofs.Ytejbfknhnhhlfaa
