/-
  The walks of layer 15's statements: what was put is got.
-/
import Derived.Test.YtejbfknhnhhlfaaFStS
import Derived.Test.YtejbfknhnhhlfaaFO
namespace Go.Proofs.Ytejbfknhnhhlfaa
open Go Go.RowKit
set_option maxRecDepth 10000
set_option linter.unusedVariables false
set_option linter.unusedSimpArgs false

theorem putS_len (typ : Int) (s : St) : (putS typ s).length ≤ 140100 := by
  unfold putS
  split
  · have h1 := putB_len (uN s.nulls.toInt)
    have h2 := encB2_len typ s.min s.max
    have h3 := putB_len (encB typ [s.min, s.max]).length
    split
    · simp only [List.length_append, List.length_singleton]; omega
    · simp only [List.length_append, List.length_singleton]; omega
  · simp

set_option maxHeartbeats 4000000 in
theorem StatBack_walk (typ : Int) (s : St) (A : Option Addr) (n c : Nat) (b : List UInt8) (W : World) (h : Bys [] W A n c b) :
    Calls Try.prog 8 #[.int .i64 typ, stVal s, .slice A n c] W fun e W' => e = .returned (.bool true) ∧ Below W.heap.size W W' := by
  have hcap := h.cap
  have hnc := h.le
  obtain rfl := h.len1
  go_enter Try.func8, Try.ntmps8
  go_upto_region 2 with (refine (small15 _).mono ?_; rintro e w1 ⟨rfl, hk1⟩)
  have hW1 : Keep [] W w1 := ((Keep.refl _ _).alloc _).trans hk1
  have hb1 : Blk w1 W.heap.size 31 s.cs := (Blk.new W 31 s.cs).keep hk1 (by simp)
  clear hk1
  go_cut [30] (fun v wx => ∃ o : Bool, v = .bool o ∧ (o = false → b.length ≤ 500) ∧ Keep [] w1 wx)
  case first =>
    have c4 := hb1.cell 4
    have c9 := hb1.cell 9
    simp only [List.getElem?_cons_succ, List.getElem?_cons_zero] at c4 c9
    by_cases h1 : 2000 < s.min.text.size
    · go_wp2
      go_meet
      exact ⟨_, rfl, fun ho => by simp at ho, Keep.refl _ _⟩
    by_cases h2 : 2000 < s.max.text.size
    · go_wp2
      go_meet
      exact ⟨_, rfl, fun ho => by simp at ho, Keep.refl _ _⟩
    by_cases h3 : 500 < b.length
    · go_wp2
      go_meet
      exact ⟨_, rfl, fun ho => by simp at ho; omega, Keep.refl _ _⟩
    · go_wp2
      go_meet
      exact ⟨_, rfl, fun ho => by simp at ho; omega, Keep.refl _ _⟩
  case rest =>
  obtain ⟨o, rfl, ho, hk2⟩ := hcut
  have hW2 := hW1.trans hk2
  have hb2 := hb1.keep hk2 (by simp)
  have hlt2 := hb2.lt
  cases o with
  | true =>
    go_wp2
    go_ret
    exact ⟨rfl, hW2.below⟩
  | false =>
  have hbl := ho rfl
  clear ho hk2 hb1 hW1
  obtain ⟨a0, a1, a2, a3, a4, a5, a6, a7, a8, a9, a10, a11⟩ := stAt hb2
  go_wp2_with fail
  refine (statPut_prog (X := []) (l := []) typ s wc (Rd.nil_ [] wc 1) (by omega)).mono ?_
  rintro e w3 ⟨B3, k3, d3, rfl, hk3, hown3⟩
  rw [List.nil_append] at hown3
  clear a0 a1 a2 a3 a4 a5 a6 a7 a8 a9 a10 a11
  have hy3 : Bys [] w3 B3 k3 d3 (putS typ s) := rd_of_own hown3 (by simp)
  have hk3l := hy3.len1
  have hpl : k3 ≤ 140100 := by
    rw [← hk3l]
    exact putS_len typ s
  have hyb3 : Bys [] w3 A b.length c b := (h.pure hW2).pure hk3
  clear hown3
  go_wp2_with fail
  refine (overN_prog w3 hy3 (by omega)).mono ?_
  rintro e w4 ⟨g4, rfl, hk4, hc4⟩
  go_wp2_with fail
  refine (overN_prog w4 (hyb3.pure hk4) (by omega)).mono ?_
  rintro e w5 ⟨g5, rfl, hk5, hc5⟩
  have hc45 := hc4.keep hk5 (by simp)
  have hk35 := (hk3.trans hk4).trans hk5
  have hW5 := hW2.trans hk35
  have hb5 := hb2.keep hk35 (by simp)
  have hl4 := hc4.cur.lt
  obtain ⟨a0, a1, a2, a3, a4, a5, a6, a7, a8, a9, a10, a11⟩ := stAt hb5
  have R := Lib.hid (rightS_prog typ s w5)
  go_wp2_with fail
  refine R.out.mono ?_
  rintro e w6 ⟨rfl, hk6⟩
  go_upto_if 46 with (fail)
  clear a0 a1 a2 a3 a4 a5 a6 a7 a8 a9 a10 a11 R
  have hW6 := hW5.trans hk6
  have hc46 := hc45.keep hk6 (by simp)
  have hc56 := hc5.keep hk6 (by simp)
  have hb6 := hb5.keep hk6 (by simp)
  go_cut [] (fun wx => ∃ base g, Keep [] W wx ∧ W.heap.size < base ∧ g = g5 ∧ CurN 69 wx base g b)
  case first =>
    have hsz24 : W.heap.size < w4.heap.size := by
      have e1 := hk3.size
      have e2 := hk4.size
      omega
    cases hR : rightS typ s with
    | false =>
      go_wp2
      go_meet
      exact ⟨w4.heap.size, g5, hW6, hsz24, rfl, hc56⟩
    | true =>
      have G := statGet_prog typ w6 hc46.cur
      have hgs := getS_put hR []
      rw [List.append_nil] at hgs
      rw [hgs] at G
      have E := neq_st s s
      rw [decide_eq_false (by simp)] at E
      replace G := Lib.hid G
      clear hgs hR
      go_wp2_with fail
      refine G.out.mono ?_
      rintro e w7 ⟨rfl, hk7, hc7⟩
      have hg4 : W.heap.size ∉ [g4] := by
        have e1 := hc46.1
        have e2 := hk3.size
        simp
        omega
      have hz := (Keep.refl [] w7).alloc (.cells #[.int .i64 s.nulls.toInt, .bool s.has, .bool s.min.null, .int .i64 s.min.int.toInt, .string s.min.text, .int .i64 s.min.x.toInt, .int .i64 s.min.y.toInt, .bool s.max.null, .int .i64 s.max.int.toInt, .string s.max.text, .int .i64 s.max.x.toInt, .int .i64 s.max.y.toInt] 31)
      have hb7 := (hb6.keep hk7 hg4).keep hz (by simp)
      have hc57 := (hc56.keep hk7 (by simp; omega)).keep hz (by simp)
      have hW7 := (hW6.after hk7 (by have e1 := hc46.1; have e2 := hk3.size; simp; omega)).trans hz
      obtain ⟨a0, a1, a2, a3, a4, a5, a6, a7, a8, a9, a10, a11⟩ := stAt hb7
      go_wp2_with fail
      refine (end_prog _ (hc7.pure hz)).mono ?_
      rintro e w8 ⟨rfl, rfl⟩
      go_wp2
      go_meet
      exact ⟨w4.heap.size, g5, hW7, hsz24, rfl, hc57⟩
  case rest =>
  obtain ⟨base, _, hWc, hbase, rfl, hcy⟩ := hcut
  clear hc46 hc56 hb6 hW6 hb5 hW5 hk35 hc45 hc5 hk5 hc4 hyb3 hk3 hy3 hb2 hW2 hk4 hk6 hl4 hlt2
  have hgy := hcy.1
  have hyb := h.pure hWc
  have G := statGet_prog typ wc hcy.cur
  have hnone := getS_none (typ := typ) (s := some b)
  have hinv := fun t r => getS_inv (typ := typ) (b := b) (t := t) (r := r)
  generalize getS typ (some b) = p at *
  obtain ⟨t, s'⟩ := p
  simp only [] at G hnone
  replace hinv := Lib.hid hinv
  replace hnone := Lib.hid hnone
  go_wp2_with fail
  refine G.mono ?_
  rintro e w7 ⟨rfl, hk7, hc7⟩
  have hz := (Keep.refl [] w7).alloc (.cells #[.int .i64 t.nulls.toInt, .bool t.has, .bool t.min.null, .int .i64 t.min.int.toInt, .string t.min.text, .int .i64 t.min.x.toInt, .int .i64 t.min.y.toInt, .bool t.max.null, .int .i64 t.max.int.toInt, .string t.max.text, .int .i64 t.max.x.toInt, .int .i64 t.max.y.toInt] 31)
  have hb7 : Blk (w7.alloc (.cells #[.int .i64 t.nulls.toInt, .bool t.has, .bool t.min.null, .int .i64 t.min.int.toInt, .string t.min.text, .int .i64 t.min.x.toInt, .int .i64 t.min.y.toInt, .bool t.max.null, .int .i64 t.max.int.toInt, .string t.max.text, .int .i64 t.max.x.toInt, .int .i64 t.max.y.toInt] 31)) w7.heap.size 31 t.cs := Blk.new w7 31 _
  have hW7 := (hWc.after hk7 (by simp; omega)).trans hz
  have hyb7 := h.pure hW7
  have hcz := hc7.pure hz
  obtain ⟨W7, hW7e⟩ : ∃ W7, w7.alloc (.cells #[.int .i64 t.nulls.toInt, .bool t.has, .bool t.min.null, .int .i64 t.min.int.toInt, .string t.min.text, .int .i64 t.min.x.toInt, .int .i64 t.min.y.toInt, .bool t.max.null, .int .i64 t.max.int.toInt, .string t.max.text, .int .i64 t.max.x.toInt, .int .i64 t.max.y.toInt] 31) = W7 := ⟨_, rfl⟩
  rw [hW7e] at hb7 hW7 hyb7 hcz
  clear hz hk7 hc7 hcy hWc hyb
  have Bd := Lib.hid (bad_prog W7 hcz)
  go_wp2_with fail
  clear hW7e
  refine Bd.out.mono ?_
  rintro e w8 ⟨rfl, rfl⟩
  cases s' with
  | none =>
    simp only [Option.isNone_none]
    have ht := hnone.out rfl
    subst ht
    have hb8 : Blk W7 w7.heap.size 31 [.int .i64 0, .bool false, .bool false, .int .i64 0, .string { data := #[] }, .int .i64 0, .int .i64 0, .bool false, .int .i64 0, .string { data := #[] }, .int .i64 0, .int .i64 0] := hb7
    obtain ⟨a0, a1, a2, a3, a4, a5, a6, a7, a8, a9, a10, a11⟩ := at12 hb8
    go_wp2
    go_ret
    exact ⟨rfl, hW7.below⟩
  | some r =>
    simp only [Option.isNone_some]
    obtain ⟨hR, hbr⟩ := hinv.out t r rfl
    obtain ⟨a0, a1, a2, a3, a4, a5, a6, a7, a8, a9, a10, a11⟩ := stAt hb7
    have P := statPut_prog (X := []) (l := []) typ t W7 (Rd.nil_ [] W7 1) (by omega)
    replace P := Lib.hid P
    have hRt := Lib.hid hR
    have hbh := Lib.hid hbr
    clear hR hbr hinv hnone
    go_wp2_with fail
    refine P.out.mono ?_
    rintro e w9 ⟨B9, k9, d9, rfl, hk9, hown9⟩
    rw [List.nil_append] at hown9
    clear a0 a1 a2 a3 a4 a5 a6 a7 a8 a9 a10 a11
    have hz9 : Bys [] w9 B9 k9 d9 (putS typ t) := rd_of_own hown9 (by simp)
    obtain rfl := hz9.len1
    have hb9 := hb7.keep hk9 (by simp)
    have hcy9 := hcz.pure hk9
    have hyb9 := hyb7.pure hk9
    have hW9 := hW7.trans hk9
    have hle : b.length = (putS typ t).length + r.length := by rw [hbh.out]; simp
    have hpre : Hid (b.take (putS typ t).length = putS typ t) := by rw [Hid, hbh.out]; simp
    clear hb7 hcz hyb7 hW7 hk9 P Bd hown9
    have h0 : (0 : Int) ≤ ((putS typ t).length : Int) := by omega
    have h1 : ((putS typ t).length : Int) ≤ (b.length : Int) := by omega
    have h2 : ((putS typ t).length : Int) ≤ (c : Int) := by omega
    have h3 : ((putS typ t).length : Int) = (b.length : Int) - (r.length : Int) := by omega
    generalize putS typ t = z at *
    replace hle := Lib.hid hle
    replace h3 := Lib.hid h3
    go_wp2_with fail
    refine wp_region_ords 32 [] (fun _ _ => True) (List.replicate 32 false) (Slot.val ?_ :: Slot.val ?_ :: Slot.val ?_ :: Slot.val ?_ :: Slot.val ?_ :: Slot.val ?_ :: Slot.val ?_ :: Slot.val ?_ :: Slot.val ?_ :: Slot.val ?_ :: Slot.val ?_ :: Slot.val ?_ :: Slot.val ?_ :: Slot.val ?_ :: Slot.val ?_ :: Slot.val ?_ :: Slot.val ?_ :: Slot.val ?_ :: Slot.val ?_ :: Slot.val ?_ :: Slot.val ?_ :: Slot.val ?_ :: Slot.val ?_ :: Slot.val ?_ :: Slot.val ?_ :: Slot.val ?_ :: Slot.val ?_ :: Slot.val ?_ :: Slot.val ?_ :: Slot.val ?_ :: Slot.val ?_ :: Slot.val ?_ :: []) (by kernel_rfl) rfl rfl (by kernel_rfl) ?_ (fun _ _ _ _ _ => trivial) trivial ?_
    rotate_left 32
    · intro t ht
      simp only [List.mem_cons, List.not_mem_nil, or_false] at ht
      rcases ht with rfl | rfl | rfl | rfl | rfl | rfl | rfl | rfl | rfl | rfl | rfl | rfl | rfl | rfl | rfl | rfl | rfl | rfl | rfl | rfl | rfl | rfl | rfl | rfl | rfl | rfl | rfl | rfl | rfl | rfl | rfl | rfl
      all_goals first | exact trivial | exact SlTo.lasts (by simp) | exact PtrTo.lasts (by simp) | exact RdIs.lasts
    simp only [List.take_succ_cons, List.take_zero, List.drop_succ_cons, List.drop_zero]
    repeat ((first | (refine obls_cons (obl_skip (fun vals => by rfl) ?_) ?_; (exact rfl)) | (refine obls_cons (obl_val (fun vals => by rfl) (fun vals w hw hd => ?_)) ?_; (have aX := stAt (hb9.keep hw (by simp)); obtain ⟨x0, x1, x2, x3, x4, x5, x6, x7, x8, x9, x10, x11⟩ := aX; go_simp; exact rfl))); simp only [Slot.put, Slot.chain, Bool.false_eq_true, if_false, if_true, Nat.add_zero, Nat.zero_add, Nat.reduceAdd, Act.put, List.setIfInBounds_toArray, List.set_cons_succ, List.set_cons_zero])
    refine obls_cons (obl_call (f := ?_) (args := ?_) (fun vals => by rfl) (fun vals w hw hd => ?_) (fun vals w hw hd => ?_)) ?_
    rotate_left 2
    · go_simp; exact rfl
    · have C := rightS_prog typ t w; rw [hRt.out] at C; exact C
    simp only [Slot.put, Slot.chain, Bool.false_eq_true, if_false, if_true, Nat.add_zero, Nat.zero_add, Nat.reduceAdd, Act.put, List.setIfInBounds_toArray, List.set_cons_succ, List.set_cons_zero]
    repeat ((first | (refine obls_cons (obl_skip (fun vals => by rfl) ?_) ?_; (exact rfl)) | (refine obls_cons (obl_val (fun vals => by rfl) (fun vals w hw hd => ?_)) ?_; (skip; go_simp; exact rfl))); simp only [Slot.put, Slot.chain, Bool.false_eq_true, if_false, if_true, Nat.add_zero, Nat.zero_add, Nat.reduceAdd, Act.put, List.setIfInBounds_toArray, List.set_cons_succ, List.set_cons_zero])
    refine obls_cons (obl_call (f := ?_) (args := ?_) (fun vals => by rfl) (fun vals w hw hd => ?_) (fun vals w hw hd => ?_)) ?_
    rotate_left 2
    · go_simp; exact rfl
    · have C := left_prog w (hcy9.pure hw); simp only [Option.getD_some] at C; have C2 := quiet_keep C; exact C2
    simp only [Slot.put, Slot.chain, Bool.false_eq_true, if_false, if_true, Nat.add_zero, Nat.zero_add, Nat.reduceAdd, Act.put, List.setIfInBounds_toArray, List.set_cons_succ, List.set_cons_zero]
    have h4 : (b.length : Int) - (r.length : Int) = (z.length : Int) := h3.out.symm
    have h6 : IntKind.i64.wrap (z.length : Int) = (z.length : Int) := IntWalk.i64_in _ (by omega)
    repeat ((first | (refine obls_cons (obl_skip (fun vals => by rfl) ?_) ?_; (exact rfl)) | (refine obls_cons (obl_val (fun vals => by rfl) (fun vals w hw hd => ?_)) ?_; (have s1 := str_run (hz9.pure hw); have hq : Bys [] w A z.length c (b.take z.length) := Rd.take1 (hyb9.pure hw) (by omega); rw [hpre.out] at hq; have s2 := str_run hq; go_simp; exact rfl))); simp only [Slot.put, Slot.chain, Bool.false_eq_true, if_false, if_true, Nat.add_zero, Nat.zero_add, Nat.reduceAdd, Act.put, List.setIfInBounds_toArray, List.set_cons_succ, List.set_cons_zero])
    refine obls_nil (fun vals w hw _ hall => ?_)
    go_wp2
    go_ret
    exact ⟨rfl, (hW9.trans hw).below⟩
end Go.Proofs.Ytejbfknhnhhlfaa
