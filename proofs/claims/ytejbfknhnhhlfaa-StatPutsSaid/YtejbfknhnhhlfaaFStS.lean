/-
  The walks of layer 15's statements: the small case.
  The walks of layer 15's statements.
-/
import Derived.Deep.RegionHeld3
import Derived.Deep.DeepCutAuto
import Derived.Test.YtejbfknhnhhlfaaFStc
import Derived.Test.YtejbfknhnhhlfaaFStb
import Derived.Test.YtejbfknhnhhlfaaFSta
import Derived.Test.YtejbfknhnhhlfaaFO
import Derived.Test.YtejbfknhnhhlfaaFCu
namespace Go.Proofs.Ytejbfknhnhhlfaa
open Go Go.RowKit
set_option maxRecDepth 10000
set_option linter.unusedVariables false
set_option linter.unusedSimpArgs false

/-- A cell of an int; of a text. -/
abbrev cI (n : Int64) : Cell := ⟨false, n, ByteArray.empty, 0, 0⟩
abbrev cT (s : ByteArray) : Cell := ⟨false, 0, s, 0, 0⟩
def sA : St := ⟨1, true, cI 1, cI 3⟩
def sM : St := ⟨1, true, cI 1, cI 9⟩

theorem mergeS_any (typ : Int) (a b : St) (W : World) (hs : isI64 (a.nulls.toInt + b.nulls.toInt) := by unfold isI64; decide) (h3 : typ ≠ 3 := by decide) : Calls Try.prog 17 #[.int .i64 typ, stVal a, stVal b] W fun e W' => e = .returned (stVal (mergeS typ a b)) ∧ Keep [] W W' :=
  merge_prog typ a b W hs (fun _ _ h => absurd h h3)

set_option maxHeartbeats 4000000 in
theorem small15 (W : World) : Calls Try.prog 12 #[] W fun e W' => e = .returned (.bool true) ∧ Keep [] W W' := by
  have v1 : ofS 0 [cI 3, Cell.nil, cI 1] = sA := by decide +kernel
  have v2 : ofS 0 [cI 9] = ⟨0, true, cI 9, cI 9⟩ := by decide +kernel
  have v3 : mergeS 0 sA ⟨0, true, cI 9, cI 9⟩ = sM := by decide +kernel
  have v4 : putS 0 ⟨2, false, Cell.zero, Cell.zero⟩ = [2, 0] := by decide +kernel
  have v5 : putS 2 (ofS 2 [cT ⟨#[98]⟩, cT ⟨#[97]⟩]) = [0, 1, 4, 1, 97, 1, 98] := by decide +kernel
  have v6 : getS 0 (some [2, 0]) = (⟨2, false, Cell.zero, Cell.zero⟩, some []) := by decide +kernel
  have v7 : getS 0 (some [0, 2]) = (St.zero, none) := by decide +kernel
  have v8 : mayS 0 sA (cI 2) = true ∧ mayS 0 sA (cI 4) = false ∧ mayS 0 sA Cell.nil = true ∧ rightS 0 sA = true ∧ rightS 4 St.zero = false := by decide +kernel
  have hk0 : Keep [] W (W.alloc (.cells #[.bool false, .int .i64 3, .string { data := #[] }, .int .i64 0, .int .i64 0, .bool true, .int .i64 0, .string { data := #[] }, .int .i64 0, .int .i64 0, .bool false, .int .i64 1, .string { data := #[] }, .int .i64 0, .int .i64 0] 29)) := (Keep.refl _ _).alloc _
  have C1 := Lib.hid (ofS_prog (X := []) (l := [cI 3, Cell.nil, cI 1]) 0 _ ((Blk.new W 29 [.bool false, .int .i64 3, .string { data := #[] }, .int .i64 0, .int .i64 0, .bool true, .int .i64 0, .string { data := #[] }, .int .i64 0, .int .i64 0, .bool false, .int .i64 1, .string { data := #[] }, .int .i64 0, .int .i64 0]).rd (by simp) rfl (by omega) (by simp [maxLen]) rfl : Cells [] _ (some ⟨W.heap.size, 0, none⟩) 3 3 [cI 3, Cell.nil, cI 1]) (by simp) (by simp))
  go_enter Try.func12, Try.ntmps12
  go_wp2_with fail
  refine C1.out.mono ?_
  rintro e w1 ⟨rfl, hk1⟩
  rw [v1]
  obtain ⟨W1, hW1⟩ : ∃ W1, w1.alloc (.cells #[.int .i64 sA.nulls.toInt, .bool sA.has, .bool sA.min.null, .int .i64 sA.min.int.toInt, .string sA.min.text, .int .i64 sA.min.x.toInt, .int .i64 sA.min.y.toInt, .bool sA.max.null, .int .i64 sA.max.int.toInt, .string sA.max.text, .int .i64 sA.max.x.toInt, .int .i64 sA.max.y.toInt] 31) = W1 := ⟨_, rfl⟩
  have hb1 : Blk W1 w1.heap.size 31 (St.cs sA) := by rw [← hW1]; exact Blk.new w1 31 _
  have hkW1 : Keep [] W W1 := by rw [← hW1]; exact (hk0.trans hk1).alloc _
  clear C1 v1
  go_wp2_with fail
  clear hW1 hk0 hk1
  go_cut [2] (fun v wx => ∃ p, v = .pointer (some ⟨p, 0, none⟩) ∧ Keep [] W1 wx ∧ Blk wx p 31 (St.cs sM))
  case first =>
    refine wp_region_ords 6 [] (fun _ _ => True) [false, false, false, false, false, false] [.val ?_, .val ?_, .spec (SlTo W1.heap.size 29 1 1 (Cell.cs (cI 9))), .val ?_, .val ?_, .spec (PtrTo W1.heap.size 31 (St.cs St.zero))] (by kernel_rfl) rfl rfl (by kernel_rfl) ?_ (fun _ _ _ _ _ => trivial) trivial ?_
    rotate_left 4
    · intro t ht
      simp only [List.mem_cons, List.not_mem_nil, or_false] at ht
      rcases ht with rfl | rfl | rfl | rfl | rfl | rfl
      all_goals first | exact trivial | exact SlTo.lasts (by simp) | exact PtrTo.lasts (by simp)
    simp only [List.take_succ_cons, List.take_zero, List.drop_succ_cons, List.drop_zero]
    repeat ((first | (refine obls_cons (obl_skip (fun vals => by rfl) ?_) ?_; (exact rfl)) | (refine obls_cons (obl_val (fun vals => by rfl) (fun vals w hw hd => ?_)) ?_; (have a := stAt (hb1.keep hw (by simp)); obtain ⟨a0, a1, a2, a3, a4, a5, a6, a7, a8, a9, a10, a11⟩ := a; go_simp; exact rfl))); simp only [Slot.put, Slot.chain, Bool.false_eq_true, if_false, if_true, Nat.add_zero, Nat.zero_add, Nat.reduceAdd, Act.put, List.setIfInBounds_toArray, List.set_cons_succ, List.set_cons_zero])
    refine obls_cons (obl_make (v := fun _ w => .slice (some ⟨w.heap.size, 0, none⟩) 1 1) (w' := fun _ w => w.alloc (.cells (Cell.cs (cI 9)).toArray 29)) (fun vals => by rfl) (fun vals w hw hd => ?_) (fun vals w hw => slTo_new hw.size)) ?_
    · go_simp; exact rfl
    simp only [Slot.put, Slot.chain, Bool.false_eq_true, if_false, if_true, Nat.add_zero, Nat.zero_add, Nat.reduceAdd, Act.put, List.setIfInBounds_toArray, List.set_cons_succ, List.set_cons_zero]
    refine obls_cons (obl_call (f := ?_) (args := ?_) (fun vals => by rfl) (fun vals w hw hd => ?_) (fun vals w hw hd => ?_)) ?_
    rotate_left 2
    · go_simp; exact rfl
    · obtain ⟨p, e, _, hb⟩ := hd 2 (by decide +kernel) _ rfl; simp only [e]; have hr : Cells [] w (some ⟨p, 0, none⟩) 1 1 [cI 9] := hb.rd (by simp) rfl (by omega) (by simp [maxLen]) rfl; have C := ofS_prog 0 w hr (by simp) (by simp); rw [v2] at C; exact C
    simp only [Slot.put, Slot.chain, Bool.false_eq_true, if_false, if_true, Nat.add_zero, Nat.zero_add, Nat.reduceAdd, Act.put, List.setIfInBounds_toArray, List.set_cons_succ, List.set_cons_zero]
    refine obls_cons (obl_call (f := ?_) (args := ?_) (fun vals => by rfl) (fun vals w hw hd => ?_) (fun vals w hw hd => ?_)) ?_
    rotate_left 2
    · go_simp; exact rfl
    · have C := mergeS_any 0 sA ⟨0, true, cI 9, cI 9⟩ w; rw [v3] at C; exact C
    simp only [Slot.put, Slot.chain, Bool.false_eq_true, if_false, if_true, Nat.add_zero, Nat.zero_add, Nat.reduceAdd, Act.put, List.setIfInBounds_toArray, List.set_cons_succ, List.set_cons_zero]
    refine obls_cons (obl_make (v := fun _ w => .pointer (some ⟨w.heap.size, 0, none⟩)) (w' := fun _ w => w.alloc (.cells (St.cs St.zero).toArray 31)) (fun vals => by rfl) (fun vals w hw hd => ?_) (fun vals w hw => ptrTo_new hw.size)) ?_
    · go_simp; exact rfl
    simp only [Slot.put, Slot.chain, Bool.false_eq_true, if_false, if_true, Nat.add_zero, Nat.zero_add, Nat.reduceAdd, Act.put, List.setIfInBounds_toArray, List.set_cons_succ, List.set_cons_zero]
    refine obls_nil (fun vals w hw _ hall => ?_)
    obtain ⟨p, e, hp, hb⟩ := hall 5 _ rfl
    simp only [e]
    have hsS : ∀ w, (Go.sizeOf 31).run Try.prog w = .ok 12 w := Try.sizeOf31
    replace hsS := Lib.hid hsS
    replace hb := Lib.hid hb
    go_wp2_with (refine wpList_store_blk (ty := 31) (n := 12) rfl rfl (hsS.out _) (v := stVal sM) hb.out rfl rfl rfl (by simp) (by simp [Value.cells, Value.oneCell']) ?_)
    intro w2 hS2 hk2
    go_wp2
    go_meet
    exact ⟨p, rfl, hw.after hk2 (by simp; exact hp), by simpa [Value.cells] using hS2⟩
  case rest =>
    obtain ⟨p, rfl, hk2, hb2⟩ := hcut
    have hkW := hkW1.trans hk2
    have hbA := hb1.keep hk2 (by simp)
    clear hk2 hb1 hkW1 v2 v3
    go_wp2_with fail
    refine (statPut_prog (X := []) (l := []) 0 ⟨2, false, Cell.zero, Cell.zero⟩ wc (Rd.nil_ [] wc 1) (by omega)).mono ?_
    rintro e w3 ⟨B3, k3, d3, rfl, hk3, hown3⟩
    rw [List.nil_append, v4] at hown3
    have hy3 : Bys [] w3 B3 k3 d3 [2, 0] := rd_of_own hown3 (by simp)
    obtain rfl : k3 = 2 := by simpa using hy3.len1.symm
    have hW3 := hkW.trans hk3
    have hbA3 := hbA.keep hk3 (by simp)
    have hb3 := hb2.keep hk3 (by simp)
    have hq4 : Cells [] ((w3.alloc (.cells #[.int .u8 7] 5)).alloc (.cells #[.bool false, .int .i64 0, .string { data := #[98] }, .int .i64 0, .int .i64 0, .bool false, .int .i64 0, .string { data := #[97] }, .int .i64 0, .int .i64 0] 29)) (some ⟨w3.heap.size + 1, 0, none⟩) 2 2 [cT ⟨#[98]⟩, cT ⟨#[97]⟩] := (blk_alloc2 w3 _ 29 _).rd (by simp) rfl (by omega) (by simp [maxLen]) rfl
    have hka := ((Keep.refl [] w3).alloc (.cells #[.int .u8 7] 5)).alloc (.cells #[.bool false, .int .i64 0, .string { data := #[98] }, .int .i64 0, .int .i64 0, .bool false, .int .i64 0, .string { data := #[97] }, .int .i64 0, .int .i64 0] 29)
    have h7 : Bys [] ((w3.alloc (.cells #[.int .u8 7] 5)).alloc (.cells #[.bool false, .int .i64 0, .string { data := #[98] }, .int .i64 0, .int .i64 0, .bool false, .int .i64 0, .string { data := #[97] }, .int .i64 0, .int .i64 0] 29)) (some ⟨w3.heap.size, 0, none⟩) 1 1 [7] := ((Blk.new w3 5 [.int .u8 7]).alloc _).rd (by simp) rfl (by omega) (by simp [maxLen]) rfl
    clear hown3 hkW hbA hb2
    go_wp2_with fail
    refine (ofS_prog 2 _ hq4 (by simp) (by simp)).mono ?_
    rintro e w4 ⟨rfl, hk4⟩
    have h74 := h7.pure hk4
    have hk34 := hka.trans hk4
    clear hq4 h7 hka
    go_wp2_with fail
    refine (statPut_prog 2 (ofS 2 [cT ⟨#[98]⟩, cT ⟨#[97]⟩]) w4 h74 (by omega)).mono ?_
    rintro e w5 ⟨B5, k5, d5, rfl, hk5, hown5⟩
    rw [v5] at hown5
    have hy5 : Bys [] w5 B5 k5 d5 [7, 0, 1, 4, 1, 97, 1, 98] := rd_of_own hown5 (by simp)
    obtain rfl : k5 = 8 := by simpa using hy5.len1.symm
    have hk35 := hk34.trans hk5
    clear hown5 h74
    go_wp2_with fail
    refine (over_prog w5 (hy3.pure hk35) (by omega)).mono ?_
    rintro e w6 ⟨g6, rfl, hg6, hk6, hc6⟩
    have hq7 : Bys [] (w6.alloc (.cells #[.int .u8 0, .int .u8 2] 5)) (some ⟨w6.heap.size, 0, none⟩) 2 2 [0, 2] := (Blk.new w6 5 [.int .u8 0, .int .u8 2]).rd (by simp) rfl (by omega) (by simp [maxLen]) rfl
    go_wp2_with fail
    have hl6 := hc6.lt
    refine (overN_prog _ hq7 (by omega)).mono ?_
    rintro e w7 ⟨g7, rfl, hk7, hc7⟩
    have hk67 := ((Keep.refl [] w6).alloc (.cells #[.int .u8 0, .int .u8 2] 5)).trans hk7
    have hc67 := hc6.pure hk67
    have hk57 := hk6.trans hk67
    have hk37 := hk35.trans hk57
    go_wp2_with fail
    refine (statGet_prog 0 w7 hc67).mono ?_
    rintro e w8 ⟨rfl, hk8, hc8⟩
    rw [v6] at hc8 ⊢
    simp only [] at hc8 ⊢
    rw [show stVal ⟨2, false, Cell.zero, Cell.zero⟩ = .agg #[.int .i64 2, .bool false, .bool false, .int .i64 0, .string { data := #[] }, .int .i64 0, .int .i64 0, .bool false, .int .i64 0, .string { data := #[] }, .int .i64 0, .int .i64 0] from rfl]
    have hc78 := hc7.keep hk8 (by simp; omega)
    have hk8a := (Keep.refl [] w8).alloc (.cells #[.int .i64 2, .bool false, .bool false, .int .i64 0, .string { data := #[] }, .int .i64 0, .int .i64 0, .bool false, .int .i64 0, .string { data := #[] }, .int .i64 0, .int .i64 0] 31)
    have hb8 : Blk (w8.alloc (.cells #[.int .i64 2, .bool false, .bool false, .int .i64 0, .string { data := #[] }, .int .i64 0, .int .i64 0, .bool false, .int .i64 0, .string { data := #[] }, .int .i64 0, .int .i64 0] 31)) w8.heap.size 31 [.int .i64 2, .bool false, .bool false, .int .i64 0, .string { data := #[] }, .int .i64 0, .int .i64 0, .bool false, .int .i64 0, .string { data := #[] }, .int .i64 0, .int .i64 0] := Blk.new w8 31 _
    go_wp2_with fail
    refine (statGet_prog 0 _ (hc78.keep hk8a (by simp)).cur).mono ?_
    rintro e w9 ⟨rfl, hk9, hc9⟩
    rw [v7] at hc9 ⊢
    simp only [] at hc9 ⊢
    rw [show stVal St.zero = .agg #[.int .i64 0, .bool false, .bool false, .int .i64 0, .string { data := #[] }, .int .i64 0, .int .i64 0, .bool false, .int .i64 0, .string { data := #[] }, .int .i64 0, .int .i64 0] from rfl]
    have z1 := hW3.size
    have z2 := hk35.size
    have z3 := hk6.size
    have z4 := hc7.1
    simp only [World.size_alloc] at z4
    have hgp : ∀ (q : Nat) (t : TypeId) (cs : List Value), Blk w3 q t cs → q ∉ [g6] ∧ q ∉ [g7] := fun q t cs hq => by
      have e1 := hq.lt
      have e2 := hk35.size
      have e3 := hk37.size
      have e4 := hc7.1
      have e5 := hk6.size
      simp only [World.size_alloc] at e4
      simp
      omega
    have hg8 : w8.heap.size ∉ [g7] := by
      have e1 := hc78.2
      obtain ⟨B, n, d, e2, _⟩ := e1
      have := e2.lt
      simp
      omega
    have hg67 : ∀ b ∈ [g7], g6 < b := by
      have e4 := hc7.1
      simp only [World.size_alloc] at e4
      simp
      omega
    obtain ⟨hg1, hg1'⟩ := hgp _ _ _ hbA3
    obtain ⟨hg2, hg2'⟩ := hgp _ _ _ hb3
    clear hgp
    have hz := (Keep.refl [] w9).alloc (.cells #[.int .i64 0, .bool false, .bool false, .int .i64 0, .string { data := #[] }, .int .i64 0, .int .i64 0, .bool false, .int .i64 0, .string { data := #[] }, .int .i64 0, .int .i64 0] 31)
    have kA : Blk (w9.alloc (.cells #[.int .i64 0, .bool false, .bool false, .int .i64 0, .string { data := #[] }, .int .i64 0, .int .i64 0, .bool false, .int .i64 0, .string { data := #[] }, .int .i64 0, .int .i64 0] 31)) w1.heap.size 31 [.int .i64 1, .bool true, .bool false, .int .i64 1, .string { data := #[] }, .int .i64 0, .int .i64 0, .bool false, .int .i64 3, .string { data := #[] }, .int .i64 0, .int .i64 0] := ((((hbA3.keep hk37 (by simp)).keep hk8 hg1).keep hk8a (by simp)).keep hk9 hg1').keep hz (by simp)
    have kM : Blk (w9.alloc (.cells #[.int .i64 0, .bool false, .bool false, .int .i64 0, .string { data := #[] }, .int .i64 0, .int .i64 0, .bool false, .int .i64 0, .string { data := #[] }, .int .i64 0, .int .i64 0] 31)) p 31 [.int .i64 1, .bool true, .bool false, .int .i64 1, .string { data := #[] }, .int .i64 0, .int .i64 0, .bool false, .int .i64 9, .string { data := #[] }, .int .i64 0, .int .i64 0] := ((((hb3.keep hk37 (by simp)).keep hk8 hg2).keep hk8a (by simp)).keep hk9 hg2').keep hz (by simp)
    have k8 : Blk (w9.alloc (.cells #[.int .i64 0, .bool false, .bool false, .int .i64 0, .string { data := #[] }, .int .i64 0, .int .i64 0, .bool false, .int .i64 0, .string { data := #[] }, .int .i64 0, .int .i64 0] 31)) w8.heap.size 31 [.int .i64 2, .bool false, .bool false, .int .i64 0, .string { data := #[] }, .int .i64 0, .int .i64 0, .bool false, .int .i64 0, .string { data := #[] }, .int .i64 0, .int .i64 0] := (hb8.keep hk9 hg8).keep hz (by simp)
    have kC := ((hc8.pure hk8a).keep hk9 hg67).pure hz
    have kD := hc9.pure hz
    have kW : Keep [] W (w9.alloc (.cells #[.int .i64 0, .bool false, .bool false, .int .i64 0, .string { data := #[] }, .int .i64 0, .int .i64 0, .bool false, .int .i64 0, .string { data := #[] }, .int .i64 0, .int .i64 0] 31)) := ((hW3.after (hk37.nil.trans (hk8.trans hk8a.nil) : Keep [g6] w3 _) (by simp; omega)).after hk9 (by simp; omega)).trans hz
    have y1 : Bys [g6, g7] (w9.alloc (.cells #[.int .i64 0, .bool false, .bool false, .int .i64 0, .string { data := #[] }, .int .i64 0, .int .i64 0, .bool false, .int .i64 0, .string { data := #[] }, .int .i64 0, .int .i64 0] 31)) B3 2 d3 [2, 0] := (((((hy3.weaken (Y := [g6, g7]) (by simp; omega)).pure hk37).keep hk8 (by simp)).pure hk8a).keep hk9 (by simp)).pure hz
    have y2 : Bys [g6, g7] (w9.alloc (.cells #[.int .i64 0, .bool false, .bool false, .int .i64 0, .string { data := #[] }, .int .i64 0, .int .i64 0, .bool false, .int .i64 0, .string { data := #[] }, .int .i64 0, .int .i64 0] 31)) B5 8 d5 [7, 0, 1, 4, 1, 97, 1, 98] := (((((hy5.weaken (Y := [g6, g7]) (by simp; omega)).pure hk57).keep hk8 (by simp)).pure hk8a).keep hk9 (by simp)).pure hz
    have s1 : (convert 39 9 (.slice B3 2 d3)).run Try.prog (w9.alloc (.cells #[.int .i64 0, .bool false, .bool false, .int .i64 0, .string { data := #[] }, .int .i64 0, .int .i64 0, .bool false, .int .i64 0, .string { data := #[] }, .int .i64 0, .int .i64 0] 31)) = .ok (.string ⟨#[2, 0]⟩) (w9.alloc (.cells #[.int .i64 0, .bool false, .bool false, .int .i64 0, .string { data := #[] }, .int .i64 0, .int .i64 0, .bool false, .int .i64 0, .string { data := #[] }, .int .i64 0, .int .i64 0] 31)) := str_run y1
    have s2 : (convert 39 9 (.slice B5 8 d5)).run Try.prog (w9.alloc (.cells #[.int .i64 0, .bool false, .bool false, .int .i64 0, .string { data := #[] }, .int .i64 0, .int .i64 0, .bool false, .int .i64 0, .string { data := #[] }, .int .i64 0, .int .i64 0] 31)) = .ok (.string ⟨#[7, 0, 1, 4, 1, 97, 1, 98]⟩) (w9.alloc (.cells #[.int .i64 0, .bool false, .bool false, .int .i64 0, .string { data := #[] }, .int .i64 0, .int .i64 0, .bool false, .int .i64 0, .string { data := #[] }, .int .i64 0, .int .i64 0] 31)) := str_run y2
    clear hk4 hk34 hk5 hk35 hy5 hg6 hk6 hc6 hq7 hl6 hk7 hc7 hk67 hc67 hk57 hk37 hk8 hc8 hc78 hk8a hb8 hk9 hc9 hk3 hy3 hW3 hbA3 hb3 y1 y2 hg8 hg67 hg1 hg1' hg2 hg2' hz z1 z2 z3 z4
    obtain ⟨a0, a1, a2, a3, a4, a5, a6, a7, a8, a9, a10, a11⟩ := at12 kA
    obtain ⟨m0, m1, m2, m3, m4, m5, m6, m7, m8, m9, m10, m11⟩ := at12 kM
    obtain ⟨e0, e1, e2, e3, e4, e5, e6, e7, e8, e9, e10, e11⟩ := at12 k8
    clear m1 m2 m3 m4 m5 m6 m7 m9 m10 m11
    go_wp2_with fail
    refine (end_prog _ kC).mono ?_
    rintro e w10 ⟨rfl, rfl⟩
    clear e0 e1 e2 e3 e4 e5 e6 e7 e8 e9 e10 e11 s1 s2 m0 m8
    go_wp2_with fail
    refine (bad_prog _ kD).mono ?_
    rintro e w10 ⟨rfl, rfl⟩
    simp only [Option.isNone_none, decide_true]
    go_wp2_with fail
    refine (may_prog 0 sA (cI 2) _ (by simp)).mono ?_
    rintro e w10 ⟨rfl, h10⟩
    rw [v8.1]
    have kA2 := kA.keep h10 (by simp)
    clear a0 a1 a2 a3 a4 a5 a6 a7 a8 a9 a10 a11
    obtain ⟨a0, a1, a2, a3, a4, a5, a6, a7, a8, a9, a10, a11⟩ := at12 kA2
    go_wp2_with fail
    refine (may_prog 0 sA (cI 4) _ (by simp)).mono ?_
    rintro e w11 ⟨rfl, h11⟩
    rw [v8.2.1]
    have kA3 := kA2.keep h11 (by simp)
    clear a0 a1 a2 a3 a4 a5 a6 a7 a8 a9 a10 a11
    obtain ⟨a0, a1, a2, a3, a4, a5, a6, a7, a8, a9, a10, a11⟩ := at12 kA3
    go_wp2_with fail
    refine (may_prog 0 sA Cell.nil _ (by simp)).mono ?_
    rintro e w12 ⟨rfl, h12⟩
    rw [v8.2.2.1]
    have kA4 := kA3.keep h12 (by simp)
    clear a0 a1 a2 a3 a4 a5 a6 a7 a8 a9 a10 a11
    obtain ⟨a0, a1, a2, a3, a4, a5, a6, a7, a8, a9, a10, a11⟩ := at12 kA4
    go_wp2_with fail
    refine (rightS_prog 0 sA _).mono ?_
    rintro e w13 ⟨rfl, h13⟩
    rw [v8.2.2.2.1]
    clear a0 a1 a2 a3 a4 a5 a6 a7 a8 a9 a10 a11
    go_wp2_with fail
    refine (rightS_prog 4 St.zero _).mono ?_
    rintro e w14 ⟨rfl, h14⟩
    rw [v8.2.2.2.2]
    go_wp2
    go_ret
    exact ⟨rfl, ((((kW.trans h10).trans h11).trans h12).trans h13).trans h14⟩
end Go.Proofs.Ytejbfknhnhhlfaa

namespace Go.Proofs.Ytejbfknhnhhlfaa
open Go Go.RowKit
set_option maxRecDepth 10000
set_option linter.unusedVariables false
set_option linter.unusedSimpArgs false

theorem cellsOk_of {typ : Int} {l : List Cell} (h : cellsOk typ l = true) : known typ = true ∧ ∀ c ∈ l, rightC typ true c = true := by
  unfold cellsOk at h
  simp only [Bool.and_eq_true, List.all_eq_true] at h
  exact ⟨h.2, h.1⟩

theorem of_inv (typ : Int) {l : List Cell} (hl : l.length ≤ 1000) : StInv l (ofS typ l) := by
  have := ofS_inv typ l (by omega) l.length (Nat.le_refl _)
  rwa [List.take_length] at this
theorem of_near {typ : Int} {l : List Cell} (hl : l.length ≤ 1000) (hn : ∀ x ∈ l, x.near) (h : (ofS typ l).has = true) : (ofS typ l).min.near ∧ (ofS typ l).max.near :=
  ⟨hn _ ((of_inv typ hl).2.2 h).1, hn _ ((of_inv typ hl).2.2 h).2⟩
theorem of_sum {typ : Int} {a b : List Cell} (ha : a.length ≤ 1000) (hb : b.length ≤ 1000) : isI64 ((ofS typ a).nulls.toInt + (ofS typ b).nulls.toInt) := by
  have h1 := of_inv typ ha
  have h2 := of_inv typ hb
  obtain ⟨a1, a2, _⟩ := h1
  obtain ⟨b1, b2, _⟩ := h2
  unfold isI64
  omega
theorem mergeOf_prog (typ : Int) {a b : List Cell} (W : World) (ha : a.length ≤ 1000) (hb : b.length ≤ 1000) (na : ∀ x ∈ a, x.near) (nb : ∀ x ∈ b, x.near) :
    Calls Try.prog 17 #[.int .i64 typ, stVal (ofS typ a), stVal (ofS typ b)] W fun e W' => e = .returned (stVal (mergeS typ (ofS typ a) (ofS typ b))) ∧ Keep [] W W' :=
  merge_prog typ _ _ W (of_sum ha hb) (fun h1 h2 _ => ⟨(of_near hb nb h2).1, (of_near ha na h1).1, (of_near hb nb h2).2, (of_near ha na h1).2⟩)

set_option maxHeartbeats 2000000 in
theorem StatParts_walk (typ : Int) (A : Option Addr) (n c : Nat) (l : List Cell) (cut : Int) (W : World) (h : Cells [] W A n c l) (hcut : -9223372036854775808 ≤ cut ∧ cut ≤ 9223372036854775807) :
    Calls Try.prog 5 #[.int .i64 typ, .slice A n c, .int .i64 cut] W fun e W' => e = .returned (.bool true) ∧ Below W.heap.size W W' := by
  have hc := h.cap
  have hnc := h.le
  obtain rfl := h.len
  go_enter Try.func5, Try.ntmps5
  go_wp2_with fail
  refine (small15 W).mono ?_
  rintro e w1 ⟨rfl, hk1⟩
  go_wp2_with fail
  refine (few_prog w1 (h.pure hk1)).mono ?_
  rintro e w2 ⟨⟨v, rfl, hv⟩, hk2⟩
  have hk12 := hk1.trans hk2
  cases v with
  | false =>
    go_wp2
    go_ret
    exact ⟨rfl, hk12.below⟩
  | true =>
    have hl := hv rfl
    clear hv
    go_wp2_with fail
    refine (cells_law typ w2 (h.pure hk12)).mono ?_
    rintro e w3 ⟨rfl, hk3⟩
    have hk13 := hk12.trans hk3
    cases hok : cellsOk typ l with
    | false =>
      go_wp2
      go_ret
      exact ⟨rfl, hk13.below⟩
    | true =>
      obtain ⟨hkn, hr⟩ := cellsOk_of hok
      clear hok
      by_cases h0 : cut < 0
      · go_wp2
        go_ret
        exact ⟨rfl, hk13.below⟩
      · obtain ⟨k, rfl⟩ := Int.eq_ofNat_of_zero_le (show 0 ≤ cut by omega)
        by_cases h1 : l.length < k
        · go_wp2
          go_ret
          exact ⟨rfl, hk13.below⟩
        · have hnear : ∀ x ∈ l, x.near := fun x hx => rightC_near (hr x hx)
          have h3 := h.pure hk13
          have v1 : Hid (mergeS typ (ofS typ (l.take k)) (ofS typ (l.drop k)) = ofS typ l) := by
            have := ofS_append typ (l.take k) (l.drop k) (by simp; omega) (by simp; omega)
            rw [List.take_append_drop] at this
            exact this.symm
          have hi0 : (0 : Int) ≤ (k : Int) := by omega
          have hi1 : (k : Int) ≤ (l.length : Int) := by omega
          have hi2 : (k : Int) ≤ (c : Int) := by omega
          have d1 : decide ((k : Int) < 0) = false := decide_eq_false (by omega)
          have d2 : decide (l.length < k) = false := decide_eq_false h1
          replace hnear := Lib.hid hnear
          replace hr := Lib.hid hr
          go_wp2
          refine wp_region_ords 19 [] (fun _ _ => True) (List.replicate 19 false) (Slot.val ?_ :: Slot.val ?_ :: Slot.val ?_ :: Slot.val ?_ :: Slot.val ?_ :: Slot.val ?_ :: Slot.val ?_ :: Slot.val ?_ :: Slot.val ?_ :: Slot.val ?_ :: Slot.val ?_ :: Slot.val ?_ :: Slot.val ?_ :: Slot.val ?_ :: Slot.val ?_ :: Slot.val ?_ :: Slot.val ?_ :: Slot.val ?_ :: Slot.val ?_ :: []) (by kernel_rfl) rfl rfl (by kernel_rfl) ?_ (fun _ _ _ _ _ => trivial) trivial ?_
          rotate_left 19
          · intro t ht
            simp only [List.mem_cons, List.not_mem_nil, or_false] at ht
            rcases ht with rfl | rfl | rfl | rfl | rfl | rfl | rfl | rfl | rfl | rfl | rfl | rfl | rfl | rfl | rfl | rfl | rfl | rfl | rfl
            all_goals first | exact trivial | exact SlTo.lasts (by simp) | exact PtrTo.lasts (by simp) | exact RdIs.lasts
          simp only [List.take_succ_cons, List.take_zero, List.drop_succ_cons, List.drop_zero]
          repeat ((first | (refine obls_cons (obl_skip (fun vals => by rfl) ?_) ?_; (exact rfl)) | (refine obls_cons (obl_val (fun vals => by rfl) (fun vals w hw hd => ?_)) ?_; (skip; go_simp; exact rfl))); simp only [Slot.put, Slot.chain, Bool.false_eq_true, if_false, if_true, Nat.add_zero, Nat.zero_add, Nat.reduceAdd, Act.put, List.setIfInBounds_toArray, List.set_cons_succ, List.set_cons_zero])
          refine obls_cons (obl_call (f := ?_) (args := ?_) (fun vals => by rfl) (fun vals w hw hd => ?_) (fun vals w hw hd => ?_)) ?_
          rotate_left 2
          · go_simp; exact rfl
          · have hr1 : Cells [] w A k c (l.take k) := Rd.takeF Cell.len (h3.pure hw) (by omega); exact ofS_prog typ w hr1 (by simp; omega) (fun _ x hx => hnear.out x (List.mem_of_mem_take hx))
          simp only [Slot.put, Slot.chain, Bool.false_eq_true, if_false, if_true, Nat.add_zero, Nat.zero_add, Nat.reduceAdd, Act.put, List.setIfInBounds_toArray, List.set_cons_succ, List.set_cons_zero]
          repeat ((first | (refine obls_cons (obl_skip (fun vals => by rfl) ?_) ?_; (exact rfl)) | (refine obls_cons (obl_val (fun vals => by rfl) (fun vals w hw hd => ?_)) ?_; (skip; go_simp; exact rfl))); simp only [Slot.put, Slot.chain, Bool.false_eq_true, if_false, if_true, Nat.add_zero, Nat.zero_add, Nat.reduceAdd, Act.put, List.setIfInBounds_toArray, List.set_cons_succ, List.set_cons_zero])
          refine obls_cons (obl_call (f := ?_) (args := ?_) (fun vals => by rfl) (fun vals w hw hd => ?_) (fun vals w hw hd => ?_)) ?_
          rotate_left 2
          · go_simp; exact rfl
          · have hr1 : Cells [] w (if c = k then A else A.map (·.add (k * 5))) (l.length - k) (c - k) (l.drop k) := Rd.dropF Cell.len (h3.pure hw) (by omega) rfl; exact ofS_prog typ w hr1 (by simp; omega) (fun _ x hx => hnear.out x (List.mem_of_mem_drop hx))
          simp only [Slot.put, Slot.chain, Bool.false_eq_true, if_false, if_true, Nat.add_zero, Nat.zero_add, Nat.reduceAdd, Act.put, List.setIfInBounds_toArray, List.set_cons_succ, List.set_cons_zero]
          refine obls_cons (obl_call (f := ?_) (args := ?_) (fun vals => by rfl) (fun vals w hw hd => ?_) (fun vals w hw hd => ?_)) ?_
          rotate_left 2
          · go_simp; exact rfl
          · have C := mergeOf_prog typ w (a := l.take k) (b := l.drop k) (by simp; omega) (by simp; omega) (fun x hx => hnear.out x (List.mem_of_mem_take hx)) (fun x hx => hnear.out x (List.mem_of_mem_drop hx)); rw [v1.out] at C; exact C
          simp only [Slot.put, Slot.chain, Bool.false_eq_true, if_false, if_true, Nat.add_zero, Nat.zero_add, Nat.reduceAdd, Act.put, List.setIfInBounds_toArray, List.set_cons_succ, List.set_cons_zero]
          repeat ((first | (refine obls_cons (obl_skip (fun vals => by rfl) ?_) ?_; (exact rfl)) | (refine obls_cons (obl_val (fun vals => by rfl) (fun vals w hw hd => ?_)) ?_; (skip; go_simp; exact rfl))); simp only [Slot.put, Slot.chain, Bool.false_eq_true, if_false, if_true, Nat.add_zero, Nat.zero_add, Nat.reduceAdd, Act.put, List.setIfInBounds_toArray, List.set_cons_succ, List.set_cons_zero])
          refine obls_cons (obl_call (f := ?_) (args := ?_) (fun vals => by rfl) (fun vals w hw hd => ?_) (fun vals w hw hd => ?_)) ?_
          rotate_left 2
          · go_simp; exact rfl
          · exact ofS_prog typ w (h3.pure hw) (by omega) (fun _ => hnear.out)
          simp only [Slot.put, Slot.chain, Bool.false_eq_true, if_false, if_true, Nat.add_zero, Nat.zero_add, Nat.reduceAdd, Act.put, List.setIfInBounds_toArray, List.set_cons_succ, List.set_cons_zero]
          repeat ((first | (refine obls_cons (obl_skip (fun vals => by rfl) ?_) ?_; (exact rfl)) | (refine obls_cons (obl_val (fun vals => by rfl) (fun vals w hw hd => ?_)) ?_; (have E := eql_st (ofS typ l) (ofS typ l) w; rw [decide_eq_true rfl] at E; go_simp; exact rfl))); simp only [Slot.put, Slot.chain, Bool.false_eq_true, if_false, if_true, Nat.add_zero, Nat.zero_add, Nat.reduceAdd, Act.put, List.setIfInBounds_toArray, List.set_cons_succ, List.set_cons_zero])
          refine obls_nil (fun vals w hw _ hall => ?_)
          go_wp2
          all_goals
            go_ret
            exact ⟨rfl, (hk13.trans hw).below⟩
end Go.Proofs.Ytejbfknhnhhlfaa
