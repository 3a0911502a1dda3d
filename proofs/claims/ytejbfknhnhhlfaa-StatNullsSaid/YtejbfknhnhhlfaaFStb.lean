/-
  The walks of layer 15's functions: the stat of cells.
  The walks of layer 15's functions: a stat's bytes.
  The walks of the reference's layer 15: a stat's bytes.
  Layer 15's statements: Few, Cells.
  The walks of the reference's layer 15: the stat of cells.
  Layer 15 in plain words: the stat of parts.
-/
import Derived.Test.YtejbfknhnhhlfaaFSta
namespace Go.Proofs.Ytejbfknhnhhlfaa
open Go Go.RowKit
set_option maxRecDepth 10000
set_option linter.unusedVariables false
set_option linter.unusedSimpArgs false

/-- The stat of cells. -/
def ofS (typ : Int) (l : List Cell) : St := l.foldl (fun s c => mergeS typ s (singleS c)) St.zero
theorem ofS_snoc (typ : Int) (l : List Cell) (k : Nat) (hk : k < l.length) : ofS typ (l.take (k + 1)) = mergeS typ (ofS typ (l.take k)) (singleS l[k]) := by
  rw [ofS, List.take_succ_eq_append_getElem hk, List.foldl_append]
  rfl
/-- What a stat has is of the cells. -/
def StInv (l : List Cell) (s : St) : Prop := 0 ≤ s.nulls.toInt ∧ s.nulls.toInt ≤ l.length ∧ (s.has = true → s.min ∈ l ∧ s.max ∈ l)
theorem inv_step {typ : Int} {l : List Cell} {s : St} (c : Cell) (h : StInv l s) (hl : l.length ≤ 1000000) : StInv (l ++ [c]) (mergeS typ s (singleS c)) := by
  obtain ⟨h1, h2, h3⟩ := h
  unfold StInv
  rw [List.length_append, List.length_singleton]
  cases hn : c.null with
  | true =>
    have hs : singleS c = ⟨1, false, Cell.zero, Cell.zero⟩ := by rw [singleS, if_pos hn]
    rw [hs, mergeS, if_pos rfl]
    have e : (Int64.ofInt (s.nulls.toInt + (1 : Int64).toInt)).toInt = s.nulls.toInt + 1 := by
      have : (1 : Int64).toInt = 1 := rfl
      rw [this]
      exact toI ⟨by omega, by omega⟩
    simp only [e]
    exact ⟨by omega, by omega, fun h => ⟨List.mem_append_left _ (h3 h).1, List.mem_append_left _ (h3 h).2⟩⟩
  | false =>
    have hs : singleS c = ⟨0, true, c, c⟩ := by rw [singleS, if_neg (by simp [hn])]
    rw [hs, mergeS, if_neg (by simp)]
    have e : (Int64.ofInt (s.nulls.toInt + (0 : Int64).toInt)).toInt = s.nulls.toInt := by
      have : (0 : Int64).toInt = 0 := rfl
      rw [this, Int.add_zero]
      exact toI ⟨by omega, by omega⟩
    by_cases hh : s.has = false
    · rw [if_pos hh]
      simp only [e]
      exact ⟨h1, by omega, fun _ => ⟨by simp, by simp⟩⟩
    · rw [if_neg hh]
      simp only [e]
      have h4 := h3 (by simpa using hh)
      refine ⟨h1, by omega, fun _ => ⟨?_, ?_⟩⟩
      · split
        · simp
        · exact List.mem_append_left _ h4.1
      · split
        · simp
        · exact List.mem_append_left _ h4.2
theorem ofS_inv (typ : Int) (l : List Cell) (hl : l.length ≤ 1000000) : ∀ k, k ≤ l.length → StInv (l.take k) (ofS typ (l.take k))
  | 0, _ => ⟨by show (0 : Int) ≤ (0 : Int64).toInt; decide, by show (0 : Int64).toInt ≤ (0 : Int); decide, fun h => by cases h⟩
  | k + 1, hk => by
    have ih := ofS_inv typ l hl k (by omega)
    rw [ofS_snoc typ l k (by omega), List.take_succ_eq_append_getElem (by omega)]
    exact inv_step _ ih (by rw [List.length_take]; omega)

set_option maxHeartbeats 2000000 in
theorem ofS_prog {X : List Nat} {A : Option Addr} {n c : Nat} {l : List Cell} (typ : Int) (W : World) (h : Cells X W A n c l) (hl : l.length ≤ 1000000) (hn : typ = 3 → ∀ c ∈ l, c.near) :
    Calls Try.prog 15 #[.int .i64 typ, .slice A n c] W fun e W' => e = .returned (stVal (ofS typ l)) ∧ Keep [] W W' := by
  have hc := h.cap
  have hnc := h.le
  obtain rfl := h.len
  obtain ⟨r, hr⟩ : ∃ r, Hid (ofS typ l = r) := ⟨_, rfl⟩
  rw [hr.out]
  have hsS : ∀ w, (Go.sizeOf 31).run Try.prog w = .ok 12 w := Try.sizeOf31
  replace hsS := Lib.hid hsS
  replace hn := Lib.hid hn
  have hk0 : Keep [] W ((W.alloc (.cells #[.int .i64 0, .bool false, .bool false, .int .i64 0, .string { data := #[] }, .int .i64 0, .int .i64 0, .bool false, .int .i64 0, .string { data := #[] }, .int .i64 0, .int .i64 0] 31)).alloc (.cells #[.int .i64 0, .bool false, .bool false, .int .i64 0, .string { data := #[] }, .int .i64 0, .int .i64 0, .bool false, .int .i64 0, .string { data := #[] }, .int .i64 0, .int .i64 0] 31)) := ((Keep.refl _ _).alloc _).alloc _
  have hR0 : Blk ((W.alloc (.cells #[.int .i64 0, .bool false, .bool false, .int .i64 0, .string { data := #[] }, .int .i64 0, .int .i64 0, .bool false, .int .i64 0, .string { data := #[] }, .int .i64 0, .int .i64 0] 31)).alloc (.cells #[.int .i64 0, .bool false, .bool false, .int .i64 0, .string { data := #[] }, .int .i64 0, .int .i64 0, .bool false, .int .i64 0, .string { data := #[] }, .int .i64 0, .int .i64 0] 31)) W.heap.size 31 [.int .i64 0, .bool false, .bool false, .int .i64 0, .string { data := #[] }, .int .i64 0, .int .i64 0, .bool false, .int .i64 0, .string { data := #[] }, .int .i64 0, .int .i64 0] := (Blk.new W 31 _).alloc _
  have hS0 : Blk ((W.alloc (.cells #[.int .i64 0, .bool false, .bool false, .int .i64 0, .string { data := #[] }, .int .i64 0, .int .i64 0, .bool false, .int .i64 0, .string { data := #[] }, .int .i64 0, .int .i64 0] 31)).alloc (.cells #[.int .i64 0, .bool false, .bool false, .int .i64 0, .string { data := #[] }, .int .i64 0, .int .i64 0, .bool false, .int .i64 0, .string { data := #[] }, .int .i64 0, .int .i64 0] 31)) (W.heap.size + 1) 31 (ofS typ (l.take 0)).cs := blk_alloc2 W _ 31 _
  go_enter Try.func15, Try.ntmps15
  go_wp2
  go_loopw [10] (fun i wr => ∃ k : Nat, k ≤ l.length ∧ i = .int .i64 k ∧ Blk wr (W.heap.size + 1) 31 (ofS typ (l.take k)).cs ∧ Blk wr W.heap.size 31 [.int .i64 0, .bool false, .bool false, .int .i64 0, .string { data := #[] }, .int .i64 0, .int .i64 0, .bool false, .int .i64 0, .string { data := #[] }, .int .i64 0, .int .i64 0] ∧ Keep [] W wr) (fun i _ => l.length - (intOf i).toNat)
  case atStart => exact ⟨0, by omega, rfl, hS0, hR0, hk0⟩
  case round =>
    obtain ⟨k, hk, rfl, hS, hR, hkeep⟩ := hrel
    have hwl := hS.lt
    by_cases hlt : k < l.length
    · obtain ⟨b, off, rfl, _, _, hc0, hc1, hc2, hc3, hc4⟩ := Cells.at5 (h.pure hkeep) hlt
      have hst := Lib.hid (ofS_snoc typ l k hlt)
      have hinv := ofS_inv typ l hl k (by omega)
      have hmem := List.getElem_mem hlt
      have hnr : typ = 3 → (ofS typ (l.take k)).has = true → l[k].near ∧ (ofS typ (l.take k)).min.near ∧ (ofS typ (l.take k)).max.near := fun h3 hh =>
        ⟨hn.out h3 _ hmem, hn.out h3 _ (List.mem_of_mem_take (hinv.2.2 hh).1), hn.out h3 _ (List.mem_of_mem_take (hinv.2.2 hh).2)⟩
      have hnu : 0 ≤ (ofS typ (l.take k)).nulls.toInt ∧ (ofS typ (l.take k)).nulls.toInt ≤ 1000000 := ⟨hinv.1, by have := hinv.2.1; rw [List.length_take] at this; omega⟩
      clear hinv hmem
      generalize l[k] = x at *
      generalize ofS typ (l.take k) = S at *
      replace hnr := Lib.hid hnr
      have hsn : (singleS x).nulls.toInt = 0 ∨ (singleS x).nulls.toInt = 1 := by
        unfold singleS
        split
        · right; rfl
        · left; rfl
      have hsm : (singleS x).has = true → (singleS x).min = x ∧ (singleS x).max = x := by
        unfold singleS
        split
        · intro h; cases h
        · intro _; exact ⟨rfl, rfl⟩
      have C1 := fun w => single_prog x w
      have C2 := fun w => merge_prog typ S (singleS x) w ⟨by omega, by omega⟩ (fun h1 h2 h3 => by
        have g := hnr.out h3 h1
        rw [(hsm h2).1, (hsm h2).2]
        exact ⟨g.1, g.2.1, g.1, g.2.2⟩)
      clear hsn hsm
      replace C1 := Lib.hid C1
      replace C2 := Lib.hid C2
      replace hnu := Lib.hid hnu
      have hka := (Keep.refl [] wr).alloc (.cells #[.bool x.null, .int .i64 x.int.toInt, .string x.text, .int .i64 x.x.toInt, .int .i64 x.y.toInt] 29)
      have hSa := hS.keep hka (by simp)
      have hRa := hR.keep hka (by simp)
      have hXa := Blk.new wr 29 [.bool x.null, .int .i64 x.int.toInt, .string x.text, .int .i64 x.x.toInt, .int .i64 x.y.toInt]
      have hl1 : ∀ w, Keep [] (wr.alloc (.cells #[.bool x.null, .int .i64 x.int.toInt, .string x.text, .int .i64 x.x.toInt, .int .i64 x.y.toInt] 29)) w → Blk w (W.heap.size + 1) 31 S.cs ∧ Blk w wr.heap.size 29 [.bool x.null, .int .i64 x.int.toInt, .string x.text, .int .i64 x.x.toInt, .int .i64 x.y.toInt] ∧ Blk w W.heap.size 31 [.int .i64 0, .bool false, .bool false, .int .i64 0, .string { data := #[] }, .int .i64 0, .int .i64 0, .bool false, .int .i64 0, .string { data := #[] }, .int .i64 0, .int .i64 0] := fun w hw => ⟨hSa.keep hw (by simp), hXa.keep hw (by simp), hRa.keep hw (by simp)⟩
      replace hl1 := Lib.hid hl1
      clear hXa hSa hRa
      go_wp2
      refine wp_region_conf (S := fun w => Keep [] (wr.alloc (.cells #[.bool x.null, .int .i64 x.int.toInt, .string x.text, .int .i64 x.x.toInt, .int .i64 x.y.toInt] 29)) w) 5 (by kernel_rfl) (by kernel_rfl) ((Keep.refl _ _).drew) ?_
      simp only [List.take_succ_cons, List.take_zero, List.drop_succ_cons, List.drop_zero]
      refine conf_value (.int .i64 typ) rfl (fun w hS => by go_simp) ?_
      simp only [Act.put, List.setIfInBounds_toArray, List.set_cons_succ, List.set_cons_zero]
      refine conf_value (stVal S) rfl (fun w hS => ?_) ?_
      · obtain ⟨a0, a1, a2, a3, a4, a5, a6, a7, a8, a9, a10, a11⟩ := stAt (hl1.out w hS).1
        go_simp
      simp only [Act.put, List.setIfInBounds_toArray, List.set_cons_succ, List.set_cons_zero]
      refine conf_value (cellVal x) rfl (fun w hS => ?_) ?_
      · obtain ⟨⟨a0, a1, a2, a3, a4⟩, _⟩ := blk5 (hl1.out w hS).2.1
        go_simp
      simp only [Act.put, List.setIfInBounds_toArray, List.set_cons_succ, List.set_cons_zero]
      refine conf_call (stVal (singleS x)) 37 #[cellVal x] rfl (fun w hS => by go_simp) (fun w hS => (C1.out w).mono fun e w' ⟨h1, h2⟩ => ⟨h1, hS.trans h2⟩) ?_
      simp only [Act.put, List.setIfInBounds_toArray, List.set_cons_succ, List.set_cons_zero]
      refine conf_call (stVal (mergeS typ S (singleS x))) 17 #[.int .i64 typ, stVal S, stVal (singleS x)] rfl (fun w hS => by go_simp) (fun w hS => (C2.out w).mono fun e w' ⟨h1, h2⟩ => ⟨h1, hS.trans h2⟩) ?_
      simp only [Act.put, List.setIfInBounds_toArray, List.set_cons_succ, List.set_cons_zero]
      refine conf_nil (fun w3 hS3 => ?_)
      obtain ⟨hS4, _, hR4⟩ := hl1.out w3 hS3
      have hK4 := hkeep.trans (hka.trans hS3)
      clear hl1 C1 C2 hka
      generalize hM : mergeS typ S (singleS x) = M at *
      replace hM := Lib.hid hM
      go_wp2_with (refine wpList_store_blk (ty := 31) (n := 12) rfl rfl (hsS.out _) (v := stVal M) hS4 rfl rfl rfl (by simp) (by simp [Value.cells, Value.oneCell']) ?_)
      intro w7 hS8 hk7
      replace hS8 : Blk w7 (W.heap.size + 1) 31 M.cs := by simpa [Value.cells] using hS8
      have hR8 := hR4.keep hk7 (by simp)
      go_wp2
      go_roundw
      case rel => exact ⟨k + 1, by omega, by go_num, by rw [hst.out]; exact hS8, hR8, hK4.after hk7 (by simp)⟩
      case measure => simp [intOf]; omega
    · obtain rfl : k = l.length := by omega
      rw [List.take_length, hr.out] at hS
      obtain ⟨a0, a1, a2, a3, a4, a5, a6, a7, a8, a9, a10, a11⟩ := stAt hS
      replace hR := Lib.hid hR
      go_wp2_with (refine wpList_store_blk (ty := 31) (n := 12) rfl rfl (hsS.out _) (v := stVal r) hR.out rfl rfl rfl (by simp) (by simp [Value.cells, Value.oneCell']) ?_)
      intro w7 hR8 hk7
      go_wp2
      refine bodyPost_ret (ret_st rfl r rfl ?_) rfl ⟨rfl, hkeep.after hk7 (by simp)⟩
      simpa [Value.cells] using hR8
end Go.Proofs.Ytejbfknhnhhlfaa

namespace Go.Proofs.Ytejbfknhnhhlfaa
open Go Go.RowKit
set_option maxRecDepth 10000
set_option linter.unusedVariables false
set_option linter.unusedSimpArgs false

/-- A stat's bytes. -/
def putS (typ : Int) (s : St) : List UInt8 :=
  if rightS typ s = true then putB (uN s.nulls.toInt) ++ (if s.has = true then [1] ++ putB (encB typ [s.min, s.max]).length ++ encB typ [s.min, s.max] else [0]) else []
theorem encB2_len (typ : Int) (a b : Cell) : (encB typ [a, b]).length ≤ 140000 := by
  unfold encB
  split
  · rename_i h
    obtain ⟨_, _, hc⟩ := rightL_mem h
    split
    · rw [packB]
      split
      · rw [toBytes_length]; simp [sizeOf']
      · simp
    · have := cellsB_len typ [a, b] (fun c hcm => rightC_text (hc c hcm))
      simp at this ⊢
      omega
  · simp

set_option maxHeartbeats 2000000 in
theorem statPut_prog {X : List Nat} {A : Option Addr} {m c : Nat} {l : List UInt8} (typ : Int) (s : St) (W : World) (h : Bys X W A m c l) (hroom : m ≤ 1000000000000) :
    Calls Try.prog 22 #[.slice A m c, .int .i64 typ, stVal s] W fun e W' => ∃ B k d, e = .returned (.slice B k d) ∧ Keep [] W W' ∧ W'.ownsRow W.heap.size 5 1 (.slice B k d) k ((l ++ putS typ s).map vU8) := by
  obtain ⟨v, hv⟩ : ∃ v, Hid (putS typ s = v) := ⟨_, rfl⟩
  rw [hv.out]
  obtain ⟨i0, hi, hz0, hz1, hz2⟩ := info_parts Try.infoU8
  have hlen := h.len1
  have hk0 : Keep [] W (W.alloc (.cells #[.int .i64 s.nulls.toInt, .bool s.has, .bool s.min.null, .int .i64 s.min.int.toInt, .string s.min.text, .int .i64 s.min.x.toInt, .int .i64 s.min.y.toInt, .bool s.max.null, .int .i64 s.max.int.toInt, .string s.max.text, .int .i64 s.max.x.toInt, .int .i64 s.max.y.toInt] 31)) := (Keep.refl _ _).alloc _
  have hb0 : Blk (W.alloc (.cells #[.int .i64 s.nulls.toInt, .bool s.has, .bool s.min.null, .int .i64 s.min.int.toInt, .string s.min.text, .int .i64 s.min.x.toInt, .int .i64 s.min.y.toInt, .bool s.max.null, .int .i64 s.max.int.toInt, .string s.max.text, .int .i64 s.max.x.toInt, .int .i64 s.max.y.toInt] 31)) W.heap.size 31 s.cs := Blk.new W 31 _
  have R := rightS_prog typ s (W.alloc (.cells #[.int .i64 s.nulls.toInt, .bool s.has, .bool s.min.null, .int .i64 s.min.int.toInt, .string s.min.text, .int .i64 s.min.x.toInt, .int .i64 s.min.y.toInt, .bool s.max.null, .int .i64 s.max.int.toInt, .string s.max.text, .int .i64 s.max.x.toInt, .int .i64 s.max.y.toInt] 31))
  cases hR : rightS typ s with
  | false =>
    rw [hR] at R
    have v1 : Hid (v = []) := by rw [Hid, ← hv.out, putS, if_neg (by simp [hR])]
    replace R := Lib.hid R
    clear hR hv
    go_enter Try.func22, Try.ntmps22
    go_wp2_with fail
    refine R.out.mono ?_
    rintro e w3 ⟨rfl, hk3⟩
    go_wp2_with fail
    refine (clone_bytes w3 ((h.pure hk0).pure hk3) (by omega)).mono ?_
    rintro e w4 ⟨B1, d1, rfl, hk4, hown4⟩
    go_wp2
    go_ret
    refine ⟨_, _, _, rfl, (hk0.trans hk3).trans hk4, ?_⟩
    rw [v1.out, List.append_nil]
    exact own_lower hown4 (hk0.trans hk3).size
  | true =>
    rw [hR] at R
    have hl1 := putB_len (uN s.nulls.toInt)
    cases hh : s.has with
    | false =>
      have v1 : Hid (v = putB (uN s.nulls.toInt) ++ [0]) := by rw [Hid, ← hv.out, putS, if_pos hR, if_neg (by simp [hh])]
      clear hR hv
      have hsv : stVal s = .agg #[.int .i64 s.nulls.toInt, .bool false, .bool s.min.null, .int .i64 s.min.int.toInt, .string s.min.text, .int .i64 s.min.x.toInt, .int .i64 s.min.y.toInt, .bool s.max.null, .int .i64 s.max.int.toInt, .string s.max.text, .int .i64 s.max.x.toInt, .int .i64 s.max.y.toInt] := by rw [stVal, hh]
      rw [hh] at hk0 hb0 R
      rw [hsv] at R
      clear hsv
      replace R := Lib.hid R
      go_enter Try.func22, Try.ntmps22
      go_wp2_with fail
      refine R.out.mono ?_
      rintro e w3 ⟨rfl, hk3⟩
      have hk03 := hk0.trans hk3
      have hb3 := hb0.keep hk3 (by simp)
      obtain ⟨a0, a1, a2, a3, a4, a5, a6, a7, a8, a9, a10, a11⟩ := stAt hb3
      have P := put_prog (uN s.nulls.toInt) w3 (h.pure hk03) (uN_lt _) (by omega)
      rw [← wrap_uN] at P
      replace P := Lib.hid P
      go_wp2_with fail
      refine P.out.mono ?_
      rintro e w4 ⟨B1, k1, d1, rfl, hk4, hown4⟩
      have hk1 := (rd_of_own (X := []) hown4 (by simp) : Bys [] w4 B1 k1 d1 _).len1
      rw [List.length_append] at hk1
      have hk04 := hk03.trans hk4
      have ho4 := own_lower hown4 hk03.size
      obtain ⟨a0, a1, a2, a3, a4, a5, a6, a7, a8, a9, a10, a11⟩ := stAt (hb3.keep hk4 (by simp))
      replace hk1 := Lib.hid hk1
      replace hl1 := Lib.hid hl1
      replace hlen := Lib.hid hlen
      have hk1' : k1 ≤ 1000000000010 := by have e1 := hk1.out; have e2 := hl1.out; have e3 := hlen.out; omega
      have hck : Bys [] (w4.alloc (.cells #[.int .u8 0] 5)) (some ⟨w4.heap.size, 0, none⟩) 1 1 [0] := (Blk.new w4 5 [.int .u8 0]).rd (by simp) rfl (by omega) (by simp [maxLen]) rfl
      have hsz4 := hk04.size
      clear hown4
      go_wp2_with (at_builtin; refine wpList_append_rd rfl _ _ 39 rfl W.heap.size 5 i0 (.int .u8 0) 1 1 Try.underlying39 hi hz0 hz1 hz2 rfl (by omega) (.slice B1 k1 d1) k1 _ rfl (ho4.alloc _) rfl hck (vU8_one [0]) (by unfold maxLen; omega) (by omega) (by simp; omega) ?_)
      intro v' w5 hown5 hgr
      have hk5 := (hk04.alloc (.cells #[.int .u8 0] 5)).grown hgr (fun g hg => .inr (own_ge ho4 g hg))
      obtain ⟨B5, d5, rfl⟩ := own_form hown5
      go_wp2
      go_ret
      refine ⟨_, _, _, rfl, hk5, ?_⟩
      rw [v1.out, ← List.append_assoc, List.map_append]
      simpa using hown5
    | true =>
      have v1 : Hid (v = putB (uN s.nulls.toInt) ++ ([1] ++ putB (encB typ [s.min, s.max]).length ++ encB typ [s.min, s.max])) := by rw [Hid, ← hv.out, putS, if_pos hR, if_pos hh]
      have hel := encB2_len typ s.min s.max
      have hel2 := putB_len (encB typ [s.min, s.max]).length
      clear hR hv
      have hsv : stVal s = .agg #[.int .i64 s.nulls.toInt, .bool true, .bool s.min.null, .int .i64 s.min.int.toInt, .string s.min.text, .int .i64 s.min.x.toInt, .int .i64 s.min.y.toInt, .bool s.max.null, .int .i64 s.max.int.toInt, .string s.max.text, .int .i64 s.max.x.toInt, .int .i64 s.max.y.toInt] := by rw [stVal, hh]
      rw [hh] at hk0 hb0 R
      rw [hsv] at R
      clear hsv
      replace R := Lib.hid R
      go_enter Try.func22, Try.ntmps22
      go_wp2_with fail
      refine R.out.mono ?_
      rintro e w3 ⟨rfl, hk3⟩
      have hk03 := hk0.trans hk3
      have hb3 := hb0.keep hk3 (by simp)
      obtain ⟨a0, a1, a2, a3, a4, a5, a6, a7, a8, a9, a10, a11⟩ := stAt hb3
      have P := put_prog (uN s.nulls.toInt) w3 (h.pure hk03) (uN_lt _) (by omega)
      rw [← wrap_uN] at P
      replace P := Lib.hid P
      go_wp2_with fail
      refine P.out.mono ?_
      rintro e w4 ⟨B1, k1, d1, rfl, hk4, hown4⟩
      have hk1 := (rd_of_own (X := []) hown4 (by simp) : Bys [] w4 B1 k1 d1 _).len1
      rw [List.length_append] at hk1
      have hk04 := hk03.trans hk4
      have ho4 := own_lower hown4 hk03.size
      have hk1' : k1 ≤ 1000000000010 := by omega
      obtain ⟨a0, a1, a2, a3, a4, a5, a6, a7, a8, a9, a10, a11⟩ := stAt (hb3.keep hk4 (by simp))
      have hcc : Cells [] (w4.alloc (.cells #[.bool s.min.null, .int .i64 s.min.int.toInt, .string s.min.text, .int .i64 s.min.x.toInt, .int .i64 s.min.y.toInt, .bool s.max.null, .int .i64 s.max.int.toInt, .string s.max.text, .int .i64 s.max.x.toInt, .int .i64 s.max.y.toInt] 29)) (some ⟨w4.heap.size, 0, none⟩) 2 2 [s.min, s.max] := (Blk.new w4 29 [.bool s.min.null, .int .i64 s.min.int.toInt, .string s.min.text, .int .i64 s.min.x.toInt, .int .i64 s.min.y.toInt, .bool s.max.null, .int .i64 s.max.int.toInt, .string s.max.text, .int .i64 s.max.x.toInt, .int .i64 s.max.y.toInt]).rd (by simp) (by simp [Cell.cs]) (by omega) (by simp [maxLen]) (by simp [Cell.cs, vI])
      have En := Lib.hid (encode_prog typ _ hcc)
      have hka := (Keep.refl [] w4).alloc (.cells #[.bool s.min.null, .int .i64 s.min.int.toInt, .string s.min.text, .int .i64 s.min.x.toInt, .int .i64 s.min.y.toInt, .bool s.max.null, .int .i64 s.max.int.toInt, .string s.max.text, .int .i64 s.max.x.toInt, .int .i64 s.max.y.toInt] 29)
      replace hk1 := Lib.hid hk1
      replace hl1 := Lib.hid hl1
      replace hlen := Lib.hid hlen
      replace hel := Lib.hid hel
      replace hel2 := Lib.hid hel2
      clear hown4 hcc
      go_wp2_with fail
      refine En.out.mono ?_
      rintro e w5 ⟨Bx, mx, dx, rfl, hk5, hnew⟩
      generalize encB typ [s.min, s.max] = x at *
      have hk45 := hka.trans hk5
      have ho5 := own_keep ho4 hk45 (by simp)
      have hrx : Bys (Value.slice B1 k1 d1).ownBlock.toList w5 Bx mx dx x := hnew _ (fun b hb => by
        have hb' : (Value.slice B1 k1 d1).ownBlock = some b := by simpa using hb
        have := (World.ownsRow.lt ho4 b hb').2
        simp; omega)
      clear hnew
      have hmx := hrx.len1
      obtain rfl := hmx
      have hwx : IntKind.u64.wrap (x.length : Int) = x.length := IntWalk.u64_in _ (by have := hel.out; omega)
      have hk05 := hk04.trans hk45
      have hsz5 := hk05.size
      have hck : Bys [] (w5.alloc (.cells #[.int .u8 1] 5)) (some ⟨w5.heap.size, 0, none⟩) 1 1 [1] := (Blk.new w5 5 [.int .u8 1]).rd (by simp) rfl (by omega) (by simp [maxLen]) rfl
      clear ho4
      go_wp2_with (at_builtin; refine wpList_append_rd rfl _ _ 39 rfl W.heap.size 5 i0 (.int .u8 0) 1 1 Try.underlying39 hi hz0 hz1 hz2 rfl (by omega) (.slice B1 k1 d1) k1 _ rfl (ho5.alloc _) rfl hck (vU8_one [1]) (by unfold maxLen; omega) (by omega) (by simp; omega) ?_)
      intro v' w6 hown6 hgr
      have hk6 := (hk05.alloc (.cells #[.int .u8 1] 5)).grown hgr (fun g hg => .inr (own_ge ho5 g hg))
      have hrx6 : Bys (Value.slice B1 k1 d1).ownBlock.toList w6 Bx x.length dx x := (hrx.pure ((Keep.refl _ _).alloc _)).keep (keep_of_grown hgr) (fun b hb => .inl hb)
      obtain ⟨B6, d6, rfl⟩ := own_form hown6
      have hr6 : Bys [] w6 B6 (k1 + 1) d6 (l ++ putB (uN s.nulls.toInt) ++ [1]) := by
        have := rd_of_own (X := []) hown6 (by simp)
        simpa [Bys, List.append_assoc] using this
      have P2 := Lib.hid (put_prog x.length w6 hr6 (by have := hel.out; omega) (by omega))
      clear hown6 hgr hck hrx ho5
      go_wp2_with fail
      refine P2.out.mono ?_
      rintro e w7 ⟨B7, k7, d7, rfl, hk7, hown7⟩
      have hk07 := hk6.trans hk7
      have ho7 := own_lower hown7 hk6.size
      have hk7l := (rd_of_own (X := []) hown7 (by simp) : Bys [] w7 B7 k7 d7 _).len1
      rw [List.length_append, List.length_append, List.length_append] at hk7l
      have hk7' : k7 ≤ 1000000000100 := by have e1 := hk1.out; have e2 := hl1.out; have e3 := hlen.out; have e4 := hel2.out; simp only [List.length_singleton] at hk7l; omega
      have hrx7 := hrx6.pure hk7
      have hxl := hel.out
      clear hown7
      go_wp2_with (at_builtin; refine wpList_append_rd rfl _ _ 39 rfl W.heap.size 5 i0 (.int .u8 0) 1 1 Try.underlying39 hi hz0 hz1 hz2 rfl (by omega) (.slice B7 k7 d7) k7 _ rfl ho7 rfl hrx7 (vU8_one x) (by unfold maxLen; omega) (by omega) hk07.size ?_)
      intro v' w8 hown8 hgr8
      have hk8 := hk07.grown hgr8 (fun g hg => .inr (own_ge ho7 g hg))
      obtain ⟨B8, d8, rfl⟩ := own_form hown8
      go_wp2
      go_ret
      refine ⟨_, _, _, rfl, hk8, ?_⟩
      rw [v1.out]
      simpa [List.append_assoc] using hown8
end Go.Proofs.Ytejbfknhnhhlfaa

namespace Go.Proofs.Ytejbfknhnhhlfaa
open Go Go.RowKit
set_option maxRecDepth 10000
set_option linter.unusedVariables false
set_option linter.unusedSimpArgs false

set_option maxHeartbeats 2000000 in
theorem statPut_ref {X : List Nat} {A : Option Addr} {m c : Nat} {l : List UInt8} (typ : Int) (s : St) (W : World) (h : Bys X W A m c l) (hroom : m ≤ 1000000000000) :
    Calls Try.prog 23 #[.slice A m c, .int .i64 typ, stVal s] W fun e W' => ∃ B k d, e = .returned (.slice B k d) ∧ Keep [] W W' ∧ W'.ownsRow W.heap.size 5 1 (.slice B k d) k ((l ++ putS typ s).map vU8) := by
  obtain ⟨v, hv⟩ : ∃ v, Hid (putS typ s = v) := ⟨_, rfl⟩
  rw [hv.out]
  obtain ⟨i0, hi, hz0, hz1, hz2⟩ := info_parts Try.infoU8
  have hlen := h.len1
  cases hR : rightS typ s with
  | false =>
    have v1 : Hid (v = []) := by rw [Hid, ← hv.out, putS, if_neg (by simp [hR])]
    cases hh : s.has with
    | false =>
      have hk0 : Keep [] W (W.alloc (.cells #[.int .i64 s.nulls.toInt, .bool false, .bool s.min.null, .int .i64 s.min.int.toInt, .string s.min.text, .int .i64 s.min.x.toInt, .int .i64 s.min.y.toInt, .bool s.max.null, .int .i64 s.max.int.toInt, .string s.max.text, .int .i64 s.max.x.toInt, .int .i64 s.max.y.toInt] 31)) := (Keep.refl _ _).alloc _
      have hb0 : Blk (W.alloc (.cells #[.int .i64 s.nulls.toInt, .bool false, .bool s.min.null, .int .i64 s.min.int.toInt, .string s.min.text, .int .i64 s.min.x.toInt, .int .i64 s.min.y.toInt, .bool s.max.null, .int .i64 s.max.int.toInt, .string s.max.text, .int .i64 s.max.x.toInt, .int .i64 s.max.y.toInt] 31)) W.heap.size 31 s.cs := by
        simp only [St.cs, hh]
        exact Blk.new W 31 _
      have hsv : stVal s = .agg #[.int .i64 s.nulls.toInt, .bool false, .bool s.min.null, .int .i64 s.min.int.toInt, .string s.min.text, .int .i64 s.min.x.toInt, .int .i64 s.min.y.toInt, .bool s.max.null, .int .i64 s.max.int.toInt, .string s.max.text, .int .i64 s.max.x.toInt, .int .i64 s.max.y.toInt] := by rw [stVal, hh]
      have hR1 : ∀ w, Calls Try.prog 21 #[.int .i64 typ, .agg #[.int .i64 s.nulls.toInt, .bool false, .bool s.min.null, .int .i64 s.min.int.toInt, .string s.min.text, .int .i64 s.min.x.toInt, .int .i64 s.min.y.toInt, .bool s.max.null, .int .i64 s.max.int.toInt, .string s.max.text, .int .i64 s.max.x.toInt, .int .i64 s.max.y.toInt]] w fun e W' => e = .returned (.bool false) ∧ Keep [] w W' := fun w => by
        have := rightS_ref typ s w
        rw [hR, hsv] at this
        exact this
      clear hsv hR hv
      replace hR1 := Lib.hid hR1
      go_enter Try.func23, Try.ntmps23
      have hown0 : ((W.alloc (.cells #[.int .i64 s.nulls.toInt, .bool false, .bool s.min.null, .int .i64 s.min.int.toInt, .string s.min.text, .int .i64 s.min.x.toInt, .int .i64 s.min.y.toInt, .bool s.max.null, .int .i64 s.max.int.toInt, .string s.max.text, .int .i64 s.max.x.toInt, .int .i64 s.max.y.toInt] 31)).alloc (.cells #[] 5)).ownsRow W.heap.size 5 1 (.slice (some ⟨W.heap.size + 1, 0, none⟩) 0 0) 0 [] := by
        have := World.ownsRow_lit (W.alloc (.cells #[.int .i64 s.nulls.toInt, .bool false, .bool s.min.null, .int .i64 s.min.int.toInt, .string s.min.text, .int .i64 s.min.x.toInt, .int .i64 s.min.y.toInt, .bool s.max.null, .int .i64 s.max.int.toInt, .string s.max.text, .int .i64 s.max.x.toInt, .int .i64 s.max.y.toInt] 31)) (base := W.heap.size) (e := 5) (size := 1) #[] 0 hk0.size (by simp [maxLen]) (by simp)
        rw [World.size_alloc] at this
        exact this
      go_wp2_with (at_builtin; refine wpList_append_rd (o := ⟨some 13, _, _, _, _, _⟩) rfl _ _ 39 rfl W.heap.size 5 i0 (.int .u8 0) 1 1 Try.underlying39 hi hz0 hz1 hz2 rfl (by omega) _ 0 [] rfl hown0 rfl ((h.pure hk0).pure ((Keep.refl [] _).alloc (.cells #[] 5))) (vU8_one l) (by unfold maxLen; omega) (by omega) ((hk0.alloc (.cells #[] 5)).size) ?_)
      intro v' w2 hown2' hgr
      obtain ⟨B2, d2, rfl⟩ := own_form hown2'
      have hk02 : Keep [] W w2 := (hk0.alloc (.cells #[] 5)).grown hgr (by simp [Value.ownBlock])
      have hkb : Keep [] (W.alloc (.cells #[.int .i64 s.nulls.toInt, .bool false, .bool s.min.null, .int .i64 s.min.int.toInt, .string s.min.text, .int .i64 s.min.x.toInt, .int .i64 s.min.y.toInt, .bool s.max.null, .int .i64 s.max.int.toInt, .string s.max.text, .int .i64 s.max.x.toInt, .int .i64 s.max.y.toInt] 31)) w2 := ((Keep.refl [] (W.alloc (.cells #[.int .i64 s.nulls.toInt, .bool false, .bool s.min.null, .int .i64 s.min.int.toInt, .string s.min.text, .int .i64 s.min.x.toInt, .int .i64 s.min.y.toInt, .bool s.max.null, .int .i64 s.max.int.toInt, .string s.max.text, .int .i64 s.max.x.toInt, .int .i64 s.max.y.toInt] 31))).alloc (.cells #[] 5)).grown hgr (by simp [Value.ownBlock])
      have hb2 := hb0.keep hkb (by simp)
      have hown2 : w2.ownsRow W.heap.size 5 1 (.slice B2 m d2) m (l.map vU8) := by simpa [hlen] using hown2'
      clear hgr hown2' hkb hb0
      obtain ⟨a0, a1, a2, a3, a4, a5, a6, a7, a8, a9, a10, a11⟩ := stAt hb2
      go_wp2_with fail
      refine (hR1.out _).mono ?_
      rintro e w3 ⟨rfl, hk3⟩
      have hk03 := hk02.trans hk3
      have hb3 := hb2.keep hk3 (by simp)
      have ho3 := own_keep hown2 hk3 (by simp)
      have hr3 : Bys [] w3 B2 m d2 l := rd_of_own ho3 (by simp)
      go_wp2
      go_ret
      refine ⟨_, _, _, rfl, hk03, ?_⟩
      rw [v1.out, List.append_nil]
      exact ho3
    | true =>
      have hk0 : Keep [] W (W.alloc (.cells #[.int .i64 s.nulls.toInt, .bool true, .bool s.min.null, .int .i64 s.min.int.toInt, .string s.min.text, .int .i64 s.min.x.toInt, .int .i64 s.min.y.toInt, .bool s.max.null, .int .i64 s.max.int.toInt, .string s.max.text, .int .i64 s.max.x.toInt, .int .i64 s.max.y.toInt] 31)) := (Keep.refl _ _).alloc _
      have hb0 : Blk (W.alloc (.cells #[.int .i64 s.nulls.toInt, .bool true, .bool s.min.null, .int .i64 s.min.int.toInt, .string s.min.text, .int .i64 s.min.x.toInt, .int .i64 s.min.y.toInt, .bool s.max.null, .int .i64 s.max.int.toInt, .string s.max.text, .int .i64 s.max.x.toInt, .int .i64 s.max.y.toInt] 31)) W.heap.size 31 s.cs := by
        simp only [St.cs, hh]
        exact Blk.new W 31 _
      have hsv : stVal s = .agg #[.int .i64 s.nulls.toInt, .bool true, .bool s.min.null, .int .i64 s.min.int.toInt, .string s.min.text, .int .i64 s.min.x.toInt, .int .i64 s.min.y.toInt, .bool s.max.null, .int .i64 s.max.int.toInt, .string s.max.text, .int .i64 s.max.x.toInt, .int .i64 s.max.y.toInt] := by rw [stVal, hh]
      have hR1 : ∀ w, Calls Try.prog 21 #[.int .i64 typ, .agg #[.int .i64 s.nulls.toInt, .bool true, .bool s.min.null, .int .i64 s.min.int.toInt, .string s.min.text, .int .i64 s.min.x.toInt, .int .i64 s.min.y.toInt, .bool s.max.null, .int .i64 s.max.int.toInt, .string s.max.text, .int .i64 s.max.x.toInt, .int .i64 s.max.y.toInt]] w fun e W' => e = .returned (.bool false) ∧ Keep [] w W' := fun w => by
        have := rightS_ref typ s w
        rw [hR, hsv] at this
        exact this
      clear hsv hR hv
      replace hR1 := Lib.hid hR1
      go_enter Try.func23, Try.ntmps23
      have hown0 : ((W.alloc (.cells #[.int .i64 s.nulls.toInt, .bool true, .bool s.min.null, .int .i64 s.min.int.toInt, .string s.min.text, .int .i64 s.min.x.toInt, .int .i64 s.min.y.toInt, .bool s.max.null, .int .i64 s.max.int.toInt, .string s.max.text, .int .i64 s.max.x.toInt, .int .i64 s.max.y.toInt] 31)).alloc (.cells #[] 5)).ownsRow W.heap.size 5 1 (.slice (some ⟨W.heap.size + 1, 0, none⟩) 0 0) 0 [] := by
        have := World.ownsRow_lit (W.alloc (.cells #[.int .i64 s.nulls.toInt, .bool true, .bool s.min.null, .int .i64 s.min.int.toInt, .string s.min.text, .int .i64 s.min.x.toInt, .int .i64 s.min.y.toInt, .bool s.max.null, .int .i64 s.max.int.toInt, .string s.max.text, .int .i64 s.max.x.toInt, .int .i64 s.max.y.toInt] 31)) (base := W.heap.size) (e := 5) (size := 1) #[] 0 hk0.size (by simp [maxLen]) (by simp)
        rw [World.size_alloc] at this
        exact this
      go_wp2_with (at_builtin; refine wpList_append_rd (o := ⟨some 13, _, _, _, _, _⟩) rfl _ _ 39 rfl W.heap.size 5 i0 (.int .u8 0) 1 1 Try.underlying39 hi hz0 hz1 hz2 rfl (by omega) _ 0 [] rfl hown0 rfl ((h.pure hk0).pure ((Keep.refl [] _).alloc (.cells #[] 5))) (vU8_one l) (by unfold maxLen; omega) (by omega) ((hk0.alloc (.cells #[] 5)).size) ?_)
      intro v' w2 hown2' hgr
      obtain ⟨B2, d2, rfl⟩ := own_form hown2'
      have hk02 : Keep [] W w2 := (hk0.alloc (.cells #[] 5)).grown hgr (by simp [Value.ownBlock])
      have hkb : Keep [] (W.alloc (.cells #[.int .i64 s.nulls.toInt, .bool true, .bool s.min.null, .int .i64 s.min.int.toInt, .string s.min.text, .int .i64 s.min.x.toInt, .int .i64 s.min.y.toInt, .bool s.max.null, .int .i64 s.max.int.toInt, .string s.max.text, .int .i64 s.max.x.toInt, .int .i64 s.max.y.toInt] 31)) w2 := ((Keep.refl [] (W.alloc (.cells #[.int .i64 s.nulls.toInt, .bool true, .bool s.min.null, .int .i64 s.min.int.toInt, .string s.min.text, .int .i64 s.min.x.toInt, .int .i64 s.min.y.toInt, .bool s.max.null, .int .i64 s.max.int.toInt, .string s.max.text, .int .i64 s.max.x.toInt, .int .i64 s.max.y.toInt] 31))).alloc (.cells #[] 5)).grown hgr (by simp [Value.ownBlock])
      have hb2 := hb0.keep hkb (by simp)
      have hown2 : w2.ownsRow W.heap.size 5 1 (.slice B2 m d2) m (l.map vU8) := by simpa [hlen] using hown2'
      clear hgr hown2' hkb hb0
      obtain ⟨a0, a1, a2, a3, a4, a5, a6, a7, a8, a9, a10, a11⟩ := stAt hb2
      go_wp2_with fail
      refine (hR1.out _).mono ?_
      rintro e w3 ⟨rfl, hk3⟩
      have hk03 := hk02.trans hk3
      have hb3 := hb2.keep hk3 (by simp)
      have ho3 := own_keep hown2 hk3 (by simp)
      have hr3 : Bys [] w3 B2 m d2 l := rd_of_own ho3 (by simp)
      go_wp2
      go_ret
      refine ⟨_, _, _, rfl, hk03, ?_⟩
      rw [v1.out, List.append_nil]
      exact ho3
  | true =>
    have hl1 := putB_len (uN s.nulls.toInt)
    cases hh : s.has with
    | false =>
      have v1 : Hid (v = putB (uN s.nulls.toInt) ++ [0]) := by rw [Hid, ← hv.out, putS, if_pos hR, if_neg (by simp [hh])]
      have hk0 : Keep [] W (W.alloc (.cells #[.int .i64 s.nulls.toInt, .bool false, .bool s.min.null, .int .i64 s.min.int.toInt, .string s.min.text, .int .i64 s.min.x.toInt, .int .i64 s.min.y.toInt, .bool s.max.null, .int .i64 s.max.int.toInt, .string s.max.text, .int .i64 s.max.x.toInt, .int .i64 s.max.y.toInt] 31)) := (Keep.refl _ _).alloc _
      have hb0 : Blk (W.alloc (.cells #[.int .i64 s.nulls.toInt, .bool false, .bool s.min.null, .int .i64 s.min.int.toInt, .string s.min.text, .int .i64 s.min.x.toInt, .int .i64 s.min.y.toInt, .bool s.max.null, .int .i64 s.max.int.toInt, .string s.max.text, .int .i64 s.max.x.toInt, .int .i64 s.max.y.toInt] 31)) W.heap.size 31 s.cs := by
        simp only [St.cs, hh]
        exact Blk.new W 31 _
      have hsv : stVal s = .agg #[.int .i64 s.nulls.toInt, .bool false, .bool s.min.null, .int .i64 s.min.int.toInt, .string s.min.text, .int .i64 s.min.x.toInt, .int .i64 s.min.y.toInt, .bool s.max.null, .int .i64 s.max.int.toInt, .string s.max.text, .int .i64 s.max.x.toInt, .int .i64 s.max.y.toInt] := by rw [stVal, hh]
      have hR1 : ∀ w, Calls Try.prog 21 #[.int .i64 typ, .agg #[.int .i64 s.nulls.toInt, .bool false, .bool s.min.null, .int .i64 s.min.int.toInt, .string s.min.text, .int .i64 s.min.x.toInt, .int .i64 s.min.y.toInt, .bool s.max.null, .int .i64 s.max.int.toInt, .string s.max.text, .int .i64 s.max.x.toInt, .int .i64 s.max.y.toInt]] w fun e W' => e = .returned (.bool true) ∧ Keep [] w W' := fun w => by
        have := rightS_ref typ s w
        rw [hR, hsv] at this
        exact this
      clear hsv hR hv
      replace hR1 := Lib.hid hR1
      go_enter Try.func23, Try.ntmps23
      have hown0 : ((W.alloc (.cells #[.int .i64 s.nulls.toInt, .bool false, .bool s.min.null, .int .i64 s.min.int.toInt, .string s.min.text, .int .i64 s.min.x.toInt, .int .i64 s.min.y.toInt, .bool s.max.null, .int .i64 s.max.int.toInt, .string s.max.text, .int .i64 s.max.x.toInt, .int .i64 s.max.y.toInt] 31)).alloc (.cells #[] 5)).ownsRow W.heap.size 5 1 (.slice (some ⟨W.heap.size + 1, 0, none⟩) 0 0) 0 [] := by
        have := World.ownsRow_lit (W.alloc (.cells #[.int .i64 s.nulls.toInt, .bool false, .bool s.min.null, .int .i64 s.min.int.toInt, .string s.min.text, .int .i64 s.min.x.toInt, .int .i64 s.min.y.toInt, .bool s.max.null, .int .i64 s.max.int.toInt, .string s.max.text, .int .i64 s.max.x.toInt, .int .i64 s.max.y.toInt] 31)) (base := W.heap.size) (e := 5) (size := 1) #[] 0 hk0.size (by simp [maxLen]) (by simp)
        rw [World.size_alloc] at this
        exact this
      go_wp2_with (at_builtin; refine wpList_append_rd (o := ⟨some 13, _, _, _, _, _⟩) rfl _ _ 39 rfl W.heap.size 5 i0 (.int .u8 0) 1 1 Try.underlying39 hi hz0 hz1 hz2 rfl (by omega) _ 0 [] rfl hown0 rfl ((h.pure hk0).pure ((Keep.refl [] _).alloc (.cells #[] 5))) (vU8_one l) (by unfold maxLen; omega) (by omega) ((hk0.alloc (.cells #[] 5)).size) ?_)
      intro v' w2 hown2' hgr
      obtain ⟨B2, d2, rfl⟩ := own_form hown2'
      have hk02 : Keep [] W w2 := (hk0.alloc (.cells #[] 5)).grown hgr (by simp [Value.ownBlock])
      have hkb : Keep [] (W.alloc (.cells #[.int .i64 s.nulls.toInt, .bool false, .bool s.min.null, .int .i64 s.min.int.toInt, .string s.min.text, .int .i64 s.min.x.toInt, .int .i64 s.min.y.toInt, .bool s.max.null, .int .i64 s.max.int.toInt, .string s.max.text, .int .i64 s.max.x.toInt, .int .i64 s.max.y.toInt] 31)) w2 := ((Keep.refl [] (W.alloc (.cells #[.int .i64 s.nulls.toInt, .bool false, .bool s.min.null, .int .i64 s.min.int.toInt, .string s.min.text, .int .i64 s.min.x.toInt, .int .i64 s.min.y.toInt, .bool s.max.null, .int .i64 s.max.int.toInt, .string s.max.text, .int .i64 s.max.x.toInt, .int .i64 s.max.y.toInt] 31))).alloc (.cells #[] 5)).grown hgr (by simp [Value.ownBlock])
      have hb2 := hb0.keep hkb (by simp)
      have hown2 : w2.ownsRow W.heap.size 5 1 (.slice B2 m d2) m (l.map vU8) := by simpa [hlen] using hown2'
      clear hgr hown2' hkb hb0
      obtain ⟨a0, a1, a2, a3, a4, a5, a6, a7, a8, a9, a10, a11⟩ := stAt hb2
      go_wp2_with fail
      refine (hR1.out _).mono ?_
      rintro e w3 ⟨rfl, hk3⟩
      have hk03 := hk02.trans hk3
      have hb3 := hb2.keep hk3 (by simp)
      have ho3 := own_keep hown2 hk3 (by simp)
      have hr3 : Bys [] w3 B2 m d2 l := rd_of_own ho3 (by simp)
      obtain ⟨a0, a1, a2, a3, a4, a5, a6, a7, a8, a9, a10, a11⟩ := stAt hb3
      have P := put_ref (uN s.nulls.toInt) w3 hr3 (uN_lt _) (by omega)
      rw [← wrap_uN] at P
      replace P := Lib.hid P
      go_wp2_with fail
      refine P.out.mono ?_
      rintro e w4 ⟨B1, k1, d1, rfl, hk4, hown4⟩
      have hk1 := (rd_of_own (X := []) hown4 (by simp) : Bys [] w4 B1 k1 d1 _).len1
      rw [List.length_append] at hk1
      have hk04 := hk03.trans hk4
      have ho4 := own_lower hown4 hk03.size
      obtain ⟨a0, a1, a2, a3, a4, a5, a6, a7, a8, a9, a10, a11⟩ := stAt (hb3.keep hk4 (by simp))
      replace hk1 := Lib.hid hk1
      replace hl1 := Lib.hid hl1
      replace hlen := Lib.hid hlen
      have hk1' : k1 ≤ 1000000000010 := by have e1 := hk1.out; have e2 := hl1.out; have e3 := hlen.out; omega
      have hck : Bys [] (w4.alloc (.cells #[.int .u8 0] 5)) (some ⟨w4.heap.size, 0, none⟩) 1 1 [0] := (Blk.new w4 5 [.int .u8 0]).rd (by simp) rfl (by omega) (by simp [maxLen]) rfl
      have hsz4 := hk04.size
      clear hown4
      go_wp2_with (at_builtin; refine wpList_append_rd rfl _ _ 39 rfl W.heap.size 5 i0 (.int .u8 0) 1 1 Try.underlying39 hi hz0 hz1 hz2 rfl (by omega) (.slice B1 k1 d1) k1 _ rfl (ho4.alloc _) rfl hck (vU8_one [0]) (by unfold maxLen; omega) (by omega) (by simp; omega) ?_)
      intro v' w5 hown5 hgr
      have hk5 := (hk04.alloc (.cells #[.int .u8 0] 5)).grown hgr (fun g hg => .inr (own_ge ho4 g hg))
      obtain ⟨B5, d5, rfl⟩ := own_form hown5
      go_wp2
      go_ret
      refine ⟨_, _, _, rfl, hk5, ?_⟩
      rw [v1.out, ← List.append_assoc, List.map_append]
      simpa using hown5
    | true =>
      have v1 : Hid (v = putB (uN s.nulls.toInt) ++ ([1] ++ putB (encB typ [s.min, s.max]).length ++ encB typ [s.min, s.max])) := by rw [Hid, ← hv.out, putS, if_pos hR, if_pos hh]
      have hel := encB2_len typ s.min s.max
      have hel2 := putB_len (encB typ [s.min, s.max]).length
      have hk0 : Keep [] W (W.alloc (.cells #[.int .i64 s.nulls.toInt, .bool true, .bool s.min.null, .int .i64 s.min.int.toInt, .string s.min.text, .int .i64 s.min.x.toInt, .int .i64 s.min.y.toInt, .bool s.max.null, .int .i64 s.max.int.toInt, .string s.max.text, .int .i64 s.max.x.toInt, .int .i64 s.max.y.toInt] 31)) := (Keep.refl _ _).alloc _
      have hb0 : Blk (W.alloc (.cells #[.int .i64 s.nulls.toInt, .bool true, .bool s.min.null, .int .i64 s.min.int.toInt, .string s.min.text, .int .i64 s.min.x.toInt, .int .i64 s.min.y.toInt, .bool s.max.null, .int .i64 s.max.int.toInt, .string s.max.text, .int .i64 s.max.x.toInt, .int .i64 s.max.y.toInt] 31)) W.heap.size 31 s.cs := by
        simp only [St.cs, hh]
        exact Blk.new W 31 _
      have hsv : stVal s = .agg #[.int .i64 s.nulls.toInt, .bool true, .bool s.min.null, .int .i64 s.min.int.toInt, .string s.min.text, .int .i64 s.min.x.toInt, .int .i64 s.min.y.toInt, .bool s.max.null, .int .i64 s.max.int.toInt, .string s.max.text, .int .i64 s.max.x.toInt, .int .i64 s.max.y.toInt] := by rw [stVal, hh]
      have hR1 : ∀ w, Calls Try.prog 21 #[.int .i64 typ, .agg #[.int .i64 s.nulls.toInt, .bool true, .bool s.min.null, .int .i64 s.min.int.toInt, .string s.min.text, .int .i64 s.min.x.toInt, .int .i64 s.min.y.toInt, .bool s.max.null, .int .i64 s.max.int.toInt, .string s.max.text, .int .i64 s.max.x.toInt, .int .i64 s.max.y.toInt]] w fun e W' => e = .returned (.bool true) ∧ Keep [] w W' := fun w => by
        have := rightS_ref typ s w
        rw [hR, hsv] at this
        exact this
      clear hsv hR hv
      replace hR1 := Lib.hid hR1
      go_enter Try.func23, Try.ntmps23
      have hown0 : ((W.alloc (.cells #[.int .i64 s.nulls.toInt, .bool true, .bool s.min.null, .int .i64 s.min.int.toInt, .string s.min.text, .int .i64 s.min.x.toInt, .int .i64 s.min.y.toInt, .bool s.max.null, .int .i64 s.max.int.toInt, .string s.max.text, .int .i64 s.max.x.toInt, .int .i64 s.max.y.toInt] 31)).alloc (.cells #[] 5)).ownsRow W.heap.size 5 1 (.slice (some ⟨W.heap.size + 1, 0, none⟩) 0 0) 0 [] := by
        have := World.ownsRow_lit (W.alloc (.cells #[.int .i64 s.nulls.toInt, .bool true, .bool s.min.null, .int .i64 s.min.int.toInt, .string s.min.text, .int .i64 s.min.x.toInt, .int .i64 s.min.y.toInt, .bool s.max.null, .int .i64 s.max.int.toInt, .string s.max.text, .int .i64 s.max.x.toInt, .int .i64 s.max.y.toInt] 31)) (base := W.heap.size) (e := 5) (size := 1) #[] 0 hk0.size (by simp [maxLen]) (by simp)
        rw [World.size_alloc] at this
        exact this
      go_wp2_with (at_builtin; refine wpList_append_rd (o := ⟨some 13, _, _, _, _, _⟩) rfl _ _ 39 rfl W.heap.size 5 i0 (.int .u8 0) 1 1 Try.underlying39 hi hz0 hz1 hz2 rfl (by omega) _ 0 [] rfl hown0 rfl ((h.pure hk0).pure ((Keep.refl [] _).alloc (.cells #[] 5))) (vU8_one l) (by unfold maxLen; omega) (by omega) ((hk0.alloc (.cells #[] 5)).size) ?_)
      intro v' w2 hown2' hgr
      obtain ⟨B2, d2, rfl⟩ := own_form hown2'
      have hk02 : Keep [] W w2 := (hk0.alloc (.cells #[] 5)).grown hgr (by simp [Value.ownBlock])
      have hkb : Keep [] (W.alloc (.cells #[.int .i64 s.nulls.toInt, .bool true, .bool s.min.null, .int .i64 s.min.int.toInt, .string s.min.text, .int .i64 s.min.x.toInt, .int .i64 s.min.y.toInt, .bool s.max.null, .int .i64 s.max.int.toInt, .string s.max.text, .int .i64 s.max.x.toInt, .int .i64 s.max.y.toInt] 31)) w2 := ((Keep.refl [] (W.alloc (.cells #[.int .i64 s.nulls.toInt, .bool true, .bool s.min.null, .int .i64 s.min.int.toInt, .string s.min.text, .int .i64 s.min.x.toInt, .int .i64 s.min.y.toInt, .bool s.max.null, .int .i64 s.max.int.toInt, .string s.max.text, .int .i64 s.max.x.toInt, .int .i64 s.max.y.toInt] 31))).alloc (.cells #[] 5)).grown hgr (by simp [Value.ownBlock])
      have hb2 := hb0.keep hkb (by simp)
      have hown2 : w2.ownsRow W.heap.size 5 1 (.slice B2 m d2) m (l.map vU8) := by simpa [hlen] using hown2'
      clear hgr hown2' hkb hb0
      obtain ⟨a0, a1, a2, a3, a4, a5, a6, a7, a8, a9, a10, a11⟩ := stAt hb2
      go_wp2_with fail
      refine (hR1.out _).mono ?_
      rintro e w3 ⟨rfl, hk3⟩
      have hk03 := hk02.trans hk3
      have hb3 := hb2.keep hk3 (by simp)
      have ho3 := own_keep hown2 hk3 (by simp)
      have hr3 : Bys [] w3 B2 m d2 l := rd_of_own ho3 (by simp)
      obtain ⟨a0, a1, a2, a3, a4, a5, a6, a7, a8, a9, a10, a11⟩ := stAt hb3
      have P := put_ref (uN s.nulls.toInt) w3 hr3 (uN_lt _) (by omega)
      rw [← wrap_uN] at P
      replace P := Lib.hid P
      go_wp2_with fail
      refine P.out.mono ?_
      rintro e w4 ⟨B1, k1, d1, rfl, hk4, hown4⟩
      have hk1 := (rd_of_own (X := []) hown4 (by simp) : Bys [] w4 B1 k1 d1 _).len1
      rw [List.length_append] at hk1
      have hk04 := hk03.trans hk4
      have ho4 := own_lower hown4 hk03.size
      have hk1' : k1 ≤ 1000000000010 := by omega
      obtain ⟨a0, a1, a2, a3, a4, a5, a6, a7, a8, a9, a10, a11⟩ := stAt (hb3.keep hk4 (by simp))
      have hcc : Cells [] (w4.alloc (.cells #[.bool s.min.null, .int .i64 s.min.int.toInt, .string s.min.text, .int .i64 s.min.x.toInt, .int .i64 s.min.y.toInt, .bool s.max.null, .int .i64 s.max.int.toInt, .string s.max.text, .int .i64 s.max.x.toInt, .int .i64 s.max.y.toInt] 29)) (some ⟨w4.heap.size, 0, none⟩) 2 2 [s.min, s.max] := (Blk.new w4 29 [.bool s.min.null, .int .i64 s.min.int.toInt, .string s.min.text, .int .i64 s.min.x.toInt, .int .i64 s.min.y.toInt, .bool s.max.null, .int .i64 s.max.int.toInt, .string s.max.text, .int .i64 s.max.x.toInt, .int .i64 s.max.y.toInt]).rd (by simp) (by simp [Cell.cs]) (by omega) (by simp [maxLen]) (by simp [Cell.cs, vI])
      have En := Lib.hid (encode_ref typ _ hcc)
      have hka := (Keep.refl [] w4).alloc (.cells #[.bool s.min.null, .int .i64 s.min.int.toInt, .string s.min.text, .int .i64 s.min.x.toInt, .int .i64 s.min.y.toInt, .bool s.max.null, .int .i64 s.max.int.toInt, .string s.max.text, .int .i64 s.max.x.toInt, .int .i64 s.max.y.toInt] 29)
      replace hk1 := Lib.hid hk1
      replace hl1 := Lib.hid hl1
      replace hlen := Lib.hid hlen
      replace hel := Lib.hid hel
      replace hel2 := Lib.hid hel2
      clear hown4 hcc
      go_wp2_with fail
      refine En.out.mono ?_
      rintro e w5 ⟨Bx, mx, dx, rfl, hk5, hnew⟩
      generalize encB typ [s.min, s.max] = x at *
      have hk45 := hka.trans hk5
      have ho5 := own_keep ho4 hk45 (by simp)
      have hrx : Bys (Value.slice B1 k1 d1).ownBlock.toList w5 Bx mx dx x := hnew _ (fun b hb => by
        have hb' : (Value.slice B1 k1 d1).ownBlock = some b := by simpa using hb
        have := (World.ownsRow.lt ho4 b hb').2
        simp; omega)
      clear hnew
      have hmx := hrx.len1
      obtain rfl := hmx
      have hwx : IntKind.u64.wrap (x.length : Int) = x.length := IntWalk.u64_in _ (by have := hel.out; omega)
      have hk05 := hk04.trans hk45
      have hsz5 := hk05.size
      have hck : Bys [] (w5.alloc (.cells #[.int .u8 1] 5)) (some ⟨w5.heap.size, 0, none⟩) 1 1 [1] := (Blk.new w5 5 [.int .u8 1]).rd (by simp) rfl (by omega) (by simp [maxLen]) rfl
      clear ho4
      go_wp2_with (at_builtin; refine wpList_append_rd rfl _ _ 39 rfl W.heap.size 5 i0 (.int .u8 0) 1 1 Try.underlying39 hi hz0 hz1 hz2 rfl (by omega) (.slice B1 k1 d1) k1 _ rfl (ho5.alloc _) rfl hck (vU8_one [1]) (by unfold maxLen; omega) (by omega) (by simp; omega) ?_)
      intro v' w6 hown6 hgr
      have hk6 := (hk05.alloc (.cells #[.int .u8 1] 5)).grown hgr (fun g hg => .inr (own_ge ho5 g hg))
      have hrx6 : Bys (Value.slice B1 k1 d1).ownBlock.toList w6 Bx x.length dx x := (hrx.pure ((Keep.refl _ _).alloc _)).keep (keep_of_grown hgr) (fun b hb => .inl hb)
      obtain ⟨B6, d6, rfl⟩ := own_form hown6
      have hr6 : Bys [] w6 B6 (k1 + 1) d6 (l ++ putB (uN s.nulls.toInt) ++ [1]) := by
        have := rd_of_own (X := []) hown6 (by simp)
        simpa [Bys, List.append_assoc] using this
      have P2 := Lib.hid (put_ref x.length w6 hr6 (by have := hel.out; omega) (by omega))
      clear hown6 hgr hck hrx ho5
      go_wp2_with fail
      refine P2.out.mono ?_
      rintro e w7 ⟨B7, k7, d7, rfl, hk7, hown7⟩
      have hk07 := hk6.trans hk7
      have ho7 := own_lower hown7 hk6.size
      have hk7l := (rd_of_own (X := []) hown7 (by simp) : Bys [] w7 B7 k7 d7 _).len1
      rw [List.length_append, List.length_append, List.length_append] at hk7l
      have hk7' : k7 ≤ 1000000000100 := by have e1 := hk1.out; have e2 := hl1.out; have e3 := hlen.out; have e4 := hel2.out; simp only [List.length_singleton] at hk7l; omega
      have hrx7 := hrx6.pure hk7
      have hxl := hel.out
      clear hown7
      go_wp2_with (at_builtin; refine wpList_append_rd rfl _ _ 39 rfl W.heap.size 5 i0 (.int .u8 0) 1 1 Try.underlying39 hi hz0 hz1 hz2 rfl (by omega) (.slice B7 k7 d7) k7 _ rfl ho7 rfl hrx7 (vU8_one x) (by unfold maxLen; omega) (by omega) hk07.size ?_)
      intro v' w8 hown8 hgr8
      have hk8 := hk07.grown hgr8 (fun g hg => .inr (own_ge ho7 g hg))
      obtain ⟨B8, d8, rfl⟩ := own_form hown8
      go_wp2
      go_ret
      refine ⟨_, _, _, rfl, hk8, ?_⟩
      rw [v1.out]
      simpa [List.append_assoc] using hown8
end Go.Proofs.Ytejbfknhnhhlfaa

namespace Go.Proofs.Ytejbfknhnhhlfaa
open Go Go.RowKit
set_option maxRecDepth 10000
set_option linter.unusedVariables false
set_option linter.unusedSimpArgs false

def FewSays (n : Nat) (e : Ending) : Prop := ∃ v : Bool, e = .returned (.bool v) ∧ (v = true → n ≤ 300)

set_option maxHeartbeats 1000000 in
theorem few_prog {X : List Nat} {A : Option Addr} {n c : Nat} {l : List Cell} (W : World) (h : Cells X W A n c l) :
    Calls Try.prog 13 #[.slice A n c] W fun e W' => FewSays l.length e ∧ Keep [] W W' := by
  have hc := h.cap
  have hnc := h.le
  obtain rfl := h.len
  go_enter Try.func13, Try.ntmps13
  go_wp2
  go_loop [3, 4] (fun s i => ∃ (k : Nat) (z : Int), k ≤ l.length ∧ i = .int .i64 k ∧ s = .int .i64 z) (fun _ i => l.length - (intOf i).toNat)
  case atStart => exact ⟨0, _, by omega, rfl, rfl⟩
  case round =>
    obtain ⟨k, z, hk, rfl, rfl⟩ := hrel
    by_cases hlt : k < l.length
    · obtain ⟨b, off, rfl, _, _, hc0, hc1, hc2, hc3, hc4⟩ := Cells.at5 h hlt
      go_wp2
      go_round
      case rel => exact ⟨k + 1, _, by omega, by go_num, rfl⟩
      case measure => simp [intOf]; omega
    · obtain rfl : k = l.length := by omega
      by_cases h3 : l.length ≤ 300
      · by_cases hz : z ≤ 3000
        all_goals
          go_wp2
          go_ret
          exact ⟨⟨_, rfl, fun _ => h3⟩, Keep.refl _ _⟩
      · go_wp2
        go_ret
        exact ⟨⟨_, rfl, fun h => by cases h⟩, Keep.refl _ _⟩

/-- Are cells right, null or not? -/
def cellsOk (typ : Int) (l : List Cell) : Bool := l.all (rightC typ true) && known typ

set_option maxHeartbeats 1000000 in
theorem cells_law {X : List Nat} {A : Option Addr} {n c : Nat} {l : List Cell} (typ : Int) (W : World) (h : Cells X W A n c l) :
    Calls Try.prog 14 #[.int .i64 typ, .slice A n c] W fun e W' => e = .returned (.bool (cellsOk typ l)) ∧ Keep [] W W' := by
  obtain ⟨v, hv⟩ : ∃ v, Hid (cellsOk typ l = v) := ⟨_, rfl⟩
  rw [hv.out]
  have hc := h.cap
  have hnc := h.le
  obtain rfl := h.len
  go_enter Try.func14, Try.ntmps14
  go_wp2
  go_loopw [5] (fun i wr => ∃ k : Nat, k ≤ l.length ∧ i = .int .i64 k ∧ Hid (∀ c ∈ l.take k, rightC typ true c = true) ∧ Keep [] W wr) (fun i _ => l.length - (intOf i).toNat)
  case atStart => exact ⟨0, by omega, rfl, by simp [Hid], Keep.refl _ _⟩
  case round =>
    obtain ⟨k, hk, rfl, HN, hkeep⟩ := hrel
    by_cases hlt : k < l.length
    · obtain ⟨b, off, rfl, _, _, hc0, hc1, hc2, hc3, hc4⟩ := Cells.at5 (h.pure hkeep) hlt
      have HN2 : Hid (rightC typ true l[k] = true → ∀ c ∈ l.take (k + 1), rightC typ true c = true) := by
        intro h c hc
        rw [List.take_succ_eq_append_getElem hlt, List.mem_append] at hc
        rcases hc with hc | hc
        · exact HN.out c hc
        · simp at hc; subst hc; exact h
      have HF : Hid (rightC typ true l[k] = false → v = false) := by
        intro hx
        rw [← hv.out, cellsOk]
        have : l.all (rightC typ true) = false := by
          rw [List.all_eq_false]
          exact ⟨l[k], List.getElem_mem hlt, by simp [hx]⟩
        rw [this, Bool.false_and]
      generalize l[k] = x at *
      have C := cellRight_ref x { data := #[] } typ true wr
      go_wp2_with fail
      refine C.mono ?_
      rintro e w1 ⟨rfl, hk1⟩
      cases hx : rightC typ true x with
      | false =>
        have hnl2 := Lib.hid (HF.out hx)
        clear hx C
        go_wp2
        go_ret
        exact ⟨ret_b hnl2.out.symm, hkeep.trans hk1⟩
      | true =>
        have HN3 := Lib.hid (HN2.out hx)
        clear hx C
        go_wp2
        go_roundw
        case rel => exact ⟨k + 1, by omega, by go_num, HN3, hkeep.trans hk1⟩
        case measure => simp [intOf]; omega
    · have hall : l.all (rightC typ true) = true := by
        have := HN.out
        rw [List.take_of_length_le (by omega)] at this
        exact List.all_eq_true.2 this
      have hv1 : v = known typ := by rw [← hv.out, cellsOk, hall, Bool.true_and]
      clear hall
      by_cases h0 : 0 ≤ typ
      · by_cases h3 : typ ≤ 3
        · have hv' : Hid (v = true) := by rw [Hid, hv1, known, decide_eq_true h0, decide_eq_true (show typ < 4 by omega)]; rfl
          clear hv1
          go_wp2
          go_ret
          exact ⟨ret_b (by rw [hv'.out]), hkeep⟩
        · have hv' : Hid (v = false) := by rw [Hid, hv1, known, decide_eq_false (show ¬ typ < 4 by omega)]; simp
          clear hv1
          go_wp2
          go_ret
          exact ⟨ret_b (by rw [hv'.out]), hkeep⟩
      · have hv' : Hid (v = false) := by rw [Hid, hv1, known, decide_eq_false h0]; simp
        clear hv1
        go_wp2
        go_ret
        exact ⟨ret_b (by rw [hv'.out]), hkeep⟩
end Go.Proofs.Ytejbfknhnhhlfaa

namespace Go.Proofs.Ytejbfknhnhhlfaa
open Go Go.RowKit
set_option maxRecDepth 10000
set_option linter.unusedVariables false
set_option linter.unusedSimpArgs false

set_option maxHeartbeats 4000000 in
theorem ofS_ref {X : List Nat} {A : Option Addr} {n c : Nat} {l : List Cell} (typ : Int) (W : World) (h : Cells X W A n c l) (hl : l.length ≤ 1000000) (hn : typ = 3 → ∀ c ∈ l, c.near) :
    Calls Try.prog 16 #[.int .i64 typ, .slice A n c] W fun e W' => e = .returned (stVal (ofS typ l)) ∧ Keep [] W W' := by
  have hc := h.cap
  have hnc := h.le
  obtain rfl := h.len
  obtain ⟨r, hr⟩ : ∃ r, Hid (ofS typ l = r) := ⟨_, rfl⟩
  rw [hr.out]
  have hsS : ∀ w, (Go.sizeOf 31).run Try.prog w = .ok 12 w := Try.sizeOf31
  have hsC : ∀ w, (Go.sizeOf 29).run Try.prog w = .ok 5 w := Try.sizeOf29
  replace hsS := Lib.hid hsS
  replace hsC := Lib.hid hsC
  replace hn := Lib.hid hn
  have hk0 : Keep [] W ((W.alloc (.cells #[.int .i64 0, .bool false, .bool false, .int .i64 0, .string { data := #[] }, .int .i64 0, .int .i64 0, .bool false, .int .i64 0, .string { data := #[] }, .int .i64 0, .int .i64 0] 31)).alloc (.cells #[.int .i64 0, .bool false, .bool false, .int .i64 0, .string { data := #[] }, .int .i64 0, .int .i64 0, .bool false, .int .i64 0, .string { data := #[] }, .int .i64 0, .int .i64 0] 31)) := ((Keep.refl _ _).alloc _).alloc _
  have hR0 : Blk ((W.alloc (.cells #[.int .i64 0, .bool false, .bool false, .int .i64 0, .string { data := #[] }, .int .i64 0, .int .i64 0, .bool false, .int .i64 0, .string { data := #[] }, .int .i64 0, .int .i64 0] 31)).alloc (.cells #[.int .i64 0, .bool false, .bool false, .int .i64 0, .string { data := #[] }, .int .i64 0, .int .i64 0, .bool false, .int .i64 0, .string { data := #[] }, .int .i64 0, .int .i64 0] 31)) W.heap.size 31 [.int .i64 0, .bool false, .bool false, .int .i64 0, .string { data := #[] }, .int .i64 0, .int .i64 0, .bool false, .int .i64 0, .string { data := #[] }, .int .i64 0, .int .i64 0] := (Blk.new W 31 _).alloc _
  have hS0 : Blk ((W.alloc (.cells #[.int .i64 0, .bool false, .bool false, .int .i64 0, .string { data := #[] }, .int .i64 0, .int .i64 0, .bool false, .int .i64 0, .string { data := #[] }, .int .i64 0, .int .i64 0] 31)).alloc (.cells #[.int .i64 0, .bool false, .bool false, .int .i64 0, .string { data := #[] }, .int .i64 0, .int .i64 0, .bool false, .int .i64 0, .string { data := #[] }, .int .i64 0, .int .i64 0] 31)) (W.heap.size + 1) 31 (ofS typ (l.take 0)).cs := blk_alloc2 W _ 31 _
  go_enter Try.func16, Try.ntmps16
  go_wp2
  go_loopw [6] (fun i wr => ∃ k : Nat, k ≤ l.length ∧ i = .int .i64 k ∧ Blk wr (W.heap.size + 1) 31 (ofS typ (l.take k)).cs ∧ Blk wr W.heap.size 31 [.int .i64 0, .bool false, .bool false, .int .i64 0, .string { data := #[] }, .int .i64 0, .int .i64 0, .bool false, .int .i64 0, .string { data := #[] }, .int .i64 0, .int .i64 0] ∧ Keep [] W wr) (fun i _ => l.length - (intOf i).toNat)
  case atStart => exact ⟨0, by omega, rfl, hS0, hR0, hk0⟩
  case round =>
    obtain ⟨k, hk, rfl, hS, hR, hkeep⟩ := hrel
    have hwl := hS.lt
    by_cases hlt : k < l.length
    · obtain ⟨b, off, rfl, _, _, hc0, hc1, hc2, hc3, hc4⟩ := Cells.at5 (h.pure hkeep) hlt
      have hst := Lib.hid (ofS_snoc typ l k hlt)
      have hinv := ofS_inv typ l hl k (by omega)
      have hnu : 0 ≤ (ofS typ (l.take k)).nulls.toInt ∧ (ofS typ (l.take k)).nulls.toInt ≤ 1000000 := ⟨hinv.1, by have := hinv.2.1; rw [List.length_take] at this; omega⟩
      have hnr : typ = 3 → (ofS typ (l.take k)).has = true → l[k].near ∧ (ofS typ (l.take k)).min.near ∧ (ofS typ (l.take k)).max.near := fun h3 hh =>
        ⟨hn.out h3 _ (List.getElem_mem hlt), hn.out h3 _ (List.mem_of_mem_take (hinv.2.2 hh).1), hn.out h3 _ (List.mem_of_mem_take (hinv.2.2 hh).2)⟩
      replace hnr := Lib.hid hnr
      clear hinv
      have hat : ∀ w', Keep [W.heap.size + 1] wr w' → w'.cell? ⟨b, off + k * 5, none⟩ = some (.bool l[k].null) ∧ w'.cell? ⟨b, off + k * 5 + 1, none⟩ = some (.int .i64 l[k].int.toInt) ∧ w'.cell? ⟨b, off + k * 5 + 2, none⟩ = some (.string l[k].text) ∧ w'.cell? ⟨b, off + k * 5 + 3, none⟩ = some (.int .i64 l[k].x.toInt) ∧ w'.cell? ⟨b, off + k * 5 + 4, none⟩ = some (.int .i64 l[k].y.toInt) := fun w' hk' => by
        obtain ⟨_, _, he, _, _, g0, g1, g2, g3, g4⟩ := Cells.at5 (h.pure (hkeep.after hk' (by simp))) hlt
        cases he
        exact ⟨g0, g1, g2, g3, g4⟩
      replace hat := Lib.hid hat
      generalize l[k] = x at *
      generalize ofS typ (l.take k) = S at *
      obtain ⟨hnu1, hnu2⟩ := hnu
      obtain ⟨a0, a1, a2, a3, a4, a5, a6, a7, a8, a9, a10, a11⟩ := stAt hS
      cases hx : x.null with
      | true =>
        have hsum : Hid ((Int64.ofInt (S.nulls.toInt + (1 : Int64).toInt)).toInt = S.nulls.toInt + 1) := by
          have : (1 : Int64).toInt = 1 := rfl
          rw [Hid, this]
          exact toI ⟨by omega, by omega⟩
        have hM : Hid (mergeS typ S (singleS x) = { S with nulls := Int64.ofInt (S.nulls.toInt + (1 : Int64).toInt) }) := by
          rw [Hid, singleS, if_pos hx, mergeS, if_pos rfl]
        have hf := hS.frozen 0
        rw [hx] at hc0
        clear hx
        go_wp2
        go_roundw
        case rel =>
          refine ⟨k + 1, by omega, by go_num, ?_, hR.far (p := ⟨W.heap.size + 1, 0, none⟩) (by show W.heap.size ≠ W.heap.size + 1; omega) _, hkeep.setCell (.inr (by show W.heap.size ≤ W.heap.size + 1; omega)) _⟩
          rw [hst.out, hM.out]
          simp only [St.cs, hsum.out]
          exact hS.set_ 0 _
        case measure => simp [intOf]; omega
      | false =>
        rw [hx] at hc0
        cases hh : S.has with
        | true =>
          have hbS := hS
          have hsum : Hid ((Int64.ofInt (S.nulls.toInt + (0 : Int64).toInt)).toInt = S.nulls.toInt) := by
            have : (0 : Int64).toInt = 0 := rfl
            rw [Hid, this, Int.add_zero]
            exact toI ⟨by omega, by omega⟩
          have hM : Hid (mergeS typ S (singleS x) = ⟨Int64.ofInt (S.nulls.toInt + (0 : Int64).toInt), true, if cmpC typ x S.min < 0 then x else S.min, if 0 < cmpC typ x S.max then x else S.max⟩) := by
            rw [Hid, singleS, if_neg (by simp [hx]), mergeS, if_neg (by simp), if_neg (by simp [hh])]
          have hcv : cellVal x = .agg #[.bool false, .int .i64 x.int.toInt, .string x.text, .int .i64 x.x.toInt, .int .i64 x.y.toInt] := by rw [cellVal, hx]
          have C1 := fun w => cellCompare_ref typ x S.min w (fun h => ⟨(hnr.out h hh).1, (hnr.out h hh).2.1⟩)
          have C2 := fun w => cellCompare_ref typ x S.max w (fun h => ⟨(hnr.out h hh).1, (hnr.out h hh).2.2⟩)
          simp only [hcv] at C1 C2
          clear hcv
          generalize cmpC typ x S.min = z1 at *
          generalize cmpC typ x S.max = z2 at *
          replace C1 := Lib.hid C1
          replace C2 := Lib.hid C2
          rw [hh] at a1
          go_wp2
          refine wp_region_conf (S := fun w => Keep [] wr w) 12 (by kernel_rfl) (by kernel_rfl) ((Keep.refl _ _).drew) ?_
          simp only [List.take_succ_cons, List.take_zero, List.drop_succ_cons, List.drop_zero]
          refine conf_value (.pointer (some ⟨W.heap.size + 1, 1, none⟩)) rfl (fun w hS => by go_simp) ?_
          simp only [Act.put, List.setIfInBounds_toArray, List.set_cons_succ, List.set_cons_zero]
          refine conf_value (.bool true) rfl (fun w hS => ?_) ?_
          · have e1 : w.cell? ⟨W.heap.size + 1, 1, none⟩ = some (.bool S.has) := (hbS.keep hS (by simp)).cell 1
            rw [hh] at e1
            go_simp
          simp only [Act.put, List.setIfInBounds_toArray, List.set_cons_succ, List.set_cons_zero]
          refine conf_value (.bool false) rfl (fun w hS => by go_simp) ?_
          simp only [Act.put, List.setIfInBounds_toArray, List.set_cons_succ, List.set_cons_zero]
          refine conf_value (.bool false) rfl (fun w hS => by go_simp) ?_
          simp only [Act.put, List.setIfInBounds_toArray, List.set_cons_succ, List.set_cons_zero]
          refine conf_value_g (.int .i64 typ) rfl (fun w hS => by go_simp) ?_
          simp only [Act.put, List.setIfInBounds_toArray, List.set_cons_succ, List.set_cons_zero]
          refine conf_value_g (.slice (some ⟨b, off, none⟩) l.length c) rfl (fun w hS => by go_simp) ?_
          simp only [Act.put, List.setIfInBounds_toArray, List.set_cons_succ, List.set_cons_zero]
          refine conf_value_g (.int .i64 k) rfl (fun w hS => by go_simp) ?_
          simp only [Act.put, List.setIfInBounds_toArray, List.set_cons_succ, List.set_cons_zero]
          refine conf_value_g (.pointer (some ⟨b, off + k * 5, none⟩)) rfl (fun w hS => by go_simp) ?_
          simp only [Act.put, List.setIfInBounds_toArray, List.set_cons_succ, List.set_cons_zero]
          refine conf_value_g (.agg #[.bool false, .int .i64 x.int.toInt, .string x.text, .int .i64 x.x.toInt, .int .i64 x.y.toInt]) rfl (fun w hS => ?_) ?_
          · obtain ⟨g0, g1, g2, g3, g4⟩ := hat.out w (hS.nil)
            rw [hx] at g0
            go_simp
          simp only [Act.put, List.setIfInBounds_toArray, List.set_cons_succ, List.set_cons_zero]
          refine conf_value_g (.pointer (some ⟨W.heap.size + 1, 2, none⟩)) rfl (fun w hS => by go_simp) ?_
          simp only [Act.put, List.setIfInBounds_toArray, List.set_cons_succ, List.set_cons_zero]
          refine conf_value_g (.agg #[.bool S.min.null, .int .i64 S.min.int.toInt, .string S.min.text, .int .i64 S.min.x.toInt, .int .i64 S.min.y.toInt]) rfl (fun w hS => ?_) ?_
          · obtain ⟨e0, e1, e2, e3, e4, e5, e6, e7, e8, e9, e10, e11⟩ := stAt (hbS.keep hS (by simp))
            go_simp
          simp only [Act.put, List.setIfInBounds_toArray, List.set_cons_succ, List.set_cons_zero]
          refine conf_call (.int .i64 z1) 38 #[.int .i64 typ, .agg #[.bool false, .int .i64 x.int.toInt, .string x.text, .int .i64 x.x.toInt, .int .i64 x.y.toInt], .agg #[.bool S.min.null, .int .i64 S.min.int.toInt, .string S.min.text, .int .i64 S.min.x.toInt, .int .i64 S.min.y.toInt]] rfl (fun w hS => by go_simp) (fun w hS => (C1.out w).mono fun e w' ⟨h1, h2⟩ => ⟨h1, hS.trans h2⟩) ?_
          simp only [Act.put, List.setIfInBounds_toArray, List.set_cons_succ, List.set_cons_zero]
          refine conf_nil (fun w3 hS3 => ?_)
          have hbS3 := hS.keep hS3 (by simp)
          have hR3 := hR.keep hS3 (by simp)
          have hK3 := hkeep.trans hS3
          obtain ⟨g0, g1, g2, g3, g4⟩ := hat.out w3 hS3.nil
          rw [hx] at g0
          by_cases q1 : z1 < 0
          · go_wp2_with (refine wpList_store_blk (ty := 29) (n := 5) rfl rfl (hsC.out _) (v := .agg #[.bool false, .int .i64 x.int.toInt, .string x.text, .int .i64 x.x.toInt, .int .i64 x.y.toInt]) hbS3 rfl rfl rfl (by simp) (by simp [Value.cells, Value.oneCell']) ?_)
            intro w4 hS4 hk4
            have hbS4 : Blk w4 (W.heap.size + 1) 31 (St.cs ⟨S.nulls, S.has, ⟨false, x.int, x.text, x.x, x.y⟩, S.max⟩) := by simpa [Value.cells, hh] using hS4
            have hR4 := hR3.keep hk4 (by simp)
            have hK4 := hK3.after hk4 (by simp)
            have hat4 := hS3.nil.trans hk4
            clear hS4
            go_wp2
            refine wp_region_conf (S := fun w => Keep [] w4 w) 12 (by kernel_rfl) (by kernel_rfl) ((Keep.refl _ _).drew) ?_
            simp only [List.take_succ_cons, List.take_zero, List.drop_succ_cons, List.drop_zero]
            refine conf_value (.pointer (some ⟨W.heap.size + 1, 1, none⟩)) rfl (fun w hS => by go_simp) ?_
            simp only [Act.put, List.setIfInBounds_toArray, List.set_cons_succ, List.set_cons_zero]
            refine conf_value (.bool true) rfl (fun w hS => ?_) ?_
            · have e1 : w.cell? ⟨W.heap.size + 1, 1, none⟩ = some (.bool S.has) := (hbS4.keep hS (by simp)).cell 1
              rw [hh] at e1
              go_simp
            simp only [Act.put, List.setIfInBounds_toArray, List.set_cons_succ, List.set_cons_zero]
            refine conf_value (.bool false) rfl (fun w hS => by go_simp) ?_
            simp only [Act.put, List.setIfInBounds_toArray, List.set_cons_succ, List.set_cons_zero]
            refine conf_value (.bool false) rfl (fun w hS => by go_simp) ?_
            simp only [Act.put, List.setIfInBounds_toArray, List.set_cons_succ, List.set_cons_zero]
            refine conf_value_g (.int .i64 typ) rfl (fun w hS => by go_simp) ?_
            simp only [Act.put, List.setIfInBounds_toArray, List.set_cons_succ, List.set_cons_zero]
            refine conf_value_g (.slice (some ⟨b, off, none⟩) l.length c) rfl (fun w hS => by go_simp) ?_
            simp only [Act.put, List.setIfInBounds_toArray, List.set_cons_succ, List.set_cons_zero]
            refine conf_value_g (.int .i64 k) rfl (fun w hS => by go_simp) ?_
            simp only [Act.put, List.setIfInBounds_toArray, List.set_cons_succ, List.set_cons_zero]
            refine conf_value_g (.pointer (some ⟨b, off + k * 5, none⟩)) rfl (fun w hS => by go_simp) ?_
            simp only [Act.put, List.setIfInBounds_toArray, List.set_cons_succ, List.set_cons_zero]
            refine conf_value_g (.agg #[.bool false, .int .i64 x.int.toInt, .string x.text, .int .i64 x.x.toInt, .int .i64 x.y.toInt]) rfl (fun w hS => ?_) ?_
            · obtain ⟨g0, g1, g2, g3, g4⟩ := hat.out w (hat4.trans hS.nil)
              rw [hx] at g0
              go_simp
            simp only [Act.put, List.setIfInBounds_toArray, List.set_cons_succ, List.set_cons_zero]
            refine conf_value_g (.pointer (some ⟨W.heap.size + 1, 7, none⟩)) rfl (fun w hS => by go_simp) ?_
            simp only [Act.put, List.setIfInBounds_toArray, List.set_cons_succ, List.set_cons_zero]
            refine conf_value_g (.agg #[.bool S.max.null, .int .i64 S.max.int.toInt, .string S.max.text, .int .i64 S.max.x.toInt, .int .i64 S.max.y.toInt]) rfl (fun w hS => ?_) ?_
            · obtain ⟨e0, e1, e2, e3, e4, e5, e6, e7, e8, e9, e10, e11⟩ := stAt (hbS4.keep hS (by simp))
              go_simp
            simp only [Act.put, List.setIfInBounds_toArray, List.set_cons_succ, List.set_cons_zero]
            refine conf_call (.int .i64 z2) 38 #[.int .i64 typ, .agg #[.bool false, .int .i64 x.int.toInt, .string x.text, .int .i64 x.x.toInt, .int .i64 x.y.toInt], .agg #[.bool S.max.null, .int .i64 S.max.int.toInt, .string S.max.text, .int .i64 S.max.x.toInt, .int .i64 S.max.y.toInt]] rfl (fun w hS => by go_simp) (fun w hS => (C2.out w).mono fun e w' ⟨h1, h2⟩ => ⟨h1, hS.trans h2⟩) ?_
            simp only [Act.put, List.setIfInBounds_toArray, List.set_cons_succ, List.set_cons_zero]
            refine conf_nil (fun w5 hS5 => ?_)
            have hbS5 := hbS4.keep hS5 (by simp)
            have hR5 := hR4.keep hS5 (by simp)
            have hK5 := hK4.trans hS5
            obtain ⟨g0, g1, g2, g3, g4⟩ := hat.out w5 (hat4.trans hS5.nil)
            rw [hx] at g0
            by_cases q2 : 0 < z2
            · go_wp2_with (refine wpList_store_blk (ty := 29) (n := 5) rfl rfl (hsC.out _) (v := .agg #[.bool false, .int .i64 x.int.toInt, .string x.text, .int .i64 x.x.toInt, .int .i64 x.y.toInt]) hbS5 rfl rfl rfl (by simp) (by simp [Value.cells, Value.oneCell']) ?_)
              intro w6 hS6 hk6
              have hbS6 : Blk w6 (W.heap.size + 1) 31 (St.cs ⟨S.nulls, S.has, ⟨false, x.int, x.text, x.x, x.y⟩, ⟨false, x.int, x.text, x.x, x.y⟩⟩) := by simpa [Value.cells, hh] using hS6
              have hR6 := hR5.keep hk6 (by simp)
              have hK6 := hK5.after hk6 (by simp)
              clear hS6
              have e6 : w6.cell? ⟨W.heap.size + 1, 1, none⟩ = some (.bool S.has) := hbS6.cell 1
              have f6 := hbS6.frozen 1
              go_wp2
              go_roundw
              case rel =>
                refine ⟨k + 1, by omega, by go_num, ?_, hR6.far (p := ⟨W.heap.size + 1, 1, none⟩) (by show W.heap.size ≠ W.heap.size + 1; omega) _, hK6.setCell (.inr (by show W.heap.size ≤ W.heap.size + 1; omega)) _⟩
                rw [hst.out, hM.out, if_pos q1, if_pos q2]
                have := hbS6.set_ 1 (.bool true)
                simp only [St.cs, hsum.out, hx]
                exact this
              case measure => simp [intOf]; omega

            · have hbS6 := hbS5
              have hR6 := hR5
              have hK6 := hK5
              have e6 : w5.cell? ⟨W.heap.size + 1, 1, none⟩ = some (.bool S.has) := hbS6.cell 1
              have f6 := hbS6.frozen 1
              go_wp2
              go_roundw
              case rel =>
                refine ⟨k + 1, by omega, by go_num, ?_, hR6.far (p := ⟨W.heap.size + 1, 1, none⟩) (by show W.heap.size ≠ W.heap.size + 1; omega) _, hK6.setCell (.inr (by show W.heap.size ≤ W.heap.size + 1; omega)) _⟩
                rw [hst.out, hM.out, if_pos q1, if_neg (show ¬ 0 < z2 by omega)]
                have := hbS6.set_ 1 (.bool true)
                simp only [St.cs, hsum.out, hx]
                exact this
              case measure => simp [intOf]; omega

          · have hbS4 := hbS3
            have hR4 := hR3
            have hK4 := hK3
            have hat4 : Keep [W.heap.size + 1] wr w3 := hS3.nil
            go_wp2
            refine wp_region_conf (S := fun w => Keep [] w3 w) 12 (by kernel_rfl) (by kernel_rfl) ((Keep.refl _ _).drew) ?_
            simp only [List.take_succ_cons, List.take_zero, List.drop_succ_cons, List.drop_zero]
            refine conf_value (.pointer (some ⟨W.heap.size + 1, 1, none⟩)) rfl (fun w hS => by go_simp) ?_
            simp only [Act.put, List.setIfInBounds_toArray, List.set_cons_succ, List.set_cons_zero]
            refine conf_value (.bool true) rfl (fun w hS => ?_) ?_
            · have e1 : w.cell? ⟨W.heap.size + 1, 1, none⟩ = some (.bool S.has) := (hbS4.keep hS (by simp)).cell 1
              rw [hh] at e1
              go_simp
            simp only [Act.put, List.setIfInBounds_toArray, List.set_cons_succ, List.set_cons_zero]
            refine conf_value (.bool false) rfl (fun w hS => by go_simp) ?_
            simp only [Act.put, List.setIfInBounds_toArray, List.set_cons_succ, List.set_cons_zero]
            refine conf_value (.bool false) rfl (fun w hS => by go_simp) ?_
            simp only [Act.put, List.setIfInBounds_toArray, List.set_cons_succ, List.set_cons_zero]
            refine conf_value_g (.int .i64 typ) rfl (fun w hS => by go_simp) ?_
            simp only [Act.put, List.setIfInBounds_toArray, List.set_cons_succ, List.set_cons_zero]
            refine conf_value_g (.slice (some ⟨b, off, none⟩) l.length c) rfl (fun w hS => by go_simp) ?_
            simp only [Act.put, List.setIfInBounds_toArray, List.set_cons_succ, List.set_cons_zero]
            refine conf_value_g (.int .i64 k) rfl (fun w hS => by go_simp) ?_
            simp only [Act.put, List.setIfInBounds_toArray, List.set_cons_succ, List.set_cons_zero]
            refine conf_value_g (.pointer (some ⟨b, off + k * 5, none⟩)) rfl (fun w hS => by go_simp) ?_
            simp only [Act.put, List.setIfInBounds_toArray, List.set_cons_succ, List.set_cons_zero]
            refine conf_value_g (.agg #[.bool false, .int .i64 x.int.toInt, .string x.text, .int .i64 x.x.toInt, .int .i64 x.y.toInt]) rfl (fun w hS => ?_) ?_
            · obtain ⟨g0, g1, g2, g3, g4⟩ := hat.out w (hat4.trans hS.nil)
              rw [hx] at g0
              go_simp
            simp only [Act.put, List.setIfInBounds_toArray, List.set_cons_succ, List.set_cons_zero]
            refine conf_value_g (.pointer (some ⟨W.heap.size + 1, 7, none⟩)) rfl (fun w hS => by go_simp) ?_
            simp only [Act.put, List.setIfInBounds_toArray, List.set_cons_succ, List.set_cons_zero]
            refine conf_value_g (.agg #[.bool S.max.null, .int .i64 S.max.int.toInt, .string S.max.text, .int .i64 S.max.x.toInt, .int .i64 S.max.y.toInt]) rfl (fun w hS => ?_) ?_
            · obtain ⟨e0, e1, e2, e3, e4, e5, e6, e7, e8, e9, e10, e11⟩ := stAt (hbS4.keep hS (by simp))
              go_simp
            simp only [Act.put, List.setIfInBounds_toArray, List.set_cons_succ, List.set_cons_zero]
            refine conf_call (.int .i64 z2) 38 #[.int .i64 typ, .agg #[.bool false, .int .i64 x.int.toInt, .string x.text, .int .i64 x.x.toInt, .int .i64 x.y.toInt], .agg #[.bool S.max.null, .int .i64 S.max.int.toInt, .string S.max.text, .int .i64 S.max.x.toInt, .int .i64 S.max.y.toInt]] rfl (fun w hS => by go_simp) (fun w hS => (C2.out w).mono fun e w' ⟨h1, h2⟩ => ⟨h1, hS.trans h2⟩) ?_
            simp only [Act.put, List.setIfInBounds_toArray, List.set_cons_succ, List.set_cons_zero]
            refine conf_nil (fun w5 hS5 => ?_)
            have hbS5 := hbS4.keep hS5 (by simp)
            have hR5 := hR4.keep hS5 (by simp)
            have hK5 := hK4.trans hS5
            obtain ⟨g0, g1, g2, g3, g4⟩ := hat.out w5 (hat4.trans hS5.nil)
            rw [hx] at g0
            by_cases q2 : 0 < z2
            · go_wp2_with (refine wpList_store_blk (ty := 29) (n := 5) rfl rfl (hsC.out _) (v := .agg #[.bool false, .int .i64 x.int.toInt, .string x.text, .int .i64 x.x.toInt, .int .i64 x.y.toInt]) hbS5 rfl rfl rfl (by simp) (by simp [Value.cells, Value.oneCell']) ?_)
              intro w6 hS6 hk6
              have hbS6 : Blk w6 (W.heap.size + 1) 31 (St.cs ⟨S.nulls, S.has, S.min, ⟨false, x.int, x.text, x.x, x.y⟩⟩) := by simpa [Value.cells, hh] using hS6
              have hR6 := hR5.keep hk6 (by simp)
              have hK6 := hK5.after hk6 (by simp)
              clear hS6
              have e6 : w6.cell? ⟨W.heap.size + 1, 1, none⟩ = some (.bool S.has) := hbS6.cell 1
              have f6 := hbS6.frozen 1
              go_wp2
              go_roundw
              case rel =>
                refine ⟨k + 1, by omega, by go_num, ?_, hR6.far (p := ⟨W.heap.size + 1, 1, none⟩) (by show W.heap.size ≠ W.heap.size + 1; omega) _, hK6.setCell (.inr (by show W.heap.size ≤ W.heap.size + 1; omega)) _⟩
                rw [hst.out, hM.out, if_neg (show ¬ z1 < 0 by omega), if_pos q2]
                have := hbS6.set_ 1 (.bool true)
                simp only [St.cs, hsum.out, hx]
                exact this
              case measure => simp [intOf]; omega

            · have hbS6 := hbS5
              have hR6 := hR5
              have hK6 := hK5
              have e6 : w5.cell? ⟨W.heap.size + 1, 1, none⟩ = some (.bool S.has) := hbS6.cell 1
              have f6 := hbS6.frozen 1
              go_wp2
              go_roundw
              case rel =>
                refine ⟨k + 1, by omega, by go_num, ?_, hR6.far (p := ⟨W.heap.size + 1, 1, none⟩) (by show W.heap.size ≠ W.heap.size + 1; omega) _, hK6.setCell (.inr (by show W.heap.size ≤ W.heap.size + 1; omega)) _⟩
                rw [hst.out, hM.out, if_neg (show ¬ z1 < 0 by omega), if_neg (show ¬ 0 < z2 by omega)]
                have := hbS6.set_ 1 (.bool true)
                simp only [St.cs, hsum.out, hx]
                exact this
              case measure => simp [intOf]; omega

        | false =>
        rw [hh] at a1
        have hbS := hS
        go_wp2
        refine wp_region_conf (S := fun w => Keep [] wr w) 12 (by kernel_rfl) (by kernel_rfl) ((Keep.refl _ _).drew) ?_
        simp only [List.take_succ_cons, List.take_zero, List.drop_succ_cons, List.drop_zero]
        refine conf_value (.pointer (some ⟨W.heap.size + 1, 1, none⟩)) rfl (fun w hS => by go_simp) ?_
        simp only [Act.put, List.setIfInBounds_toArray, List.set_cons_succ, List.set_cons_zero]
        refine conf_value (.bool false) rfl (fun w hS => ?_) ?_
        · have e1 := (hbS.keep hS (by simp)).cell 1
          simp only [List.getElem?_cons_zero, List.getElem?_cons_succ] at e1
          rw [hh] at e1
          go_simp
        simp only [Act.put, List.setIfInBounds_toArray, List.set_cons_succ, List.set_cons_zero]
        refine conf_value (.bool true) rfl (fun w hS => by go_simp) ?_
        simp only [Act.put, List.setIfInBounds_toArray, List.set_cons_succ, List.set_cons_zero]
        refine conf_value (.bool true) rfl (fun w hS => by go_simp) ?_
        simp only [Act.put, List.setIfInBounds_toArray, List.set_cons_succ, List.set_cons_zero]
        refine conf_skip rfl ?_
        simp only [Act.put, List.setIfInBounds_toArray, List.set_cons_succ, List.set_cons_zero]
        refine conf_skip rfl ?_
        simp only [Act.put, List.setIfInBounds_toArray, List.set_cons_succ, List.set_cons_zero]
        refine conf_skip rfl ?_
        simp only [Act.put, List.setIfInBounds_toArray, List.set_cons_succ, List.set_cons_zero]
        refine conf_skip rfl ?_
        simp only [Act.put, List.setIfInBounds_toArray, List.set_cons_succ, List.set_cons_zero]
        refine conf_skip rfl ?_
        simp only [Act.put, List.setIfInBounds_toArray, List.set_cons_succ, List.set_cons_zero]
        refine conf_skip rfl ?_
        simp only [Act.put, List.setIfInBounds_toArray, List.set_cons_succ, List.set_cons_zero]
        refine conf_skip rfl ?_
        simp only [Act.put, List.setIfInBounds_toArray, List.set_cons_succ, List.set_cons_zero]
        refine conf_skip rfl ?_
        simp only [Act.put, List.setIfInBounds_toArray, List.set_cons_succ, List.set_cons_zero]
        refine conf_nil (fun w3 hS3 => ?_)
        have hsum : Hid ((Int64.ofInt (S.nulls.toInt + (0 : Int64).toInt)).toInt = S.nulls.toInt) := by
          have : (0 : Int64).toInt = 0 := rfl
          rw [Hid, this, Int.add_zero]
          exact toI ⟨by omega, by omega⟩
        have hM : Hid (mergeS typ S (singleS x) = ⟨Int64.ofInt (S.nulls.toInt + (0 : Int64).toInt), true, x, x⟩) := by
          rw [Hid, singleS, if_neg (by simp [hx]), mergeS, if_neg (by simp), if_pos hh]
        have hbS3 := hS.keep hS3 (by simp)
        have hR3 := hR.keep hS3 (by simp)
        have hK3 := hkeep.trans hS3
        obtain ⟨g0, g1, g2, g3, g4⟩ := hat.out w3 hS3.nil
        rw [hx] at g0
        go_wp2_with (refine wpList_store_blk (ty := 29) (n := 5) rfl rfl (hsC.out _) (v := .agg #[.bool false, .int .i64 x.int.toInt, .string x.text, .int .i64 x.x.toInt, .int .i64 x.y.toInt]) hbS3 rfl rfl rfl (by simp) (by simp [Value.cells, Value.oneCell']) ?_)
        intro w4 hS4 hk4
        have hbS4 : Blk w4 (W.heap.size + 1) 31 (St.cs ⟨S.nulls, S.has, ⟨false, x.int, x.text, x.x, x.y⟩, S.max⟩) := by simpa [Value.cells, hh] using hS4
        have hR4 := hR3.keep hk4 (by simp)
        have hK4 := hK3.after hk4 (by simp)
        have hat4 := hS3.nil.trans hk4
        have e4 : w4.cell? ⟨W.heap.size + 1, 1, none⟩ = some (.bool S.has) := hbS4.cell 1
        rw [hh] at e4
        clear hS4
        go_wp2
        refine wp_region_conf (S := fun w => Keep [] w4 w) 12 (by kernel_rfl) (by kernel_rfl) ((Keep.refl _ _).drew) ?_
        simp only [List.take_succ_cons, List.take_zero, List.drop_succ_cons, List.drop_zero]
        refine conf_value (.pointer (some ⟨W.heap.size + 1, 1, none⟩)) rfl (fun w hS => by go_simp) ?_
        simp only [Act.put, List.setIfInBounds_toArray, List.set_cons_succ, List.set_cons_zero]
        refine conf_value (.bool false) rfl (fun w hS => ?_) ?_
        · have e1 : w.cell? ⟨W.heap.size + 1, 1, none⟩ = some (.bool S.has) := (hbS4.keep hS (by simp)).cell 1
          rw [hh] at e1
          go_simp
        simp only [Act.put, List.setIfInBounds_toArray, List.set_cons_succ, List.set_cons_zero]
        refine conf_value (.bool true) rfl (fun w hS => by go_simp) ?_
        simp only [Act.put, List.setIfInBounds_toArray, List.set_cons_succ, List.set_cons_zero]
        refine conf_value (.bool true) rfl (fun w hS => by go_simp) ?_
        simp only [Act.put, List.setIfInBounds_toArray, List.set_cons_succ, List.set_cons_zero]
        refine conf_skip rfl ?_
        simp only [Act.put, List.setIfInBounds_toArray, List.set_cons_succ, List.set_cons_zero]
        refine conf_skip rfl ?_
        simp only [Act.put, List.setIfInBounds_toArray, List.set_cons_succ, List.set_cons_zero]
        refine conf_skip rfl ?_
        simp only [Act.put, List.setIfInBounds_toArray, List.set_cons_succ, List.set_cons_zero]
        refine conf_skip rfl ?_
        simp only [Act.put, List.setIfInBounds_toArray, List.set_cons_succ, List.set_cons_zero]
        refine conf_skip rfl ?_
        simp only [Act.put, List.setIfInBounds_toArray, List.set_cons_succ, List.set_cons_zero]
        refine conf_skip rfl ?_
        simp only [Act.put, List.setIfInBounds_toArray, List.set_cons_succ, List.set_cons_zero]
        refine conf_skip rfl ?_
        simp only [Act.put, List.setIfInBounds_toArray, List.set_cons_succ, List.set_cons_zero]
        refine conf_skip rfl ?_
        simp only [Act.put, List.setIfInBounds_toArray, List.set_cons_succ, List.set_cons_zero]
        refine conf_nil (fun w5 hS5 => ?_)
        have hbS5 := hbS4.keep hS5 (by simp)
        have hR5 := hR4.keep hS5 (by simp)
        have hK5 := hK4.trans hS5
        obtain ⟨g0, g1, g2, g3, g4⟩ := hat.out w5 (hat4.trans hS5.nil)
        rw [hx] at g0
        go_wp2_with (refine wpList_store_blk (ty := 29) (n := 5) rfl rfl (hsC.out _) (v := .agg #[.bool false, .int .i64 x.int.toInt, .string x.text, .int .i64 x.x.toInt, .int .i64 x.y.toInt]) hbS5 rfl rfl rfl (by simp) (by simp [Value.cells, Value.oneCell']) ?_)
        intro w6 hS6 hk6
        have hbS6 : Blk w6 (W.heap.size + 1) 31 (St.cs ⟨S.nulls, S.has, ⟨false, x.int, x.text, x.x, x.y⟩, ⟨false, x.int, x.text, x.x, x.y⟩⟩) := by simpa [Value.cells, hh] using hS6
        have hR6 := hR5.keep hk6 (by simp)
        have hK6 := hK5.after hk6 (by simp)
        have e6 : w6.cell? ⟨W.heap.size + 1, 1, none⟩ = some (.bool S.has) := hbS6.cell 1
        have f6 := hbS6.frozen 1
        clear hS6
        go_wp2
        go_roundw
        case rel =>
          refine ⟨k + 1, by omega, by go_num, ?_, hR6.far (p := ⟨W.heap.size + 1, 1, none⟩) (by show W.heap.size ≠ W.heap.size + 1; omega) _, hK6.setCell (.inr (by show W.heap.size ≤ W.heap.size + 1; omega)) _⟩
          rw [hst.out, hM.out]
          have := hbS6.set_ 1 (.bool true)
          simp only [St.cs, hsum.out, hx]
          exact this
        case measure => simp [intOf]; omega
    · obtain rfl : k = l.length := by omega
      rw [List.take_length, hr.out] at hS
      obtain ⟨a0, a1, a2, a3, a4, a5, a6, a7, a8, a9, a10, a11⟩ := stAt hS
      replace hR := Lib.hid hR
      go_wp2_with (refine wpList_store_blk (ty := 31) (n := 12) rfl rfl (hsS.out _) (v := stVal r) hR.out rfl rfl rfl (by simp) (by simp [Value.cells, Value.oneCell']) ?_)
      intro w7 hR8 hk7
      go_wp2
      refine bodyPost_ret (ret_st rfl r rfl ?_) rfl ⟨rfl, hkeep.after hk7 (by simp)⟩
      simpa [Value.cells] using hR8
end Go.Proofs.Ytejbfknhnhhlfaa

namespace Go.Proofs.Ytejbfknhnhhlfaa
open Go Go.RowKit
set_option maxRecDepth 10000
set_option linter.unusedVariables false
set_option linter.unusedSimpArgs false

theorem cmpC_lt {typ : Int} {a b : Cell} : cmpC typ a b < 0 ↔ ¬ cmpC typ b a ≤ 0 := by
  have := cmpC_swap typ a b
  omega
theorem cmpC_gt {typ : Int} {a b : Cell} : 0 < cmpC typ a b ↔ ¬ cmpC typ a b ≤ 0 := by omega
def minC (typ : Int) (a b : Cell) : Cell := if cmpC typ b a < 0 then b else a
def maxC (typ : Int) (a b : Cell) : Cell := if 0 < cmpC typ b a then b else a
theorem minC_assoc (typ : Int) (a b c : Cell) : minC typ (minC typ a b) c = minC typ a (minC typ b c) := by
  unfold minC
  simp only [cmpC_lt]
  by_cases h1 : cmpC typ a b ≤ 0 <;> by_cases h2 : cmpC typ b c ≤ 0 <;> by_cases h3 : cmpC typ a c ≤ 0 <;> simp [h1, h2, h3]
  · exact absurd (cmpC_trans h1 h2) h3
  · have h4 := cmpC_swap typ b c
    have h5 := cmpC_swap typ a b
    exact absurd (cmpC_trans h3 (show cmpC typ c b ≤ 0 by omega)) h1
theorem maxC_assoc (typ : Int) (a b c : Cell) : maxC typ (maxC typ a b) c = maxC typ a (maxC typ b c) := by
  unfold maxC
  simp only [cmpC_gt]
  by_cases h1 : cmpC typ b a ≤ 0 <;> by_cases h2 : cmpC typ c b ≤ 0 <;> by_cases h3 : cmpC typ c a ≤ 0 <;> simp [h1, h2, h3]
  · exact absurd (cmpC_trans h2 h1) h3
  · have h4 := cmpC_swap typ c b
    have h5 := cmpC_swap typ b a
    exact absurd (cmpC_trans (show cmpC typ b c ≤ 0 by omega) h3) h1
theorem mergeS_eq (typ : Int) (a b : St) : mergeS typ a b = ⟨Int64.ofInt (a.nulls.toInt + b.nulls.toInt), a.has || b.has, if b.has = false then a.min else if a.has = false then b.min else minC typ a.min b.min, if b.has = false then a.max else if a.has = false then b.max else maxC typ a.max b.max⟩ := by
  unfold mergeS minC maxC
  cases hb : b.has <;> cases ha : a.has <;> simp [ha, hb]
def fewN (s : St) : Prop := 0 ≤ s.nulls.toInt ∧ s.nulls.toInt ≤ 1000000
theorem mergeS_assoc (typ : Int) (a b c : St) (ha : fewN a) (hb : fewN b) (hc : fewN c) : mergeS typ (mergeS typ a b) c = mergeS typ a (mergeS typ b c) := by
  unfold fewN at ha hb hc
  have e1 : (Int64.ofInt (a.nulls.toInt + b.nulls.toInt)).toInt = a.nulls.toInt + b.nulls.toInt := toI ⟨by omega, by omega⟩
  have e2 : (Int64.ofInt (b.nulls.toInt + c.nulls.toInt)).toInt = b.nulls.toInt + c.nulls.toInt := toI ⟨by omega, by omega⟩
  rw [mergeS_eq typ a b, mergeS_eq typ b c, mergeS_eq, mergeS_eq]
  simp only [e1, e2, Int.add_assoc, Bool.or_assoc]
  congr 1
  · cases a.has <;> cases b.has <;> cases c.has <;> simp [minC_assoc]
  · cases a.has <;> cases b.has <;> cases c.has <;> simp [maxC_assoc]
theorem mergeS_zero (typ : Int) (s : St) : mergeS typ s St.zero = s := by
  rw [mergeS, if_pos (show St.zero.has = false from rfl)]
  have : s.nulls.toInt + St.zero.nulls.toInt = s.nulls.toInt := by
    show s.nulls.toInt + (0 : Int64).toInt = _
    rw [show (0 : Int64).toInt = 0 from rfl, Int.add_zero]
  rw [this, Int64.ofInt_toInt]
theorem fewN_single (c : Cell) : fewN (singleS c) := by
  unfold singleS
  split
  · exact ⟨by show (0 : Int) ≤ (1 : Int64).toInt; decide, by show (1 : Int64).toInt ≤ 1000000; decide⟩
  · exact ⟨by show (0 : Int) ≤ (0 : Int64).toInt; decide, by show (0 : Int64).toInt ≤ 1000000; decide⟩
theorem fewN_of (typ : Int) (l : List Cell) (hl : l.length ≤ 1000000) : fewN (ofS typ l) := by
  have h := ofS_inv typ l hl l.length (Nat.le_refl _)
  rw [List.take_length] at h
  exact ⟨h.1, by have := h.2.1; omega⟩
/-- The stat of all is that of the parts, merged. -/
theorem ofS_append (typ : Int) (a b : List Cell) (ha : a.length ≤ 1000000) (hb : b.length ≤ 1000000) : ofS typ (a ++ b) = mergeS typ (ofS typ a) (ofS typ b) := by
  have key : ∀ k, k ≤ b.length → (b.take k).foldl (fun s c => mergeS typ s (singleS c)) (ofS typ a) = mergeS typ (ofS typ a) (ofS typ (b.take k)) := by
    intro k
    induction k with
    | zero =>
      intro _
      rw [List.take_zero]
      exact (mergeS_zero typ _).symm
    | succ k ih =>
      intro hk
      rw [ofS_snoc typ b k (by omega), List.take_succ_eq_append_getElem (by omega), List.foldl_append, ih (by omega)]
      show mergeS typ (mergeS typ (ofS typ a) (ofS typ (b.take k))) (singleS b[k]) = _
      exact mergeS_assoc typ _ _ _ (fewN_of typ a ha) (fewN_of typ _ (by rw [List.length_take]; omega)) (fewN_single _)
  have := key b.length (Nat.le_refl _)
  rw [List.take_length] at this
  rw [← this, ofS, List.foldl_append]
  rfl
theorem cmpC_refl (typ : Int) (a : Cell) : cmpC typ a a = 0 := by
  have := cmpC_swap typ a a
  omega
/-- No cell of the list is beyond the stat; nulls are counted; both ends are there if any cell is. -/
def StOk (typ : Int) (l : List Cell) (s : St) : Prop :=
  s.nulls.toInt = (l.filter (·.null)).length ∧ (s.has = false → ∀ c ∈ l, c.null = true) ∧
  (s.has = true → (s.min ∈ l ∧ s.min.null = false) ∧ (s.max ∈ l ∧ s.max.null = false) ∧ ∀ c ∈ l, c.null = false → cmpC typ s.min c ≤ 0 ∧ cmpC typ c s.max ≤ 0)
theorem stOk_step {typ : Int} {l : List Cell} {s : St} (c : Cell) (h : StOk typ l s) (hl : l.length ≤ 1000000) : StOk typ (l ++ [c]) (mergeS typ s (singleS c)) := by
  obtain ⟨h1, h2, h3⟩ := h
  have hfl : (l.filter (·.null)).length ≤ l.length := List.length_filter_le _ _
  unfold StOk
  cases hn : c.null with
  | true =>
    have hs : singleS c = ⟨1, false, Cell.zero, Cell.zero⟩ := by rw [singleS, if_pos hn]
    rw [hs, mergeS, if_pos rfl]
    have e : (Int64.ofInt (s.nulls.toInt + (1 : Int64).toInt)).toInt = s.nulls.toInt + 1 := by
      have : (1 : Int64).toInt = 1 := rfl
      rw [this]
      exact toI ⟨by omega, by omega⟩
    simp only [e]
    refine ⟨by rw [List.filter_append]; simp [hn]; omega, fun h d hd => ?_, fun h => ?_⟩
    · rcases List.mem_append.1 hd with hd | hd
      · exact h2 h d hd
      · rw [List.mem_singleton.1 hd]; exact hn
    · obtain ⟨⟨m1, m2⟩, ⟨m3, m4⟩, m5⟩ := h3 h
      refine ⟨⟨List.mem_append_left _ m1, m2⟩, ⟨List.mem_append_left _ m3, m4⟩, fun d hd hdn => ?_⟩
      rcases List.mem_append.1 hd with hd | hd
      · exact m5 d hd hdn
      · rw [List.mem_singleton.1 hd, hn] at hdn; cases hdn
  | false =>
    have hs : singleS c = ⟨0, true, c, c⟩ := by rw [singleS, if_neg (by simp [hn])]
    rw [hs, mergeS, if_neg (by simp)]
    have e : (Int64.ofInt (s.nulls.toInt + (0 : Int64).toInt)).toInt = s.nulls.toInt := by
      have : (0 : Int64).toInt = 0 := rfl
      rw [this, Int.add_zero]
      exact toI ⟨by omega, by omega⟩
    by_cases hh : s.has = false
    · rw [if_pos hh]
      simp only [e]
      refine ⟨by rw [List.filter_append]; simp [hn]; omega, fun h => (by cases h), fun _ => ⟨⟨by simp, hn⟩, ⟨by simp, hn⟩, fun d hd hdn => ?_⟩⟩
      rcases List.mem_append.1 hd with hd | hd
      · rw [h2 hh d hd] at hdn; cases hdn
      · rw [List.mem_singleton.1 hd, cmpC_refl]; omega
    · rw [if_neg hh]
      simp only [e]
      obtain ⟨⟨m1, m2⟩, ⟨m3, m4⟩, m5⟩ := h3 (by simpa using hh)
      refine ⟨by rw [List.filter_append]; simp [hn]; omega, fun h => (by cases h), fun _ => ⟨?_, ?_, fun d hd hdn => ⟨?_, ?_⟩⟩⟩
      · split
        · exact ⟨by simp, hn⟩
        · exact ⟨List.mem_append_left _ m1, m2⟩
      · split
        · exact ⟨by simp, hn⟩
        · exact ⟨List.mem_append_left _ m3, m4⟩
      · rcases List.mem_append.1 hd with hd | hd
        · split
          · rename_i hz
            exact cmpC_trans (show cmpC typ c s.min ≤ 0 by omega) (m5 d hd hdn).1
          · exact (m5 d hd hdn).1
        · rw [List.mem_singleton.1 hd]
          split
          · rw [cmpC_refl]; omega
          · rename_i hz
            have := cmpC_swap typ c s.min
            omega
      · rcases List.mem_append.1 hd with hd | hd
        · split
          · rename_i hz
            have := cmpC_swap typ c s.max
            exact cmpC_trans (m5 d hd hdn).2 (show cmpC typ s.max c ≤ 0 by omega)
          · exact (m5 d hd hdn).2
        · rw [List.mem_singleton.1 hd]
          split
          · rw [cmpC_refl]; omega
          · rename_i hz
            omega
theorem ofS_ok (typ : Int) (l : List Cell) (hl : l.length ≤ 1000000) : StOk typ l (ofS typ l) := by
  have key : ∀ k, k ≤ l.length → StOk typ (l.take k) (ofS typ (l.take k)) := by
    intro k
    induction k with
    | zero => exact fun _ => ⟨by rw [List.take_zero]; show (0 : Int64).toInt = (([] : List Cell).length : Int); rfl, fun _ c hc => by simp at hc, fun h => by cases h⟩
    | succ k ih =>
      intro hk
      rw [ofS_snoc typ l k (by omega), List.take_succ_eq_append_getElem (by omega)]
      exact stOk_step _ (ih (by omega)) (by rw [List.length_take]; omega)
  have := key l.length (Nat.le_refl _)
  rwa [List.take_length] at this
theorem may_ofS {typ : Int} {l : List Cell} (hl : l.length ≤ 1000000) {c : Cell} (hc : c ∈ l) : mayS typ (ofS typ l) c = true := by
  obtain ⟨h1, h2, h3⟩ := ofS_ok typ l hl
  unfold mayS
  cases hn : c.null with
  | true =>
    rw [if_pos rfl]
    refine decide_eq_true ?_
    rw [h1]
    have : 0 < (l.filter (·.null)).length := List.length_pos_of_mem (List.mem_filter.2 ⟨hc, hn⟩)
    omega
  | false =>
    rw [if_neg (by simp)]
    cases hh : (ofS typ l).has with
    | false => rw [h2 hh c hc] at hn; cases hn
    | true =>
      obtain ⟨_, _, h4⟩ := h3 hh
      obtain ⟨g1, g2⟩ := h4 c hc hn
      have := cmpC_swap typ c (ofS typ l).min
      simp only [Bool.true_and, Bool.and_eq_true, decide_eq_true_eq]
      exact ⟨by omega, g2⟩
theorem right_ofS {typ : Int} {l : List Cell} (hl : l.length ≤ 65536) (hk : known typ = true) (hr : ∀ c ∈ l, rightC typ true c = true) : rightS typ (ofS typ l) = true := by
  obtain ⟨h1, h2, h3⟩ := ofS_ok typ l (by omega)
  have hfl : (l.filter (·.null)).length ≤ l.length := List.length_filter_le _ _
  have hz : (ofS typ l).has = false → (ofS typ l).min = Cell.zero ∧ (ofS typ l).max = Cell.zero := by
    have key : ∀ (b : List Cell) (s : St), (s.has = false → s.min = Cell.zero ∧ s.max = Cell.zero) → ((b.foldl (fun s c => mergeS typ s (singleS c)) s).has = false → (b.foldl (fun s c => mergeS typ s (singleS c)) s).min = Cell.zero ∧ (b.foldl (fun s c => mergeS typ s (singleS c)) s).max = Cell.zero) := by
      intro b
      induction b with
      | nil => exact fun s h => h
      | cons c b ih =>
        intro s h
        refine ih _ fun hh => ?_
        simp only [] at hh ⊢
        rw [mergeS_eq] at hh ⊢
        simp only [Bool.or_eq_false_iff] at hh
        simp only [hh.2, if_true]
        exact h hh.1
    exact key l St.zero (fun _ => ⟨rfl, rfl⟩)
  simp only [rightS, Bool.and_eq_true, decide_eq_true_eq]
  refine ⟨⟨⟨hk, by omega⟩, by omega⟩, ?_⟩
  cases hh : (ofS typ l).has with
  | false =>
    rw [if_neg (by simp)]
    simp [hz hh]
  | true =>
    rw [if_pos rfl]
    obtain ⟨⟨m1, m2⟩, ⟨m3, m4⟩, m5⟩ := h3 hh
    simp only [Bool.and_eq_true, decide_eq_true_eq]
    exact ⟨⟨rightC_val hk (hr _ m1) m2, rightC_val hk (hr _ m3) m4⟩, (m5 _ m3 m4).1⟩
end Go.Proofs.Ytejbfknhnhhlfaa
