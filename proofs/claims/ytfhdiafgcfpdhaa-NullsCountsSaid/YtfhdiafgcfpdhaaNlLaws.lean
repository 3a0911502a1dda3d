/-
  The walks of layer 8's statements.
-/
import Derived.Test.YtfhdiafgcfpdhaaNl9
namespace Go.Proofs.Ytfhdiafgcfpdhaa
open Go Go.RowKit
set_option linter.unusedVariables false
set_option linter.unusedSimpArgs false

theorem dec_refl (l : List Cell) : decide (l = l) = true := by simp
theorem cells_len {X : List Nat} {w : World} {A : Option Addr} {n c : Nat} (h : Cells X w A n c []) : n = 0 := by have := h.len; simpa using this.symm

set_option maxHeartbeats 2000000 in
theorem NullsOnce_walk (A : Option Addr) (m c : Nat) (b : List UInt8) (A2 : Option Addr) (m2 c2 : Nat) (rest : List Cell) (n : Int) (W : World) (h : Bys [] W A m c b) (h2 : Cells [] W A2 m2 c2 rest) (hn : -9223372036854775808 ≤ n ∧ n ≤ 9223372036854775807) :
    Calls Try.prog 10 #[.slice A m c, .slice A2 m2 c2, .int .i64 n] W fun e W' => e = .returned (.bool true) ∧ Below W.heap.size W W' := by
  have hc := h.cap
  have hnc := h.le
  obtain rfl := h.len1
  have hc' := h2.cap
  have hnc' := h2.le
  obtain rfl := h2.len
  go_enter Try.func10, Try.ntmps10
  go_wp2_with fail
  refine (small08 W).mono ?_
  rintro e w1 ⟨rfl, hk⟩
  go_wp2_with fail
  refine (few_prog w1 (h2.pure hk)).mono ?_
  rintro e w2 ⟨⟨v, rfl, hv⟩, hk2⟩
  have hk12 := hk.trans hk2
  cases v with
  | false =>
    go_wp2
    go_ret
    exact ⟨rfl, hk12.below⟩
  | true =>
    have hr := hv rfl
    clear hv
    by_cases hb : 100 < b.length
    · go_wp2
      go_ret
      exact ⟨rfl, hk12.below⟩
    by_cases hn9 : 900 < n
    · go_wp2
      go_ret
      exact ⟨rfl, hk12.below⟩
    go_wp2_with fail
    refine (join_prog n w2 (h.pure hk12) (h2.pure hk12) hn).mono ?_
    rintro e w3 ⟨B, k, d, rfl, hk3, hb3⟩
    have hk13 := hk12.trans hk3
    cases hj : join b rest n with
    | none =>
      rw [hj] at hb3
      obtain rfl := cells_len (hb3 [] (by simp))
      clear hj hb3
      go_wp2
      go_ret
      exact ⟨rfl, hk13.below⟩
    | some o =>
      rw [hj] at hb3
      have ho : Cells [] w3 B k d o := hb3 [] (by simp)
      obtain rfl := ho.len
      have hoc := ho.cap
      have hol := ho.le
      obtain ⟨j1, j2, j3⟩ := join_once hj
      obtain rfl := j1
      replace j2 := Lib.hid j2
      replace j3 := Lib.hid j3
      clear hj hb3
      go_wp2_with fail
      refine (split_prog w3 ho).mono ?_
      rintro e w4 ⟨B4, k4, d4, B5, k5, d5, rfl, hk4, hb4, hb5⟩
      rw [j2.out] at hb4
      rw [j3.out] at hb5
      have hk14 := hk13.trans hk4
      have hs1 := str_run (hb4 [] (by simp))
      have hs2 := str_run (h.pure hk14)
      go_wp2_with fail
      refine (cells_ref w4 (hb5 [] (by simp)) (h2.pure hk14)).mono ?_
      rintro e w5 ⟨rfl, hk5⟩
      have htrue : decide (rest = rest) = true := by simp
      rw [dec_refl]
      go_wp2
      go_ret
      exact ⟨rfl, (hk14.trans hk5).below⟩

set_option maxHeartbeats 2000000 in
theorem NullsSplits_walk (A : Option Addr) (m c : Nat) (l : List Cell) (A2 : Option Addr) (m2 c2 : Nat) (b : List UInt8) (n : Int) (W : World) (h : Cells [] W A m c l) (h2 : Bys [] W A2 m2 c2 b) (hn : -9223372036854775808 ≤ n ∧ n ≤ 9223372036854775807) :
    Calls Try.prog 8 #[.slice A m c, .slice A2 m2 c2, .int .i64 n] W fun e W' => e = .returned (.bool true) ∧ Below W.heap.size W W' := by
  have hc := h.cap
  have hnc := h.le
  obtain rfl := h.len
  have hc' := h2.cap
  have hnc' := h2.le
  obtain rfl := h2.len1
  go_enter Try.func8, Try.ntmps8
  go_wp2_with fail
  refine (small08 W).mono ?_
  rintro e w1 ⟨rfl, hk⟩
  go_wp2_with fail
  refine (few_prog w1 (h.pure hk)).mono ?_
  rintro e w2 ⟨⟨v, rfl, hv⟩, hk2⟩
  have hk12 := hk.trans hk2
  cases v with
  | false =>
    go_wp2
    go_ret
    exact ⟨rfl, hk12.below⟩
  | true =>
    have hr := hv rfl
    clear hv
    by_cases hb : 100 < b.length
    · go_wp2
      go_ret
      exact ⟨rfl, hk12.below⟩
    by_cases hn9 : 900 < n
    · go_wp2
      go_ret
      exact ⟨rfl, hk12.below⟩
    go_wp2_with fail
    refine (split_own w2 (h.pure hk12)).mono ?_
    rintro e w3 ⟨p, B1, n1, d1, B2, n2, d2, rfl, hk3, hp, hb1, hown⟩
    have hk13 := hk12.trans hk3
    have hw2 := hk12.size
    go_wp2_with fail
    refine (split_ref w3 (h.pure hk13)).mono ?_
    rintro e w4 ⟨B3, n3, d3, B4, n4, d4, rfl, hk4, hb3, hb4⟩
    have hk14 := hk13.trans hk4
    go_wp2_with fail
    refine (join_prog n w4 (h2.pure hk14) (h.pure hk14) hn).mono ?_
    rintro e w5 ⟨B5, n5, d5, rfl, hk5, hb5⟩
    have hk15 := hk14.trans hk5
    go_wp2_with fail
    refine (join_ref n w5 (h2.pure hk15) (h.pure hk15) hn).mono ?_
    rintro e w6 ⟨B6, n6, d6, rfl, hk6, hb6⟩
    have hk16 := hk15.trans hk6
    have hk36 := (hk4.trans hk5).trans hk6
    have hk46 := hk5.trans hk6
    generalize (join b l n).isSome = vj
    go_wp2_with fail
    refine (cells_ref w6 (rd_of_own (X := []) (own_keep hown hk36 (by simp)) (by simp)) ((hb4 [] (by simp)).pure hk46)).mono ?_
    rintro e w7 ⟨rfl, hk7⟩
    rw [dec_refl]
    go_wp2_with fail
    refine (cells_ref w7 ((hb5 [] (by simp)).pure (hk6.trans hk7)) ((hb6 [] (by simp)).pure hk7)).mono ?_
    rintro e w8 ⟨rfl, hk8⟩
    rw [dec_refl]
    have hk18 := (hk16.trans hk7).trans hk8
    have hk38 := (hk36.trans hk7).trans hk8
    have hk48 := (hk46.trans hk7).trans hk8
    have hown8 := own_keep hown hk38 (by simp)
    have hB1 := fun Y hY => (hb1 Y hY).pure hk38
    have hB3 := fun Y hY => (hb3 Y hY).pure hk48
    have hB4 := fun Y hY => (hb4 Y hY).pure hk48
    obtain ⟨g, hg, hg2, cs0, hblk⟩ : ∃ g, p ≤ g ∧ (g < w3.heap.size ∨ w8.heap.size ≤ g) ∧ ∃ cs, 0 < n2 → (B2 = some ⟨g, 0, none⟩ ∧ Blk w8 g 47 cs ∧ n2 * 5 ≤ cs.length) := by
      rcases hown.2 with ⟨hv, hn0⟩ | ⟨g, cap, cur, hv, hpg, hcur, hncap, hcm, hcs, ht⟩
      · exact ⟨max p w8.heap.size, by omega, by omega, [], fun h => by omega⟩
      · refine ⟨g, hpg, .inl (Array.getElem?_eq_some_iff.1 hcur).1, cur.toList, fun h => ⟨?_, Blk.keep (w := w3) hcur hk38 (by simp), by simp; rw [hcs]; exact Nat.mul_le_mul_right _ hncap⟩⟩
        injection hv
    clear hb1 hb3 hb4 hb5 hb6 hown hk4 hk5 hk6 hk7 hk8 hk14 hk15 hk16 hk36 hk46
    have hn2 : n2 ≤ 9223372036854775807 := by
      have := rd_of_own (X := []) hown8 (by simp)
      have h1 := this.le
      have h2 := this.cap
      omega
    have hB1g : Bys [g] w8 B1 n1 d1 (splitBits l) := hB1 [g] (by simp; omega)
    have hB3g : Bys [g] w8 B3 n3 d3 (splitBits l) := by
      rcases hg2 with hg2 | hg2
      · exact hB3 [g] (by simp; omega)
      · exact (hB3 [] (by simp)).weaken (by simp; omega)
    have hB4g : Cells [g] w8 B4 n4 d4 (splitRest l) := by
      rcases hg2 with hg2 | hg2
      · exact hB4 [g] (by simp; omega)
      · exact (hB4 [] (by simp)).weaken (by simp; omega)
    clear hB1 hB3 hB4 hown8
    go_wp2
    go_loopw [18] (fun i wr => ∃ (k : Nat) (cs : List Value), k ≤ n2 ∧ i = .int .i64 k ∧ (0 < n2 → (B2 = some ⟨g, 0, none⟩ ∧ Blk wr g 47 cs ∧ n2 * 5 ≤ cs.length)) ∧ Keep [g] w8 wr) (fun i _ => n2 - (intOf i).toNat)
    case atStart => exact ⟨0, cs0, by omega, rfl, hblk, Keep.refl _ _⟩
    case round =>
      obtain ⟨k, cs, hkn, rfl, hbk, hkeep⟩ := hrel
      by_cases hlt : k < n2
      · obtain ⟨rfl, hbk1, hbl⟩ := hbk (by omega)
        go_wp2_with (refine wpList_store_blk rfl rfl (n := 5) (Try.sizeOf47 _) (v := .agg #[.bool false, .int .i64 (-7), .string ByteArray.empty, .int .i64 0, .int .i64 0]) hbk1 (off := k * 5) rfl rfl rfl (by omega) (by simp [Value.cells, Value.oneCell']) ?_)
        intro w9 hb9 hk9
        go_wp2
        go_roundw
        case rel =>
          refine ⟨k + 1, _, by omega, by go_num, fun _ => ⟨by first | rfl | trivial, hb9, ?_⟩, hkeep.trans hk9⟩
          simp [Value.cells]
          omega
        case measure => simp [intOf]; omega
      · obtain rfl : k = n2 := by omega
        have hkr : Keep [] W wr := (hk18.nil.trans hkeep).mono (by simp; omega)
        go_wp2_with fail
        refine (split_prog wr (h.pure hkr)).mono ?_
        rintro e w9 ⟨B7, n7, d7, B8, n8, d8, rfl, hk9, hb7, hb8⟩
        have hk89 := hkeep.trans hk9.nil
        have hs1 := str_run (hB1g.keep hk89 (by simp))
        have hs3 := str_run (hB3g.keep hk89 (by simp))
        have hs7 := str_run (hb7 [] (by simp))
        go_wp2_with fail
        refine (count_prog n w9 (h2.pure (hkr.trans hk9)) hn).mono ?_
        rintro e w10 ⟨rfl, hk10⟩
        go_wp2_with fail
        refine (count_ref n w10 (h2.pure ((hkr.trans hk9).trans hk10)) hn).mono ?_
        rintro e w11 ⟨rfl, hk11⟩
        have hk911 := hk10.trans hk11
        have hs3' := str_run (hB3g.keep (hk89.trans hk911.nil) (by simp))
        have hs7' := str_run ((hb7 [] (by simp)).pure hk911)
        generalize countN b n = cv
        go_wp2_with fail
        refine (cells_ref w11 ((hb8 [] (by simp)).pure hk911) (hB4g.keep (hk89.trans hk911.nil) (by simp))).mono ?_
        rintro e w12 ⟨rfl, hk12'⟩
        rw [dec_refl]
        go_wp2
        go_ret
        exact ⟨rfl, (((hkr.trans hk9).trans hk911).trans hk12').below⟩
end Go.Proofs.Ytfhdiafgcfpdhaa
