/-
  The walks of layer 3's and 4's functions, the reference's: Num, Get, Len.
-/
import Derived.Test.YtphgfhghbpndaaaCr1
namespace Go.Proofs.Ytphgfhghbpndaaa
open Go Go.RowKit
set_option linter.unusedVariables false
set_option linter.unusedSimpArgs false

theorem num_lt64 (b : List UInt8) (h : b.length ≤ 8) : num b < 18446744073709551616 := by
  have h1 := num_lt b
  have h2 : 2 ^ (8 * b.length) ≤ 2 ^ 64 := Nat.pow_le_pow_right (by omega) (by omega)
  have h3 : (2 : Nat) ^ 64 = 18446744073709551616 := rfl
  omega
theorem num_drop (b : List UInt8) (k : Nat) (hk : k < b.length) : num (b.drop k) = 256 * num (b.drop (k + 1)) + b[k].toNat := by
  rw [List.drop_eq_getElem_cons hk]
  simp only [num, List.map_cons, pk]
  omega

set_option maxHeartbeats 1000000 in
set_option maxRecDepth 10000 in
theorem num_ref {g : Nat} {s : Option (List UInt8)} (q : Nat) (W : World) (h : Cur 54 W g s) (hq : q ≤ 8) :
    Calls Try.prog 36 #[.pointer (some ⟨g, 0, none⟩), .int .i64 q] W fun e W' => e = .returned (.int .u64 (num (takeC s q).1 : Nat)) ∧ Keep [g] W W' ∧ Cur 54 W' g (takeC s q).2 := by
  go_enter Try.func36, Try.ntmps36
  go_wp2_with fail
  refine (take_ref q W h (by omega)).mono ?_
  rintro e w1 ⟨B, m, d, rfl, hk1, hcur, hown⟩
  have hr : Bys [] w1 B m d (takeC s q).1 := rd_of_own hown (by simp)
  have hlq : (takeC s q).1.length ≤ 8 := by have := takeC_len s q; omega
  clear hown
  generalize hT : (takeC s q).1 = b at *
  replace hT := Lib.hid hT
  obtain rfl := hr.len1
  have hcap := hr.cap
  go_wp2
  go_loop [6, 7] (fun t i => ∃ k : Nat, k ≤ b.length ∧ i = .int .i64 ((k : Int) - 1) ∧ t = .int .u64 (num (b.drop k) : Nat)) (fun _ i => (intOf i + 1).toNat)
  case atStart => exact ⟨b.length, by omega, rfl, by simp [num, pk]⟩
  case round =>
    obtain ⟨k, hk, rfl, rfl⟩ := hrel
    have hltp := num_lt64 (b.drop k) (by simp; omega)
    by_cases hlt : 0 < k
    · obtain ⟨j, rfl⟩ : ∃ j, k = j + 1 := ⟨k - 1, by omega⟩
      obtain ⟨bb, off, rfl, _, _, hcell⟩ := hr.one (k := j) (by omega)
      unfold vU8 at hcell
      have hst := num_drop b j (by omega)
      have hltp2 := num_lt64 (b.drop j) (by simp; omega)
      rw [hst] at hltp2
      have hst' := Lib.hid hst
      have hx := b[j].toNat_lt
      clear hst
      generalize num (b.drop (j + 1)) = N at *
      generalize b[j].toNat = x at *
      have hj1 : (((j + 1 : Nat) : Int) - 1) = (j : Int) := by omega
      rw [hj1]
      go_wp2
      go_round
      case rel =>
        refine ⟨j, by omega, by go_num, ?_⟩
        rw [hst'.out]
        go_num
      case measure => simp [intOf]
    · obtain rfl : k = 0 := by omega
      rw [List.drop_zero] at *
      go_wp2
      go_ret
      exact ⟨ret_i (by rw [hT.out]), hk1, hcur⟩

theorem get_sum (n x k : Nat) (hk : k ≤ 9) (hn : n < 2 ^ (7 * k)) (hx : x < 128) (h9 : k = 9 → x ≤ 1) :
    IntKind.u64.wrap ((x : Int) * 2 ^ (7 * k)) = ((x * 2 ^ (7 * k) : Nat) : Int) ∧ n + x * 2 ^ (7 * k) < 18446744073709551616 := by
  have h := (get_or n x k hk hn hx h9).2
  refine ⟨?_, h⟩
  have : ((x : Int) * 2 ^ (7 * k)) = ((x * 2 ^ (7 * k) : Nat) : Int) := by rw [Int.natCast_mul, Int.natCast_pow]; rfl
  rw [this]
  exact IntWalk.u64_in _ (by omega)

set_option maxHeartbeats 4000000 in
set_option maxRecDepth 20000 in
theorem get_ref {g : Nat} {s : Option (List UInt8)} (W : World) (h : Cur 54 W g s) :
    Calls Try.prog 35 #[.pointer (some ⟨g, 0, none⟩)] W fun e W' => e = .returned (.int .u64 ((getC s).1 : Nat)) ∧ Keep [g] W W' ∧ Cur 54 W' g (getC s).2 := by
  obtain ⟨v, HV⟩ : ∃ v, Hid (v = (getC s).1) := ⟨_, rfl⟩
  obtain ⟨z, HZ⟩ : ∃ z, Hid (z = (getC s).2) := ⟨_, rfl⟩
  rw [← HV.out, ← HZ.out]
  go_enter Try.func35, Try.ntmps35
  go_wp2
  go_loopw [3, 4] (fun t i wr => ∃ (k n : Nat) (s' : Option (List UInt8)), k ≤ 9 ∧ i = .int .i64 k ∧ t = .int .u64 (n : Nat) ∧ Hid (n < 2 ^ (7 * k)) ∧ Hid (getC s = getR k n s') ∧ Keep [g] W wr ∧ Cur 54 wr g s') (fun _ i _ => 10 - (intOf i).toNat)
  case atStart => exact ⟨0, 0, s, by omega, rfl, rfl, (by decide : 0 < 2 ^ (7 * 0)), rfl, Keep.refl _ _, h⟩
  case round =>
    obtain ⟨k, n, s', hk, rfl, rfl, hn, HR, hkeep, hcur⟩ := hrel
    go_wp2_with fail
    refine (take_ref 1 wr hcur (by omega)).mono ?_
    rintro e w1 ⟨B, m1, d1, rfl, hk1, hcur1, hown⟩
    have hr : Bys [] w1 B m1 d1 (takeC s' 1).1 := rd_of_own hown (by simp)
    clear hown
    have hw : (∃ l, s' = some l ∧ l ≠ []) ∨ takeC s' 1 = ([], none) ∧ getR k n s' = (0, none) := by
      match s' with
      | none => exact .inr ⟨rfl, getR_none _ _⟩
      | some [] => exact .inr ⟨by simp [takeC], getR_nil _ _⟩
      | some (y :: l) => exact .inl ⟨y :: l, rfl, by simp⟩
    rcases hw with ⟨l, rfl, hl⟩ | ⟨h1, HN⟩
    · obtain ⟨y, l, rfl⟩ : ∃ y t, l = y :: t := by cases l with | nil => exact absurd rfl hl | cons y l => exact ⟨y, l, rfl⟩
      have hT : takeC (some (y :: l)) 1 = ([y], some l) := by
        unfold takeC
        simp only []
        rw [if_pos ⟨by omega, by simp only [List.length_cons]; omega⟩]
        rfl
      rw [hT] at hcur1 hr
      have hy := y.toNat_lt
      clear hT hl
      obtain rfl : m1 = 1 := by have := hr.len1; simpa using this.symm
      obtain ⟨bb, off, rfl, _, _, hcell⟩ := hr.one (k := 0) (by simp)
      simp only [List.getElem_cons_zero, vU8, Nat.add_zero] at hcell
      have hy0 : y = 0 ↔ y.toNat = 0 := ⟨fun h => by rw [h]; rfl, fun h => UInt8.toNat_inj.1 (by rw [h]; rfl)⟩
      by_cases hbad : (0 < k ∧ y = 0) ∨ (k = 9 ∧ 1 < y.toNat)
      · have HN := getR_bad (n := n) (l := l) hbad
        have hHR : Hid (getC s = (0, none)) := by rw [Hid, HR.out, HN]
        rw [hy0] at hbad
        clear HN HR hy0
        generalize y.toNat = x at *
        rcases hbad with ⟨hk0, rfl⟩ | ⟨rfl, hx1⟩
        · have hfact : ((k : Int) == 9 && false) = false := by simp
          by_cases hk9 : k = 9
          · subst hk9
            go_wp2_with fail
            refine (fail_ref w1 hcur1).mono ?_
            rintro e w2 ⟨rfl, hk2, hcur2⟩
            go_wp2
            go_ret
            have hv := HV.out
            have hz := HZ.out
            rw [hHR.out] at hv hz
            subst hv hz
            exact ⟨rfl, (hkeep.trans hk1).trans hk2, hcur2⟩
          · have hk9' : ((k : Int) == 9) = false := by rw [beq_eq_false_iff_ne]; omega
            go_wp2_with fail
            refine (fail_ref w1 hcur1).mono ?_
            rintro e w2 ⟨rfl, hk2, hcur2⟩
            go_wp2
            go_ret
            have hv := HV.out
            have hz := HZ.out
            rw [hHR.out] at hv hz
            subst hv hz
            exact ⟨rfl, (hkeep.trans hk1).trans hk2, hcur2⟩
        · go_wp2_with fail
          refine (fail_ref w1 hcur1).mono ?_
          rintro e w2 ⟨rfl, hk2, hcur2⟩
          go_wp2
          go_ret
          have hv := HV.out
          have hz := HZ.out
          rw [hHR.out] at hv hz
          subst hv hz
          exact ⟨rfl, (hkeep.trans hk1).trans hk2, hcur2⟩
      · obtain ⟨hg1, hg2⟩ : (0 < k → y.toNat ≠ 0) ∧ (k = 9 → y.toNat ≤ 1) := ⟨fun h1 h2 => hbad (.inl ⟨h1, hy0.2 h2⟩), fun h1 => by
          rcases Nat.lt_or_ge 1 y.toNat with h2 | h2
          · exact absurd (.inr ⟨h1, h2⟩) hbad
          · exact h2⟩
        obtain ⟨hsh, hlt64⟩ := get_sum n (y.toNat % 128) k hk hn.out (by omega) (fun h => by have := hg2 h; omega)
        have HR2 : Hid ((y.toNat < 128 → getC s = (n + y.toNat % 128 * 2 ^ (7 * k), some l)) ∧ (¬ y.toNat < 128 → getC s = getR (k + 1) (n + y.toNat % 128 * 2 ^ (7 * k)) (some l) ∧ k < 9)) :=
          ⟨fun h => by rw [HR.out, getR_last hk hbad h], fun h => by rw [HR.out]; exact getR_more hk hbad h⟩
        have hn2 : n + y.toNat % 128 * 2 ^ (7 * k) < 2 ^ (7 * (k + 1)) := by
          have h0 := hn.out
          have h1 : y.toNat % 128 * 2 ^ (7 * k) + 2 ^ (7 * k) ≤ 128 * 2 ^ (7 * k) := by rw [← Nat.succ_mul]; exact Nat.mul_le_mul_right _ (by omega)
          have h2 : 2 ^ (7 * (k + 1)) = 128 * 2 ^ (7 * k) := by rw [Nat.mul_add, Nat.pow_add]; omega
          omega
        replace hn2 := Lib.hid hn2
        have hmx : ((y.toNat : Int) % 128) = ((y.toNat % 128 : Nat) : Int) := by omega
        generalize y.toNat % 128 = m at *
        obtain ⟨p, hp⟩ : ∃ p, m * 2 ^ (7 * k) = p := ⟨_, rfl⟩
        rw [hp] at hn2 HR2 hsh hlt64
        obtain ⟨N, hN⟩ : ∃ N, n + p = N := ⟨_, rfl⟩
        rw [hN] at hn2 HR2 hlt64
        have hNi : (n : Int) + (p : Int) = (N : Int) := by omega
        clear hN hp hbad hy0 HR
        generalize y.toNat = x at *
        have hk0b : 0 < k → ((x : Int) == 0) = false := fun h => by have := hg1 h; rw [beq_eq_false_iff_ne]; omega
        have hk9b : k ≠ 9 → ((k : Int) == 9) = false := fun h => by rw [beq_eq_false_iff_ne]; omega
        by_cases hlast : x < 128
        · have HN := Lib.hid (HR2.out.1 hlast)
          by_cases hk0 : 0 < k
          · have hk0' := hk0b hk0
            by_cases hk9 : k = 9
            · subst hk9
              have := hg2 rfl
              have hsh9 : IntKind.u64.wrap ((m : Int) * 9223372036854775808) = (p : Int) := hsh
              clear hk0b hk9b hg1 hg2
              go_wp2
              go_ret
              have hv := HV.out
              have hz := HZ.out
              rw [HN.out] at hv hz
              subst hv hz
              exact ⟨rfl, hkeep.trans hk1, hcur1⟩
            · have hk9' := hk9b hk9
              clear hk0b hk9b hg1 hg2 hk9
              go_wp2
              go_ret
              have hv := HV.out
              have hz := HZ.out
              rw [HN.out] at hv hz
              subst hv hz
              exact ⟨rfl, hkeep.trans hk1, hcur1⟩
          · obtain rfl : k = 0 := by omega
            have hsh0 : (m : Int) = (p : Int) := by
              have h1 := hsh
              rw [show (m : Int) * 2 ^ (7 * 0) = m from by simp, IntWalk.u64_in _ (by omega)] at h1
              exact h1
            clear hk0b hk9b hg1 hg2
            go_wp2
            go_ret
            have hv := HV.out
            have hz := HZ.out
            rw [HN.out] at hv hz
            subst hv hz
            exact ⟨rfl, hkeep.trans hk1, hcur1⟩
        · obtain ⟨HN, hk9⟩ := HR2.out.2 hlast
          replace HN := Lib.hid HN
          by_cases hk0 : 0 < k
          · have hk0' := hk0b hk0
            have hk9' := hk9b (by omega)
            clear hk0b hk9b hg1 hg2
            go_wp2
            go_roundw
            case rel => exact ⟨k + 1, N, some l, by omega, by go_num, rfl, hn2, HN, hkeep.trans hk1, hcur1⟩
            case measure => first | (simp [intOf]; done) | (simp [intOf]; omega)
          · obtain rfl : k = 0 := by omega
            have hsh0 : (m : Int) = (p : Int) := by
              have h1 := hsh
              rw [show (m : Int) * 2 ^ (7 * 0) = m from by simp, IntWalk.u64_in _ (by omega)] at h1
              exact h1
            clear hk0b hk9b hg1 hg2
            go_wp2
            go_roundw
            case rel => exact ⟨0 + 1, N, some l, by omega, by go_num, rfl, hn2, HN, hkeep.trans hk1, hcur1⟩
            case measure => first | (simp [intOf]; done) | (simp [intOf]; omega)
    · rw [h1] at hcur1 hr
      obtain rfl := hr.len1
      replace HN := Lib.hid HN
      clear h1
      go_wp2
      go_ret
      have hv := HV.out
      have hz := HZ.out
      rw [HR.out, HN.out] at hv hz
      subst hv hz
      exact ⟨rfl, hkeep.trans hk1, hcur1⟩
set_option maxHeartbeats 1000000 in
set_option maxRecDepth 10000 in
theorem len_ref {g : Nat} {s : Option (List UInt8)} (most : Int) (W : World) (h : Cur 54 W g s) (hm : -9223372036854775808 ≤ most ∧ most ≤ 9223372036854775807) :
    Calls Try.prog 34 #[.pointer (some ⟨g, 0, none⟩), .int .i64 most] W fun e W' => e = .returned (.int .i64 ((lenC s most).1 : Nat)) ∧ Keep [g] W W' ∧ Cur 54 W' g (lenC s most).2 := by
  have hlt := getC_lt s
  replace hlt : (getC s).1 < 18446744073709551616 := hlt
  have C := get_ref W h
  obtain ⟨⟨x, s1⟩, hG⟩ : ∃ p, getC s = p := ⟨_, rfl⟩
  rw [hG] at C hlt
  simp only [] at C hlt
  obtain ⟨⟨v, z⟩, HL⟩ : ∃ p, lenC s most = p := ⟨_, rfl⟩
  rw [HL]
  simp only []
  replace C := Lib.hid C
  cases s1 with
  | none =>
    · rw [lenC_none hG] at HL
      injection HL with h1 h2
      subst h1 h2
      clear hG
      go_enter Try.func34, Try.ntmps34
      go_wp2_with fail
      refine C.out.mono ?_
      rintro e w1 ⟨rfl, hk1, hcur1⟩
      have hcur1' := hcur1
      obtain ⟨A1, n1, c1, hbk, _, _⟩ := hcur1
      have hcI := hbk.cell 1
      simp only [List.getElem?_cons_zero, List.getElem?_cons_succ, Option.isNone_none, Option.isNone_some] at hcI
      go_wp2_with fail
      refine (fail_ref w1 hcur1').mono ?_
      rintro e w2 ⟨rfl, hk2, hcur2⟩
      go_wp2
      go_ret
      exact ⟨rfl, hk1.trans hk2, hcur2⟩
  | some l =>
    by_cases hfit : 0 ≤ most ∧ (x : Int) ≤ most
    · rw [lenC_fit hG hfit] at HL
      injection HL with h1 h2
      subst h1 h2
      obtain ⟨hf0, hf1⟩ := hfit
      clear hG
      go_enter Try.func34, Try.ntmps34
      go_wp2_with fail
      refine C.out.mono ?_
      rintro e w1 ⟨rfl, hk1, hcur1⟩
      have hcur1' := hcur1
      obtain ⟨A1, n1, c1, hbk, _, _⟩ := hcur1
      have hcI := hbk.cell 1
      simp only [List.getElem?_cons_zero, List.getElem?_cons_succ, Option.isNone_none, Option.isNone_some] at hcI
      go_wp2
      go_ret
      exact ⟨ret_i (by first | rfl | omega), hk1, hcur1'⟩
    · rw [lenC_not hG hfit] at HL
      injection HL with h1 h2
      subst h1 h2
      clear hG
      by_cases hm0 : most < 0
      · clear hfit
        go_enter Try.func34, Try.ntmps34
        go_wp2_with fail
        refine C.out.mono ?_
        rintro e w1 ⟨rfl, hk1, hcur1⟩
        have hcur1' := hcur1
        obtain ⟨A1, n1, c1, hbk, _, _⟩ := hcur1
        have hcI := hbk.cell 1
        simp only [List.getElem?_cons_zero, List.getElem?_cons_succ, Option.isNone_none, Option.isNone_some] at hcI
        go_wp2_with fail
        refine (fail_ref w1 hcur1').mono ?_
        rintro e w2 ⟨rfl, hk2, hcur2⟩
        go_wp2
        go_ret
        exact ⟨rfl, hk1.trans hk2, hcur2⟩
      · have hx : most < (x : Int) := by omega
        clear hfit
        go_enter Try.func34, Try.ntmps34
        go_wp2_with fail
        refine C.out.mono ?_
        rintro e w1 ⟨rfl, hk1, hcur1⟩
        have hcur1' := hcur1
        obtain ⟨A1, n1, c1, hbk, _, _⟩ := hcur1
        have hcI := hbk.cell 1
        simp only [List.getElem?_cons_zero, List.getElem?_cons_succ, Option.isNone_none, Option.isNone_some] at hcI
        go_wp2_with fail
        refine (fail_ref w1 hcur1').mono ?_
        rintro e w2 ⟨rfl, hk2, hcur2⟩
        go_wp2
        go_ret
        exact ⟨rfl, hk1.trans hk2, hcur2⟩
end Go.Proofs.Ytphgfhghbpndaaa
