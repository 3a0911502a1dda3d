/-
  The walks of layer 3's and 4's functions, the reference's: cursor, Put.
  The walks of layer 3's and 4's functions, the reference's: Num, Get, Len.
  The walk of the reference's Put.
-/
import Derived.Test.YtcpimhefclfbaaaFCu
namespace Go.Proofs.Ytcpimhefclfbaaa
open Go Go.RowKit
set_option maxRecDepth 10000
set_option linter.unusedVariables false
set_option linter.unusedSimpArgs false

set_option maxHeartbeats 400000 in
theorem fail_ref {g : Nat} {s : Option (List UInt8)} (W : World) (h : Cur 74 W g s) :
    Calls Try.prog 60 #[.pointer (some ⟨g, 0, none⟩)] W fun e W' => e = .returned (.tuple #[]) ∧ Keep [g] W W' ∧ Cur 74 W' g none := by
  obtain ⟨A, n, c, hb, hr, hn⟩ := h
  have hc0 := hb.cell 0
  have hc1 := hb.cell 1
  have hf0 := hb.frozen 0
  have hf1 := hb.frozen 1
  simp only [List.getElem?_cons_zero, List.getElem?_cons_succ] at hc0 hc1
  go_enter Try.func60, Try.ntmps60
  go_wp2
  go_end0
  refine ⟨rfl, ((Keep.refl [g] W).setCell (p := ⟨g, 0, none⟩) (.inl (by simp)) _).setCell (p := ⟨g, 1, none⟩) (.inl (by simp)) _, none, 0, 0, (hb.set_ 0 _).set_ 1 _, Rd.nil_ _ _ _, by omega, Low.none_ _ _⟩

set_option maxHeartbeats 400000 in
theorem end_ref {g : Nat} {s : Option (List UInt8)} (W : World) (h : Cur 74 W g s) :
    Calls Try.prog 42 #[.pointer (some ⟨g, 0, none⟩)] W fun e W' => e = .returned (.bool (decide (s = some []))) ∧ W = W' := by
  obtain ⟨A, n, c, hb, hr, hn⟩ := h
  obtain rfl := hr.len1
  have hc0 := hb.cell 0
  have hc1 := hb.cell 1
  simp only [List.getElem?_cons_zero, List.getElem?_cons_succ] at hc0 hc1
  cases s with
  | none =>
    simp only [Option.isNone_none] at hc1
    go_enter Try.func42, Try.ntmps42
    go_wp2
    go_ret
    exact ⟨ret_b (by simp), rfl⟩
  | some l =>
    simp only [Option.isNone_some] at hc1
    simp only [Option.getD_some] at hc0
    have hd : Hid (decide (some l = some []) = decide (l.length = 0)) := by unfold Hid; cases l <;> simp
    go_enter Try.func42, Try.ntmps42
    go_wp2
    go_ret
    rw [hd.out]
    refine ⟨ret_b ?_, rfl⟩
    by_cases h0 : l.length = 0
    · simp [h0]
    · rw [decide_eq_false h0, beq_eq_false_iff_ne]; omega

set_option maxHeartbeats 1000000 in
theorem take_ref {g : Nat} {s : Option (List UInt8)} (k : Int) (W : World) (h : Cur 74 W g s) (hk : -9223372036854775808 ≤ k ∧ k ≤ 9223372036854775807) :
    Calls Try.prog 58 #[.pointer (some ⟨g, 0, none⟩), .int .i64 k] W fun e W' => ∃ B m d, e = .returned (.slice B m d) ∧ Keep [g] W W' ∧ Cur 74 W' g (takeC s k).2 ∧
      W'.ownsRow W.heap.size 5 1 (.slice B m d) m ((takeC s k).1.map vU8) := by
  obtain ⟨i0, hi, hz0, hz1, hz2⟩ := info_parts Try.infoU8
  have h' := h
  obtain ⟨A, n, c, hb, hr, hn⟩ := h
  have hcap := hr.cap
  have hnc := hr.le
  obtain rfl := hr.len1
  have hc0 := hb.cell 0
  have hc1 := hb.cell 1
  have hf0 := hb.frozen 0
  simp only [List.getElem?_cons_zero, List.getElem?_cons_succ] at hc0 hc1
  cases s with
  | none =>
    simp only [Option.isNone_none] at hc1
    go_enter Try.func58, Try.ntmps58
    go_wp2_with fail
    refine (fail_ref W h').mono ?_
    rintro e w1 ⟨rfl, hk1, hcur⟩
    go_wp2
    go_ret
    exact ⟨none, 0, 0, rfl, hk1, hcur, World.ownsRow_nil _ _ _ _⟩
  | some l =>
    simp only [Option.isNone_some] at hc1
    simp only [Option.getD_some] at hc0 hr hnc hn
    by_cases hfit : 0 ≤ k ∧ k ≤ l.length
    · obtain ⟨q, rfl⟩ : ∃ q : Nat, k = q := ⟨k.toNat, by omega⟩
      have hq : q ≤ l.length := by omega
      have hT : Hid (takeC (some l) (q : Int) = (l.take q, some (l.drop q))) := by
        unfold Hid takeC
        simp only
        rw [if_pos hfit, Int.toNat_natCast]
      have hqi : ¬ ((l.length : Int) < (q : Int)) := by omega
      clear hfit
      rw [hT.out]
      go_enter Try.func58, Try.ntmps58
      have hc0a := (hb.alloc (.cells #[] 5)).cell 0
      simp only [List.getElem?_cons_zero, Option.getD_some] at hc0a
      go_wp2_with (at_builtin; refine wpList_append_rd (o := ⟨some 32, _, _, _, _, _⟩) rfl _ _ 28 rfl W.heap.size 5 i0 (.int .u8 0) 1 1 Try.underlying28 hi hz0 hz1 hz2 rfl (by omega) _ 0 [] rfl (World.ownsRow_lit W #[] 0 (Nat.le_refl _) (by simp [maxLen]) (by simp)) rfl ((hr.take1 hq).pure ((Keep.refl [] W).alloc (.cells #[] 5))) (vU8_one (l.take q)) (by unfold maxLen; omega) (by omega) (by simp) ?_)
      intro v' w1 hown' hgr
      obtain ⟨B1, d1, rfl⟩ := own_form hown'
      have hk1 : Keep [] W w1 := ((Keep.refl [] W).alloc (.cells #[] 5)).grown hgr (by simp [Value.ownBlock])
      have hown1 : w1.ownsRow W.heap.size 5 1 (.slice B1 q d1) q ((l.take q).map vU8) := by simpa using hown'
      clear hgr hown' hc0a
      have hb1 := hb.keep hk1 (by simp)
      have hr1 := hr.pure hk1
      have hc0' := hb1.cell 0
      have hf0' := hb1.frozen 0
      simp only [List.getElem?_cons_zero, List.getElem?_cons_succ] at hc0'
      clear hc0 hf0
      have hd := hr1.drop1 hq rfl
      have hgl := hb.lt
      have hfin : ∀ (A' : Option Addr) (n' c' : Nat), Bys [g] w1 A' n' c' (l.drop q) → n' ≤ 10000000000000 ∧ Low A' n' g → Keep [g] W (w1.setCell ⟨g, 0, none⟩ (.slice A' n' c')) ∧ Cur 74 (w1.setCell ⟨g, 0, none⟩ (.slice A' n' c')) g (some (l.drop q)) ∧
          (w1.setCell ⟨g, 0, none⟩ (.slice A' n' c')).ownsRow W.heap.size 5 1 (.slice B1 q d1) q ((l.take q).map vU8) := fun A' n' c' hr' hn' => by
        have hks : Keep [g] w1 (w1.setCell ⟨g, 0, none⟩ (.slice A' n' c')) := (Keep.refl [g] w1).setCell (.inl (by simp)) _
        exact ⟨hk1.nil.trans hks, ⟨A', n', c', hb1.set_ 0 _, hr'.keep hks (fun b hb => .inl hb), hn'⟩, own_keep hown1 hks (by simpa using hgl)⟩
      replace hfin := Lib.hid hfin
      by_cases hcq : c = q
      · rw [if_pos hcq] at hd
        subst hcq
        rw [Nat.sub_self, show l.length - c = 0 from by omega] at hd
        have hF := Lib.hid (hfin.out _ _ _ hd ⟨by omega, Low.zero _ _⟩)
        clear hd
        go_wp2
        go_ret
        exact ⟨_, _, _, rfl, hF.out⟩
      · rw [if_neg hcq] at hd
        have hF := Lib.hid (hfin.out _ _ _ hd ⟨by omega, hn.2.map (by omega)⟩)
        clear hd
        go_wp2
        go_ret
        exact ⟨_, _, _, rfl, hF.out⟩
    · have hT : Hid (takeC (some l) k = ([], none)) := by
        unfold Hid takeC
        simp only
        rw [if_neg hfit]
      rw [hT.out]
      by_cases h0 : k < 0
      all_goals
        go_enter Try.func58, Try.ntmps58
        go_wp2_with fail
        refine (fail_ref W h').mono ?_
        rintro e w1 ⟨rfl, hk1, hcur⟩
        go_wp2
        go_ret
        exact ⟨none, 0, 0, rfl, hk1, hcur, World.ownsRow_nil _ _ _ _⟩

end Go.Proofs.Ytcpimhefclfbaaa

namespace Go.Proofs.Ytcpimhefclfbaaa
open Go Go.RowKit
set_option maxRecDepth 10000
set_option linter.unusedVariables false
set_option linter.unusedSimpArgs false

theorem num_lt64 (b : List UInt8) (h : b.length ≤ 8) : num b < 18446744073709551616 := by
  have h1 := num_lt b
  have h2 : 2 ^ (8 * b.length) ≤ 2 ^ 64 := Nat.pow_le_pow_right (by omega) (by omega)
  have h3 : (2 : Nat) ^ 64 = 18446744073709551616 := rfl
  omega
theorem num_drop (b : List UInt8) (k : Nat) (hk : k < b.length) : num (b.drop k) = 256 * num (b.drop (k + 1)) + b[k].toNat := by
  rw [List.drop_eq_getElem_cons hk]
  simp only [num, List.map_cons, pk]
  omega

set_option maxHeartbeats 1000000 in
set_option maxRecDepth 10000 in
theorem num_ref {g : Nat} {s : Option (List UInt8)} (q : Nat) (W : World) (h : Cur 74 W g s) (hq : q ≤ 8) :
    Calls Try.prog 59 #[.pointer (some ⟨g, 0, none⟩), .int .i64 q] W fun e W' => e = .returned (.int .u64 (num (takeC s q).1 : Nat)) ∧ Keep [g] W W' ∧ Cur 74 W' g (takeC s q).2 := by
  go_enter Try.func59, Try.ntmps59
  go_wp2_with fail
  refine (take_ref q W h (by omega)).mono ?_
  rintro e w1 ⟨B, m, d, rfl, hk1, hcur, hown⟩
  have hr : Bys [] w1 B m d (takeC s q).1 := rd_of_own hown (by simp)
  have hlq : (takeC s q).1.length ≤ 8 := by have := takeC_len s q; omega
  clear hown
  generalize hT : (takeC s q).1 = b at *
  replace hT := Lib.hid hT
  obtain rfl := hr.len1
  have hcap := hr.cap
  go_wp2
  go_loop [6, 7] (fun t i => ∃ k : Nat, k ≤ b.length ∧ i = .int .i64 ((k : Int) - 1) ∧ t = .int .u64 (num (b.drop k) : Nat)) (fun _ i => (intOf i + 1).toNat)
  case atStart => exact ⟨b.length, by omega, rfl, by simp [num, pk]⟩
  case round =>
    obtain ⟨k, hk, rfl, rfl⟩ := hrel
    have hltp := num_lt64 (b.drop k) (by simp; omega)
    by_cases hlt : 0 < k
    · obtain ⟨j, rfl⟩ : ∃ j, k = j + 1 := ⟨k - 1, by omega⟩
      obtain ⟨bb, off, rfl, _, _, hcell⟩ := hr.one (k := j) (by omega)
      unfold vU8 at hcell
      have hst := num_drop b j (by omega)
      have hltp2 := num_lt64 (b.drop j) (by simp; omega)
      rw [hst] at hltp2
      have hst' := Lib.hid hst
      have hx := b[j].toNat_lt
      clear hst
      generalize num (b.drop (j + 1)) = N at *
      generalize b[j].toNat = x at *
      have hj1 : (((j + 1 : Nat) : Int) - 1) = (j : Int) := by omega
      rw [hj1]
      go_wp2
      go_round
      case rel =>
        refine ⟨j, by omega, by go_num, ?_⟩
        rw [hst'.out]
        go_num
      case measure => simp [intOf]
    · obtain rfl : k = 0 := by omega
      rw [List.drop_zero] at *
      go_wp2
      go_ret
      exact ⟨ret_i (by rw [hT.out]), hk1, hcur⟩

theorem get_sum (n x k : Nat) (hk : k ≤ 9) (hn : n < 2 ^ (7 * k)) (hx : x < 128) (h9 : k = 9 → x ≤ 1) :
    IntKind.u64.wrap ((x : Int) * 2 ^ (7 * k)) = ((x * 2 ^ (7 * k) : Nat) : Int) ∧ n + x * 2 ^ (7 * k) < 18446744073709551616 := by
  have h := (get_or n x k hk hn hx h9).2
  refine ⟨?_, h⟩
  have : ((x : Int) * 2 ^ (7 * k)) = ((x * 2 ^ (7 * k) : Nat) : Int) := by rw [Int.natCast_mul, Int.natCast_pow]; rfl
  rw [this]
  exact IntWalk.u64_in _ (by omega)

set_option maxHeartbeats 4000000 in
set_option maxRecDepth 20000 in
theorem get_ref {g : Nat} {s : Option (List UInt8)} (W : World) (h : Cur 74 W g s) :
    Calls Try.prog 61 #[.pointer (some ⟨g, 0, none⟩)] W fun e W' => e = .returned (.int .u64 ((getC s).1 : Nat)) ∧ Keep [g] W W' ∧ Cur 74 W' g (getC s).2 := by
  obtain ⟨v, HV⟩ : ∃ v, Hid (v = (getC s).1) := ⟨_, rfl⟩
  obtain ⟨z, HZ⟩ : ∃ z, Hid (z = (getC s).2) := ⟨_, rfl⟩
  rw [← HV.out, ← HZ.out]
  go_enter Try.func61, Try.ntmps61
  go_wp2
  go_loopw [3, 4] (fun t i wr => ∃ (k n : Nat) (s' : Option (List UInt8)), k ≤ 9 ∧ i = .int .i64 k ∧ t = .int .u64 (n : Nat) ∧ Hid (n < 2 ^ (7 * k)) ∧ Hid (getC s = getR k n s') ∧ Keep [g] W wr ∧ Cur 74 wr g s') (fun _ i _ => 10 - (intOf i).toNat)
  case atStart => exact ⟨0, 0, s, by omega, rfl, rfl, (by decide : 0 < 2 ^ (7 * 0)), rfl, Keep.refl _ _, h⟩
  case round =>
    obtain ⟨k, n, s', hk, rfl, rfl, hn, HR, hkeep, hcur⟩ := hrel
    go_wp2_with fail
    refine (take_ref 1 wr hcur (by omega)).mono ?_
    rintro e w1 ⟨B, m1, d1, rfl, hk1, hcur1, hown⟩
    have hr : Bys [] w1 B m1 d1 (takeC s' 1).1 := rd_of_own hown (by simp)
    clear hown
    have hw : (∃ l, s' = some l ∧ l ≠ []) ∨ takeC s' 1 = ([], none) ∧ getR k n s' = (0, none) := by
      match s' with
      | none => exact .inr ⟨rfl, getR_none _ _⟩
      | some [] => exact .inr ⟨by simp [takeC], getR_nil _ _⟩
      | some (y :: l) => exact .inl ⟨y :: l, rfl, by simp⟩
    rcases hw with ⟨l, rfl, hl⟩ | ⟨h1, HN⟩
    · obtain ⟨y, l, rfl⟩ : ∃ y t, l = y :: t := by cases l with | nil => exact absurd rfl hl | cons y l => exact ⟨y, l, rfl⟩
      have hT : takeC (some (y :: l)) 1 = ([y], some l) := by
        unfold takeC
        simp only []
        rw [if_pos ⟨by omega, by simp only [List.length_cons]; omega⟩]
        rfl
      rw [hT] at hcur1 hr
      have hy := y.toNat_lt
      clear hT hl
      obtain rfl : m1 = 1 := by have := hr.len1; simpa using this.symm
      obtain ⟨bb, off, rfl, _, _, hcell⟩ := hr.one (k := 0) (by simp)
      simp only [List.getElem_cons_zero, vU8, Nat.add_zero] at hcell
      have hy0 : y = 0 ↔ y.toNat = 0 := ⟨fun h => by rw [h]; rfl, fun h => UInt8.toNat_inj.1 (by rw [h]; rfl)⟩
      by_cases hbad : (0 < k ∧ y = 0) ∨ (k = 9 ∧ 1 < y.toNat)
      · have HN := getR_bad (n := n) (l := l) hbad
        have hHR : Hid (getC s = (0, none)) := by rw [Hid, HR.out, HN]
        rw [hy0] at hbad
        clear HN HR hy0
        generalize y.toNat = x at *
        rcases hbad with ⟨hk0, rfl⟩ | ⟨rfl, hx1⟩
        · have hfact : ((k : Int) == 9 && false) = false := by simp
          by_cases hk9 : k = 9
          · subst hk9
            go_wp2_with fail
            refine (fail_ref w1 hcur1).mono ?_
            rintro e w2 ⟨rfl, hk2, hcur2⟩
            go_wp2
            go_ret
            have hv := HV.out
            have hz := HZ.out
            rw [hHR.out] at hv hz
            subst hv hz
            exact ⟨rfl, (hkeep.trans hk1).trans hk2, hcur2⟩
          · have hk9' : ((k : Int) == 9) = false := by rw [beq_eq_false_iff_ne]; omega
            go_wp2_with fail
            refine (fail_ref w1 hcur1).mono ?_
            rintro e w2 ⟨rfl, hk2, hcur2⟩
            go_wp2
            go_ret
            have hv := HV.out
            have hz := HZ.out
            rw [hHR.out] at hv hz
            subst hv hz
            exact ⟨rfl, (hkeep.trans hk1).trans hk2, hcur2⟩
        · go_wp2_with fail
          refine (fail_ref w1 hcur1).mono ?_
          rintro e w2 ⟨rfl, hk2, hcur2⟩
          go_wp2
          go_ret
          have hv := HV.out
          have hz := HZ.out
          rw [hHR.out] at hv hz
          subst hv hz
          exact ⟨rfl, (hkeep.trans hk1).trans hk2, hcur2⟩
      · obtain ⟨hg1, hg2⟩ : (0 < k → y.toNat ≠ 0) ∧ (k = 9 → y.toNat ≤ 1) := ⟨fun h1 h2 => hbad (.inl ⟨h1, hy0.2 h2⟩), fun h1 => by
          rcases Nat.lt_or_ge 1 y.toNat with h2 | h2
          · exact absurd (.inr ⟨h1, h2⟩) hbad
          · exact h2⟩
        obtain ⟨hsh, hlt64⟩ := get_sum n (y.toNat % 128) k hk hn.out (by omega) (fun h => by have := hg2 h; omega)
        have HR2 : Hid ((y.toNat < 128 → getC s = (n + y.toNat % 128 * 2 ^ (7 * k), some l)) ∧ (¬ y.toNat < 128 → getC s = getR (k + 1) (n + y.toNat % 128 * 2 ^ (7 * k)) (some l) ∧ k < 9)) :=
          ⟨fun h => by rw [HR.out, getR_last hk hbad h], fun h => by rw [HR.out]; exact getR_more hk hbad h⟩
        have hn2 : n + y.toNat % 128 * 2 ^ (7 * k) < 2 ^ (7 * (k + 1)) := by
          have h0 := hn.out
          have h1 : y.toNat % 128 * 2 ^ (7 * k) + 2 ^ (7 * k) ≤ 128 * 2 ^ (7 * k) := by rw [← Nat.succ_mul]; exact Nat.mul_le_mul_right _ (by omega)
          have h2 : 2 ^ (7 * (k + 1)) = 128 * 2 ^ (7 * k) := by rw [Nat.mul_add, Nat.pow_add]; omega
          omega
        replace hn2 := Lib.hid hn2
        have hmx : ((y.toNat : Int) % 128) = ((y.toNat % 128 : Nat) : Int) := by omega
        generalize y.toNat % 128 = m at *
        obtain ⟨p, hp⟩ : ∃ p, m * 2 ^ (7 * k) = p := ⟨_, rfl⟩
        rw [hp] at hn2 HR2 hsh hlt64
        obtain ⟨N, hN⟩ : ∃ N, n + p = N := ⟨_, rfl⟩
        rw [hN] at hn2 HR2 hlt64
        have hNi : (n : Int) + (p : Int) = (N : Int) := by omega
        clear hN hp hbad hy0 HR
        generalize y.toNat = x at *
        have hk0b : 0 < k → ((x : Int) == 0) = false := fun h => by have := hg1 h; rw [beq_eq_false_iff_ne]; omega
        have hk9b : k ≠ 9 → ((k : Int) == 9) = false := fun h => by rw [beq_eq_false_iff_ne]; omega
        by_cases hlast : x < 128
        · have HN := Lib.hid (HR2.out.1 hlast)
          by_cases hk0 : 0 < k
          · have hk0' := hk0b hk0
            by_cases hk9 : k = 9
            · subst hk9
              have := hg2 rfl
              have hsh9 : IntKind.u64.wrap ((m : Int) * 9223372036854775808) = (p : Int) := hsh
              clear hk0b hk9b hg1 hg2
              go_wp2
              go_ret
              have hv := HV.out
              have hz := HZ.out
              rw [HN.out] at hv hz
              subst hv hz
              exact ⟨rfl, hkeep.trans hk1, hcur1⟩
            · have hk9' := hk9b hk9
              clear hk0b hk9b hg1 hg2 hk9
              go_wp2
              go_ret
              have hv := HV.out
              have hz := HZ.out
              rw [HN.out] at hv hz
              subst hv hz
              exact ⟨rfl, hkeep.trans hk1, hcur1⟩
          · obtain rfl : k = 0 := by omega
            have hsh0 : (m : Int) = (p : Int) := by
              have h1 := hsh
              rw [show (m : Int) * 2 ^ (7 * 0) = m from by simp, IntWalk.u64_in _ (by omega)] at h1
              exact h1
            clear hk0b hk9b hg1 hg2
            go_wp2
            go_ret
            have hv := HV.out
            have hz := HZ.out
            rw [HN.out] at hv hz
            subst hv hz
            exact ⟨rfl, hkeep.trans hk1, hcur1⟩
        · obtain ⟨HN, hk9⟩ := HR2.out.2 hlast
          replace HN := Lib.hid HN
          by_cases hk0 : 0 < k
          · have hk0' := hk0b hk0
            have hk9' := hk9b (by omega)
            clear hk0b hk9b hg1 hg2
            go_wp2
            go_roundw
            case rel => exact ⟨k + 1, N, some l, by omega, by go_num, rfl, hn2, HN, hkeep.trans hk1, hcur1⟩
            case measure => first | (simp [intOf]; done) | (simp [intOf]; omega)
          · obtain rfl : k = 0 := by omega
            have hsh0 : (m : Int) = (p : Int) := by
              have h1 := hsh
              rw [show (m : Int) * 2 ^ (7 * 0) = m from by simp, IntWalk.u64_in _ (by omega)] at h1
              exact h1
            clear hk0b hk9b hg1 hg2
            go_wp2
            go_roundw
            case rel => exact ⟨0 + 1, N, some l, by omega, by go_num, rfl, hn2, HN, hkeep.trans hk1, hcur1⟩
            case measure => first | (simp [intOf]; done) | (simp [intOf]; omega)
    · rw [h1] at hcur1 hr
      obtain rfl := hr.len1
      replace HN := Lib.hid HN
      clear h1
      go_wp2
      go_ret
      have hv := HV.out
      have hz := HZ.out
      rw [HR.out, HN.out] at hv hz
      subst hv hz
      exact ⟨rfl, hkeep.trans hk1, hcur1⟩
set_option maxHeartbeats 1000000 in
set_option maxRecDepth 10000 in
theorem len_ref {g : Nat} {s : Option (List UInt8)} (most : Int) (W : World) (h : Cur 74 W g s) (hm : -9223372036854775808 ≤ most ∧ most ≤ 9223372036854775807) :
    Calls Try.prog 40 #[.pointer (some ⟨g, 0, none⟩), .int .i64 most] W fun e W' => e = .returned (.int .i64 ((lenC s most).1 : Nat)) ∧ Keep [g] W W' ∧ Cur 74 W' g (lenC s most).2 := by
  have hlt := getC_lt s
  replace hlt : (getC s).1 < 18446744073709551616 := hlt
  have C := get_ref W h
  obtain ⟨⟨x, s1⟩, hG⟩ : ∃ p, getC s = p := ⟨_, rfl⟩
  rw [hG] at C hlt
  simp only [] at C hlt
  obtain ⟨⟨v, z⟩, HL⟩ : ∃ p, lenC s most = p := ⟨_, rfl⟩
  rw [HL]
  simp only []
  replace C := Lib.hid C
  cases s1 with
  | none =>
    · rw [lenC_none hG] at HL
      injection HL with h1 h2
      subst h1 h2
      clear hG
      go_enter Try.func40, Try.ntmps40
      go_wp2_with fail
      refine C.out.mono ?_
      rintro e w1 ⟨rfl, hk1, hcur1⟩
      have hcur1' := hcur1
      obtain ⟨A1, n1, c1, hbk, _, _⟩ := hcur1
      have hcI := hbk.cell 1
      simp only [List.getElem?_cons_zero, List.getElem?_cons_succ, Option.isNone_none, Option.isNone_some] at hcI
      go_wp2_with fail
      refine (fail_ref w1 hcur1').mono ?_
      rintro e w2 ⟨rfl, hk2, hcur2⟩
      go_wp2
      go_ret
      exact ⟨rfl, hk1.trans hk2, hcur2⟩
  | some l =>
    by_cases hfit : 0 ≤ most ∧ (x : Int) ≤ most
    · rw [lenC_fit hG hfit] at HL
      injection HL with h1 h2
      subst h1 h2
      obtain ⟨hf0, hf1⟩ := hfit
      clear hG
      go_enter Try.func40, Try.ntmps40
      go_wp2_with fail
      refine C.out.mono ?_
      rintro e w1 ⟨rfl, hk1, hcur1⟩
      have hcur1' := hcur1
      obtain ⟨A1, n1, c1, hbk, _, _⟩ := hcur1
      have hcI := hbk.cell 1
      simp only [List.getElem?_cons_zero, List.getElem?_cons_succ, Option.isNone_none, Option.isNone_some] at hcI
      go_wp2
      go_ret
      exact ⟨ret_i (by first | rfl | omega), hk1, hcur1'⟩
    · rw [lenC_not hG hfit] at HL
      injection HL with h1 h2
      subst h1 h2
      clear hG
      by_cases hm0 : most < 0
      · clear hfit
        go_enter Try.func40, Try.ntmps40
        go_wp2_with fail
        refine C.out.mono ?_
        rintro e w1 ⟨rfl, hk1, hcur1⟩
        have hcur1' := hcur1
        obtain ⟨A1, n1, c1, hbk, _, _⟩ := hcur1
        have hcI := hbk.cell 1
        simp only [List.getElem?_cons_zero, List.getElem?_cons_succ, Option.isNone_none, Option.isNone_some] at hcI
        go_wp2_with fail
        refine (fail_ref w1 hcur1').mono ?_
        rintro e w2 ⟨rfl, hk2, hcur2⟩
        go_wp2
        go_ret
        exact ⟨rfl, hk1.trans hk2, hcur2⟩
      · have hx : most < (x : Int) := by omega
        clear hfit
        go_enter Try.func40, Try.ntmps40
        go_wp2_with fail
        refine C.out.mono ?_
        rintro e w1 ⟨rfl, hk1, hcur1⟩
        have hcur1' := hcur1
        obtain ⟨A1, n1, c1, hbk, _, _⟩ := hcur1
        have hcI := hbk.cell 1
        simp only [List.getElem?_cons_zero, List.getElem?_cons_succ, Option.isNone_none, Option.isNone_some] at hcI
        go_wp2_with fail
        refine (fail_ref w1 hcur1').mono ?_
        rintro e w2 ⟨rfl, hk2, hcur2⟩
        go_wp2
        go_ret
        exact ⟨rfl, hk1.trans hk2, hcur2⟩
end Go.Proofs.Ytcpimhefclfbaaa

namespace Go.Proofs.Ytcpimhefclfbaaa
open Go Go.RowKit
set_option maxRecDepth 10000
set_option linter.unusedVariables false
set_option linter.unusedSimpArgs false

set_option maxHeartbeats 1000000 in
set_option maxRecDepth 10000 in
theorem put_ref {X : List Nat} {A : Option Addr} {m c : Nat} {l : List UInt8} (n : Nat) (W : World) (h : Bys X W A m c l) (hn : n < 2 ^ 64) (hroom : m ≤ 10000000000000) :
    Calls Try.prog 27 #[.slice A m c, .int .u64 (n : Int)] W fun e W' => ∃ B k d, e = .returned (.slice B k d) ∧ Keep [] W W' ∧ W'.ownsRow W.heap.size 5 1 (.slice B k d) k ((l ++ putB n).map vU8) := by
  have hc := h.cap
  have hnc := h.le
  obtain ⟨i0, hi, hz0, hz1, hz2⟩ := info_parts Try.infoU8
  obtain rfl := h.len1
  go_enter Try.func27, Try.ntmps27
  go_wp2_with (at_builtin; refine wpList_append_rd (o := ⟨some 8, _, _, _, _, _⟩) rfl _ _ 28 rfl W.heap.size 5 i0 (.int .u8 0) 1 1 Try.underlying28 hi hz0 hz1 hz2 rfl (by omega) _ 0 [] rfl (World.ownsRow_lit W #[] 0 (Nat.le_refl _) (by simp [maxLen]) (by simp)) rfl (h.pure ((Keep.refl [] W).alloc (.cells #[] 5))) (vU8_one l) (by unfold maxLen; omega) (by omega) (by simp) ?_)
  intro v' w2 hown2' hgr
  obtain ⟨B2, d2, rfl⟩ := own_form hown2'
  have hk12 : Keep [] W w2 := ((Keep.refl [] W).alloc (.cells #[] 5)).grown hgr (by simp [Value.ownBlock])
  have hown2 : w2.ownsRow W.heap.size 5 1 (.slice B2 l.length d2) l.length (l.map vU8) := by simpa using hown2'
  have hd2 : d2 ≤ 9223372036854775807 := (rd_of_own (X := []) hown2 (by simp)).cap
  clear hgr hown2'
  go_wp2
  go_loopw [5, 1] (fun s v wr => ∃ (z f : Nat) (q : List UInt8), v = .int .u64 (z : Int) ∧ z < 18446744073709551616 ∧ Hid (Laid n q f z) ∧ wr.ownsRow W.heap.size 5 1 s (l.length + q.length) ((l ++ q).map vU8) ∧ Keep [] W wr) (fun _ v _ => (intOf v).toNat)
  case atStart => exact ⟨n, 10, [], rfl, by omega, laid_start hn, by simpa using hown2, hk12⟩
  case round =>
    obtain ⟨z, f, q, rfl, hz, HL, hown, hkeep⟩ := hrel
    have hql := laid_len HL.out
    have hsz := hkeep.size
    obtain ⟨B3, d3, rfl⟩ := own_form hown
    by_cases hge : 128 ≤ z
    · obtain ⟨HL2, hf⟩ := laid_step HL.out hge
      obtain ⟨y, hy⟩ : ∃ y, z % 128 + 128 = y := ⟨_, rfl⟩
      rw [hy] at HL2
      have hor : (z : Int) % 128 + 128 = (y : Int) := by omega
      have hy2 : y < 256 := by omega
      have hyB : (UInt8.ofNat y).toNat = y := by rw [UInt8.toNat_ofNat']; omega
      have hdv : (z : Int) / 128 = ((z / 128 : Nat) : Int) := by omega
      have hlt2 : z / 128 < z := by omega
      have hz2' : z / 128 < 18446744073709551616 := by omega
      generalize hzz : z / 128 = z' at *
      replace HL2 := Lib.hid HL2
      have hyB' := Lib.hid hyB
      clear hy hyB hzz
      have hbk : Bys [] (wr.alloc (.cells #[.int .u8 (y : Int)] 5)) (some ⟨wr.heap.size, 0, none⟩) 1 1 [UInt8.ofNat y] := by
        refine (Blk.new wr 5 [.int .u8 (y : Int)]).rd (by simp) rfl (by omega) (by simp [maxLen]) ?_
        simp [vU8, hyB'.out]
      go_wp2_with (at_builtin; refine wpList_append_rd rfl _ _ 28 rfl W.heap.size 5 i0 (.int .u8 0) 1 1 Try.underlying28 hi hz0 hz1 hz2 rfl (by omega) (.slice B3 (l.length + q.length) d3) (l.length + q.length) _ rfl (hown.alloc _) rfl hbk (vU8_one [UInt8.ofNat y]) (by unfold maxLen; omega) (by omega) (by simp; omega) ?_)
      intro v' w3 hown' hgr
      have hk3 : Keep [] W w3 := (hkeep.alloc (.cells #[.int .u8 (y : Int)] 5)).grown hgr (fun g hg => .inr (own_ge hown g hg))
      clear hgr hown hbk
      go_wp2
      go_roundw
      case rel =>
        refine ⟨z', f - 1, q ++ [UInt8.ofNat y], by go_num, hz2', HL2, ?_, hk3⟩
        simpa [Nat.add_assoc] using hown'
      case measure => simp [intOf]; omega
    · have HE := Lib.hid (laid_end HL.out (by omega))
      have hmz : (z : Int) % 256 = (z : Int) := by omega
      have hyB' : Hid ((UInt8.ofNat z).toNat = z) := by unfold Hid; rw [UInt8.toNat_ofNat']; omega
      have hbk : Bys [] (wr.alloc (.cells #[.int .u8 (z : Int)] 5)) (some ⟨wr.heap.size, 0, none⟩) 1 1 [UInt8.ofNat z] := by
        refine (Blk.new wr 5 [.int .u8 (z : Int)]).rd (by simp) rfl (by omega) (by simp [maxLen]) ?_
        simp [vU8, hyB'.out]
      go_wp2_with (at_builtin; refine wpList_append_rd rfl _ _ 28 rfl W.heap.size 5 i0 (.int .u8 0) 1 1 Try.underlying28 hi hz0 hz1 hz2 rfl (by omega) (.slice B3 (l.length + q.length) d3) (l.length + q.length) _ rfl (hown.alloc _) rfl hbk (vU8_one [UInt8.ofNat z]) (by unfold maxLen; omega) (by omega) (by simp; omega) ?_)
      intro v' w3 hown' hgr
      have hk3 : Keep [] W w3 := (hkeep.alloc (.cells #[.int .u8 (z : Int)] 5)).grown hgr (fun g hg => .inr (own_ge hown g hg))
      clear hgr hown hbk
      obtain ⟨B4, d4, rfl⟩ := own_form hown'
      go_wp2
      go_ret
      refine ⟨B4, _, d4, rfl, hk3, ?_⟩
      rw [HE.out]
      simpa using hown'
end Go.Proofs.Ytcpimhefclfbaaa
