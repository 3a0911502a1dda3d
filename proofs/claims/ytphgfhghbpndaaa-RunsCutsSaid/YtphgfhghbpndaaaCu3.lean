/-
  The walks of layer 4's functions, part 4: the program's Len.
-/
import Derived.Test.YtphgfhghbpndaaaCu2
namespace Go.Proofs.Ytphgfhghbpndaaa
open Go Go.RowKit
set_option linter.unusedVariables false
set_option linter.unusedSimpArgs false

/-- A number that is not too great, and what is left then. -/
def lenC (s : Option (List UInt8)) (most : Int) : Nat × Option (List UInt8) := match getC s with
  | (v, some l) => if 0 ≤ most ∧ (v : Int) ≤ most then (v, some l) else (0, none)
  | (_, none) => (0, none)
theorem getC_none {s : Option (List UInt8)} (h : (getC s).2 = none) : (getC s).1 = 0 := by
  unfold getC at h ⊢
  split
  · rename_i h1; rw [h1] at h; simp at h
  · rfl
theorem getF_lt : ∀ (f k n : Nat) (l : List UInt8) (v : Nat) (r : List UInt8), k + f = 10 → n < 2 ^ (7 * k) → getF f k n l = some (v, r) → v < 2 ^ 64
  | 0, _, _, _, _, _, _, _, h => by simp [getF] at h
  | f + 1, k, n, [], _, _, _, _, h => by simp [getF] at h
  | f + 1, k, n, x :: l, v, r, hk, hn, h => by
    rw [getF] at h
    split at h
    · cases h
    · rename_i hbad
      have hx9 : k = 9 → x.toNat % 128 ≤ 1 := fun h9 => by
        rcases Nat.lt_or_ge 1 x.toNat with h2 | h2
        · exact absurd (.inr ⟨h9, h2⟩) hbad
        · omega
      have h64 := (get_or n (x.toNat % 128) k (by omega) hn (by omega) hx9).2
      split at h
      · injection h with h
        injection h with h1 h2
        omega
      · refine getF_lt f (k + 1) _ l v r (by omega) ?_ h
        have h1 : x.toNat % 128 * 2 ^ (7 * k) + 2 ^ (7 * k) ≤ 128 * 2 ^ (7 * k) := by rw [← Nat.succ_mul]; exact Nat.mul_le_mul_right _ (by omega)
        have h2 : 2 ^ (7 * (k + 1)) = 128 * 2 ^ (7 * k) := by rw [Nat.mul_add, Nat.pow_add]; omega
        omega
theorem getC_lt (s : Option (List UInt8)) : (getC s).1 < 2 ^ 64 := by
  unfold getC
  split
  · rename_i v l h
    obtain ⟨b, rfl, hb⟩ := Option.bind_eq_some_iff.1 h
    exact getF_lt 10 0 0 b v l rfl (by decide) hb
  · decide

theorem lenC_fit {s : Option (List UInt8)} {most : Int} {x : Nat} {l : List UInt8} (h : getC s = (x, some l)) (hf : 0 ≤ most ∧ (x : Int) ≤ most) : lenC s most = (x, some l) := by
  unfold lenC; rw [h]; simp only []; rw [if_pos hf]
theorem lenC_none {s : Option (List UInt8)} {most : Int} {x : Nat} (h : getC s = (x, none)) : lenC s most = (0, none) := by
  unfold lenC; rw [h]
theorem lenC_not {s : Option (List UInt8)} {most : Int} {x : Nat} {r : Option (List UInt8)} (h : getC s = (x, r)) (hf : ¬ (0 ≤ most ∧ (x : Int) ≤ most)) : lenC s most = (0, none) := by
  unfold lenC; rw [h]
  cases r with
  | none => rfl
  | some l => simp only []; rw [if_neg hf]

set_option maxHeartbeats 1000000 in
set_option maxRecDepth 10000 in
theorem len_prog {g : Nat} {s : Option (List UInt8)} (most : Int) (W : World) (h : Cur 66 W g s) (hm : -9223372036854775808 ≤ most ∧ most ≤ 9223372036854775807) :
    Calls Try.prog 28 #[.pointer (some ⟨g, 0, none⟩), .int .i64 most] W fun e W' => e = .returned (.int .i64 ((lenC s most).1 : Nat)) ∧ Keep [g] W W' ∧ Cur 66 W' g (lenC s most).2 := by
  have hlt := getC_lt s
  replace hlt : (getC s).1 < 18446744073709551616 := hlt
  have C := get_prog W h
  have hN := @getC_none s
  obtain ⟨⟨x, s1⟩, hG⟩ : ∃ p, getC s = p := ⟨_, rfl⟩
  rw [hG] at C hN hlt
  simp only [] at C hN hlt
  obtain ⟨⟨v, z⟩, HL⟩ : ∃ p, lenC s most = p := ⟨_, rfl⟩
  rw [HL]
  simp only []
  replace C := Lib.hid C
  by_cases hfit : 0 ≤ most ∧ (x : Int) ≤ most
  · cases s1 with
    | none =>
      rw [lenC_none hG] at HL
      injection HL with h1 h2
      subst h1 h2
      obtain rfl := hN rfl
      obtain ⟨hf0, hf1⟩ := hfit
      clear hG hN hf1
      go_enter Try.func28, Try.ntmps28
      go_wp2_with fail
      refine C.out.mono ?_
      rintro e w1 ⟨rfl, hk1, hcur1⟩
      go_wp2_with fail
      refine (bad_prog w1 hcur1).mono ?_
      rintro e w2 ⟨rfl, rfl⟩
      rw [show (none : Option (List UInt8)).isNone = true from rfl]
      go_wp2
      go_ret
      exact ⟨rfl, hk1, hcur1⟩
    | some l =>
      rw [lenC_fit hG hfit] at HL
      injection HL with h1 h2
      subst h1 h2
      obtain ⟨hf0, hf1⟩ := hfit
      clear hG hN
      go_enter Try.func28, Try.ntmps28
      go_wp2_with fail
      refine C.out.mono ?_
      rintro e w1 ⟨rfl, hk1, hcur1⟩
      go_wp2_with fail
      refine (bad_prog w1 hcur1).mono ?_
      rintro e w2 ⟨rfl, rfl⟩
      rw [show (some l).isNone = false from rfl]
      go_wp2
      go_ret
      exact ⟨ret_i (by first | rfl | omega), hk1, hcur1⟩
  · rw [lenC_not hG hfit] at HL
    injection HL with h1 h2
    subst h1 h2
    clear hG hN
    by_cases hm0 : most < 0
    · clear hfit
      go_enter Try.func28, Try.ntmps28
      go_wp2_with fail
      refine C.out.mono ?_
      rintro e w1 ⟨rfl, hk1, hcur1⟩
      go_wp2_with fail
      refine (fail_prog w1 hcur1).mono ?_
      rintro e w2 ⟨rfl, hk2, hcur2⟩
      go_wp2_with fail
      refine (bad_prog w2 hcur2).mono ?_
      rintro e w3 ⟨rfl, rfl⟩
      rw [show (none : Option (List UInt8)).isNone = true from rfl]
      go_wp2
      go_ret
      exact ⟨rfl, hk1.trans hk2, hcur2⟩
    · have hx : most < (x : Int) := by omega
      clear hfit
      go_enter Try.func28, Try.ntmps28
      go_wp2_with fail
      refine C.out.mono ?_
      rintro e w1 ⟨rfl, hk1, hcur1⟩
      go_wp2_with fail
      refine (fail_prog w1 hcur1).mono ?_
      rintro e w2 ⟨rfl, hk2, hcur2⟩
      go_wp2_with fail
      refine (bad_prog w2 hcur2).mono ?_
      rintro e w3 ⟨rfl, rfl⟩
      rw [show (none : Option (List UInt8)).isNone = true from rfl]
      go_wp2
      go_ret
      exact ⟨rfl, hk1.trans hk2, hcur2⟩
end Go.Proofs.Ytphgfhghbpndaaa
