/-
  Numbers of few bytes, as plain laws: no program here.
-/
namespace Go.Proofs.Ytphgfhghbpndaaa

/-- A number's bytes, in at most so many. -/
def putF : Nat → Nat → List UInt8
  | 0, _ => []
  | f + 1, n => if n < 128 then [UInt8.ofNat n] else UInt8.ofNat (n % 128 + 128) :: putF f (n / 128)
/-- A number's bytes. -/
def putB (n : Nat) : List UInt8 := putF 10 n

/-- The number that bytes begin with, k bytes of it being read, and what is left. -/
def getF : Nat → Nat → Nat → List UInt8 → Option (Nat × List UInt8)
  | 0, _, _, _ => none
  | _ + 1, _, _, [] => none
  | f + 1, k, n, x :: l => if (0 < k ∧ x = 0) ∨ (k = 9 ∧ 1 < x.toNat) then none
    else if x.toNat < 128 then some (n + x.toNat % 128 * 2 ^ (7 * k), l) else getF f (k + 1) (n + x.toNat % 128 * 2 ^ (7 * k)) l
def getV (l : List UInt8) : Option (Nat × List UInt8) := getF 10 0 0 l

theorem get_put : ∀ (f k n acc : Nat) (l : List UInt8), k + f = 10 → 0 < f → n < 2 ^ (64 - 7 * k) → (0 < k → 0 < n) → getF f k acc (putF f n ++ l) = some (acc + n * 2 ^ (7 * k), l)
  | 0, _, _, _, _, _, h, _, _ => absurd h (by omega)
  | f + 1, k, n, acc, l, hk, _, hn, hpos => by
    unfold putF
    split
    · rename_i hlt
      have hx : (UInt8.ofNat n).toNat = n := by rw [UInt8.toNat_ofNat']; omega
      rw [List.singleton_append, getF, hx, if_neg, if_pos hlt, Nat.mod_eq_of_lt hlt]
      rintro (⟨h1, h2⟩ | ⟨h1, h2⟩)
      · have := congrArg UInt8.toNat h2
        rw [hx] at this
        have h3 : (0 : UInt8).toNat = 0 := rfl
        have := hpos h1
        omega
      · subst h1
        simp at hn
        omega
    · rename_i hge
      have hx : (UInt8.ofNat (n % 128 + 128)).toNat = n % 128 + 128 := by rw [UInt8.toNat_ofNat']; omega
      have hk9 : k ≠ 9 := by
        rintro rfl
        simp at hn
        omega
      have hk8 : k < 9 := by omega
      rw [List.cons_append, getF, hx, if_neg, if_neg (by omega)]
      · have h7 : 2 ^ (64 - 7 * k) = 2 ^ (64 - 7 * (k + 1)) * 128 := by
          rw [show 64 - 7 * k = 64 - 7 * (k + 1) + 7 from by omega, Nat.pow_add]
        rw [get_put f (k + 1) (n / 128) _ l (by omega) (by omega) (by omega) (by omega)]
        congr 2
        have h8 : 2 ^ (7 * (k + 1)) = 128 * 2 ^ (7 * k) := by rw [Nat.mul_add, Nat.pow_add]; omega
        rw [h8, ← Nat.mul_assoc, Nat.add_assoc, ← Nat.add_mul]
        congr 2
        omega
      · rintro (⟨h1, h2⟩ | ⟨h1, h2⟩)
        · have := congrArg UInt8.toNat h2
          rw [hx] at this
          have h3 : (0 : UInt8).toNat = 0 := rfl
          omega
        · omega
theorem getV_put {n : Nat} (h : n < 2 ^ 64) (l : List UInt8) : getV (putB n ++ l) = some (n, l) := by
  have := get_put 10 0 n 0 l rfl (by omega) (by simpa using h) (by omega)
  simpa [getV, putB] using this

theorem putF_len : ∀ (f n : Nat), (putF f n).length ≤ f
  | 0, _ => by simp [putF]
  | f + 1, n => by
    unfold putF
    split
    · simp
    · have := putF_len f (n / 128); simp; omega
theorem putF_pos (f n : Nat) (h : 0 < f) : 0 < (putF f n).length := by
  cases f with
  | zero => omega
  | succ f => unfold putF; split <;> simp
theorem putB_len (n : Nat) : 0 < (putB n).length ∧ (putB n).length ≤ 10 := ⟨putF_pos 10 n (by omega), putF_len 10 n⟩
/-- One step of laying a number. -/
theorem putF_step (f n : Nat) : putF (f + 1) n = if n < 128 then [UInt8.ofNat n] else UInt8.ofNat (n % 128 + 128) :: putF f (n / 128) := rfl
/-- A number below 2 ^ 14 has at most two bytes. -/
theorem putB_short {n : Nat} (h : n < 16384) : (putB n).length ≤ 2 := by
  rw [putB, putF_step]
  split
  · simp
  · rw [putF_step, if_pos (by omega)]; simp
end Go.Proofs.Ytphgfhghbpndaaa
