/-
  What layer 8's functions compute, as plain laws: no program here.
-/
import Derived.Test.YtfhdiafgcfpdhaaNl7
namespace Go.Proofs.Ytfhdiafgcfpdhaa
open Go Go.RowKit
set_option linter.unusedVariables false
set_option linter.unusedSimpArgs false

/-- A cell as it is joined again. -/
def Cell.norm (c : Cell) : Cell := if c.null then Cell.nil else c

theorem bitOf_or (c : Cell) : bitOf c = 0 ∨ bitOf c = 1 := by unfold bitOf; split <;> simp
theorem width_bits {l : List UInt64} (h : ∀ x ∈ l, x = 0 ∨ x = 1) : width l ≤ 1 := (width_le_iff l 1).2 fun x hx => by rcases h x hx with rfl | rfl <;> decide
theorem pack_bits {l : List UInt64} (h : ∀ x ∈ l, x = 0 ∨ x = 1) (hl : l.length ≤ 65536) : packOk l 1 = true := packOk_iff.2 ⟨by omega, by omega, hl, by have := width_bits h; omega⟩
theorem bits_ok (l : List Cell) (hl : l.length ≤ 65536) : packOk (l.map bitOf) 1 = true := pack_bits (fun x hx => by
  obtain ⟨c, _, rfl⟩ := List.mem_map.1 hx
  exact bitOf_or c) (by simpa using hl)

theorem joinL_split : ∀ l : List Cell, joinL (l.map bitOf) (there l) = some (l.map Cell.norm)
  | [] => rfl
  | c :: l => by
    rw [List.map_cons, joinL_cons]
    cases hc : c.null with
    | true =>
      rw [if_pos (by simp [bitOf, hc]), show there (c :: l) = there l from by simp [there, hc], joinL_split l]
      simp [Cell.norm, hc]
    | false =>
      rw [if_neg (by simp [bitOf, hc]), show there (c :: l) = c :: there l from by simp [there, hc]]
      simp only [hc, joinL_split l]
      simp [Cell.norm, hc]
theorem ones_split : ∀ l : List Cell, ones (l.map bitOf) = (there l).length
  | [] => rfl
  | c :: l => by
    have ih := ones_split l
    cases hc : c.null with
    | true => rw [show there (c :: l) = there l from by simp [there, hc], ← ih]; simp [ones, bitOf, hc]
    | false => rw [show there (c :: l) = c :: there l from by simp [there, hc], List.length_cons, ← ih]; simp [ones, bitOf, hc]; omega

theorem split_back {l : List Cell} (hl : l.length ≤ 65536) : join (splitBits l) (splitRest l) l.length = some (l.map Cell.norm) ∧ countN (splitBits l) l.length = ((splitRest l).length : Int) := by
  have h := unpack_pack (bits_ok l hl)
  rw [List.length_map] at h
  rw [splitBits, splitRest, if_pos hl, if_pos hl, join, countN, if_pos h.1, if_pos h.1, h.2.1]
  exact ⟨joinL_split l, by rw [ones_split]⟩

theorem joinL_back : ∀ (l : List UInt64) (r o : List Cell), (∀ x ∈ l, x = 0 ∨ x = 1) → joinL l r = some o → o.map bitOf = l ∧ there o = r ∧ o.length = l.length
  | [], r, o, _, h => by
    unfold joinL at h
    split at h
    · rename_i h0
      obtain rfl := List.eq_nil_of_length_eq_zero h0
      injection h with h
      subst h
      exact ⟨rfl, rfl, rfl⟩
    · cases h
  | x :: l, r, o, hl, h => by
    rw [joinL_cons] at h
    have hl' : ∀ y ∈ l, y = 0 ∨ y = 1 := fun y hy => hl y (by simp [hy])
    rcases hl x (by simp) with rfl | rfl
    · rw [if_pos rfl, Option.map_eq_some_iff] at h
      obtain ⟨o', ho, rfl⟩ := h
      obtain ⟨h1, h2, h3⟩ := joinL_back l r o' hl' ho
      exact ⟨by simp [bitOf, Cell.nil, h1], by simp only [there] at h2 ⊢; simp [Cell.nil, h2], by simp [h3]⟩
    · rw [if_neg (by decide)] at h
      cases r with
      | nil => simp at h
      | cons c r =>
        simp only at h
        split at h
        · cases h
        · rename_i hc
          rw [Option.map_eq_some_iff] at h
          obtain ⟨o', ho, rfl⟩ := h
          obtain ⟨h1, h2, h3⟩ := joinL_back l r o' hl' ho
          exact ⟨by simp [bitOf, hc, h1], by simp only [there] at h2 ⊢; simp [hc, h2], by simp [h3]⟩

theorem join_once {b : List UInt8} {r o : List Cell} {n : Int} (h : join b r n = some o) : (o.length : Int) = n ∧ splitBits o = b ∧ splitRest o = r := by
  unfold join at h
  split at h
  · rename_i hok
    obtain ⟨h1, h2, h3⟩ := unpack_one hok
    obtain ⟨hp1, hp2, hp3, hp4⟩ := pack_unpack hok
    obtain ⟨k1, k2, k3⟩ := joinL_back _ _ _ h3 h
    have hl : o.length ≤ 65536 := by omega
    rw [splitBits, splitRest, if_pos hl, if_pos hl, k1, hp2]
    exact ⟨by omega, rfl, k2⟩
  · cases h

theorem joinL_zeros : ∀ (l : List UInt64), (∀ x ∈ l, x = 0 ∨ x = 1) → (joinL l (List.replicate (ones l) Cell.zero)).isSome = true
  | [], _ => rfl
  | x :: l, hl => by
    have hl' : ∀ y ∈ l, y = 0 ∨ y = 1 := fun y hy => hl y (by simp [hy])
    have ih := joinL_zeros l hl'
    rw [joinL_cons]
    rcases hl x (by simp) with rfl | rfl
    · rw [if_pos rfl, Option.isSome_map]
      simpa [ones] using ih
    · rw [if_neg (by decide), show ones (1 :: l) = ones l + 1 from by simp [ones]; omega, List.replicate_succ]
      simp only [Cell.zero, Bool.false_eq_true, if_false, Option.isSome_map]
      exact ih

theorem count_facts {b : List UInt8} {n : Int} (hk : 0 ≤ countN b n) : unpackOk b 1 n = true ∧ countN b n ≤ n ∧ n ≤ 65536 ∧
    ∀ m : Nat, (join b (List.replicate m Cell.zero) n).isSome = decide ((m : Int) = countN b n) := by
  have hok : unpackOk b 1 n = true := by
    cases h : unpackOk b 1 n with
    | true => rfl
    | false => rw [countN, if_neg (by simp [h])] at hk; omega
  obtain ⟨h1, h2, h3⟩ := unpack_one hok
  have hc : countN b n = ones (unpackL b 1 n) := by rw [countN, if_pos hok]
  have hle := ones_le _ h3
  refine ⟨hok, by omega, h2, fun m => ?_⟩
  rw [join, if_pos hok, hc]
  by_cases hm : m = ones (unpackL b 1 n)
  · subst hm
    rw [joinL_zeros _ h3]
    simp
  · rw [decide_eq_false (by omega)]
    cases hj : joinL (unpackL b 1 n) (List.replicate m Cell.zero) with
    | none => rfl
    | some o =>
      have := joinL_count _ _ h3 (by rw [hj]; rfl)
      rw [List.length_replicate] at this
      exact absurd this.symm hm
theorem count_none {b : List UInt8} {n : Int} (hk : countN b n < 0) : countN b n = -1 ∧ ∀ r, join b r n = none := by
  have hok : unpackOk b 1 n = false := by
    cases h : unpackOk b 1 n with
    | false => rfl
    | true => rw [countN, if_pos h] at hk; omega
  exact ⟨by rw [countN, if_neg (by simp [hok])], fun r => by rw [join, if_neg (by simp [hok])]⟩

/-! ### parts -/
theorem pk_append (w : Nat) : ∀ a b : List Nat, pk w (a ++ b) = pk w a + 2 ^ (w * a.length) * pk w b
  | [], b => by simp [pk]
  | x :: a, b => by
    rw [List.cons_append, pk, pk_append w a b, pk, List.length_cons, Nat.mul_add, Nat.mul_add, Nat.mul_one, Nat.pow_add, ← Nat.mul_assoc, Nat.mul_comm (2 ^ (w * a.length)) (2 ^ w)]
    omega
theorem toBytes_append (x y m k : Nat) (hx : x < 2 ^ (8 * m)) : toBytes (x + 2 ^ (8 * m) * y) (m + k) = toBytes x m ++ toBytes y k := by
  refine List.ext_getElem (by simp [toBytes]) fun i h1 h2 => ?_
  have hi : i < m + k := by simpa [toBytes] using h1
  refine u8_ext fun j hj => ?_
  rw [toBytes_bit _ _ _ _ _ hj, Nat.add_comm x, Nat.testBit_two_pow_mul_add _ hx]
  split
  · rename_i hlt
    rw [List.getElem_append_left (by simp; omega), toBytes_bit _ _ _ _ _ hj]
  · rename_i hge
    rw [List.getElem_append_right (by simp; omega), toBytes_bit _ _ _ _ _ hj, toBytes_length]
    congr 1
    omega
theorem pack_parts {a b : List UInt64} {m : Nat} (ha : ∀ x ∈ a, x = 0 ∨ x = 1) (hb : ∀ x ∈ b, x = 0 ∨ x = 1) (hm : a.length = 8 * m) (hl : (a ++ b).length ≤ 65536) : packB (a ++ b) 1 = packB a 1 ++ packB b 1 := by
  have hab : ∀ x ∈ a ++ b, x = 0 ∨ x = 1 := fun x hx => (List.mem_append.1 hx).elim (ha x) (hb x)
  rw [List.length_append] at hl
  have h2 : ∀ x ∈ a, x.toNat < 2 ^ 1 := fun x hx => by rcases ha x hx with rfl | rfl <;> decide
  have hlt := packN_lt h2
  rw [packB, if_pos (pack_bits hab (by simpa using hl)), packB, if_pos (pack_bits ha (by omega)), packB, if_pos (pack_bits hb (by omega))]
  have h3 : packN (a ++ b) 1 = packN a 1 + 2 ^ (8 * m) * packN b 1 := by
    rw [packN, List.map_append, pk_append]
    simp [packN, hm]
  rw [show ((1 : Int).toNat) = 1 from rfl, h3, show sizeOf' 1 (a ++ b).length = m + sizeOf' 1 b.length from by simp [sizeOf']; omega, show sizeOf' 1 a.length = m from by simp [sizeOf']; omega,
    toBytes_append _ _ _ _ (by rw [Nat.one_mul, hm] at hlt; exact hlt)]
theorem split_parts {a b : List Cell} (h8 : a.length % 8 = 0) (hl : (a ++ b).length ≤ 65536) : splitBits (a ++ b) = splitBits a ++ splitBits b ∧ splitRest (a ++ b) = splitRest a ++ splitRest b := by
  have hl2 := hl
  rw [List.length_append] at hl
  rw [splitBits, splitRest, splitBits, splitRest, splitBits, splitRest, if_pos hl2, if_pos hl2, if_pos (by omega), if_pos (by omega), if_pos (by omega), if_pos (by omega), List.map_append]
  refine ⟨pack_parts (m := a.length / 8) ?_ ?_ (by simp; omega) (by simpa using hl), by simp [there]⟩
  all_goals
    intro x hx
    obtain ⟨c, _, rfl⟩ := List.mem_map.1 hx
    exact bitOf_or c
end Go.Proofs.Ytfhdiafgcfpdhaa
