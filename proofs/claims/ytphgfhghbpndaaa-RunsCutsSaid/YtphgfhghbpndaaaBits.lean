/-
  Numbers of few bits, as numbers alone: no program here.
-/
import Derived.Lib.BitFns
namespace Go.Proofs.Ytphgfhghbpndaaa
open Go

/-! ### how many bits -/
theorem bitLenAux_le : ∀ (f x k : Nat), x < 2 ^ f → (Lib.bitLenAux f x ≤ k ↔ x < 2 ^ k)
  | 0, x, k, h => by
    have : x = 0 := by simpa using h
    subst this
    simp [Lib.bitLenAux]
    exact Nat.pos_of_ne_zero (by simp)
  | f + 1, x, k, h => by
    rw [Lib.bitLenAux]
    split
    · rename_i h0
      subst h0
      simp
      exact Nat.pos_of_ne_zero (by simp)
    · rename_i h0
      have h2 : x / 2 < 2 ^ f := by rw [Nat.pow_succ] at h; omega
      cases k with
      | zero => simp; omega
      | succ k =>
        have ih := bitLenAux_le f (x / 2) k h2
        rw [Nat.pow_succ]
        constructor
        · intro h3
          have := ih.1 (by omega)
          omega
        · intro h3
          have := ih.2 (by omega)
          omega
theorem bitLen_le {x : Nat} (h : x < 2 ^ 64) (k : Nat) : Lib.bitLen x ≤ k ↔ x < 2 ^ k := bitLenAux_le 64 x k h
theorem bitLen_or {a b : Nat} (ha : a < 2 ^ 64) (hb : b < 2 ^ 64) : Lib.bitLen (a ||| b) = max (Lib.bitLen a) (Lib.bitLen b) := by
  have hab : a ||| b < 2 ^ 64 := Nat.or_lt_two_pow ha hb
  have key : ∀ k, Lib.bitLen (a ||| b) ≤ k ↔ max (Lib.bitLen a) (Lib.bitLen b) ≤ k := by
    intro k
    rw [bitLen_le hab, Nat.max_le, bitLen_le ha, bitLen_le hb]
    constructor
    · intro h
      exact ⟨Nat.lt_of_le_of_lt Nat.left_le_or h, Nat.lt_of_le_of_lt Nat.right_le_or h⟩
    · intro ⟨h1, h2⟩
      exact Nat.or_lt_two_pow h1 h2
  have h1 := (key _).1 (Nat.le_refl _)
  have h2 := (key _).2 (Nat.le_refl _)
  omega

/-- All of them, or-ed. -/
def orAll (l : List UInt64) : Nat := l.foldl (fun m x => m ||| x.toNat) 0
/-- How few bits all need. -/
def width (l : List UInt64) : Nat := l.foldl (fun m x => max m (Lib.bitLen x.toNat)) 0

theorem foldl_snoc {α β : Type} (f : β → α → β) (z : β) (l : List α) (k : Nat) (h : k < l.length) : (l.take (k + 1)).foldl f z = f ((l.take k).foldl f z) l[k] := by
  rw [List.take_succ_eq_append_getElem h, List.foldl_append]; rfl

theorem orAll_lt (l : List UInt64) : orAll l < 2 ^ 64 := by
  unfold orAll
  suffices h : ∀ (l : List UInt64) (m : Nat), m < 2 ^ 64 → l.foldl (fun m x => m ||| x.toNat) m < 2 ^ 64 from h l 0 (by decide)
  intro l
  induction l with
  | nil => intro m h; exact h
  | cons x l ih => intro m h; exact ih _ (Nat.or_lt_two_pow h x.toNat_lt)
theorem width_or (l : List UInt64) : Lib.bitLen (orAll l) = width l := by
  unfold orAll width
  suffices h : ∀ (l : List UInt64) (m : Nat), m < 2 ^ 64 → Lib.bitLen (l.foldl (fun m x => m ||| x.toNat) m) = l.foldl (fun m x => max m (Lib.bitLen x.toNat)) (Lib.bitLen m) from h l 0 (by decide)
  intro l
  induction l with
  | nil => intro m _; rfl
  | cons x l ih => intro m h; rw [List.foldl_cons, List.foldl_cons, ih _ (Nat.or_lt_two_pow h x.toNat_lt), bitLen_or h x.toNat_lt]
theorem width_le_iff (l : List UInt64) (k : Nat) : width l ≤ k ↔ ∀ x ∈ l, x.toNat < 2 ^ k := by
  unfold width
  suffices h : ∀ (l : List UInt64) (m : Nat), l.foldl (fun m x => max m (Lib.bitLen x.toNat)) m ≤ k ↔ m ≤ k ∧ ∀ x ∈ l, x.toNat < 2 ^ k by
    rw [h]; simp
  intro l
  induction l with
  | nil => intro m; simp
  | cons x l ih =>
    intro m
    rw [List.foldl_cons, ih, Nat.max_le, bitLen_le x.toNat_lt]
    simp [and_assoc]
theorem width_le64 (l : List UInt64) : width l ≤ 64 := (width_le_iff l 64).2 fun x _ => x.toNat_lt

/-! ### numbers behind one another, as one number -/
def pk (w : Nat) : List Nat → Nat
  | [] => 0
  | x :: l => x + 2 ^ w * pk w l

theorem pk_lt (w : Nat) : ∀ (l : List Nat), (∀ x ∈ l, x < 2 ^ w) → pk w l < 2 ^ (w * l.length)
  | [], _ => by simp [pk]
  | x :: l, h => by
    have ih := pk_lt w l fun y hy => h y (by simp [hy])
    have hx := h x (by simp)
    rw [pk, List.length_cons, Nat.mul_add, Nat.mul_one, Nat.pow_add, Nat.mul_comm (2 ^ (w * l.length))]
    have : 2 ^ w * (pk w l + 1) ≤ 2 ^ w * 2 ^ (w * l.length) := Nat.mul_le_mul_left _ ih
    rw [Nat.mul_add] at this
    omega
theorem pk_testBit (w : Nat) : ∀ (l : List Nat) (_ : ∀ x ∈ l, x < 2 ^ w) (i k : Nat), k < w → (pk w l).testBit (w * i + k) = (l.getD i 0).testBit k
  | [], _, i, k, _ => by simp [pk]
  | x :: l, h, 0, k, hk => by
    rw [pk, Nat.add_comm, Nat.mul_zero, Nat.zero_add, Nat.testBit_two_pow_mul_add _ (h x (by simp)), if_pos hk]
    rfl
  | x :: l, h, i + 1, k, hk => by
    rw [pk, Nat.add_comm, Nat.testBit_two_pow_mul_add _ (h x (by simp)), if_neg (by rw [Nat.mul_add]; omega)]
    have := pk_testBit w l (fun y hy => h y (by simp [hy])) i k hk
    rw [show w * (i + 1) + k - w = w * i + k from by rw [Nat.mul_add]; omega, this]
    rfl

/-- The bytes of a number, the lowest first. -/
def toBytes (N size : Nat) : List UInt8 := (List.range size).map fun j => UInt8.ofNat (N / 2 ^ (8 * j))
/-- Bytes as one number. -/
def num (b : List UInt8) : Nat := pk 8 (b.map UInt8.toNat)

theorem u8_testBit_ge (x : UInt8) {i : Nat} (h : 8 ≤ i) : x.toNat.testBit i = false :=
  Nat.testBit_lt_two_pow (Nat.lt_of_lt_of_le x.toNat_lt (Nat.pow_le_pow_right (by omega) h))
theorem u64_testBit_ge (x : UInt64) {i : Nat} (h : 64 ≤ i) : x.toNat.testBit i = false :=
  Nat.testBit_lt_two_pow (Nat.lt_of_lt_of_le x.toNat_lt (Nat.pow_le_pow_right (by omega) h))
theorem u8_ext {x y : UInt8} (h : ∀ i, i < 8 → x.toNat.testBit i = y.toNat.testBit i) : x = y := by
  refine UInt8.toNat_inj.1 (Nat.eq_of_testBit_eq fun i => ?_)
  rcases Nat.lt_or_ge i 8 with hi | hi
  · exact h i hi
  · rw [u8_testBit_ge x hi, u8_testBit_ge y hi]
theorem u64_ext {x y : UInt64} (h : ∀ i, i < 64 → x.toNat.testBit i = y.toNat.testBit i) : x = y := by
  refine UInt64.toNat_inj.1 (Nat.eq_of_testBit_eq fun i => ?_)
  rcases Nat.lt_or_ge i 64 with hi | hi
  · exact h i hi
  · rw [u64_testBit_ge x hi, u64_testBit_ge y hi]
theorem ofNat8_testBit (n i : Nat) : (UInt8.ofNat n).toNat.testBit i = (decide (i < 8) && n.testBit i) := by
  rw [UInt8.toNat_ofNat', Nat.testBit_mod_two_pow]
theorem ofNat64_testBit (n i : Nat) : (UInt64.ofNat n).toNat.testBit i = (decide (i < 64) && n.testBit i) := by
  rw [UInt64.toNat_ofNat', Nat.testBit_mod_two_pow]
@[simp] theorem toBytes_length (N size : Nat) : (toBytes N size).length = size := by simp [toBytes]
theorem toBytes_get (N size j : Nat) (h : j < (toBytes N size).length) : (toBytes N size)[j] = UInt8.ofNat (N / 2 ^ (8 * j)) := by simp [toBytes]
theorem toBytes_bit (N size j i : Nat) (h : j < (toBytes N size).length) (hi : i < 8) : (toBytes N size)[j].toNat.testBit i = N.testBit (8 * j + i) := by
  rw [toBytes_get, ofNat8_testBit, ← Nat.shiftRight_eq_div_pow, Nat.testBit_shiftRight]
  simp [hi]
theorem num_lt (b : List UInt8) : num b < 2 ^ (8 * b.length) := by
  have := pk_lt 8 (b.map UInt8.toNat) (by simp only [List.mem_map]; rintro x ⟨y, _, rfl⟩; exact y.toNat_lt)
  simpa [num] using this
theorem num_bit (b : List UInt8) (j i : Nat) (hi : i < 8) (hj : j < b.length) : (num b).testBit (8 * j + i) = b[j].toNat.testBit i := by
  rw [num, pk_testBit 8 _ (by simp only [List.mem_map]; rintro x ⟨y, _, rfl⟩; exact y.toNat_lt) j i hi]
  simp [hj]
theorem num_at (b : List UInt8) (at_ : Nat) (h : at_ < 8 * b.length) : (num b).testBit at_ = (b[at_ / 8]'(by omega)).toNat.testBit (at_ % 8) := by
  have := num_bit b (at_ / 8) (at_ % 8) (by omega) (by omega)
  rw [show 8 * (at_ / 8) + at_ % 8 = at_ from by omega] at this
  exact this
theorem num_toBytes (N size : Nat) (h : N < 2 ^ (8 * size)) : num (toBytes N size) = N := by
  refine Nat.eq_of_testBit_eq fun i => ?_
  rcases Nat.lt_or_ge i (8 * size) with hi | hi
  · rw [num_at _ _ (by simpa using hi), toBytes_bit _ _ _ _ _ (by omega)]
    congr 1
    omega
  · rw [Nat.testBit_lt_two_pow (Nat.lt_of_lt_of_le h (Nat.pow_le_pow_right (by omega) hi))]
    have h2 := num_lt (toBytes N size)
    rw [toBytes_length] at h2
    exact Nat.testBit_lt_two_pow (Nat.lt_of_lt_of_le h2 (Nat.pow_le_pow_right (by omega) hi))
theorem toBytes_num (b : List UInt8) : toBytes (num b) b.length = b := by
  refine List.ext_getElem (by simp) fun j h1 h2 => u8_ext fun i hi => ?_
  rw [toBytes_bit _ _ _ _ _ hi, num_bit b j i hi h2]

/-! ### Bytes, Pack, Unpack -/
def bytesLen (w n : Int) : Int := if w < 0 ∨ 64 < w ∨ n < 0 ∨ 65536 < n then -1 else (w * n + 7) / 8
def packOk (l : List UInt64) (w : Int) : Bool := decide (0 ≤ w ∧ w ≤ 64 ∧ l.length ≤ 65536 ∧ (width l : Int) ≤ w)
def sizeOf' (w n : Nat) : Nat := (w * n + 7) / 8
def packN (l : List UInt64) (w : Nat) : Nat := pk w (l.map UInt64.toNat)
def packB (l : List UInt64) (w : Int) : List UInt8 := if packOk l w then toBytes (packN l w.toNat) (sizeOf' w.toNat l.length) else []
/-- Of the number N, the numbers of w bits, as far as the first 'at' bits go. -/
def unpP (N w n at_ : Nat) : List UInt64 := (List.range n).map fun j => UInt64.ofNat (N / 2 ^ (w * j) % 2 ^ (min w (at_ - w * j)))
def unpackOk (b : List UInt8) (w n : Int) : Bool := decide (0 ≤ w ∧ w ≤ 64 ∧ 0 ≤ n ∧ n ≤ 65536 ∧ b.length = sizeOf' w.toNat n.toNat ∧ num b < 2 ^ (w.toNat * n.toNat))
def unpackL (b : List UInt8) (w n : Int) : List UInt64 := if unpackOk b w n then unpP (num b) w.toNat n.toNat (w.toNat * n.toNat) else []

@[simp] theorem unpP_length (N w n at_ : Nat) : (unpP N w n at_).length = n := by simp [unpP]
theorem unpP_bit (N w n at_ j i : Nat) (h : j < (unpP N w n at_).length) (hi : i < 64) : (unpP N w n at_)[j].toNat.testBit i = (decide (i < w ∧ w * j + i < at_) && N.testBit (w * j + i)) := by
  simp only [unpP, List.getElem_map, List.getElem_range, ofNat64_testBit, hi, decide_true, Bool.true_and, Nat.testBit_mod_two_pow, ← Nat.shiftRight_eq_div_pow, Nat.testBit_shiftRight]
  congr 1
  simp only [decide_eq_decide]
  omega
theorem unpP_zero (N w n : Nat) : unpP N w n 0 = List.replicate n 0 := by
  refine List.ext_getElem (by simp) fun j h1 h2 => u64_ext fun i hi => ?_
  rw [unpP_bit _ _ _ _ _ _ _ hi]
  simp
/-- One bit more. -/
theorem unpP_step {N w n at_ : Nat} (hw : w ≤ 64) (hat : at_ < w * n) (x : UInt64) (old : UInt64) (hold : (unpP N w n at_)[at_ / w]? = some old)
    (hx : x.toNat = old.toNat ||| ((N.testBit at_).toNat <<< (at_ % w))) : unpP N w n (at_ + 1) = (unpP N w n at_).set (at_ / w) x := by
  have hw0 : 0 < w := by rcases Nat.eq_zero_or_pos w with h | h; (· subst h; simp at hat); exact h
  have hjn : at_ / w < n := by rw [Nat.div_lt_iff_lt_mul hw0, Nat.mul_comm]; exact hat
  have hdm : w * (at_ / w) + at_ % w = at_ := Nat.div_add_mod at_ w
  have hmod : at_ % w < w := Nat.mod_lt _ hw0
  refine List.ext_getElem (by simp) fun j h1 h2 => u64_ext fun i hi => ?_
  rw [List.getElem_set]
  split
  · rename_i hj
    subst hj
    have ho : old = (unpP N w n at_)[at_ / w]'(by simpa using hjn) := by
      rw [List.getElem?_eq_getElem (by simpa using hjn)] at hold
      exact (Option.some.inj hold).symm
    rw [unpP_bit _ _ _ _ _ _ _ hi, hx, Nat.testBit_or, ho, unpP_bit _ _ _ _ _ _ _ hi, Nat.testBit_shiftLeft]
    by_cases hii : i = at_ % w
    · subst hii
      rw [hdm]
      have e1 : decide (at_ % w < w ∧ at_ < at_ + 1) = true := by simp [hmod]
      have e2 : decide (at_ % w < w ∧ at_ < at_) = false := by simp
      rw [e1, e2]
      cases N.testBit at_ <;> simp
    · have e3 : (decide (i ≥ at_ % w) && ((N.testBit at_).toNat).testBit (i - at_ % w)) = false := by
        rcases Nat.lt_or_ge i (at_ % w) with h | h
        · simp; omega
        · have : 0 < i - at_ % w := by omega
          have : (N.testBit at_).toNat.testBit (i - at_ % w) = false := by
            refine Nat.testBit_lt_two_pow (Nat.lt_of_le_of_lt (Bool.toNat_le _) ?_)
            exact Nat.one_lt_two_pow (by omega)
          simp [this]
      rw [e3, Bool.or_false]
      congr 1
      simp only [decide_eq_decide]
      omega
  · rename_i hj
    rw [unpP_bit _ _ _ _ _ _ _ hi, unpP_bit _ _ _ _ _ _ _ hi]
    congr 1
    simp only [decide_eq_decide]
    have hj' : w * j + i = at_ → i < w → False := by
      intro h hiw
      refine hj ?_
      rw [← h, Nat.mul_comm, Nat.add_comm, Nat.add_mul_div_right _ _ hw0, Nat.div_eq_of_lt hiw, Nat.zero_add]
    constructor
    · intro ⟨h3, h4⟩
      have : w * j + i ≠ at_ := fun h => hj' h h3
      exact ⟨h3, by omega⟩
    · intro ⟨h3, h4⟩
      exact ⟨h3, by omega⟩
/-- A bit that is not set. -/
theorem unpP_same {N w n at_ : Nat} (h : N.testBit at_ = false) : unpP N w n (at_ + 1) = unpP N w n at_ := by
  refine List.ext_getElem (by simp) fun j h1 h2 => u64_ext fun i hi => ?_
  rw [unpP_bit _ _ _ _ _ _ _ hi, unpP_bit _ _ _ _ _ _ _ hi]
  by_cases hat : w * j + i = at_
  · rw [hat, h]; simp
  · congr 1
    simp only [decide_eq_decide]
    omega
/-- Bits beyond do not count. -/
theorem unpP_beyond {N w n at_ : Nat} (h : w * n ≤ at_) : unpP N w n at_ = unpP N w n (w * n) := by
  refine List.ext_getElem (by simp) fun j h1 h2 => u64_ext fun i hi => ?_
  rw [unpP_bit _ _ _ _ _ _ _ hi, unpP_bit _ _ _ _ _ _ _ hi]
  congr 1
  simp only [decide_eq_decide]
  have hj : j < n := by simpa using h1
  have : w * (j + 1) ≤ w * n := Nat.mul_le_mul_left _ hj
  rw [Nat.mul_add] at this
  constructor <;> intro ⟨h3, h4⟩ <;> exact ⟨h3, by omega⟩

/-- Bits that are laid: some more of them, in one byte. -/
theorem bytes_step {N size at_ some_ : Nat} (hs : at_ % 8 + some_ ≤ 8) (x : UInt8) (old : UInt8) (hat : at_ / 8 < size) (hold : (toBytes (N % 2 ^ at_) size)[at_ / 8]? = some old)
    (hx : ∀ i, i < 8 → x.toNat.testBit i = (old.toNat.testBit i || (decide (at_ % 8 ≤ i ∧ i < at_ % 8 + some_) && N.testBit (8 * (at_ / 8) + i)))) :
    toBytes (N % 2 ^ (at_ + some_)) size = (toBytes (N % 2 ^ at_) size).set (at_ / 8) x := by
  refine List.ext_getElem (by simp) fun j h1 h2 => u8_ext fun i hi => ?_
  rw [List.getElem_set]
  split
  · rename_i hj
    subst hj
    have ho : old = (toBytes (N % 2 ^ at_) size)[at_ / 8]'(by simpa using hat) := by
      rw [List.getElem?_eq_getElem (by simpa using hat)] at hold
      exact (Option.some.inj hold).symm
    rw [hx i hi, ho, toBytes_bit _ _ _ _ _ hi, toBytes_bit _ _ _ _ _ hi, Nat.testBit_mod_two_pow, Nat.testBit_mod_two_pow, ← Bool.and_or_distrib_right]
    congr 1
    rw [← Bool.decide_or]
    simp only [decide_eq_decide]
    omega
  · rename_i hj
    rw [toBytes_bit _ _ _ _ _ hi, toBytes_bit _ _ _ _ _ hi, Nat.testBit_mod_two_pow, Nat.testBit_mod_two_pow]
    congr 1
    simp only [decide_eq_decide]
    omega
theorem bytes_zero (N size : Nat) : toBytes (N % 2 ^ 0) size = List.replicate size 0 := by
  refine List.ext_getElem (by simp) fun j h1 h2 => u8_ext fun i hi => ?_
  rw [toBytes_bit _ _ _ _ _ hi]
  simp [Nat.mod_one]
theorem bytes_same {N size at_ : Nat} (h : N.testBit at_ = false) : toBytes (N % 2 ^ (at_ + 1)) size = toBytes (N % 2 ^ at_) size := by
  refine List.ext_getElem (by simp) fun j h1 h2 => u8_ext fun i hi => ?_
  rw [toBytes_bit _ _ _ _ _ hi, toBytes_bit _ _ _ _ _ hi, Nat.testBit_mod_two_pow, Nat.testBit_mod_two_pow]
  by_cases hat : 8 * j + i = at_
  · rw [hat, h]; simp
  · congr 1
    simp only [decide_eq_decide]
    omega
theorem packN_lt {l : List UInt64} {w : Nat} (h : ∀ x ∈ l, x.toNat < 2 ^ w) : packN l w < 2 ^ (w * l.length) := by
  have := pk_lt w (l.map UInt64.toNat) (by simp only [List.mem_map]; rintro x ⟨y, hy, rfl⟩; exact h y hy)
  simpa [packN] using this
theorem packN_bit {l : List UInt64} {w : Nat} (h : ∀ x ∈ l, x.toNat < 2 ^ w) {i k : Nat} (hk : k < w) (hi : i < l.length) : (packN l w).testBit (w * i + k) = l[i].toNat.testBit k := by
  rw [packN, pk_testBit w _ (by simp only [List.mem_map]; rintro x ⟨y, hy, rfl⟩; exact h y hy) i k hk]
  simp [hi]
theorem size_mul (w n : Nat) : w * n ≤ 8 * sizeOf' w n ∧ 8 * sizeOf' w n < w * n + 8 := by unfold sizeOf'; omega

theorem pack_step {l : List UInt64} {w k j q s S x : Nat} (hfit : ∀ x ∈ l, x.toNat < 2 ^ w) (hk : k < l.length) (hj : j ≤ w) (hq : q = w * k + (w - j)) (hx : x = l[k].toNat / 2 ^ (w - j))
    (hs : 0 < s ∧ s ≤ j ∧ s + q % 8 ≤ 8) (hS : q / 8 < S) (old : UInt8) (hold : (toBytes (packN l w % 2 ^ q) S)[q / 8]? = some old) :
    toBytes (packN l w % 2 ^ (q + s)) S = (toBytes (packN l w % 2 ^ q) S).set (q / 8) (UInt8.ofNat (old.toNat ||| ((x * 2 ^ (q % 8) % 2 ^ 64 % 256) &&& (255 / 2 ^ (8 - s - q % 8))))) := by
  refine bytes_step (by omega) _ old hS hold fun i hi => ?_
  rw [ofNat8_testBit, Nat.testBit_or, Nat.testBit_and, show (256 : Nat) = 2 ^ 8 from rfl, Nat.testBit_mod_two_pow, Nat.testBit_mod_two_pow, ← Nat.shiftLeft_eq, Nat.testBit_shiftLeft,
    ← Nat.shiftRight_eq_div_pow, Nat.testBit_shiftRight, show (255 : Nat) = 2 ^ 8 - 1 from rfl, Nat.testBit_two_pow_sub_one]
  have h64 : i < 64 := by omega
  simp only [hi, h64, decide_true, Bool.true_and]
  congr 1
  by_cases hr : q % 8 ≤ i ∧ i < q % 8 + s
  · have e : 8 * (q / 8) + i = w * k + (w - j + (i - q % 8)) := by omega
    have e2 : decide (8 - s - q % 8 + i < 8) = true := by simp; omega
    rw [e, packN_bit hfit (by omega) hk, hx, e2, ← Nat.shiftRight_eq_div_pow, Nat.testBit_shiftRight]
    simp [hr.1, hr.2]
  · have e2 : (decide (i ≥ q % 8) && decide (8 - s - q % 8 + i < 8)) = false := by simp; omega
    have e3 : decide (q % 8 ≤ i ∧ i < q % 8 + s) = false := by simpa using hr
    rw [e3, Bool.false_and, Bool.and_right_comm, e2, Bool.false_and]

theorem bit_step {N q S : Nat} (hS : q / 8 < S) (old : UInt8) (hold : (toBytes (N % 2 ^ q) S)[q / 8]? = some old) (hb : N.testBit q = true) :
    toBytes (N % 2 ^ (q + 1)) S = (toBytes (N % 2 ^ q) S).set (q / 8) (UInt8.ofNat (old.toNat ||| (2 ^ (q % 8) % 256))) := by
  refine bytes_step (by omega) _ old hS hold fun i hi => ?_
  rw [ofNat8_testBit, Nat.testBit_or, show (256 : Nat) = 2 ^ 8 from rfl, Nat.testBit_mod_two_pow, Nat.testBit_two_pow]
  simp only [hi, decide_true, Bool.true_and]
  congr 1
  by_cases h : q % 8 = i
  · have e : 8 * (q / 8) + i = q := by omega
    rw [e, hb]
    simp [h]
  · have e1 : decide (q % 8 = i) = false := by simpa using h
    have e2 : decide (q % 8 ≤ i ∧ i < q % 8 + 1) = false := by simp; omega
    rw [e1, e2, Bool.false_and]
theorem test_bit (x t : Nat) : (((x : Int) / 2 ^ t).tmod 2 == 1) = x.testBit t := by
  have e : ((x : Int) / 2 ^ t) = ((x / 2 ^ t : Nat) : Int) := by simp
  rw [e, Nat.testBit_eq_decide_div_mod_eq, Int.tmod_eq_emod_of_nonneg (Int.natCast_nonneg _), Bool.eq_iff_iff, beq_iff_eq, decide_eq_true_eq]
  generalize x / 2 ^ t = m
  omega

/-! ### there and back -/
theorem packOk_iff {l : List UInt64} {w : Int} : packOk l w = true ↔ 0 ≤ w ∧ w ≤ 64 ∧ l.length ≤ 65536 ∧ (width l : Int) ≤ w := by simp [packOk]
theorem unpack_pack {l : List UInt64} {w : Int} (h : packOk l w = true) : unpackOk (packB l w) w l.length = true ∧ unpackL (packB l w) w l.length = l ∧ (packB l w).length = sizeOf' w.toNat l.length := by
  obtain ⟨h0, h1, h2, h3⟩ := packOk_iff.1 h
  obtain ⟨k, rfl⟩ : ∃ k : Nat, w = k := ⟨w.toNat, by omega⟩
  have hfit : ∀ x ∈ l, x.toNat < 2 ^ k := (width_le_iff l k).1 (by omega)
  have hlt := packN_lt hfit
  have hsz := size_mul k l.length
  have hN : packN l k < 2 ^ (8 * sizeOf' k l.length) := Nat.lt_of_lt_of_le hlt (Nat.pow_le_pow_right (by omega) hsz.1)
  have hb : packB l (k : Int) = toBytes (packN l k) (sizeOf' k l.length) := by rw [packB, if_pos h]; simp
  have hn : num (packB l (k : Int)) = packN l k := by rw [hb, num_toBytes _ _ hN]
  have hok : unpackOk (packB l (k : Int)) k l.length = true := by
    simp only [unpackOk, hn, Int.toNat_natCast, decide_eq_true_eq]
    exact ⟨by omega, by omega, by omega, by omega, by rw [hb]; simp, hlt⟩
  refine ⟨hok, ?_, by rw [hb]; simp⟩
  rw [unpackL, if_pos hok, hn]
  simp only [Int.toNat_natCast]
  refine List.ext_getElem (by simp) fun j hj1 hj2 => u64_ext fun i hi => ?_
  rw [unpP_bit _ _ _ _ _ _ _ hi]
  by_cases hik : i < k
  · have : k * (j + 1) ≤ k * l.length := Nat.mul_le_mul_left _ hj2
    rw [Nat.mul_add] at this
    have e : decide (i < k ∧ k * j + i < k * l.length) = true := by simp [hik]; omega
    rw [e, Bool.true_and, packN_bit hfit hik hj2]
  · have e : decide (i < k ∧ k * j + i < k * l.length) = false := by simp [hik]
    rw [e, Bool.false_and]
    exact (Nat.testBit_lt_two_pow (Nat.lt_of_lt_of_le (hfit _ (List.getElem_mem hj2)) (Nat.pow_le_pow_right (by omega) (by omega)))).symm
theorem pack_unpack {b : List UInt8} {w n : Int} (h : unpackOk b w n = true) : packOk (unpackL b w n) w = true ∧ packB (unpackL b w n) w = b ∧ ((unpackL b w n).length : Int) = n ∧ (width (unpackL b w n) : Int) ≤ w := by
  have h' := h
  simp only [unpackOk, decide_eq_true_eq] at h'
  obtain ⟨h0, h1, h2, h3, h4, h5⟩ := h'
  obtain ⟨k, rfl⟩ : ∃ k : Nat, w = k := ⟨w.toNat, by omega⟩
  obtain ⟨m, rfl⟩ : ∃ m : Nat, n = m := ⟨n.toNat, by omega⟩
  simp only [Int.toNat_natCast] at h4 h5
  have hl : unpackL b (k : Int) (m : Int) = unpP (num b) k m (k * m) := by rw [unpackL, if_pos h]; simp
  have hlen : (unpackL b (k : Int) (m : Int)).length = m := by rw [hl]; simp
  have hfit : ∀ x ∈ unpackL b (k : Int) (m : Int), x.toNat < 2 ^ k := by
    intro x hx
    obtain ⟨j, hj, rfl⟩ := List.getElem_of_mem hx
    refine Nat.lt_pow_two_of_testBit _ fun i hi => ?_
    rcases Nat.lt_or_ge i 64 with h64 | h64
    · simp only [hl]
      rw [unpP_bit _ _ _ _ _ _ _ h64]
      simp; omega
    · exact u64_testBit_ge _ h64
  have hw : width (unpackL b (k : Int) (m : Int)) ≤ k := (width_le_iff _ k).2 hfit
  have hok : packOk (unpackL b (k : Int) (m : Int)) k = true := packOk_iff.2 ⟨by omega, by omega, by omega, by omega⟩
  refine ⟨hok, ?_, by omega, by omega⟩
  rw [packB, if_pos hok]
  simp only [Int.toNat_natCast, hlen, ← h4]
  rw [show packN (unpackL b (k : Int) (m : Int)) k = num b from ?_]
  · exact toBytes_num b
  · refine Nat.eq_of_testBit_eq fun i => ?_
    have hlt := packN_lt hfit
    rw [hlen] at hlt
    rcases Nat.lt_or_ge i (k * m) with hi | hi
    · have hk0 : 0 < k := by rcases Nat.eq_zero_or_pos k with h | h; (· subst h; simp at hi); exact h
      have hj : i / k < m := by rw [Nat.div_lt_iff_lt_mul hk0, Nat.mul_comm]; exact hi
      have hmod : i % k < k := Nat.mod_lt _ hk0
      have := packN_bit hfit (i := i / k) (k := i % k) hmod (by rw [hlen]; exact hj)
      rw [Nat.div_add_mod] at this
      rw [this]
      simp only [hl]
      rw [unpP_bit _ _ _ _ _ _ _ (by omega), Nat.div_add_mod]
      simp [hmod, hi]
    · rw [Nat.testBit_lt_two_pow (Nat.lt_of_lt_of_le hlt (Nat.pow_le_pow_right (by omega) hi)), Nat.testBit_lt_two_pow (Nat.lt_of_lt_of_le h5 (Nat.pow_le_pow_right (by omega) hi))]
theorem bytesLen_nat {w n : Int} (h : 0 ≤ w ∧ w ≤ 64 ∧ 0 ≤ n ∧ n ≤ 65536) : bytesLen w n = (sizeOf' w.toNat n.toNat : Nat) := by
  obtain ⟨k, rfl⟩ : ∃ k : Nat, w = k := ⟨w.toNat, by omega⟩
  obtain ⟨m, rfl⟩ : ∃ m : Nat, n = m := ⟨n.toNat, by omega⟩
  rw [bytesLen, if_neg (by omega)]
  simp only [sizeOf', Int.toNat_natCast]
  omega
theorem packB_no {l : List UInt64} {w : Int} (h : packOk l w = false) : packB l w = [] := by rw [packB, if_neg (by simp [h])]
theorem unpackL_no {b : List UInt8} {w n : Int} (h : unpackOk b w n = false) : unpackL b w n = [] := by rw [unpackL, if_neg (by simp [h])]
end Go.Proofs.Ytphgfhghbpndaaa
