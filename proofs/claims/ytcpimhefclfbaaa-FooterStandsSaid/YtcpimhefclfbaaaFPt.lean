/-
  Floats that are whole numbers: sums and products of small ones are exact. No program here.
  Regions whose order is open, with calls that make memory but answer plain values: one walk in the text's order, in whatever world that meets S.
  The walks of layer 6's functions: what tells points apart.
  strings.Compare at this program: the library's own contract, laid; the order of strings.
  The walks of layer 6's functions: the order of points.
  The walks of layer 6's functions: the order of points, the reference's.
-/
import Derived.Laws.ComplexArith
import Derived.KernelRfl
import Derived.StillTailTactics
import Derived.StillTail
import Derived.WalkLawsBesides
import Derived.Shelf.Small.Strs
import Derived.Lib.MinMaxS
import Derived.Test.YtcpimhefclfbaaaFA
import Derived.Test.YtcpimhefclfbaaaProg
namespace Go.Proofs.Ytcpimhefclfbaaa
open Go
set_option linter.unusedVariables false
set_option linter.unusedSimpArgs false

/-- The word w stands for the number n. -/
def Fv (w : Nat) (n : Int) : Prop := ∃ s m, ∃ k : Nat, Ieee.double.read w = .number s m (-(k : Int)) ∧ Ieee.signed s m 0 = n * 2 ^ k
/-- A datum stands for the number n. -/
def Dv (d : Ieee.Datum) (n : Int) : Prop := ∃ s m, ∃ k : Nat, d = .number s m (-(k : Int)) ∧ Ieee.signed s m 0 = n * 2 ^ k

theorem signed_zero (s : Bool) (m : Nat) : Ieee.signed s m 0 = if s then -(m : Int) else m := by simp [Ieee.signed]
theorem signed_up (s : Bool) (m u : Nat) : Ieee.signed s m u = Ieee.signed s m 0 * 2 ^ u := by
  unfold Ieee.signed
  rw [Nat.shiftLeft_eq, Nat.shiftLeft_eq, Nat.pow_zero, Nat.mul_one]
  split
  · rw [Int.neg_mul]; push_cast; rfl
  · push_cast; rfl
theorem signed_abs {s : Bool} {m k : Nat} {n : Int} (h : Ieee.signed s m 0 = n * 2 ^ k) : m = n.natAbs * 2 ^ k := by
  have h1 : (Ieee.signed s m 0).natAbs = m := by rw [signed_zero]; split <;> simp
  rw [← h1, h, Int.natAbs_mul, Int.natAbs_pow]
  rfl
theorem log2_shift {a : Nat} (h : a ≠ 0) (k : Nat) : (a * 2 ^ k).log2 = a.log2 + k := by
  have h1 := (Nat.le_log2 h).1 (Nat.le_refl a.log2)
  have h2 : a < 2 ^ (a.log2 + 1) := Nat.lt_log2_self
  have hk : 0 < 2 ^ k := Nat.two_pow_pos k
  have hne : a * 2 ^ k ≠ 0 := by
    intro h0
    rcases Nat.mul_eq_zero.1 h0 with h3 | h3 <;> omega
  apply Nat.le_antisymm
  · apply Nat.lt_succ_iff.1
    rw [Nat.log2_lt hne, show (a.log2 + k).succ = (a.log2 + 1) + k from by omega, Nat.pow_add]
    exact Nat.mul_lt_mul_of_pos_right h2 hk
  · rw [Nat.le_log2 hne, Nat.pow_add]
    exact Nat.mul_le_mul_right _ h1
theorem cut_exact (way : Ieee.Toward) (neg : Bool) (a d : Nat) : way.cut neg (a * 2 ^ d) d = a := by
  unfold Ieee.Toward.cut
  by_cases ha : a = 0
  · subst ha
    simp only [Nat.zero_mul, Nat.zero_div, Nat.zero_mod]
    cases way <;> simp
  · have hl := log2_shift ha d
    have hm : min d ((a * 2 ^ d).log2 + 2) = d := by omega
    rw [hm]
    have h1 : (1 <<< d : Nat) = 2 ^ d := by rw [Nat.shiftLeft_eq, Nat.one_mul]
    rw [h1]
    dsimp only
    have hp : 0 < 2 ^ d := Nat.two_pow_pos d
    rw [Nat.mul_div_cancel _ hp, Nat.mul_mod_left]
    have h0 : ¬ (2 ^ d < 2 * 0) := by omega
    have h3 : ((2 ^ d : Nat) == 2 * 0) = false := by rw [beq_eq_false_iff_ne]; omega
    cases way <;> simp [h3]

/-- A small whole number is written as it is. -/
theorem write_exact {s : Bool} {m k : Nat} {n : Int} (h : Ieee.signed s m 0 = n * 2 ^ k) (hn : n.natAbs < 2 ^ 53) : Fv (Ieee.double.write (.number s m (-(k : Int)))) n := by
  have hm := signed_abs h
  unfold Ieee.Format.write Ieee.Format.nearest
  simp only []
  by_cases h0 : m = 0
  · subst h0
    rw [if_pos rfl]
    have hn0 : n = 0 := by
      have hk : 0 < 2 ^ k := Nat.two_pow_pos k
      rcases Nat.mul_eq_zero.1 hm.symm with h1 | h1 <;> omega
    subst hn0
    refine ⟨s, 0, 1074, ?_, by rw [signed_zero, Int.zero_mul]; cases s <;> rfl⟩
    cases s <;> decide +kernel
  · rw [if_neg h0]
    have hna : n.natAbs ≠ 0 := by rintro h1; rw [h1, Nat.zero_mul] at hm; exact h0 hm
    have hlog : m.log2 = n.natAbs.log2 + k := by rw [hm, log2_shift hna]
    obtain ⟨a, ha⟩ : ∃ a, a = n.natAbs := ⟨_, rfl⟩
    rw [← ha] at hm hlog hna hn
    have hl52 : a.log2 ≤ 52 := by
      have := (Nat.log2_lt hna (k := 53)).2 hn
      omega
    obtain ⟨j, hj⟩ : ∃ j : Nat, a.log2 + j = 52 := ⟨52 - a.log2, by omega⟩
    have hlast : max (-(k : Int) + (m.log2 : Nat) - (Ieee.double.fractionBits : Nat)) Ieee.double.leastPlace = -(j : Int) := by
      have h1 : Ieee.double.leastPlace = -1074 := by decide
      have h2 : Ieee.double.fractionBits = 52 := rfl
      rw [h1, h2, hlog]
      omega
    rw [hlast]
    have hkept : Ieee.Toward.even.cut s (m <<< (-(k : Int) - -(j : Int)).toNat) (-(j : Int) - -(k : Int)).toNat = a * 2 ^ j := by
      rw [hm, Nat.shiftLeft_eq]
      rcases Nat.le_total k j with hkj | hkj
      · rw [show (-(k : Int) - -(j : Int)).toNat = j - k from by omega, show (-(j : Int) - -(k : Int)).toNat = 0 from by omega, Nat.mul_assoc, ← Nat.pow_add, show k + (j - k) = j from by omega]
        have := cut_exact .even s (a * 2 ^ j) 0
        rwa [Nat.pow_zero, Nat.mul_one] at this
      · rw [show (-(k : Int) - -(j : Int)).toNat = 0 from by omega, show (-(j : Int) - -(k : Int)).toNat = k - j from by omega, Nat.pow_zero, Nat.mul_one]
        have := cut_exact .even s (a * 2 ^ j) (k - j)
        rwa [Nat.mul_assoc, ← Nat.pow_add, show j + (k - j) = k from by omega] at this
    rw [hkept]
    have hlo : 2 ^ 52 ≤ a * 2 ^ j := by
      have h1 := (Nat.le_log2 hna).1 (Nat.le_refl a.log2)
      rw [← hj, Nat.pow_add]
      exact Nat.mul_le_mul_right _ h1
    have hhi : a * 2 ^ j < 2 ^ 53 := by
      have h1 : a < 2 ^ (a.log2 + 1) := Nat.lt_log2_self
      rw [show 53 = (a.log2 + 1) + j from by omega, Nat.pow_add]
      exact Nat.mul_lt_mul_of_pos_right h1 (Nat.two_pow_pos j)
    have hplace : (-(j : Int) - Ieee.double.leastPlace).toNat = 1074 - j := by
      have h1 : Ieee.double.leastPlace = -1074 := by decide
      rw [h1]; omega
    rw [hplace]
    obtain ⟨q, hq⟩ : ∃ q, q = a * 2 ^ j := ⟨_, rfl⟩
    rw [← hq] at hlo hhi ⊢
    have hb : Ieee.double.binade = 4503599627370496 := by decide
    have hsw : Ieee.double.signWeight = 9223372036854775808 := by decide
    have hlp : Ieee.double.leastPlace = -1074 := by decide
    have h52 : (2 : Nat) ^ 52 = 4503599627370496 := by decide
    have h53 : (2 : Nat) ^ 53 = 9007199254740992 := by decide
    rw [h52] at hlo
    rw [h53] at hhi
    obtain ⟨t, ht⟩ : ∃ t, t = 1074 - j := ⟨_, rfl⟩
    obtain ⟨r, hr⟩ : ∃ r, r = 4503599627370496 * t + q := ⟨_, rfl⟩
    have ht1 : t ≤ 1074 := by omega
    have hr1 : 4503599627370496 ≤ r := by omega
    have hr2 : r < 9218868437227405312 := by omega
    have hdiv : r / 4503599627370496 = t + 1 := by omega
    have hmod : r % 4503599627370496 = q - 4503599627370496 := by omega
    have hi2 : Ieee.double.infRung = 9218868437227405312 := by decide
    have hmin : min ((1074 - j) * Ieee.double.binade + q) Ieee.double.infRung = r := by
      rw [hb, hi2, ← ht, Nat.mul_comm, ← hr]
      exact Nat.min_eq_left (Nat.le_of_lt hr2)
    rw [hmin]
    clear hmin hr
    refine ⟨s, q, j, ?_, ?_⟩
    · unfold Ieee.Format.read Ieee.Format.word
      rw [hsw, hb, hi2, hlp]
      have hj2 : -1074 + ((t + 1 - 1 : Nat) : Int) = -(j : Int) := by omega
      have hq2 : 4503599627370496 + (q - 4503599627370496) = q := by omega
      cases s with
      | true =>
        have e1 : (9223372036854775808 + r) / 9223372036854775808 = 1 := by omega
        have e2 : (9223372036854775808 + r) % 9223372036854775808 = r := by omega
        dsimp only
        rw [if_pos rfl, e1, e2, if_neg (Nat.not_lt.2 hr1), if_pos hr2, hdiv, hmod, hj2, hq2]
        rfl
      | false =>
        have e1 : r / 9223372036854775808 = 0 := by omega
        have e2 : r % 9223372036854775808 = r := by omega
        dsimp only
        rw [if_neg (show ¬ (false = true) by decide), e1, e2, if_neg (Nat.not_lt.2 hr1), if_pos hr2, hdiv, hmod, hj2, hq2]
        rfl
    · rw [signed_zero, hq]
      rw [signed_zero, hm] at h
      have hk : (0 : Int) < 2 ^ k := by have := Nat.two_pow_pos k; exact_mod_cast this
      cases s with
      | true =>
        simp only [if_true] at h ⊢
        have h1 : -(a : Int) * 2 ^ k = n * 2 ^ k := by rw [← h]; push_cast; rw [Int.neg_mul]
        have h2 := Int.eq_of_mul_eq_mul_right (by omega) h1
        push_cast
        rw [← h2, Int.neg_mul]
      | false =>
        simp only [Bool.false_eq_true, if_false] at h ⊢
        have h1 : (a : Int) * 2 ^ k = n * 2 ^ k := by rw [← h]; push_cast; rfl
        have h2 := Int.eq_of_mul_eq_mul_right (by omega) h1
        push_cast
        rw [← h2]

theorem Fv.dv {w : Nat} {n : Int} (h : Fv w n) : Dv (Ieee.double.read w) n := h
theorem Dv.write {d : Ieee.Datum} {n : Int} (h : Dv d n) (hn : n.natAbs < 2 ^ 53) : Fv (Ieee.double.write d) n := by
  obtain ⟨s, m, k, rfl, e⟩ := h
  exact write_exact e hn
theorem fv_ofInt (n : Int) (hn : n.natAbs < 2 ^ 53) : Fv (floatOfInt .f64 n) n := by
  refine Dv.write (d := .number (n < 0) n.natAbs 0) ⟨_, _, 0, rfl, ?_⟩ hn
  rw [signed_zero, Int.pow_zero, Int.mul_one]
  split <;> rename_i h
  · have h1 : n < 0 := by simpa using h
    omega
  · have h1 : ¬ n < 0 := by simpa using h
    omega
theorem signed_mul (s t : Bool) (m n : Nat) : Ieee.signed (s ^^ t) (m * n) 0 = Ieee.signed s m 0 * Ieee.signed t n 0 := by
  rw [signed_zero, signed_zero, signed_zero]
  cases s <;> cases t <;> simp [Int.neg_mul, Int.mul_neg]
theorem dv_mul {d e : Ieee.Datum} {a b : Int} (h : Dv d a) (h' : Dv e b) : ∃ r, d.product e = some r ∧ Dv r (a * b) := by
  obtain ⟨s, m, k, rfl, e1⟩ := h
  obtain ⟨t, n, j, rfl, e2⟩ := h'
  refine ⟨_, rfl, s ^^ t, m * n, k + j, by congr 1; omega, ?_⟩
  rw [signed_mul, e1, e2, Int.pow_add]
  ac_rfl
theorem fv_mul {x y : Nat} {a b : Int} (h : Fv x a) (h' : Fv y b) (hn : (a * b).natAbs < 2 ^ 53) : ∃ r, floatBits .mul .f64 x y = some r ∧ Fv r (a * b) := by
  obtain ⟨d, e, hd⟩ := dv_mul h.dv h'.dv
  refine ⟨_, ?_, hd.write hn⟩
  show Ieee.double.mul x y = _
  unfold Ieee.Format.mul
  rw [e]
  rfl
theorem dv_sum {d e : Ieee.Datum} {a b : Int} (h : Dv d a) (h' : Dv e b) : ∃ r, d.sum e = some r ∧ Dv r (a + b) := by
  obtain ⟨s, m, k, rfl, e1⟩ := h
  obtain ⟨t, n, j, rfl, e2⟩ := h'
  obtain ⟨K, hK⟩ : ∃ K : Nat, K = max k j := ⟨_, rfl⟩
  have hmin : min (-(k : Int)) (-(j : Int)) = -(K : Int) := by omega
  have htot : Ieee.signed s m (-(k : Int) - -(K : Int)).toNat + Ieee.signed t n (-(j : Int) - -(K : Int)).toNat = (a + b) * 2 ^ K := by
    rw [signed_up s, signed_up t, e1, e2, show (-(k : Int) - -(K : Int)).toNat = K - k from by omega, show (-(j : Int) - -(K : Int)).toNat = K - j from by omega, Int.mul_assoc, Int.mul_assoc, ← Int.pow_add, ← Int.pow_add,
      show k + (K - k) = K from by omega, show j + (K - j) = K from by omega, Int.add_mul]
  refine ⟨_, by unfold Ieee.Datum.sum; simp only []; rw [hmin, htot], _, _, K, rfl, ?_⟩
  rw [signed_zero]
  generalize (a + b) * 2 ^ K = z
  by_cases hz : z = 0
  · subst hz
    split <;> simp
  · rw [if_neg hz]
    split <;> rename_i h
    · have h1 : z < 0 := by simpa using h
      omega
    · have h1 : ¬ z < 0 := by simpa using h
      omega
theorem dv_opp {d : Ieee.Datum} {a : Int} (h : Dv d a) : Dv d.opposite (-a) := by
  obtain ⟨s, m, k, rfl, e1⟩ := h
  refine ⟨!s, m, k, rfl, ?_⟩
  rw [signed_zero] at e1 ⊢
  rw [Int.neg_mul, ← e1]
  cases s <;> simp
theorem fv_add {x y : Nat} {a b : Int} (h : Fv x a) (h' : Fv y b) (hn : (a + b).natAbs < 2 ^ 53) : ∃ r, floatBits .add .f64 x y = some r ∧ Fv r (a + b) := by
  obtain ⟨d, e, hd⟩ := dv_sum h.dv h'.dv
  refine ⟨_, ?_, hd.write hn⟩
  show Ieee.double.add x y = _
  unfold Ieee.Format.add
  rw [e]
  rfl
theorem fv_sub {x y : Nat} {a b : Int} (h : Fv x a) (h' : Fv y b) (hn : (a - b).natAbs < 2 ^ 53) : ∃ r, floatBits .sub .f64 x y = some r ∧ Fv r (a - b) := by
  obtain ⟨d, e, hd⟩ := dv_sum h.dv (dv_opp h'.dv)
  rw [← Int.sub_eq_add_neg] at hd
  refine ⟨_, ?_, hd.write hn⟩
  show Ieee.double.sub x y = _
  unfold Ieee.Format.sub
  rw [e]
  rfl
theorem read_neg (x : Nat) : Ieee.double.read (Op.negFloat .f64 x) = (Ieee.double.read x).opposite := by
  have hsw : Ieee.double.signWeight = 2 ^ 63 := by decide
  have hng : Op.negFloat .f64 x = x ^^^ 2 ^ 63 := rfl
  have hd : (x ^^^ 2 ^ 63) / 2 ^ 63 = (x / 2 ^ 63) ^^^ 1 := by rw [Nat.xor_div_two_pow, Nat.div_self (by decide)]
  have hm : (x ^^^ 2 ^ 63) % 2 ^ 63 = x % 2 ^ 63 := by rw [Nat.xor_mod_two_pow, Nat.mod_self, Nat.xor_zero]
  have hb : (((x / 2 ^ 63) ^^^ 1) % 2 == 1) = !((x / 2 ^ 63) % 2 == 1) := by
    have h1 := Nat.xor_mod_two_pow (a := x / 2 ^ 63) (b := 1) (n := 1)
    rw [Nat.pow_one] at h1
    rw [h1]
    rcases Nat.mod_two_eq_zero_or_one (x / 2 ^ 63) with h2 | h2 <;> rw [h2] <;> decide
  unfold Ieee.Format.read
  rw [hsw, hng, hd, hm, hb]
  dsimp only
  split
  · rfl
  · split
    · rfl
    · split <;> rfl
theorem fv_neg {x : Nat} {a : Int} (h : Fv x a) : Fv (Op.negFloat .f64 x) (-a) := by
  have := dv_opp h.dv
  rw [← read_neg] at this
  exact this
theorem fv_toInt {x : Nat} {a : Int} (h : Fv x a) (ha : -9223372036854775808 ≤ a ∧ a ≤ 9223372036854775807) : floatToIntVal .f64 x .i64 = some a := by
  obtain ⟨s, m, k, e1, e2⟩ := h
  have hm := signed_abs e2
  have hd : (FloatKind.f64.decode x).toInt .zero = some a := by
    show (Ieee.double.read x).toInt .zero = some a
    rw [e1]
    unfold Ieee.Datum.toInt Ieee.Datum.integral
    simp only []
    rw [show (-(k : Int)).toNat = 0 from by omega, show (-(-(k : Int))).toNat = k from by omega, Nat.shiftLeft_eq, Nat.pow_zero, Nat.mul_one, hm, cut_exact]
    congr 1
    rw [signed_zero] at e2 ⊢
    rw [hm] at e2
    have hk : (0 : Int) < 2 ^ k := by have := Nat.two_pow_pos k; exact_mod_cast this
    cases s with
    | true =>
      simp only [if_true] at e2 ⊢
      have h1 : -(a.natAbs : Int) * 2 ^ k = a * 2 ^ k := by rw [← e2]; push_cast; rw [Int.neg_mul]
      exact Int.eq_of_mul_eq_mul_right (by omega) h1
    | false =>
      simp only [Bool.false_eq_true, if_false] at e2 ⊢
      have h1 : (a.natAbs : Int) * 2 ^ k = a * 2 ^ k := by rw [← e2]; push_cast; rfl
      exact Int.eq_of_mul_eq_mul_right (by omega) h1
  unfold floatToIntVal
  rw [hd]
  simp only []
  rw [if_pos]
  simpa [IntKind.min, IntKind.max, IntKind.signed, IntKind.bits] using ha

/-- A point times its mirror image. -/
theorem norm_bits {a b : Nat} {x y : Int} (h : Fv a x) (h' : Fv b y) (hx : -2097152 ≤ x ∧ x ≤ 2097152) (hy : -2097152 ≤ y ∧ y ≤ 2097152) : ∃ re im, cMulBits a b a (Op.negFloat .f64 b) = some (re, im) ∧ Fv re (x * x + y * y) := by
  have b1 : ∀ u v : Int, -2097152 ≤ u ∧ u ≤ 2097152 → -2097152 ≤ v ∧ v ≤ 2097152 → (u * v).natAbs ≤ 4398046511104 := fun u v hu hv => by
    rw [Int.natAbs_mul]
    have h1 : u.natAbs ≤ 2097152 := by omega
    have h2 : v.natAbs ≤ 2097152 := by omega
    exact Nat.mul_le_mul h1 h2
  have c1 := b1 x x hx hx
  have c2 := b1 y (-y) hy (by omega)
  have c3 := b1 x (-y) hx (by omega)
  have c4 := b1 y x hy hx
  obtain ⟨ac, e1, f1⟩ := fv_mul h h (by omega)
  obtain ⟨bd, e2, f2⟩ := fv_mul h' (fv_neg h') (by omega)
  obtain ⟨re, e3, f3⟩ := fv_sub f1 f2 (by omega)
  obtain ⟨ad, e4, f4⟩ := fv_mul h (fv_neg h') (by omega)
  obtain ⟨bc, e5, f5⟩ := fv_mul h' h (by omega)
  obtain ⟨im, e6, f6⟩ := fv_add f4 f5 (by omega)
  refine ⟨re, im, ?_, ?_⟩
  · unfold cMulBits
    rw [e1, e2]
    simp only [Option.bind_some]
    rw [e3, e4, e5]
    simp only [Option.bind_some]
    rw [e6]
    rfl
  · rw [Int.mul_neg, Int.sub_neg] at f3
    exact f3
end Go.Proofs.Ytcpimhefclfbaaa

namespace Go.Proofs.Ytcpimhefclfbaaa
open Go Go.RowKit
set_option linter.unusedVariables false
set_option linter.unusedSimpArgs false

/-- What a step comes to: v, in a world that meets S. -/
def endsS (P : Program) (S : World → Prop) (v : Value) : Result Next → Prop
  | .ok (.value u) w' => u = v ∧ S w'
  | .ok .skip w' => v = undef ∧ S w'
  | .ok (.enter f args) w' => Calls P f args w' fun e w'' => e = .returned v ∧ S w''
  | _ => False
/-- In state a, in every world that meets S, operation o leaves v in its temporary, and S holds behind it. -/
def YieldsS (P : Program) (ops : Array Oper) (S : World → Prop) (o : Oper) (v : Value) (a : Act) : Prop :=
  (Region.wanted o (yielded ops a.tmps) = true ∧ ∀ w, S w → endsS P S v ((execOp a.eval o).run P w)) ∨ (Region.wanted o (yielded ops a.tmps) = false ∧ v = undef)
def wpConf (P : Program) (ops : Array Oper) (S : World → Prop) (L : Act → Prop) : List Oper → Act → Prop
  | [], a => L a
  | o :: rest, a => ∃ v, YieldsS P ops S o v a ∧ wpConf P ops S L rest (a.put o.dst v)
def wpAnyS (P : Program) (md : Region.Mode) (ops : Array Oper) (S : World → Prop) (n : Nat) (L : Array Bool → Act → Prop) : Nat → Array Bool → Act → Prop
  | 0, listed, a => L listed a
  | f + 1, listed, a => Region.ready md ops listed ≠ [] ∧ ∀ i ∈ Region.ready md ops listed, i < n ∧ ∃ oi v, ops[i]? = some oi ∧ YieldsS P ops S oi v a ∧ wpAnyS P md ops S n L f (listed.setIfInBounds i true) (a.put oi.dst v)

section
variable {P : Program} {ops : Array Oper} {S : World → Prop} {md : Region.Mode} {Q : Exit → Act → World → Prop}

theorem YieldsS.wpOp {i : Nat} {o : Oper} {v : Value} {a : Act} (hi : ops[i]? = some o) (hy : YieldsS P ops S o v a) {K : Act → World → Prop} {w : World} (hS : S w) (h : ∀ w', S w' → K (a.put o.dst v) w') : wpOp P ops Q i K a w := by
  unfold Go.wpOp
  simp only [hi]
  rcases hy with ⟨hw, hv⟩ | ⟨hw, rfl⟩
  · simp only [hw, if_true]
    refine .inl ?_
    have := hv w hS
    unfold Oper.wp
    generalize (execOp a.eval o).run P w = r at *
    cases r with
    | ok n w' =>
      cases n <;> simp only [endsS] at this <;> simp only [Oper.upon]
      case value u => obtain ⟨rfl, h2⟩ := this; exact h _ h2
      case skip => obtain ⟨rfl, h2⟩ := this; exact h _ h2
      case enter f args => exact this.mono fun e w'' ⟨he, h2⟩ => by subst he; exact h _ h2
    | halt x w' => cases x <;> simp only [endsS] at this
  · simp only [hw, Bool.false_eq_true, if_false]
    exact h _ hS
theorem YieldsS.of_same {o : Oper} {v : Value} {a a' : Act} (hy : YieldsS P ops S o v a) (he : execOp a'.eval o = execOp a.eval o) (hw : Region.wanted o (yielded ops a'.tmps) = Region.wanted o (yielded ops a.tmps)) : YieldsS P ops S o v a' := by
  unfold YieldsS at *
  rw [he, hw]
  exact hy
theorem wpAny_of_S {n g : Nat} {L : Array Bool → Act → Prop} (hL : ∀ listed a, L listed a → ∀ w, S w → wpAny P md ops Q g listed a w) :
    ∀ (f : Nat) (listed : Array Bool) (a : Act), wpAnyS P md ops S n L f listed a → ∀ w, S w → wpAny P md ops Q (f + g) listed a w
  | 0, listed, a, h, w, hS => by rw [Nat.zero_add]; exact hL _ _ h w hS
  | f + 1, listed, a, h, w, hS => by
    rw [show f + 1 + g = (f + g) + 1 by omega]
    refine ⟨fun h0 => absurd h0 h.1, fun i hi => ?_⟩
    obtain ⟨_, oi, v, h1, h2, h3⟩ := h.2 i hi
    exact h2.wpOp h1 hS fun w' hS' => wpAny_of_S hL f _ _ h3 w' hS'

theorem wpAnyS_first {n i : Nat} {oi : Oper} {v : Value} {L : Array Bool → Act → Prop} (hi : ops[i]? = some oi) (hsel : ∀ (j : Nat) (o : Oper) cs b, ops[j]? = some o → o.op ≠ .select cs b)
    (hs : Region.sinkB md ops n = true) (hc : Region.chainB md ops n = true) (hn : n < ops.size) (hin : i < n)
    (hdone : ∀ listed a, L listed a → ∀ j ∈ Region.ready md ops listed, n ≤ j) :
    ∀ (f : Nat) (listed : Array Bool) (a : Act), HeadInv md ops n listed →
      (∀ j oj, ops[j]? = some oj → j ≠ i → listed.getD j true = false → (∀ e ∈ oj.after, Region.binds md e = true → e.on ≠ i) → oi.apart ops oj = true) →
      i ∈ Region.ready md ops listed → YieldsS P ops S oi v a →
      wpAnyS P md ops S n L f (listed.setIfInBounds i true) (a.put oi.dst v) → wpAnyS P md ops S n L (f + 1) listed a := by
  intro f
  induction f with
  | zero =>
    intro listed a inv _ hr hy H
    have hun := (mem_ready.1 hr).1
    refine ⟨fun h => (by rw [h] at hr; cases hr), fun j hj => ?_⟩
    have hjn : j < n := by
      rcases Nat.lt_or_ge j n with h | h
      · exact h
      · exact absurd hj (tail_waits hs hc hn inv _ i rfl hin hun j h)
    refine ⟨hjn, ?_⟩
    by_cases hji : j = i
    · subst hji; exact ⟨oi, v, hi, hy, H⟩
    · have := hdone _ _ H j (ready_mono hj hji)
      omega
  | succ f ih =>
    intro listed a inv hfree hr hy H
    have hun := (mem_ready.1 hr).1
    refine ⟨fun h => (by rw [h] at hr; cases hr), fun j hj => ?_⟩
    have hjn : j < n := by
      rcases Nat.lt_or_ge j n with h | h
      · exact h
      · exact absurd hj (tail_waits hs hc hn inv _ i rfl hin hun j h)
    refine ⟨hjn, ?_⟩
    by_cases hji : j = i
    · subst hji; exact ⟨oi, v, hi, hy, H⟩
    · obtain ⟨_, oj, vj, hoj, hyj, h3⟩ := H.2 j (ready_mono hj hji)
      obtain ⟨hjun, oj', hoj', hall⟩ := mem_ready.1 hj
      obtain rfl : oj = oj' := Option.some.inj (hoj.symm.trans hoj')
      have hnot : ∀ e ∈ oj.after, Region.binds md e = true → e.on ≠ i := fun e he hb heq => by
        have h1 := hall e he hb
        rw [heq, getD_both hun] at h1
        cases h1
      obtain ⟨a1, a2, a3⟩ := Oper.apart_spec (hfree j oj hoj hji hjun hnot)
      have hyj' : YieldsS P ops S oj vj a := hyj.of_same (execOp_put oj (fun cs b => hsel j oj cs b hoj) a oi.dst v a1).symm (wanted_put oj a oi.dst v a1).symm
      have hyi' : YieldsS P ops S oi v (a.put oj.dst vj) := hy.of_same (execOp_put oi (fun cs b => hsel i oi cs b hi) a oj.dst vj a3) (wanted_put oi a oj.dst vj a3)
      have hfree' : ∀ k ok, ops[k]? = some ok → k ≠ i → (listed.setIfInBounds j true).getD k true = false →
          (∀ e ∈ ok.after, Region.binds md e = true → e.on ≠ i) → oi.apart ops ok = true := fun k ok hk hki hun hno => by
        refine hfree k ok hk hki ?_ hno
        by_cases hjk : j = k
        · subst hjk; exact hjun
        · rw [getD_set_ne true hjk] at hun; exact hun
      refine ⟨oj, vj, hoj, hyj', ih (listed.setIfInBounds j true) _ (inv.set hj hjn) hfree' (ready_mono hr (Ne.symm hji)) hyi' ?_⟩
      rw [Array.setIfInBounds_comm _ _ hji, ← Act.put_comm a v vj a2]
      exact h3
theorem wpAnyS_lex {n g : Nat} {Lq : Act → Prop} (hsel : Region.noSelect ops = true) (hs : Region.sinkB md ops n = true) (hc : Region.chainB md ops n = true) (hn : n < ops.size) :
    ∀ (l : List Oper) (k : Nat) (listed : Array Bool) (a : Act), (∀ j, j < l.length → l[j]? = ops[k + j]?) → k + l.length = n → HeadInv md ops n listed →
    Region.lexHead md ops g l.length k listed = true → wpConf P ops S Lq l a →
    wpAnyS P md ops S n (fun listed' a' => Region.seqB md ops g n listed' = true ∧ Lq a') l.length listed a
  | [], k, listed, a, _, hk, _, hB, h => by
    have : k = n := by simpa using hk
    subst this
    exact ⟨by simpa [Region.lexHead] using hB, h⟩
  | o :: l, k, listed, a, hl, hk, inv, hB, h => by
    have h0 : ops[k]? = some o := by simpa using (hl 0 (by simp)).symm
    simp only [List.length_cons, Region.lexHead, Bool.and_eq_true] at hB
    obtain ⟨⟨hr, hf⟩, hB'⟩ := hB
    have hkn : k < n := by simp only [List.length_cons] at hk; omega
    have hr' : k ∈ Region.ready md ops listed := by simpa using hr
    obtain ⟨v, hy, hK⟩ := h
    exact wpAnyS_first h0 (Region.noSelect_spec hsel) hs hc hn hkn (fun listed' a' hL => seqB_ready hL.1) l.length listed a inv (Region.free_spec h0 hf) hr' hy
      (wpAnyS_lex hsel hs hc hn l (k + 1) _ _ (fun j hj => by have := hl (j + 1) (by simp; omega); simpa [Nat.add_assoc, Nat.add_comm 1 j] using this) (by simp only [List.length_cons] at hk; omega) (inv.set hr' hkn) hB' hK)
theorem wp_region_conf {id : Nat} {a : Act} {w : World} {l : List Oper} (n : Nat) (hm : P.follows .mixedOrders = true) (hB : Region.lexTailB .any l.toArray n = true) (hS : S w.drew)
    (h : wpConf P l.toArray S (fun a' => ∀ w', S w' → wpList P l.toArray Q (l.drop n) a' w') (l.take n) a) : (Code.region id l.toArray true).wp P Q a w := by
  simp only [Region.lexTailB, Bool.and_eq_true, decide_eq_true_eq] at hB
  obtain ⟨⟨⟨⟨hsel, hn⟩, hs⟩, hc⟩, hlex⟩ := hB
  have hn' : n < l.length := by simpa using hn
  have htl : (l.take n).length = n := by simp; omega
  have hdl : (l.drop n).length = l.toArray.size - n := by simp
  have inv0 : HeadInv .any l.toArray n (Array.replicate l.toArray.size false) :=
    ⟨by simp, fun j oj _ hl => (by rw [getD_replicate_false] at hl; cases hl), fun t _ ht => getD_in (by simpa using ht) (getD_replicate_false _ _)⟩
  have H := wpAnyS_lex (md := .any) (g := l.toArray.size - n) hsel hs hc hn (l.take n) 0 _ a (fun j hj => by
    have hj' : j < n := by rw [htl] at hj; exact hj
    simp [hj']) (by simpa using htl) inv0 (by rw [htl]; exact hlex) h
  refine wp_region_any hm ?_
  have := wpAny_of_S (Q := Q) (g := l.toArray.size - n) (fun listed a' hL w hS' => by
    have := wpAny_of_seq (md := .any) (Q' := Q) (l.drop n) n listed a' w (fun j => by simp [List.getElem?_drop]) (by rw [hdl]; exact hL.1) (hL.2 w hS')
    rwa [hdl] at this) _ _ _ H w.drew hS
  rw [htl, show n + (l.toArray.size - n) = l.toArray.size by omega] at this
  exact this

/-! ### the steps of such a walk -/

theorem conf_value {L : Act → Prop} {o : Oper} {rest : List Oper} {a : Act} (v : Value) (hg : o.guard = none)
    (h : ∀ w, S w → (execOp a.eval o).run P w = .ok (.value v) w) (hr : wpConf P ops S L rest (a.put o.dst v)) : wpConf P ops S L (o :: rest) a :=
  ⟨v, .inl ⟨by simp [Region.wanted, hg], fun w hS => by rw [h w hS]; exact ⟨rfl, hS⟩⟩, hr⟩
theorem conf_value_g {L : Act → Prop} {o : Oper} {rest : List Oper} {a : Act} (v : Value) (hg : Region.wanted o (yielded ops a.tmps) = true)
    (h : ∀ w, S w → (execOp a.eval o).run P w = .ok (.value v) w) (hr : wpConf P ops S L rest (a.put o.dst v)) : wpConf P ops S L (o :: rest) a :=
  ⟨v, .inl ⟨hg, fun w hS => by rw [h w hS]; exact ⟨rfl, hS⟩⟩, hr⟩
theorem conf_skip {L : Act → Prop} {o : Oper} {rest : List Oper} {a : Act} (hg : Region.wanted o (yielded ops a.tmps) = false)
    (hr : wpConf P ops S L rest (a.put o.dst undef)) : wpConf P ops S L (o :: rest) a := ⟨undef, .inr ⟨hg, rfl⟩, hr⟩
theorem conf_call {L : Act → Prop} {o : Oper} {rest : List Oper} {a : Act} (v : Value) (f : FuncId) (args : Array Value) (hg : Region.wanted o (yielded ops a.tmps) = true)
    (h : ∀ w, S w → (execOp a.eval o).run P w = .ok (.enter f args) w) (hc : ∀ w, S w → Calls P f args w fun e w' => e = .returned v ∧ S w') (hr : wpConf P ops S L rest (a.put o.dst v)) : wpConf P ops S L (o :: rest) a :=
  ⟨v, .inl ⟨hg, fun w hS => by rw [h w hS]; exact hc w hS⟩, hr⟩
theorem conf_nil {L : Act → Prop} {a : Act} (h : L a) : wpConf P ops S L [] a := h
end
end Go.Proofs.Ytcpimhefclfbaaa

namespace Go.Proofs.Ytcpimhefclfbaaa
open Go Go.RowKit
set_option maxRecDepth 10000
set_option linter.unusedVariables false
set_option linter.unusedSimpArgs false

abbrev ptVal (x y : Int) : Value := .agg #[.int .i64 x, .int .i64 y]
def isI64 (x : Int) : Prop := -9223372036854775808 ≤ x ∧ x ≤ 9223372036854775807
/-- How far from 0, squared. -/
def normZ (x y : Int) : Int := x * x + y * y
def cmpZ (a b : Int) : Int := if a < b then -1 else if b < a then 1 else 0
/-- The order of points. -/
def cmpP (x y u v : Int) : Int := if normZ x y = normZ u v then (if x = u then cmpZ y v else cmpZ x u) else cmpZ (normZ x y) (normZ u v)
def nearZ (x : Int) : Prop := -2097152 ≤ x ∧ x ≤ 2097152
def ptRight (x y : Int) : Bool := decide (-1048576 ≤ x ∧ x ≤ 1048576 ∧ -1048576 ≤ y ∧ y ≤ 1048576)

set_option maxHeartbeats 400000 in
theorem of_prog (x y : Int) (W : World) : Calls Try.prog 114 #[ptVal x y] W fun e W' => e = .returned (.complex .f64 (floatOfInt .f64 x) (floatOfInt .f64 y)) ∧ Keep [] W W' := by
  go_enter Try.func114, Try.ntmps114
  go_wp2
  go_ret
  exact ⟨rfl, (Keep.refl _ _).alloc _⟩

set_option maxHeartbeats 400000 in
theorem norm_prog (x y : Int) (W : World) (hx : nearZ x) (hy : nearZ y) : Calls Try.prog 104 #[ptVal x y] W fun e W' => e = .returned (.int .i64 (normZ x y)) ∧ Keep [] W W' := by
  unfold nearZ at hx hy
  obtain ⟨re, im, hm, hv⟩ := norm_bits (fv_ofInt x (by omega)) (fv_ofInt y (by omega)) hx hy
  have hb1 : (x * x).natAbs ≤ 4398046511104 := by rw [Int.natAbs_mul]; exact Nat.mul_le_mul (by omega : x.natAbs ≤ 2097152) (by omega : x.natAbs ≤ 2097152)
  have hb2 : (y * y).natAbs ≤ 4398046511104 := by rw [Int.natAbs_mul]; exact Nat.mul_le_mul (by omega : y.natAbs ≤ 2097152) (by omega : y.natAbs ≤ 2097152)
  have hti := fv_toInt hv (by omega)
  have hmul := fun w => run_complex_mul (P := Try.prog) w 128 _ _ _ _ re im hm
  have hconv := fun w => run_convert_float_int (P := Try.prog) w 130 3 .f64 .i64 re _ (by kernel_rfl) Try.underlying3 hti
  have hn : x * x + y * y = normZ x y := rfl
  rw [hn] at hconv
  have hneg : ∀ w, (Op.unary .neg (.float .f64 (floatOfInt .f64 y))).run Try.prog w = .ok (.float .f64 (Op.negFloat .f64 (floatOfInt .f64 y))) w := fun _ => rfl
  have C := fun w => of_prog x y w
  clear hm hv hti hb1 hb2 hn hx hy
  generalize normZ x y = nn at *
  generalize floatOfInt .f64 y = fy at *
  generalize floatOfInt .f64 x = fx at *
  replace C := Lib.hid C
  go_enter Try.func104, Try.ntmps104
  go_wp2_with fail
  refine (C.out _).mono ?_
  rintro e w1 ⟨rfl, hk1⟩
  go_wp2
  go_ret
  exact ⟨rfl, ((Keep.refl _ _).alloc _).trans hk1⟩

set_option maxHeartbeats 400000 in
theorem in_prog (x : Int) (W : World) (hx : isI64 x) : Calls Try.prog 100 #[.int .i64 x, .int .i64 1048576] W fun e W' => e = .returned (.bool (decide (-1048576 ≤ x ∧ x ≤ 1048576))) ∧ W = W' := by
  unfold isI64 at hx
  by_cases h1 : -1048576 ≤ x
  · by_cases h2 : x ≤ 1048576
    · have hv : decide (-1048576 ≤ x ∧ x ≤ 1048576) = true := decide_eq_true ⟨h1, h2⟩
      rw [hv]
      go_enter Try.func100, Try.ntmps100
      go_wp2
      go_ret
      exact ⟨rfl, rfl⟩
    · have hv : decide (-1048576 ≤ x ∧ x ≤ 1048576) = false := decide_eq_false (by omega)
      rw [hv]
      go_enter Try.func100, Try.ntmps100
      go_wp2
      go_ret
      exact ⟨rfl, rfl⟩
  · have hv : decide (-1048576 ≤ x ∧ x ≤ 1048576) = false := decide_eq_false (by omega)
    rw [hv]
    go_enter Try.func100, Try.ntmps100
    go_wp2
    go_ret
    exact ⟨rfl, rfl⟩

set_option maxHeartbeats 400000 in
theorem ptRight_prog (x y : Int) (W : World) (hx : isI64 x) (hy : isI64 y) : Calls Try.prog 80 #[ptVal x y] W fun e W' => e = .returned (.bool (ptRight x y)) ∧ Keep [] W W' := by
  have hp : ptRight x y = (decide (-1048576 ≤ x ∧ x ≤ 1048576) && decide (-1048576 ≤ y ∧ y ≤ 1048576)) := by
    unfold ptRight
    rw [Bool.eq_iff_iff]
    simp
    omega
  rw [hp]
  have C1 := in_prog x (W.alloc (.cells #[.int .i64 x, .int .i64 y] 48)) hx
  have C2 := in_prog y (W.alloc (.cells #[.int .i64 x, .int .i64 y] 48)) hy
  generalize decide (-1048576 ≤ x ∧ x ≤ 1048576) = v1 at *
  generalize decide (-1048576 ≤ y ∧ y ≤ 1048576) = v2 at *
  replace C1 := Lib.hid C1
  replace C2 := Lib.hid C2
  clear hp hx hy
  cases v1 with
  | false =>
    go_enter Try.func80, Try.ntmps80
    go_wp2_with fail
    refine C1.out.mono ?_
    rintro e w1 ⟨rfl, rfl⟩
    go_wp2
    go_ret
    exact ⟨rfl, (Keep.refl _ _).alloc _⟩
  | true =>
    rw [Bool.true_and]
    go_enter Try.func80, Try.ntmps80
    go_wp2_with fail
    refine C1.out.mono ?_
    rintro e w1 ⟨rfl, rfl⟩
    go_wp2_with fail
    refine C2.out.mono ?_
    rintro e w1 ⟨rfl, rfl⟩
    go_wp2
    go_ret
    exact ⟨rfl, (Keep.refl _ _).alloc _⟩

set_option maxHeartbeats 400000 in
theorem compare_int (x y : Int) (W : World) : Calls Try.prog 81 #[.int .i64 x, .int .i64 y] W fun e W' => e = .returned (.int .i64 (cmpZ x y)) ∧ W = W' := by
  obtain ⟨v, hv⟩ : ∃ v, Hid (cmpZ x y = v) := ⟨_, rfl⟩
  rw [hv.out]
  rcases Int.lt_trichotomy x y with h | h | h
  · have hv' : Hid (v = -1) := by rw [Hid, ← hv.out]; unfold cmpZ; rw [if_pos h]
    go_enter Try.func81, Try.ntmps81
    go_wp2
    go_ret
    exact ⟨ret_i (by rw [hv'.out]), rfl⟩
  · have hv' : Hid (v = 0) := by rw [Hid, ← hv.out]; unfold cmpZ; rw [if_neg (by omega), if_neg (by omega)]
    subst h
    go_enter Try.func81, Try.ntmps81
    go_wp2
    go_ret
    exact ⟨ret_i (by rw [hv'.out]), rfl⟩
  · have hv' : Hid (v = 1) := by rw [Hid, ← hv.out]; unfold cmpZ; rw [if_neg (by omega), if_pos h]
    have h2 : ¬ x < y := by omega
    go_enter Try.func81, Try.ntmps81
    go_wp2
    go_ret
    exact ⟨ret_i (by rw [hv'.out]), rfl⟩

/-- The first that is not 0. -/
def firstOf : List Int → Int
  | [] => 0
  | x :: l => if x = 0 then firstOf l else x
theorem firstOf_drop : ∀ (l : List Int) (k : Nat), (∀ x ∈ l.take k, x = 0) → firstOf l = firstOf (l.drop k)
  | _, 0, _ => rfl
  | [], k + 1, _ => by simp
  | x :: l, k + 1, h => by
    rw [firstOf, if_pos (h x (by simp)), firstOf_drop l k (fun y hy => h y (by simp [hy]))]
    rfl

set_option maxHeartbeats 400000 in
theorem or_prog {X : List Nat} {A : Option Addr} {n c : Nat} {l : List Int} (W : World) (h : Ints X W A n c l) :
    Calls Try.prog 103 #[.slice A n c] W fun e W' => e = .returned (.int .i64 (firstOf l)) ∧ W = W' := by
  have hc := h.cap
  have hnc := h.le
  obtain rfl := h.len1
  go_enter Try.func103, Try.ntmps103
  go_wp2
  go_loop [8] (fun i => ∃ k : Nat, k ≤ l.length ∧ i = .int .i64 k ∧ Hid (∀ x ∈ l.take k, x = 0)) (fun i => l.length - (intOf i).toNat)
  case atStart => exact ⟨0, by omega, rfl, by simp [Hid]⟩
  case round =>
    obtain ⟨k, hk, rfl, HZ⟩ := hrel
    have hfd := Lib.hid (firstOf_drop l k HZ.out)
    by_cases hlt : k < l.length
    · obtain ⟨b, off, rfl, _, _, hcell⟩ := h.one hlt
      unfold vInt at hcell
      have hdk : l.drop k = l[k] :: l.drop (k + 1) := List.drop_eq_getElem_cons hlt
      have htk : l.take (k + 1) = l.take k ++ [l[k]] := List.take_succ_eq_append_getElem hlt
      by_cases h0 : l[k] = 0
      · have HZ2 : Hid (∀ x ∈ l.take (k + 1), x = 0) := by
          intro x hx
          rw [htk] at hx
          rcases List.mem_append.1 hx with h1 | h1
          · exact HZ.out x h1
          · rw [List.mem_singleton.1 h1, h0]
        clear hdk htk
        rw [h0] at hcell
        clear h0
        go_wp2
        go_round
        case rel => exact ⟨k + 1, by omega, by go_num, HZ2⟩
        case measure => simp [intOf]; omega
      · have hr : Hid (firstOf l = l[k]) := by rw [Hid, hfd.out, hdk, firstOf, if_neg h0]
        have hne : ((l[k] : Int) != 0) = true := by rw [bne_iff_ne]; exact h0
        clear hdk htk
        generalize l[k] = z at *
        go_wp2
        go_ret
        exact ⟨ret_i (by rw [hr.out]), rfl⟩
    · obtain rfl : k = l.length := by omega
      have hr : Hid (firstOf l = 0) := by rw [Hid, hfd.out]; simp [firstOf]
      go_wp2
      go_ret
      exact ⟨ret_i (by rw [hr.out]), rfl⟩
end Go.Proofs.Ytcpimhefclfbaaa

namespace Go.Proofs
open Go.Shelf
def Try.lays106_ren : Go.Shelf.Ren := ⟨fun | 106 => 82 | 213 => 102 | 265 => 113 | n => n, fun | 3 => 3 | 9 => 9 | n => n, fun | n => n⟩
theorem Try.lays106 : Go.Proofs.Lays.n106 Try.prog Try.lays106_ren := {
  mixed := by kernel_rfl
  f106 := Try.func82.trans (congrArg some (by kernel_rfl))
  f213 := Try.func102.trans (congrArg some (by kernel_rfl))
  f265 := Try.func113.trans (congrArg some (by kernel_rfl))
  t3 := Try.underlying3
  a3 := Try.isAgg3
  z3 := Try.sizeOf3
  v3 := Try.zeroValue3
  t9 := Try.underlying9
  a9 := Try.isAgg9
  z9 := Try.sizeOf9
  v9 := Try.zeroValue9 }
theorem Try.strings_Compare (a b : ByteArray) (w : World) :
    Calls Try.prog 82 #[.string a, .string b] w fun e w' => e = .returned (.int .i64 (Lib.compareBytes a.data.toList b.data.toList)) ∧ w' = w := Any.strings_Compare Try.lays106 a b w

namespace Ytcpimhefclfbaaa
open Lib
/-- The order of strings. -/
def cmpS (a b : ByteArray) : Int := compareBytes a.data.toList b.data.toList

theorem cmpB_lt : ∀ (a b : List UInt8), compareBytes a b = if a < b then -1 else if a = b then 0 else 1
  | [], [] => by simp [compareBytes]
  | [], b :: y => by simp [compareBytes]
  | a :: x, [] => by simp [compareBytes]
  | a :: x, b :: y => by
    rw [compareBytes, cmpB_lt x y]
    by_cases h1 : a < b
    · rw [if_pos h1, if_pos (List.cons_lt_cons_iff.2 (.inl h1))]
    · rw [if_neg h1]
      by_cases h2 : b < a
      · have hne : a ≠ b := fun h => by subst h; exact absurd h2 (UInt8.lt_irrefl _)
        rw [if_pos h2, if_neg (fun h => (List.cons_lt_cons_iff.1 h).elim h1 (fun h => hne h.1)), if_neg (fun h => hne (List.cons.inj h).1)]
      · have he : a = b := UInt8.le_antisymm (UInt8.not_lt.1 h2) (UInt8.not_lt.1 h1)
        subst he
        rw [if_neg h2]
        simp only [List.cons_lt_cons_iff, UInt8.lt_irrefl, true_and, false_or, List.cons.injEq]
theorem cmpS_def (a b : ByteArray) : cmpS a b = if a.data.toList < b.data.toList then -1 else if a = b then 0 else 1 := by
  rw [cmpS, cmpB_lt]
  have : (a.data.toList = b.data.toList) = (a = b) := by
    apply propext
    refine ⟨fun h => ?_, fun h => by rw [h]⟩
    cases a; cases b
    exact congrArg _ (Array.toList_inj.1 h)
  simp only [this]
theorem less_eq (a b : ByteArray) : Op.bytesLess a.toList b.toList = decide (a.data.toList < b.data.toList) := by
  rw [bytesLess_eq, toList_data, toList_data]
theorem cmpS_lt {a b : ByteArray} (h : cmpS a b < 0) : cmpS a b = -1 ∧ Op.bytesLess a.toList b.toList = true := by
  rw [cmpS_def] at h ⊢
  rw [less_eq]
  by_cases h1 : a.data.toList < b.data.toList
  · simp [h1]
  · rw [if_neg h1] at h
    split at h <;> omega
theorem cmpS_swap (a b : ByteArray) : cmpS b a = - cmpS a b := by
  rw [cmpS_def, cmpS_def]
  by_cases h1 : a.data.toList < b.data.toList
  · have h2 : ¬ b.data.toList < a.data.toList := List.lt_asymm h1
    have h3 : b ≠ a := fun h => by subst h; exact h2 h1
    rw [if_neg h2, if_neg h3, if_pos h1]; rfl
  · rw [if_neg h1]
    by_cases h2 : b.data.toList < a.data.toList
    · have h3 : a ≠ b := fun h => by subst h; exact h1 h2
      rw [if_pos h2, if_neg h3]
    · have h3 : a.data.toList = b.data.toList := List.le_antisymm (List.not_lt.1 h2) (List.not_lt.1 h1)
      have : a = b := by cases a; cases b; exact congrArg _ (Array.toList_inj.1 h3)
      subst this
      simp [h1]
theorem cmpS_zero {a b : ByteArray} : cmpS a b = 0 ↔ a = b := by
  rw [cmpS_def]
  by_cases h1 : a.data.toList < b.data.toList
  · rw [if_pos h1]
    refine ⟨fun h => by omega, fun h => ?_⟩
    subst h
    exact absurd h1 (List.lt_irrefl _)
  · rw [if_neg h1]
    split <;> simp_all
theorem cmpS_le (a b : ByteArray) : cmpS a b ≤ 0 ↔ a.data.toList ≤ b.data.toList := by
  have h := cmpS_swap a b
  rw [← List.not_lt]
  refine ⟨fun h1 h2 => ?_, fun h1 => ?_⟩
  · rw [cmpS_def b a, if_pos h2] at h; omega
  · rw [cmpS_def b a, if_neg h1] at h
    split at h <;> omega
theorem cmpS_trans {a b c : ByteArray} (h1 : cmpS a b ≤ 0) (h2 : cmpS b c ≤ 0) : cmpS a c ≤ 0 := by
  rw [cmpS_le] at *
  exact List.le_trans h1 h2
end Ytcpimhefclfbaaa
end Go.Proofs

namespace Go.Proofs.Ytcpimhefclfbaaa
open Go Go.RowKit
set_option maxRecDepth 10000
set_option linter.unusedVariables false
set_option linter.unusedSimpArgs false

theorem firstOf_cmp (x y u v : Int) : firstOf [cmpZ (normZ x y) (normZ u v), cmpZ x u, cmpZ y v] = cmpP x y u v := by
  unfold cmpP firstOf firstOf firstOf firstOf
  unfold cmpZ
  split <;> split <;> split <;> (try split) <;> (try split) <;> (try split) <;> omega

set_option maxHeartbeats 4000000 in
theorem ptCompare_prog (x y u v : Int) (W : World) (hx : nearZ x) (hy : nearZ y) (hu : nearZ u) (hv : nearZ v) :
    Calls Try.prog 83 #[ptVal x y, ptVal u v] W fun e W' => e = .returned (.int .i64 (cmpP x y u v)) ∧ Keep [] W W' := by
  have hfc := Lib.hid (firstOf_cmp x y u v)
  go_enter Try.func83, Try.ntmps83
  go_wp2
  obtain ⟨W2, hW2⟩ : ∃ W2, (W.alloc (.cells #[.int .i64 x, .int .i64 y] 48)).alloc (.cells #[.int .i64 u, .int .i64 v] 48) = W2 := ⟨_, rfl⟩
  have hkW : Keep [] W W2 := by rw [← hW2]; exact ((Keep.refl _ _).alloc _).alloc _
  have hb1 : Blk W2 W.heap.size 48 [.int .i64 x, .int .i64 y] := by rw [← hW2]; exact (Blk.new W 48 [.int .i64 x, .int .i64 y]).alloc _
  have hb2 : Blk W2 (W.heap.size + 1) 48 [.int .i64 u, .int .i64 v] := by
    rw [← hW2]
    have := Blk.new (W.alloc (.cells #[.int .i64 x, .int .i64 y] 48)) 48 [.int .i64 u, .int .i64 v]
    rwa [World.size_alloc] at this
  rw [hW2]
  have hl : ∀ w, Keep [] W2 w → w.cell? ⟨W.heap.size, 0, none⟩ = some (.int .i64 x) ∧ w.cell? ⟨W.heap.size, 1, none⟩ = some (.int .i64 y) ∧ w.cell? ⟨W.heap.size + 1, 0, none⟩ = some (.int .i64 u) ∧ w.cell? ⟨W.heap.size + 1, 1, none⟩ = some (.int .i64 v) := fun w hS =>
    ⟨(hb1.keep hS (by simp)).cell 0, (hb1.keep hS (by simp)).cell 1, (hb2.keep hS (by simp)).cell 0, (hb2.keep hS (by simp)).cell 1⟩
  refine wp_region_conf (S := fun w => Keep [] W2 w) 15 (by kernel_rfl) (by kernel_rfl) ((Keep.refl _ _).drew) ?_
  simp only [List.take_succ_cons, List.take_zero, List.drop_succ_cons, List.drop_zero]
  refine conf_value (ptVal x y) rfl (fun w hS => ?_) ?_
  · obtain ⟨c1, c2, c3, c4⟩ := hl w hS
    go_simp
  simp only [Act.put, List.setIfInBounds_toArray, List.set_cons_succ, List.set_cons_zero]
  refine conf_call (.int .i64 (normZ x y)) 104 #[ptVal x y] rfl (fun w hS => by go_simp) (fun w hS => (norm_prog x y w hx hy).mono fun e w' ⟨h1, h2⟩ => ⟨h1, hS.trans h2⟩) ?_
  simp only [Act.put, List.setIfInBounds_toArray, List.set_cons_succ, List.set_cons_zero]
  refine conf_value (ptVal u v) rfl (fun w hS => ?_) ?_
  · obtain ⟨c1, c2, c3, c4⟩ := hl w hS
    go_simp
  simp only [Act.put, List.setIfInBounds_toArray, List.set_cons_succ, List.set_cons_zero]
  refine conf_call (.int .i64 (normZ u v)) 104 #[ptVal u v] rfl (fun w hS => by go_simp) (fun w hS => (norm_prog u v w hu hv).mono fun e w' ⟨h1, h2⟩ => ⟨h1, hS.trans h2⟩) ?_
  simp only [Act.put, List.setIfInBounds_toArray, List.set_cons_succ, List.set_cons_zero]
  refine conf_call (.int .i64 (cmpZ (normZ x y) (normZ u v))) 81 #[.int .i64 (normZ x y), .int .i64 (normZ u v)] rfl (fun w hS => by go_simp) (fun w hS => (compare_int (normZ x y) (normZ u v) w).mono fun e w' ⟨h1, h2⟩ => ⟨h1, h2 ▸ hS⟩) ?_
  simp only [Act.put, List.setIfInBounds_toArray, List.set_cons_succ, List.set_cons_zero]
  refine conf_value (.pointer (some ⟨W.heap.size, 0, none⟩)) rfl (fun w hS => ?_) ?_
  · obtain ⟨c1, c2, c3, c4⟩ := hl w hS
    go_simp
  simp only [Act.put, List.setIfInBounds_toArray, List.set_cons_succ, List.set_cons_zero]
  refine conf_value (.int .i64 x) rfl (fun w hS => ?_) ?_
  · obtain ⟨c1, c2, c3, c4⟩ := hl w hS
    go_simp
  simp only [Act.put, List.setIfInBounds_toArray, List.set_cons_succ, List.set_cons_zero]
  refine conf_value (.pointer (some ⟨W.heap.size + 1, 0, none⟩)) rfl (fun w hS => ?_) ?_
  · obtain ⟨c1, c2, c3, c4⟩ := hl w hS
    go_simp
  simp only [Act.put, List.setIfInBounds_toArray, List.set_cons_succ, List.set_cons_zero]
  refine conf_value (.int .i64 u) rfl (fun w hS => ?_) ?_
  · obtain ⟨c1, c2, c3, c4⟩ := hl w hS
    go_simp
  simp only [Act.put, List.setIfInBounds_toArray, List.set_cons_succ, List.set_cons_zero]
  refine conf_call (.int .i64 (cmpZ (x) (u))) 81 #[.int .i64 (x), .int .i64 (u)] rfl (fun w hS => by go_simp) (fun w hS => (compare_int (x) (u) w).mono fun e w' ⟨h1, h2⟩ => ⟨h1, h2 ▸ hS⟩) ?_
  simp only [Act.put, List.setIfInBounds_toArray, List.set_cons_succ, List.set_cons_zero]
  refine conf_value (.pointer (some ⟨W.heap.size, 1, none⟩)) rfl (fun w hS => ?_) ?_
  · obtain ⟨c1, c2, c3, c4⟩ := hl w hS
    go_simp
  simp only [Act.put, List.setIfInBounds_toArray, List.set_cons_succ, List.set_cons_zero]
  refine conf_value (.int .i64 y) rfl (fun w hS => ?_) ?_
  · obtain ⟨c1, c2, c3, c4⟩ := hl w hS
    go_simp
  simp only [Act.put, List.setIfInBounds_toArray, List.set_cons_succ, List.set_cons_zero]
  refine conf_value (.pointer (some ⟨W.heap.size + 1, 1, none⟩)) rfl (fun w hS => ?_) ?_
  · obtain ⟨c1, c2, c3, c4⟩ := hl w hS
    go_simp
  simp only [Act.put, List.setIfInBounds_toArray, List.set_cons_succ, List.set_cons_zero]
  refine conf_value (.int .i64 v) rfl (fun w hS => ?_) ?_
  · obtain ⟨c1, c2, c3, c4⟩ := hl w hS
    go_simp
  simp only [Act.put, List.setIfInBounds_toArray, List.set_cons_succ, List.set_cons_zero]
  refine conf_call (.int .i64 (cmpZ (y) (v))) 81 #[.int .i64 (y), .int .i64 (v)] rfl (fun w hS => by go_simp) (fun w hS => (compare_int (y) (v) w).mono fun e w' ⟨h1, h2⟩ => ⟨h1, h2 ▸ hS⟩) ?_
  simp only [Act.put, List.setIfInBounds_toArray, List.set_cons_succ, List.set_cons_zero]
  refine conf_nil (fun w3 hS3 => ?_)
  have hbk := Blk.new w3 3 [.int .i64 (cmpZ (normZ x y) (normZ u v)), .int .i64 (cmpZ x u), .int .i64 (cmpZ y v)]
  have hor := or_prog (X := []) (n := 3) (c := 3) (l := [cmpZ (normZ x y) (normZ u v), cmpZ x u, cmpZ y v]) _ (hbk.rd (by simp) rfl (by omega) (by simp [maxLen]) rfl)
  rw [hfc.out] at hor
  replace hor := Lib.hid hor
  clear hbk
  go_wp2_with fail
  refine hor.out.mono ?_
  rintro e w4 ⟨rfl, rfl⟩
  go_wp2
  go_ret
  exact ⟨rfl, (hkW.trans hS3).alloc _⟩

set_option maxHeartbeats 400000 in
theorem normRef (x y : Int) (W : World) (hx : nearZ x) (hy : nearZ y) : Calls Try.prog 107 #[ptVal x y] W fun e W' => e = .returned (.int .i64 (normZ x y)) ∧ Keep [] W W' := by
  unfold nearZ at hx hy
  have hb1 : (x * x).natAbs ≤ 4398046511104 := by rw [Int.natAbs_mul]; exact Nat.mul_le_mul (by omega : x.natAbs ≤ 2097152) (by omega : x.natAbs ≤ 2097152)
  have hb2 : (y * y).natAbs ≤ 4398046511104 := by rw [Int.natAbs_mul]; exact Nat.mul_le_mul (by omega : y.natAbs ≤ 2097152) (by omega : y.natAbs ≤ 2097152)
  have h1 : -9223372036854775808 ≤ x * x ∧ x * x ≤ 4398046511104 := by omega
  have h2 : -9223372036854775808 ≤ y * y ∧ y * y ≤ 4398046511104 := by omega
  have hw1 : IntKind.i64.wrap (x * x) = x * x := IntWalk.i64_in _ (by omega)
  have hw2 : IntKind.i64.wrap (y * y) = y * y := IntWalk.i64_in _ (by omega)
  have hw3 : IntKind.i64.wrap (x * x + y * y) = x * x + y * y := IntWalk.i64_in _ (by omega)
  go_enter Try.func107, Try.ntmps107
  go_wp2
  go_ret
  exact ⟨rfl, (Keep.refl _ _).alloc _⟩

set_option maxHeartbeats 400000 in
theorem sign_ref (x y : Int) (W : World) : Calls Try.prog 108 #[.int .i64 x, .int .i64 y] W fun e W' => e = .returned (.int .i64 (cmpZ x y)) ∧ W = W' := by
  obtain ⟨v, hv⟩ : ∃ v, Hid (cmpZ x y = v) := ⟨_, rfl⟩
  rw [hv.out]
  rcases Int.lt_trichotomy x y with h | h | h
  · have hv' : Hid (v = -1) := by rw [Hid, ← hv.out]; unfold cmpZ; rw [if_pos h]
    go_enter Try.func108, Try.ntmps108
    go_wp2
    go_ret
    exact ⟨ret_i (by rw [hv'.out]), rfl⟩
  · have hv' : Hid (v = 0) := by rw [Hid, ← hv.out]; unfold cmpZ; rw [if_neg (by omega), if_neg (by omega)]
    subst h
    go_enter Try.func108, Try.ntmps108
    go_wp2
    go_ret
    exact ⟨ret_i (by rw [hv'.out]), rfl⟩
  · have hv' : Hid (v = 1) := by rw [Hid, ← hv.out]; unfold cmpZ; rw [if_neg (by omega), if_pos h]
    have h2 : ¬ x < y := by omega
    go_enter Try.func108, Try.ntmps108
    go_wp2
    go_ret
    exact ⟨ret_i (by rw [hv'.out]), rfl⟩

set_option maxHeartbeats 400000 in
theorem ptRight_ref (x y : Int) (W : World) : Calls Try.prog 90 #[ptVal x y] W fun e W' => e = .returned (.bool (ptRight x y)) ∧ Keep [] W W' := by
  obtain ⟨v, hv⟩ : ∃ v, Hid (ptRight x y = v) := ⟨_, rfl⟩
  rw [hv.out]
  have hf : ¬ (-1048576 ≤ x ∧ x ≤ 1048576 ∧ -1048576 ≤ y ∧ y ≤ 1048576) → Hid (v = false) := fun h => by
    rw [Hid, ← hv.out]; exact decide_eq_false h
  have ht : (-1048576 ≤ x ∧ x ≤ 1048576 ∧ -1048576 ≤ y ∧ y ≤ 1048576) → Hid (v = true) := fun h => by
    rw [Hid, ← hv.out]; exact decide_eq_true h
  rcases (show x < -1048576 ∨ 1048576 < x ∨ (-1048576 ≤ x ∧ x ≤ 1048576) by omega) with h | h | ⟨h1, h2⟩
  · have hvv := hf (by omega)
    clear hf ht hv
    have h' : ¬ -1048576 ≤ x := by omega
    go_enter Try.func90, Try.ntmps90
    go_wp2
    go_ret
    exact ⟨ret_b (by rw [hvv.out]), (Keep.refl _ _).alloc _⟩
  · have hvv := hf (by omega)
    clear hf ht hv
    have h' : -1048576 ≤ x := by omega
    have h'' : ¬ x ≤ 1048576 := by omega
    go_enter Try.func90, Try.ntmps90
    go_wp2
    go_ret
    exact ⟨ret_b (by rw [hvv.out]), (Keep.refl _ _).alloc _⟩
  · rcases (show y < -1048576 ∨ 1048576 < y ∨ (-1048576 ≤ y ∧ y ≤ 1048576) by omega) with h | h | ⟨h3, h4⟩
    · have hvv := hf (by omega)
      clear hf ht hv
      have h' : ¬ -1048576 ≤ y := by omega
      go_enter Try.func90, Try.ntmps90
      go_wp2
      go_ret
      exact ⟨ret_b (by rw [hvv.out]), (Keep.refl _ _).alloc _⟩
    · have hvv := hf (by omega)
      clear hf ht hv
      have h' : -1048576 ≤ y := by omega
      have h'' : ¬ y ≤ 1048576 := by omega
      go_enter Try.func90, Try.ntmps90
      go_wp2
      go_ret
      exact ⟨ret_b (by rw [hvv.out]), (Keep.refl _ _).alloc _⟩
    · have hvv := ht (by omega)
      clear hf ht hv
      go_enter Try.func90, Try.ntmps90
      go_wp2
      go_ret
      exact ⟨ret_b (by rw [hvv.out]), (Keep.refl _ _).alloc _⟩
end Go.Proofs.Ytcpimhefclfbaaa

namespace Go.Proofs.Ytcpimhefclfbaaa
open Go Go.RowKit
set_option maxRecDepth 10000
set_option linter.unusedVariables false
set_option linter.unusedSimpArgs false

set_option maxHeartbeats 4000000 in
theorem ptCompare_ref (x y u v : Int) (W : World) (hx : nearZ x) (hy : nearZ y) (hu : nearZ u) (hv : nearZ v) :
    Calls Try.prog 92 #[ptVal x y, ptVal u v] W fun e W' => e = .returned (.int .i64 (cmpP x y u v)) ∧ Keep [] W W' := by
  obtain ⟨z, hz⟩ : ∃ z, Hid (cmpP x y u v = z) := ⟨_, rfl⟩
  rw [hz.out]
  have z1 : normZ x y ≠ normZ u v → Hid (z = cmpZ (normZ x y) (normZ u v)) := fun h => by rw [Hid, ← hz.out]; unfold cmpP; rw [if_neg h]
  have z2 : normZ x y = normZ u v → x ≠ u → Hid (z = cmpZ x u) := fun h h' => by rw [Hid, ← hz.out]; unfold cmpP; rw [if_pos h, if_neg h']
  have z3 : normZ x y = normZ u v → x = u → Hid (z = cmpZ y v) := fun h h' => by rw [Hid, ← hz.out]; unfold cmpP; rw [if_pos h, if_pos h']
  obtain ⟨W2, hW2⟩ : ∃ W2, (W.alloc (.cells #[.int .i64 x, .int .i64 y] 48)).alloc (.cells #[.int .i64 u, .int .i64 v] 48) = W2 := ⟨_, rfl⟩
  have hkW : Keep [] W W2 := by rw [← hW2]; exact ((Keep.refl _ _).alloc _).alloc _
  have hb1 : Blk W2 W.heap.size 48 [.int .i64 x, .int .i64 y] := by rw [← hW2]; exact (Blk.new W 48 [.int .i64 x, .int .i64 y]).alloc _
  have hb2 : Blk W2 (W.heap.size + 1) 48 [.int .i64 u, .int .i64 v] := by
    rw [← hW2]
    have := Blk.new (W.alloc (.cells #[.int .i64 x, .int .i64 y] 48)) 48 [.int .i64 u, .int .i64 v]
    rwa [World.size_alloc] at this
  have hl : ∀ w, Keep [] W2 w → w.cell? ⟨W.heap.size, 0, none⟩ = some (.int .i64 x) ∧ w.cell? ⟨W.heap.size, 1, none⟩ = some (.int .i64 y) ∧ w.cell? ⟨W.heap.size + 1, 0, none⟩ = some (.int .i64 u) ∧ w.cell? ⟨W.heap.size + 1, 1, none⟩ = some (.int .i64 v) := fun w hS =>
    ⟨(hb1.keep hS (by simp)).cell 0, (hb1.keep hS (by simp)).cell 1, (hb2.keep hS (by simp)).cell 0, (hb2.keep hS (by simp)).cell 1⟩
  go_enter Try.func92, Try.ntmps92
  go_wp2
  refine wp_region_conf (S := fun w => Keep [] W2 w) 4 (by kernel_rfl) (by kernel_rfl) ((Keep.refl _ _).drew) ?_
  simp only [List.take_succ_cons, List.take_zero, List.drop_succ_cons, List.drop_zero]
  refine conf_value (ptVal x y) rfl (fun w hS => ?_) ?_
  · obtain ⟨c1, c2, c3, c4⟩ := hl w hS
    go_simp
  simp only [Act.put, List.setIfInBounds_toArray, List.set_cons_succ, List.set_cons_zero]
  refine conf_call (.int .i64 (normZ x y)) 107 #[ptVal x y] rfl (fun w hS => by go_simp) (fun w hS => (normRef x y w hx hy).mono fun e w' ⟨h1, h2⟩ => ⟨h1, hS.trans h2⟩) ?_
  simp only [Act.put, List.setIfInBounds_toArray, List.set_cons_succ, List.set_cons_zero]
  refine conf_value (ptVal u v) rfl (fun w hS => ?_) ?_
  · obtain ⟨c1, c2, c3, c4⟩ := hl w hS
    go_simp
  simp only [Act.put, List.setIfInBounds_toArray, List.set_cons_succ, List.set_cons_zero]
  refine conf_call (.int .i64 (normZ u v)) 107 #[ptVal u v] rfl (fun w hS => by go_simp) (fun w hS => (normRef u v w hu hv).mono fun e w' ⟨h1, h2⟩ => ⟨h1, hS.trans h2⟩) ?_
  simp only [Act.put, List.setIfInBounds_toArray, List.set_cons_succ, List.set_cons_zero]
  refine conf_nil (fun w3 hS3 => ?_)
  obtain ⟨c1, c2, c3, c4⟩ := hl w3 hS3
  by_cases hn : normZ x y = normZ u v
  · have hne : (normZ x y != normZ u v) = false := by simp [hn]
    by_cases hxu : x = u
    · have hne2 : (x != u) = false := by simp [hxu]
      have zz := z3 hn hxu
      replace hn := Lib.hid hn
      replace hxu := Lib.hid hxu
      clear z1 z2 z3
      go_wp2_with fail
      refine (sign_ref y v w3).mono ?_
      rintro e w4 ⟨rfl, rfl⟩
      go_wp2
      go_ret
      exact ⟨ret_i (by rw [zz.out]), hkW.trans hS3⟩
    · have hne2 : (x != u) = true := by rw [bne_iff_ne]; exact hxu
      have zz := z2 hn hxu
      replace hn := Lib.hid hn
      replace hxu := Lib.hid hxu
      clear z1 z2 z3
      go_wp2_with fail
      refine (sign_ref x u w3).mono ?_
      rintro e w4 ⟨rfl, rfl⟩
      go_wp2
      go_ret
      exact ⟨ret_i (by rw [zz.out]), hkW.trans hS3⟩
  · have hne : (normZ x y != normZ u v) = true := by rw [bne_iff_ne]; exact hn
    have zz := z1 hn
    replace hn := Lib.hid hn
    clear z1 z2 z3
    go_wp2
    refine wp_region_conf (S := fun w => Keep [] W2 w) 4 (by kernel_rfl) (by kernel_rfl) (hS3.drew) ?_
    simp only [List.take_succ_cons, List.take_zero, List.drop_succ_cons, List.drop_zero]
    refine conf_value (ptVal x y) rfl (fun w hS => ?_) ?_
    · obtain ⟨c1, c2, c3, c4⟩ := hl w hS
      go_simp
    simp only [Act.put, List.setIfInBounds_toArray, List.set_cons_succ, List.set_cons_zero]
    refine conf_call (.int .i64 (normZ x y)) 107 #[ptVal x y] rfl (fun w hS => by go_simp) (fun w hS => (normRef x y w hx hy).mono fun e w' ⟨h1, h2⟩ => ⟨h1, hS.trans h2⟩) ?_
    simp only [Act.put, List.setIfInBounds_toArray, List.set_cons_succ, List.set_cons_zero]
    refine conf_value (ptVal u v) rfl (fun w hS => ?_) ?_
    · obtain ⟨c1, c2, c3, c4⟩ := hl w hS
      go_simp
    simp only [Act.put, List.setIfInBounds_toArray, List.set_cons_succ, List.set_cons_zero]
    refine conf_call (.int .i64 (normZ u v)) 107 #[ptVal u v] rfl (fun w hS => by go_simp) (fun w hS => (normRef u v w hu hv).mono fun e w' ⟨h1, h2⟩ => ⟨h1, hS.trans h2⟩) ?_
    simp only [Act.put, List.setIfInBounds_toArray, List.set_cons_succ, List.set_cons_zero]
    refine conf_nil (fun w5 hS5 => ?_)
    go_wp2_with fail
    refine (sign_ref (normZ x y) (normZ u v) w5).mono ?_
    rintro e w6 ⟨rfl, rfl⟩
    go_wp2
    go_ret
    exact ⟨ret_i (by rw [zz.out]), hkW.trans hS5⟩
end Go.Proofs.Ytcpimhefclfbaaa
