/-
  Spans of rows, as plain laws: no program here.
-/
import Derived.Test.YtcpimhefclfbaaaGreatDoorBase
namespace Go.Proofs.YtcpimhefclfbaaaGreatDoor
open Go Go.RowKit
set_option maxRecDepth 10000
set_option linter.unusedVariables false
set_option linter.unusedSimpArgs false

/-- Spans from a place on. -/
def cutF : Nat → Int → Int → Int → List (Int × Int)
  | 0, _, _, _ => []
  | f + 1, a, t, s => if a < t then (a, a + min s (t - a)) :: cutF f (a + min s (t - a)) t s else []
theorem cutF_fuel {t s : Int} (hs : 1 ≤ s) : ∀ (f g : Nat) (a : Int), (t - a).toNat ≤ f → (t - a).toNat ≤ g → cutF f a t s = cutF g a t s
  | 0, 0, _, _, _ => rfl
  | 0, g + 1, a, h, _ => by
    rw [cutF, cutF, if_neg (by omega)]
  | f + 1, 0, a, _, h => by
    rw [cutF, cutF, if_neg (by omega)]
  | f + 1, g + 1, a, h1, h2 => by
    rw [cutF, cutF]
    by_cases h : a < t
    · rw [if_pos h, if_pos h, cutF_fuel hs f g _ (by omega) (by omega)]
    · rw [if_neg h, if_neg h]
def cutR (a t s : Int) : List (Int × Int) := cutF (t - a).toNat a t s
theorem cutR_step {a t s : Int} (hs : 1 ≤ s) (h : a < t) : cutR a t s = (a, a + min s (t - a)) :: cutR (a + min s (t - a)) t s := by
  unfold cutR
  obtain ⟨f, hf⟩ : ∃ f, (t - a).toNat = f + 1 := ⟨(t - a).toNat - 1, by omega⟩
  rw [hf, cutF, if_pos h, cutF_fuel hs f _ _ (by omega) (Nat.le_refl _)]
theorem cutR_end {a t s : Int} (h : ¬ a < t) : cutR a t s = [] := by
  unfold cutR
  rw [show (t - a).toNat = 0 from by omega]
  rfl
/-- The spans of rows. -/
def cutL (a t s : Int) : List (Int × Int) := if a < 0 ∨ 65536 < t ∨ s < 1 then [] else cutR a t s
theorem cutR_len {t s : Int} (hs : 1 ≤ s) : ∀ (n : Nat) (a : Int), (t - a).toNat ≤ n → (cutR a t s).length ≤ (t - a).toNat
  | 0, a, h => by rw [cutR_end (by omega)]; simp
  | n + 1, a, h => by
    by_cases hl : a < t
    · rw [cutR_step hs hl]
      have := cutR_len (t := t) hs n (a + min s (t - a)) (by omega)
      simp
      omega
    · rw [cutR_end hl]; simp
theorem cutL_len (a t s : Int) : (cutL a t s).length ≤ 65536 := by
  unfold cutL
  split
  · simp
  · have := cutR_len (t := t) (s := s) (by omega) _ a (Nat.le_refl _)
    omega

/-- What is told of spans: one behind the other, all of one size but the last one. -/
def CutOk (t s : Int) : Int → List (Int × Int) → Prop
  | a, [] => t ≤ a
  | a, (x, y) :: r => x = a ∧ a < y ∧ y - a ≤ s ∧ y ≤ t ∧ (r ≠ [] → y - a = s) ∧ (r = [] → y = t) ∧ CutOk t s y r
theorem cutR_ok {t s : Int} (hs : 1 ≤ s) : ∀ (n : Nat) (a : Int), (t - a).toNat ≤ n → CutOk t s a (cutR a t s)
  | 0, a, h => by rw [cutR_end (by omega)]; simp only [CutOk]; omega
  | n + 1, a, h => by
    by_cases hl : a < t
    · rw [cutR_step hs hl]
      have ih := cutR_ok (t := t) hs n (a + min s (t - a)) (by omega)
      simp only [CutOk]
      refine ⟨trivial, by omega, by omega, by omega, fun hr => ?_, fun hr => ?_, ih⟩
      · by_cases h2 : a + min s (t - a) < t
        · omega
        · exact absurd (cutR_end h2) hr
      · by_cases h2 : a + min s (t - a) < t
        · rw [cutR_step hs h2] at hr
          cases hr
        · omega
    · rw [cutR_end hl]; simp only [CutOk]; omega
/-- Spans cut at a multiple. -/
theorem cutR_app {s t : Int} (hs : 1 ≤ s) : ∀ (n : Nat) (a : Int), a + n * s ≤ t → cutR a t s = cutR a (a + n * s) s ++ cutR (a + n * s) t s
  | 0, a, h => by
    rw [show a + ((0 : Nat) : Int) * s = a from by simp, cutR_end (t := a) (by omega)]
    rfl
  | n + 1, a, h => by
    have e : a + ((n + 1 : Nat) : Int) * s = (a + s) + (n : Int) * s := by
      rw [Int.natCast_add, Int.add_mul]
      simp
      omega
    have hn : 0 ≤ (n : Int) * s := Int.mul_nonneg (by omega) (by omega)
    rw [e] at h ⊢
    generalize hq : (n : Int) * s = q at *
    have e1 : a + min s (t - a) = a + s := by omega
    have e2 : a + min s (a + s + q - a) = a + s := by omega
    rw [cutR_step hs (show a < t by omega), cutR_step hs (show a < a + s + q by omega), e1, e2]
    have ih := cutR_app hs n (a + s) (by rw [hq]; omega)
    rw [hq] at ih
    rw [ih]
    rfl

/-- Is a span over rows? -/
def ovr (x y : Int) (p : Int × Int) : Bool := decide (p.1 < y) && (decide (x < p.2) && decide (x < y))
/-- The first span over rows, and behind the last one. -/
def overL (l : List (Int × Int)) (x y : Int) : Nat × Nat := match l.findIdx? (ovr x y) with
  | none => (0, 0)
  | some k => match (l.drop k).findIdx? (fun p => !(ovr x y p)) with
    | none => (k, l.length)
    | some n => (k, k + n)
/-- Spans in order. -/
def Asc (l : List (Int × Int)) : Prop := ∀ i j (hi : i < l.length) (hj : j < l.length), i ≤ j → l[i].1 ≤ l[j].1 ∧ l[i].2 ≤ l[j].2
theorem over_is {l : List (Int × Int)} (h : Asc l) (x y : Int) : ∃ a b, overL l x y = (a, b) ∧ a ≤ b ∧ b ≤ l.length ∧ (a < b ∨ (a = 0 ∧ b = 0)) ∧ ∀ i (hi : i < l.length), ovr x y l[i] = decide (a ≤ i ∧ i < b) := by
  cases h1 : l.findIdx? (ovr x y) with
  | none =>
    refine ⟨0, 0, by unfold overL; rw [h1], Nat.le_refl _, Nat.zero_le _, .inr ⟨rfl, rfl⟩, ?_⟩
    rw [List.findIdx?_eq_none_iff] at h1
    exact fun i hi => by rw [h1 _ (List.getElem_mem hi)]; simp
  | some k =>
    obtain ⟨hk, hp, hno⟩ := List.findIdx?_eq_some_iff_getElem.1 h1
    cases h2 : (l.drop k).findIdx? (fun p => !(ovr x y p)) with
    | none =>
      refine ⟨k, l.length, by unfold overL; rw [h1]; simp only [h2], by omega, Nat.le_refl _, .inl hk, fun i hi => ?_⟩
      rw [List.findIdx?_eq_none_iff] at h2
      by_cases hik : i < k
      · rw [decide_eq_false (by omega)]
        simpa using hno i hik
      · rw [decide_eq_true (by omega)]
        have hm : l[i] ∈ l.drop k := by
          rw [List.mem_drop_iff_getElem]
          exact ⟨i - k, by omega, by congr 1; omega⟩
        simpa using h2 _ hm
    | some n =>
      obtain ⟨hn, hq, hyes⟩ := List.findIdx?_eq_some_iff_getElem.1 h2
      rw [List.length_drop] at hn
      simp only [List.getElem_drop, Bool.not_eq_true'] at hq hyes
      have hn0 : 0 < n := by
        rcases Nat.eq_zero_or_pos n with rfl | h0
        · simp only [Nat.add_zero] at hq
          rw [hq] at hp
          cases hp
        · exact h0
      refine ⟨k, k + n, by unfold overL; rw [h1]; simp only [h2], by omega, by omega, .inl (by omega), fun i hi => ?_⟩
      by_cases hik : i < k
      · rw [decide_eq_false (by omega)]
        simpa using hno i hik
      · by_cases hin : i < k + n
        · rw [decide_eq_true (by omega)]
          have := hyes (i - k) (by omega)
          simp only [show k + (i - k) = i from by omega] at this
          simpa using this
        · rw [decide_eq_false (by omega)]
          have hm := (h k i (by omega) hi (by omega))
          have hm2 := (h (k + n) i (by omega) hi (by omega))
          have hm3 := (h k (k + n) (by omega) (by omega) (by omega))
          unfold ovr at hp hq ⊢
          simp only [Bool.and_eq_true, decide_eq_true_eq] at hp
          simp only [Bool.and_eq_false_iff, decide_eq_false_iff_not] at hq ⊢
          omega
theorem over_has {l : List (Int × Int)} (h : Asc l) (x y : Int) : (overL l x y).1 ≤ (overL l x y).2 ∧ (overL l x y).2 ≤ l.length ∧ ((overL l x y).1 < (overL l x y).2 ∨ ((overL l x y).1 = 0 ∧ (overL l x y).2 = 0)) ∧
    ∀ i (hi : i < l.length), ovr x y l[i] = decide ((overL l x y).1 ≤ i ∧ i < (overL l x y).2) := by
  obtain ⟨a, b, e, h1, h2, h3, h4⟩ := over_is h x y
  rw [e]
  exact ⟨h1, h2, h3, h4⟩
theorem countP_range {α : Type} (p : α → Bool) (a b : Nat) : ∀ (l : List α), a ≤ b → b ≤ l.length → (∀ i (hi : i < l.length), p l[i] = decide (a ≤ i ∧ i < b)) → l.countP p = b - a := by
  intro l hab hbl h
  have e : l = l.take a ++ ((l.drop a).take (b - a) ++ l.drop b) := by
    rw [show l.drop b = (l.drop a).drop (b - a) from by rw [List.drop_drop]; congr 1; omega, List.take_append_drop, List.take_append_drop]
  rw [e, List.countP_append, List.countP_append]
  have h1 : (l.take a).countP p = 0 := by
    rw [List.countP_eq_zero]
    intro x hx
    obtain ⟨i, hi, rfl⟩ := List.mem_take_iff_getElem.1 hx
    rw [h i (by omega), decide_eq_false (by omega)]
    simp
  have h3 : (l.drop b).countP p = 0 := by
    rw [List.countP_eq_zero]
    intro x hx
    obtain ⟨i, hi, rfl⟩ := List.mem_drop_iff_getElem.1 hx
    rw [h (b + i) (by omega), decide_eq_false (by omega)]
    simp
  have h2 : ((l.drop a).take (b - a)).countP p = b - a := by
    have hl : ((l.drop a).take (b - a)).length = b - a := by rw [List.length_take, List.length_drop]; omega
    refine (List.countP_eq_length.2 ?_).trans hl
    intro x hx
    obtain ⟨i, hi, rfl⟩ := List.mem_take_iff_getElem.1 hx
    rw [List.getElem_drop, h (a + i) (by simp at hi; omega), decide_eq_true (by simp at hi; omega)]
  omega
theorem over_count {l : List (Int × Int)} (h : Asc l) (x y : Int) : l.countP (ovr x y) = (overL l x y).2 - (overL l x y).1 := by
  obtain ⟨h1, h2, _, h4⟩ := over_has h x y
  exact countP_range _ _ _ l h1 h2 h4
end Go.Proofs.YtcpimhefclfbaaaGreatDoor
