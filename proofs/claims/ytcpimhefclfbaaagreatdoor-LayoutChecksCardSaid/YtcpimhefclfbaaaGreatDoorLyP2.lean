/-
  Spans of rows: what the statements of layer 18 say of them.
-/
import Derived.Test.YtcpimhefclfbaaaGreatDoorLyP
namespace Go.Proofs.YtcpimhefclfbaaaGreatDoor
open Go Go.RowKit
set_option maxRecDepth 10000
set_option linter.unusedVariables false
set_option linter.unusedSimpArgs false

theorem cutOk_low {t s : Int} : ∀ (l : List (Int × Int)) (a : Int), CutOk t s a l → ∀ i (h : i < l.length), a ≤ l[i].1 ∧ l[i].1 < l[i].2 ∧ l[i].2 ≤ t
  | [], _, _, i, h => absurd h (by simp)
  | (x, y) :: r, a, hc, i, h => by
    obtain ⟨h1, h2, h3, h4, h5, h6, h7⟩ := hc
    cases i with
    | zero => exact ⟨by simp only [List.getElem_cons_zero]; omega, by simp only [List.getElem_cons_zero]; omega, by simp only [List.getElem_cons_zero]; omega⟩
    | succ i =>
      have := cutOk_low r y h7 i (by simpa using h)
      simp only [List.getElem_cons_succ]
      omega
theorem cutOk_next {t s : Int} : ∀ (l : List (Int × Int)) (a : Int), CutOk t s a l → ∀ i (h : i + 1 < l.length), l[i].2 = l[i + 1].1
  | [], _, _, i, h => absurd h (by simp)
  | [(x, y)], a, hc, i, h => absurd h (by simp)
  | (x, y) :: (x2, y2) :: r, a, hc, i, h => by
    obtain ⟨h1, h2, h3, h4, h5, h6, h7⟩ := hc
    cases i with
    | zero =>
      obtain ⟨e, _⟩ := h7
      simp [e]
    | succ i =>
      have := cutOk_next ((x2, y2) :: r) y h7 i (by simpa using h)
      simpa using this
theorem cutOk_last {t s : Int} : ∀ (l : List (Int × Int)) (a : Int), CutOk t s a l → ∀ h : l.length - 1 < l.length, l[l.length - 1].2 = t
  | [], _, _, h => absurd h (by simp)
  | [(x, y)], a, hc, h => by
    obtain ⟨h1, h2, h3, h4, h5, h6, h7⟩ := hc
    exact h6 rfl
  | (x, y) :: (x2, y2) :: r, a, hc, h => by
    obtain ⟨h1, h2, h3, h4, h5, h6, h7⟩ := hc
    have := cutOk_last ((x2, y2) :: r) y h7 (by simp)
    simpa using this
theorem cutOk_first {t s a : Int} {l : List (Int × Int)} (hc : CutOk t s a l) (h : 0 < l.length) : l[0].1 = a := by
  cases l with
  | nil => simp at h
  | cons p r => exact hc.1
theorem cutOk_asc {t s a : Int} {l : List (Int × Int)} (hc : CutOk t s a l) : Asc l := by
  have key : ∀ d i (hi : i < l.length) (hj : i + d < l.length), l[i].1 ≤ l[i + d].1 ∧ l[i].2 ≤ l[i + d].2 := by
    intro d
    induction d with
    | zero => intro i hi hj; exact ⟨Int.le_refl _, Int.le_refl _⟩
    | succ d ih =>
      intro i hi hj
      have h1 := ih i hi (by omega)
      have h2 := cutOk_next l a hc (i + d) (by omega)
      have h3 := cutOk_low l a hc (i + d) (by omega)
      have h4 := cutOk_low l a hc (i + d + 1) (by omega)
      simp only [Nat.add_assoc] at h2 h4 ⊢
      omega
  intro i j hi hj hij
  have := key (j - i) i hi (by omega)
  simpa only [show i + (j - i) = j from by omega] using this
theorem cutOk_drop {t s : Int} : ∀ (l : List (Int × Int)) (a : Int), CutOk t s a l → ∀ i (h : i < l.length), CutOk t s l[i].1 (l.drop i) ∧ CutOk t s l[i].2 (l.drop (i + 1))
  | [], _, _, i, h => absurd h (by simp)
  | (x, y) :: r, a, hc, i, h => by
    cases i with
    | zero =>
      have e := hc.1
      subst e
      exact ⟨hc, hc.2.2.2.2.2.2⟩
    | succ i =>
      have := cutOk_drop r y hc.2.2.2.2.2.2 i (by simpa using h)
      simpa using this
theorem cutL_ok {a t s : Int} (h : ¬ (a < 0 ∨ 65536 < t ∨ s < 1)) : CutOk t s a (cutL a t s) := by
  unfold cutL
  rw [if_neg h]
  exact cutR_ok (by omega) _ a (Nat.le_refl _)
theorem cutL_asc (a t s : Int) : Asc (cutL a t s) := by
  by_cases h : a < 0 ∨ 65536 < t ∨ s < 1
  · unfold cutL
    rw [if_pos h]
    exact fun i j hi => absurd hi (by simp)
  · exact cutOk_asc (cutL_ok h)
theorem cutL_low (a t s : Int) : ∀ i (h : i < (cutL a t s).length), 0 ≤ (cutL a t s)[i].1 ∧ (cutL a t s)[i].1 < (cutL a t s)[i].2 ∧ (cutL a t s)[i].2 ≤ 65536 := by
  intro i h
  by_cases hb : a < 0 ∨ 65536 < t ∨ s < 1
  · unfold cutL at h
    rw [if_pos hb] at h
    simp at h
  · have := cutOk_low _ _ (cutL_ok hb) i h
    omega
/-- Ahead of what is over rows, and behind it, there is nothing of them. -/
theorem over_ends {t s : Int} {l : List (Int × Int)} (hc : CutOk t s 0 l) (x y : Int) (h : (overL l x y).1 < (overL l x y).2) :
    ∃ (h1 : (overL l x y).1 < l.length) (h2 : (overL l x y).2 - 1 < l.length), (x < l[(overL l x y).1].1 → l[(overL l x y).1].1 = 0) ∧ (l[(overL l x y).2 - 1].2 < y → l[(overL l x y).2 - 1].2 = t) := by
  obtain ⟨o1, o2, _, o4⟩ := over_has (cutOk_asc hc) x y
  generalize overL l x y = p at *
  obtain ⟨a, b⟩ := p
  simp only [] at *
  refine ⟨by omega, by omega, fun hx => ?_, fun hy => ?_⟩
  · rcases Nat.eq_zero_or_pos a with rfl | ha
    · exact cutOk_first hc (by omega)
    · have g1 := o4 (a - 1) (by omega)
      have g2 := o4 a (by omega)
      rw [decide_eq_false (by omega)] at g1
      rw [decide_eq_true (by omega)] at g2
      have hn := cutOk_next l 0 hc (a - 1) (by omega)
      have hl := cutOk_low l 0 hc (a - 1) (by omega)
      simp only [show a - 1 + 1 = a from by omega] at hn
      unfold ovr at g1 g2
      simp only [Bool.and_eq_true, decide_eq_true_eq] at g2
      simp only [Bool.and_eq_false_iff, decide_eq_false_iff_not] at g1
      omega
  · by_cases hb : b < l.length
    · have g1 := o4 (b - 1) (by omega)
      have g2 := o4 b hb
      rw [decide_eq_true (by omega)] at g1
      rw [decide_eq_false (by omega)] at g2
      have hn := cutOk_next l 0 hc (b - 1) (by omega)
      have hl := cutOk_low l 0 hc b (by omega)
      simp only [show b - 1 + 1 = b from by omega] at hn
      unfold ovr at g1 g2
      simp only [Bool.and_eq_true, decide_eq_true_eq] at g1
      simp only [Bool.and_eq_false_iff, decide_eq_false_iff_not] at g2
      omega
    · obtain rfl : b = l.length := by omega
      exact cutOk_last l 0 hc (by omega)

/-- Spans of spans that are cut at multiples of their size are all of them. -/
theorem cut_parts {s m : Int} (hs : 1 ≤ s) (hm : 1 ≤ m) {t : Int} : ∀ (n : Nat) (a : Int), (t - a).toNat ≤ n → (cutR a t (s * m)).flatMap (fun p => cutR p.1 p.2 s) = cutR a t s
  | 0, a, h => by rw [cutR_end (by omega), cutR_end (by omega)]; rfl
  | n + 1, a, h => by
    have hsm : s ≤ s * m := by
      have := Int.mul_le_mul_of_nonneg_left hm (show (0 : Int) ≤ s by omega)
      omega
    by_cases hl : a < t
    · rw [cutR_step (by omega) hl, List.flatMap_cons]
      simp only []
      by_cases h2 : s * m ≤ t - a
      · rw [show min (s * m) (t - a) = s * m from by omega, cut_parts hs hm n _ (by omega)]
        obtain ⟨k, rfl⟩ : ∃ k : Nat, m = k := ⟨m.toNat, by omega⟩
        have := cutR_app (t := t) hs k a (by rw [Int.mul_comm]; omega)
        rw [this, Int.mul_comm]
      · rw [show min (s * m) (t - a) = t - a from by omega, show a + (t - a) = t from by omega, cutR_end (s := s * m) (show ¬ t < t by omega)]
        simp
    · rw [cutR_end hl, cutR_end hl]; rfl
end Go.Proofs.YtcpimhefclfbaaaGreatDoor
