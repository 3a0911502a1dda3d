/-
  Rows of numbers as runs and rests, as plain laws: no program here.
-/
import Derived.Test.YtphgfhghbpndaaaBits
import Derived.Test.YtphgfhghbpndaaaVar
namespace Go.Proofs.Ytphgfhghbpndaaa
set_option linter.unusedVariables false
set_option linter.unusedSimpArgs false

/-- How many equal numbers a row begins with. -/
def stretch : List UInt64 → Nat
  | [] => 0
  | x :: l => (l.takeWhile (· == x)).length + 1

theorem stretch_pos {l : List UInt64} (h : l ≠ []) : 0 < stretch l := by cases l with | nil => exact absurd rfl h | cons x l => simp [stretch]
theorem stretch_le : ∀ l : List UInt64, stretch l ≤ l.length
  | [] => by simp [stretch]
  | x :: l => by
    have := (List.takeWhile_sublist (fun y => y == x) (l := l)).length_le
    simp [stretch]
    exact this
theorem takeWhile_get {α : Type} (p : α → Bool) : ∀ (l : List α) (k : Nat) (hk : k < (l.takeWhile p).length), ∃ h : k < l.length, p l[k] = true
  | [], k, hk => by simp at hk
  | x :: l, k, hk => by
    rw [List.takeWhile_cons] at hk
    cases hx : p x with
    | false => rw [hx] at hk; simp at hk
    | true =>
      rw [hx] at hk
      cases k with
      | zero => exact ⟨by simp, by simpa using hx⟩
      | succ k =>
        obtain ⟨h, hp⟩ := takeWhile_get p l k (by simpa using hk)
        exact ⟨by simpa using h, by simpa using hp⟩
theorem takeWhile_end {α : Type} (p : α → Bool) : ∀ (l : List α) (h : (l.takeWhile p).length < l.length), p l[(l.takeWhile p).length] = false
  | [], h => by simp at h
  | x :: l, h => by
    cases hx : p x with
    | false => simp [List.takeWhile_cons, hx]
    | true =>
      have h' : (l.takeWhile p).length < l.length := by simpa [List.takeWhile_cons, hx] using h
      have := takeWhile_end p l h'
      simpa [List.takeWhile_cons, hx] using this
/-- The numbers of a stretch are one number. -/
theorem stretch_same {l : List UInt64} {k : Nat} (hk : k < stretch l) : ∃ (h0 : 0 < l.length) (h : k < l.length), l[k] = l[0] := by
  cases l with
  | nil => simp [stretch] at hk
  | cons x l =>
    cases k with
    | zero => exact ⟨by simp, by simp, rfl⟩
    | succ k =>
      obtain ⟨h, hp⟩ := takeWhile_get (fun y => y == x) l k (by simpa [stretch] using hk)
      exact ⟨by simp, by simpa using h, by simpa using hp⟩
/-- The number behind a stretch is another one. -/
theorem stretch_end {l : List UInt64} (h : stretch l < l.length) : l[stretch l] ≠ l[0] := by
  cases l with
  | nil => simp at h
  | cons x l =>
    have h' : (l.takeWhile (· == x)).length < l.length := by simpa [stretch] using h
    have := takeWhile_end (fun y => y == x) l h'
    simpa [stretch] using this
/-- What is a stretch: equal numbers, and another one behind them. -/
theorem stretch_is {l : List UInt64} {n : Nat} (hn : 0 < n) (hl : n ≤ l.length) (hs : ∀ k (h : k < l.length), k < n → l[k] = l[0]) (he : ∀ h : n < l.length, l[n] ≠ l[0]) : stretch l = n := by
  have h1 : n ≤ stretch l := by
    apply Nat.le_of_not_lt
    intro h
    exact stretch_end (by omega) (hs _ (by omega) h)
  have h2 : stretch l ≤ n := by
    apply Nat.le_of_not_lt
    intro h
    obtain ⟨h0, h3, h4⟩ := stretch_same h
    exact he h3 h4
  omega

/-- A run, or a rest. -/
abbrev Piece := List UInt64 × Bool
def cutF : Nat → List UInt64 → List UInt64 → List Piece
  | 0, _, _ => []
  | f + 1, pend, l => if l = [] then (if pend = [] then [] else [(pend, false)])
    else if stretch l < 4 then cutF f (pend ++ l.take (stretch l)) (l.drop (stretch l))
    else (if pend = [] then [] else [(pend, false)]) ++ (l.take (stretch l), true) :: cutF f [] (l.drop (stretch l))
/-- A row's runs and rests. -/
def cutP (l : List UInt64) : List Piece := cutF (l.length + 1) [] l

theorem cutF_all : ∀ (f : Nat) (pend l : List UInt64), l.length < f → (cutF f pend l).flatMap (·.1) = pend ++ l
  | 0, _, _, h => absurd h (by omega)
  | f + 1, pend, l, h => by
    unfold cutF
    split
    · rename_i h0; subst h0; split <;> simp_all
    · rename_i h0
      have hp := stretch_pos h0
      have hle := stretch_le l
      have hd : (l.drop (stretch l)).length < f := by rw [List.length_drop]; omega
      split
      · rw [cutF_all f _ _ hd, List.append_assoc, List.take_append_drop]
      · rw [List.flatMap_append, List.flatMap_cons, cutF_all f _ _ hd, List.nil_append, List.take_append_drop]
        split
        · rename_i h1; subst h1; simp
        · simp
theorem cutP_all (l : List UInt64) : (cutP l).flatMap (·.1) = l := by simpa [cutP] using cutF_all (l.length + 1) [] l (by omega)

theorem cutF_more : ∀ (f : Nat) (pend l : List UInt64), l.length < f → ∀ g, f ≤ g → cutF g pend l = cutF f pend l
  | 0, _, _, h, _, _ => absurd h (by omega)
  | f + 1, pend, l, h, g, hg => by
    obtain ⟨g, rfl⟩ : ∃ k, g = k + 1 := ⟨g - 1, by omega⟩
    unfold cutF
    split
    · rfl
    · rename_i h0
      have hp := stretch_pos h0
      have hle := stretch_le l
      have hd : (l.drop (stretch l)).length < f := by rw [List.length_drop]; omega
      rw [cutF_more f _ _ hd g (by omega), cutF_more f _ _ hd g (by omega)]

/-- What is still to be cut. -/
def cutR (pend l : List UInt64) : List Piece := cutF (l.length + 1) pend l
theorem cutR_nil (pend : List UInt64) : cutR pend [] = if pend = [] then [] else [(pend, false)] := by simp [cutR, cutF]
theorem cutR_few {pend l : List UInt64} (h0 : l ≠ []) (h : stretch l < 4) : cutR pend l = cutR (pend ++ l.take (stretch l)) (l.drop (stretch l)) := by
  have hp := stretch_pos h0
  have hle := stretch_le l
  rw [cutR, cutF, if_neg h0, if_pos h, cutR, cutF_more _ _ _ (Nat.lt_succ_self _) _ (by rw [List.length_drop]; omega)]
theorem cutR_run {pend l : List UInt64} (h : 4 ≤ stretch l) : cutR pend l = (if pend = [] then [] else [(pend, false)]) ++ (l.take (stretch l), true) :: cutR [] (l.drop (stretch l)) := by
  have h0 : l ≠ [] := by rintro rfl; simp [stretch] at h
  have hp := stretch_pos h0
  have hle := stretch_le l
  rw [cutR, cutF, if_neg h0, if_neg (by omega), cutR, cutF_more (l.drop (stretch l)).length.succ _ _ (Nat.lt_succ_self _) _ (by rw [List.length_drop]; omega)]

/-! ### what runs and rests are like -/
def no4 (l : List UInt64) : Prop := ∀ k (h : k + 3 < l.length), ¬ (l[k] = l[k + 1] ∧ l[k] = l[k + 2] ∧ l[k] = l[k + 3])
def okP (prev : Option UInt64) (was : Bool) : List Piece → Prop
  | [] => True
  | (ns, run) :: ps => ns ≠ [] ∧ (∀ x ∈ prev, ns.head? ≠ some x) ∧ (if run then 4 ≤ ns.length ∧ stretch ns = ns.length else was = true ∧ no4 ns) ∧ okP ns.getLast? run ps

theorem no4_append {a b : List UInt64} (ha : no4 a) (hb : b.length < 4) (hab : ∀ x ∈ a.getLast?, b.head? ≠ some x) : no4 (a ++ b) := by
  intro k h ⟨h1, h2, h3⟩
  rw [List.length_append] at h
  by_cases hk : k + 3 < a.length
  · refine ha k hk ⟨?_, ?_, ?_⟩
    · rwa [List.getElem_append_left (by omega), List.getElem_append_left (by omega)] at h1
    · rwa [List.getElem_append_left (by omega), List.getElem_append_left (by omega)] at h2
    · rwa [List.getElem_append_left (by omega), List.getElem_append_left (by omega)] at h3
  · have hka : k < a.length := by omega
    have hb0 : 0 < b.length := by omega
    have hall : ∀ j (hj : k + j < (a ++ b).length), j ≤ 3 → (a ++ b)[k + j] = (a ++ b)[k]'(by simp; omega) := by
      intro j hj hj3
      rcases (show j = 0 ∨ j = 1 ∨ j = 2 ∨ j = 3 from by omega) with rfl | rfl | rfl | rfl
      · rfl
      · exact h1.symm
      · exact h2.symm
      · exact h3.symm
    have e1 := hall (a.length - 1 - k) (by simp; omega) (by omega)
    have e2 := hall (a.length - k) (by simp; omega) (by omega)
    have g1 : (a ++ b)[k + (a.length - 1 - k)]'(by simp; omega) = a[a.length - 1] := by
      rw [List.getElem_append_left (by omega)]
      congr 1
      omega
    have g2 : (a ++ b)[k + (a.length - k)]'(by simp; omega) = b[0] := by
      rw [List.getElem_append_right (by omega)]
      congr 1
      omega
    refine hab a[a.length - 1] (by rw [List.getLast?_eq_getElem?, List.getElem?_eq_getElem (by omega)]; rfl) ?_
    rw [List.head?_eq_getElem?, List.getElem?_eq_getElem hb0, ← g1, ← g2, e1, e2]
theorem stretch_take {l : List UInt64} (h : l ≠ []) : stretch (l.take (stretch l)) = (l.take (stretch l)).length := by
  have hp := stretch_pos h
  have hle := stretch_le l
  refine stretch_is ?_ (Nat.le_refl _) (fun k hk _ => ?_) (fun h => absurd h (by omega))
  · simp; omega
  · rw [List.length_take] at hk
    obtain ⟨h0, h1, h2⟩ := stretch_same (l := l) (k := k) (by omega)
    rw [List.getElem_take, List.getElem_take, h2]
theorem last_take {l : List UInt64} (h : l ≠ []) : (l.take (stretch l)).getLast? = l.head? := by
  have hp := stretch_pos h
  have hle := stretch_le l
  rw [List.getLast?_eq_getElem?, List.head?_eq_getElem?, List.length_take, Nat.min_eq_left hle, List.getElem?_take, if_pos (by omega)]
  obtain ⟨h0, h1, h2⟩ := stretch_same (l := l) (k := stretch l - 1) (by omega)
  rw [List.getElem?_eq_getElem h1, List.getElem?_eq_getElem h0, h2]
theorem head_drop {l : List UInt64} (h : l ≠ []) : ∀ x ∈ l.head?, (l.drop (stretch l)).head? ≠ some x := by
  intro x hx he
  rw [List.head?_drop] at he
  obtain ⟨h1, h2⟩ := List.getElem?_eq_some_iff.1 he
  have hx0 : l[0]'(by omega) = x := by
    rw [List.head?_eq_getElem?, List.getElem?_eq_getElem (by omega)] at hx
    simpa using hx
  exact stretch_end h1 (by rw [h2, hx0])
theorem head_take {l : List UInt64} (h : l ≠ []) : (l.take (stretch l)).head? = l.head? := by
  have hp := stretch_pos h
  rw [List.head?_eq_getElem?, List.head?_eq_getElem?, List.getElem?_take, if_pos (by omega)]

theorem last_append (a : List UInt64) {b : List UInt64} (h : b ≠ []) : (a ++ b).getLast? = b.getLast? := by
  cases b with
  | nil => exact absurd rfl h
  | cons x b => rw [List.getLast?_append, List.getLast?_cons]; rfl
theorem head_append {a : List UInt64} (b : List UInt64) (h : a ≠ []) : (a ++ b).head? = a.head? := by
  cases a with
  | nil => exact absurd rfl h
  | cons x a => rfl

theorem okP_cutF : ∀ (f : Nat) (prev : Option UInt64) (was : Bool) (pend l : List UInt64), l.length < f → no4 pend → (∀ x ∈ pend.getLast?, l.head? ≠ some x) → (pend ≠ [] → was = true) → (∀ x ∈ prev, (pend ++ l).head? ≠ some x) → (was = false → pend = [] → stretch l < 4 → l = []) →
      okP prev true (cutF f pend l)
  | 0, _, _, _, _, h, _, _, _, _, _ => absurd h (by omega)
  | f + 1, prev, was, pend, l, h, h4, hb, hw, hprev, _ => by
    unfold cutF
    split
    · rename_i h0
      subst h0
      split
      · trivial
      · rename_i hp
        exact ⟨hp, by simpa using hprev, ⟨rfl, h4⟩, trivial⟩
    · rename_i h0
      have hp := stretch_pos h0
      have hle := stretch_le l
      have hd : (l.drop (stretch l)).length < f := by rw [List.length_drop]; omega
      have hlast := last_take h0
      have hne : l.take (stretch l) ≠ [] := by
        intro he
        have := congrArg List.length he
        rw [List.length_take, List.length_nil] at this
        omega
      split
      · rename_i hs
        refine okP_cutF f prev true _ _ hd (no4_append h4 (by simp; omega) (by rw [head_take h0]; exact hb)) ?_ (fun _ => rfl) ?_ (fun h => by cases h)
        · rw [last_append _ hne, hlast]
          exact head_drop h0
        · rw [List.append_assoc, List.take_append_drop]
          exact hprev
      · rename_i hs
        have hrest : okP (l.take (stretch l)).getLast? true (cutF f [] (l.drop (stretch l))) :=
          okP_cutF f _ true [] _ hd (fun k hk => absurd hk (by simp)) (by simp) (by simp) (by rw [hlast, List.nil_append]; exact head_drop h0) (fun h => by cases h)
        split
        · rename_i hp0
          subst hp0
          exact ⟨hne, by rw [head_take h0]; simpa using hprev, by rw [if_pos rfl]; exact ⟨by simp; omega, stretch_take h0⟩, hrest⟩
        · rename_i hp0
          refine ⟨hp0, ?_, ⟨rfl, h4⟩, hne, ?_, by rw [if_pos rfl]; exact ⟨by simp; omega, stretch_take h0⟩, hrest⟩
          · rwa [head_append _ hp0] at hprev
          · rw [head_take h0]; exact hb
theorem okP_cutP (l : List UInt64) : okP none true (cutP l) := okP_cutF _ none true [] l (by omega) (fun k hk => absurd hk (by simp)) (by simp) (by simp) (by simp) (fun h => by cases h)
end Go.Proofs.Ytphgfhghbpndaaa
