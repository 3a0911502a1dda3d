/-
  Rows of numbers as runs and rests, as plain laws: no program here.
  Runs and rests as bytes, as plain laws: no program here.
  Bytes as runs and rests, as plain laws: no program here.
  Runs and rests: words that program and reference share.
-/
import Derived.Test.YtejbfknhnhhlfaaFA
import Derived.Test.YtejbfknhnhhlfaaFCu
namespace Go.Proofs.Ytejbfknhnhhlfaa
set_option linter.unusedVariables false
set_option linter.unusedSimpArgs false

/-- How many equal numbers a row begins with. -/
def stretch : List UInt64 → Nat
  | [] => 0
  | x :: l => (l.takeWhile (· == x)).length + 1

theorem stretch_pos {l : List UInt64} (h : l ≠ []) : 0 < stretch l := by cases l with | nil => exact absurd rfl h | cons x l => simp [stretch]
theorem stretch_le : ∀ l : List UInt64, stretch l ≤ l.length
  | [] => by simp [stretch]
  | x :: l => by
    have := (List.takeWhile_sublist (fun y => y == x) (l := l)).length_le
    simp [stretch]
    exact this
theorem takeWhile_get {α : Type} (p : α → Bool) : ∀ (l : List α) (k : Nat) (hk : k < (l.takeWhile p).length), ∃ h : k < l.length, p l[k] = true
  | [], k, hk => by simp at hk
  | x :: l, k, hk => by
    rw [List.takeWhile_cons] at hk
    cases hx : p x with
    | false => rw [hx] at hk; simp at hk
    | true =>
      rw [hx] at hk
      cases k with
      | zero => exact ⟨by simp, by simpa using hx⟩
      | succ k =>
        obtain ⟨h, hp⟩ := takeWhile_get p l k (by simpa using hk)
        exact ⟨by simpa using h, by simpa using hp⟩
theorem takeWhile_end {α : Type} (p : α → Bool) : ∀ (l : List α) (h : (l.takeWhile p).length < l.length), p l[(l.takeWhile p).length] = false
  | [], h => by simp at h
  | x :: l, h => by
    cases hx : p x with
    | false => simp [List.takeWhile_cons, hx]
    | true =>
      have h' : (l.takeWhile p).length < l.length := by simpa [List.takeWhile_cons, hx] using h
      have := takeWhile_end p l h'
      simpa [List.takeWhile_cons, hx] using this
/-- The numbers of a stretch are one number. -/
theorem stretch_same {l : List UInt64} {k : Nat} (hk : k < stretch l) : ∃ (h0 : 0 < l.length) (h : k < l.length), l[k] = l[0] := by
  cases l with
  | nil => simp [stretch] at hk
  | cons x l =>
    cases k with
    | zero => exact ⟨by simp, by simp, rfl⟩
    | succ k =>
      obtain ⟨h, hp⟩ := takeWhile_get (fun y => y == x) l k (by simpa [stretch] using hk)
      exact ⟨by simp, by simpa using h, by simpa using hp⟩
/-- The number behind a stretch is another one. -/
theorem stretch_end {l : List UInt64} (h : stretch l < l.length) : l[stretch l] ≠ l[0] := by
  cases l with
  | nil => simp at h
  | cons x l =>
    have h' : (l.takeWhile (· == x)).length < l.length := by simpa [stretch] using h
    have := takeWhile_end (fun y => y == x) l h'
    simpa [stretch] using this
/-- What is a stretch: equal numbers, and another one behind them. -/
theorem stretch_is {l : List UInt64} {n : Nat} (hn : 0 < n) (hl : n ≤ l.length) (hs : ∀ k (h : k < l.length), k < n → l[k] = l[0]) (he : ∀ h : n < l.length, l[n] ≠ l[0]) : stretch l = n := by
  have h1 : n ≤ stretch l := by
    apply Nat.le_of_not_lt
    intro h
    exact stretch_end (by omega) (hs _ (by omega) h)
  have h2 : stretch l ≤ n := by
    apply Nat.le_of_not_lt
    intro h
    obtain ⟨h0, h3, h4⟩ := stretch_same h
    exact he h3 h4
  omega

/-- A run, or a rest. -/
abbrev Piece := List UInt64 × Bool
def cutF : Nat → List UInt64 → List UInt64 → List Piece
  | 0, _, _ => []
  | f + 1, pend, l => if l = [] then (if pend = [] then [] else [(pend, false)])
    else if stretch l < 4 then cutF f (pend ++ l.take (stretch l)) (l.drop (stretch l))
    else (if pend = [] then [] else [(pend, false)]) ++ (l.take (stretch l), true) :: cutF f [] (l.drop (stretch l))
/-- A row's runs and rests. -/
def cutP (l : List UInt64) : List Piece := cutF (l.length + 1) [] l

theorem cutF_all : ∀ (f : Nat) (pend l : List UInt64), l.length < f → (cutF f pend l).flatMap (·.1) = pend ++ l
  | 0, _, _, h => absurd h (by omega)
  | f + 1, pend, l, h => by
    unfold cutF
    split
    · rename_i h0; subst h0; split <;> simp_all
    · rename_i h0
      have hp := stretch_pos h0
      have hle := stretch_le l
      have hd : (l.drop (stretch l)).length < f := by rw [List.length_drop]; omega
      split
      · rw [cutF_all f _ _ hd, List.append_assoc, List.take_append_drop]
      · rw [List.flatMap_append, List.flatMap_cons, cutF_all f _ _ hd, List.nil_append, List.take_append_drop]
        split
        · rename_i h1; subst h1; simp
        · simp
theorem cutP_all (l : List UInt64) : (cutP l).flatMap (·.1) = l := by simpa [cutP] using cutF_all (l.length + 1) [] l (by omega)

theorem cutF_more : ∀ (f : Nat) (pend l : List UInt64), l.length < f → ∀ g, f ≤ g → cutF g pend l = cutF f pend l
  | 0, _, _, h, _, _ => absurd h (by omega)
  | f + 1, pend, l, h, g, hg => by
    obtain ⟨g, rfl⟩ : ∃ k, g = k + 1 := ⟨g - 1, by omega⟩
    unfold cutF
    split
    · rfl
    · rename_i h0
      have hp := stretch_pos h0
      have hle := stretch_le l
      have hd : (l.drop (stretch l)).length < f := by rw [List.length_drop]; omega
      rw [cutF_more f _ _ hd g (by omega), cutF_more f _ _ hd g (by omega)]

/-- What is still to be cut. -/
def cutR (pend l : List UInt64) : List Piece := cutF (l.length + 1) pend l
theorem cutR_nil (pend : List UInt64) : cutR pend [] = if pend = [] then [] else [(pend, false)] := by simp [cutR, cutF]
theorem cutR_few {pend l : List UInt64} (h0 : l ≠ []) (h : stretch l < 4) : cutR pend l = cutR (pend ++ l.take (stretch l)) (l.drop (stretch l)) := by
  have hp := stretch_pos h0
  have hle := stretch_le l
  rw [cutR, cutF, if_neg h0, if_pos h, cutR, cutF_more _ _ _ (Nat.lt_succ_self _) _ (by rw [List.length_drop]; omega)]
theorem cutR_run {pend l : List UInt64} (h : 4 ≤ stretch l) : cutR pend l = (if pend = [] then [] else [(pend, false)]) ++ (l.take (stretch l), true) :: cutR [] (l.drop (stretch l)) := by
  have h0 : l ≠ [] := by rintro rfl; simp [stretch] at h
  have hp := stretch_pos h0
  have hle := stretch_le l
  rw [cutR, cutF, if_neg h0, if_neg (by omega), cutR, cutF_more (l.drop (stretch l)).length.succ _ _ (Nat.lt_succ_self _) _ (by rw [List.length_drop]; omega)]

/-! ### what runs and rests are like -/
def no4 (l : List UInt64) : Prop := ∀ k (h : k + 3 < l.length), ¬ (l[k] = l[k + 1] ∧ l[k] = l[k + 2] ∧ l[k] = l[k + 3])
def okP (prev : Option UInt64) (was : Bool) : List Piece → Prop
  | [] => True
  | (ns, run) :: ps => ns ≠ [] ∧ (∀ x ∈ prev, ns.head? ≠ some x) ∧ (if run then 4 ≤ ns.length ∧ stretch ns = ns.length else was = true ∧ no4 ns) ∧ okP ns.getLast? run ps

theorem no4_append {a b : List UInt64} (ha : no4 a) (hb : b.length < 4) (hab : ∀ x ∈ a.getLast?, b.head? ≠ some x) : no4 (a ++ b) := by
  intro k h ⟨h1, h2, h3⟩
  rw [List.length_append] at h
  by_cases hk : k + 3 < a.length
  · refine ha k hk ⟨?_, ?_, ?_⟩
    · rwa [List.getElem_append_left (by omega), List.getElem_append_left (by omega)] at h1
    · rwa [List.getElem_append_left (by omega), List.getElem_append_left (by omega)] at h2
    · rwa [List.getElem_append_left (by omega), List.getElem_append_left (by omega)] at h3
  · have hka : k < a.length := by omega
    have hb0 : 0 < b.length := by omega
    have hall : ∀ j (hj : k + j < (a ++ b).length), j ≤ 3 → (a ++ b)[k + j] = (a ++ b)[k]'(by simp; omega) := by
      intro j hj hj3
      rcases (show j = 0 ∨ j = 1 ∨ j = 2 ∨ j = 3 from by omega) with rfl | rfl | rfl | rfl
      · rfl
      · exact h1.symm
      · exact h2.symm
      · exact h3.symm
    have e1 := hall (a.length - 1 - k) (by simp; omega) (by omega)
    have e2 := hall (a.length - k) (by simp; omega) (by omega)
    have g1 : (a ++ b)[k + (a.length - 1 - k)]'(by simp; omega) = a[a.length - 1] := by
      rw [List.getElem_append_left (by omega)]
      congr 1
      omega
    have g2 : (a ++ b)[k + (a.length - k)]'(by simp; omega) = b[0] := by
      rw [List.getElem_append_right (by omega)]
      congr 1
      omega
    refine hab a[a.length - 1] (by rw [List.getLast?_eq_getElem?, List.getElem?_eq_getElem (by omega)]; rfl) ?_
    rw [List.head?_eq_getElem?, List.getElem?_eq_getElem hb0, ← g1, ← g2, e1, e2]
theorem stretch_take {l : List UInt64} (h : l ≠ []) : stretch (l.take (stretch l)) = (l.take (stretch l)).length := by
  have hp := stretch_pos h
  have hle := stretch_le l
  refine stretch_is ?_ (Nat.le_refl _) (fun k hk _ => ?_) (fun h => absurd h (by omega))
  · simp; omega
  · rw [List.length_take] at hk
    obtain ⟨h0, h1, h2⟩ := stretch_same (l := l) (k := k) (by omega)
    rw [List.getElem_take, List.getElem_take, h2]
theorem last_take {l : List UInt64} (h : l ≠ []) : (l.take (stretch l)).getLast? = l.head? := by
  have hp := stretch_pos h
  have hle := stretch_le l
  rw [List.getLast?_eq_getElem?, List.head?_eq_getElem?, List.length_take, Nat.min_eq_left hle, List.getElem?_take, if_pos (by omega)]
  obtain ⟨h0, h1, h2⟩ := stretch_same (l := l) (k := stretch l - 1) (by omega)
  rw [List.getElem?_eq_getElem h1, List.getElem?_eq_getElem h0, h2]
theorem head_drop {l : List UInt64} (h : l ≠ []) : ∀ x ∈ l.head?, (l.drop (stretch l)).head? ≠ some x := by
  intro x hx he
  rw [List.head?_drop] at he
  obtain ⟨h1, h2⟩ := List.getElem?_eq_some_iff.1 he
  have hx0 : l[0]'(by omega) = x := by
    rw [List.head?_eq_getElem?, List.getElem?_eq_getElem (by omega)] at hx
    simpa using hx
  exact stretch_end h1 (by rw [h2, hx0])
theorem head_take {l : List UInt64} (h : l ≠ []) : (l.take (stretch l)).head? = l.head? := by
  have hp := stretch_pos h
  rw [List.head?_eq_getElem?, List.head?_eq_getElem?, List.getElem?_take, if_pos (by omega)]

theorem last_append (a : List UInt64) {b : List UInt64} (h : b ≠ []) : (a ++ b).getLast? = b.getLast? := by
  cases b with
  | nil => exact absurd rfl h
  | cons x b => rw [List.getLast?_append, List.getLast?_cons]; rfl
theorem head_append {a : List UInt64} (b : List UInt64) (h : a ≠ []) : (a ++ b).head? = a.head? := by
  cases a with
  | nil => exact absurd rfl h
  | cons x a => rfl

theorem okP_cutF : ∀ (f : Nat) (prev : Option UInt64) (was : Bool) (pend l : List UInt64), l.length < f → no4 pend → (∀ x ∈ pend.getLast?, l.head? ≠ some x) → (pend ≠ [] → was = true) → (∀ x ∈ prev, (pend ++ l).head? ≠ some x) → (was = false → pend = [] → stretch l < 4 → l = []) →
      okP prev true (cutF f pend l)
  | 0, _, _, _, _, h, _, _, _, _, _ => absurd h (by omega)
  | f + 1, prev, was, pend, l, h, h4, hb, hw, hprev, _ => by
    unfold cutF
    split
    · rename_i h0
      subst h0
      split
      · trivial
      · rename_i hp
        exact ⟨hp, by simpa using hprev, ⟨rfl, h4⟩, trivial⟩
    · rename_i h0
      have hp := stretch_pos h0
      have hle := stretch_le l
      have hd : (l.drop (stretch l)).length < f := by rw [List.length_drop]; omega
      have hlast := last_take h0
      have hne : l.take (stretch l) ≠ [] := by
        intro he
        have := congrArg List.length he
        rw [List.length_take, List.length_nil] at this
        omega
      split
      · rename_i hs
        refine okP_cutF f prev true _ _ hd (no4_append h4 (by simp; omega) (by rw [head_take h0]; exact hb)) ?_ (fun _ => rfl) ?_ (fun h => by cases h)
        · rw [last_append _ hne, hlast]
          exact head_drop h0
        · rw [List.append_assoc, List.take_append_drop]
          exact hprev
      · rename_i hs
        have hrest : okP (l.take (stretch l)).getLast? true (cutF f [] (l.drop (stretch l))) :=
          okP_cutF f _ true [] _ hd (fun k hk => absurd hk (by simp)) (by simp) (by simp) (by rw [hlast, List.nil_append]; exact head_drop h0) (fun h => by cases h)
        split
        · rename_i hp0
          subst hp0
          exact ⟨hne, by rw [head_take h0]; simpa using hprev, by rw [if_pos rfl]; exact ⟨by simp; omega, stretch_take h0⟩, hrest⟩
        · rename_i hp0
          refine ⟨hp0, ?_, ⟨rfl, h4⟩, hne, ?_, by rw [if_pos rfl]; exact ⟨by simp; omega, stretch_take h0⟩, hrest⟩
          · rwa [head_append _ hp0] at hprev
          · rw [head_take h0]; exact hb
theorem okP_cutP (l : List UInt64) : okP none true (cutP l) := okP_cutF _ none true [] l (by omega) (fun k hk => absurd hk (by simp)) (by simp) (by simp) (by simp) (fun h => by cases h)
end Go.Proofs.Ytejbfknhnhhlfaa

namespace Go.Proofs.Ytejbfknhnhhlfaa
set_option linter.unusedVariables false
set_option linter.unusedSimpArgs false

/-- A run's, or a rest's, bytes. -/
def encP (p : Piece) : List UInt8 := if p.2 then putB (2 * p.1.length) ++ putB (p.1.headD 0).toNat else putB (2 * p.1.length + 1) ++ [UInt8.ofNat (width p.1)] ++ packB p.1 (width p.1)
/-- A row's bytes. -/
def encR (l : List UInt64) : List UInt8 := (cutP l).flatMap encP

theorem pack_width (l : List UInt64) (h : l.length ≤ 65536) : packOk l (width l) = true := packOk_iff.2 ⟨by omega, by have := width_le64 l; omega, h, Int.le_refl _⟩
theorem encP_len (p : Piece) (h0 : p.1 ≠ []) (hl : p.1.length ≤ 65536) : 0 < (encP p).length ∧ (encP p).length ≤ 29 * p.1.length := by
  have hp := List.length_pos_iff.2 h0
  unfold encP
  split
  · rw [List.length_append]
    have h1 := putB_len (2 * p.1.length)
    have h2 := putB_len (p.1.headD 0).toNat
    omega
  · rw [List.length_append, List.length_append]
    have h1 := putB_len (2 * p.1.length + 1)
    have h2 := (unpack_pack (pack_width p.1 hl)).2.2
    have h3 := width_le64 p.1
    rw [h2, Int.toNat_natCast]
    unfold sizeOf'
    have h4 : width p.1 * p.1.length ≤ 64 * p.1.length := Nat.mul_le_mul_right _ h3
    simp only [List.length_singleton]
    omega

theorem no4_run {ns : List UInt64} (h4 : 4 ≤ ns.length) (hs : stretch ns = ns.length) : ¬ no4 ns := by
  intro h
  obtain ⟨_, _, e1⟩ := stretch_same (l := ns) (k := 1) (by omega)
  obtain ⟨_, _, e2⟩ := stretch_same (l := ns) (k := 2) (by omega)
  obtain ⟨_, _, e3⟩ := stretch_same (l := ns) (k := 3) (by omega)
  exact h 0 (by omega) ⟨e1.symm, e2.symm, e3.symm⟩
/-- A piece is a run just if it is long, and of one number. -/
theorem okP_piece : ∀ (ps : List Piece) (prev : Option UInt64) (was : Bool), okP prev was ps → ∀ p ∈ ps, p.1 ≠ [] ∧ p.2 = decide (4 ≤ p.1.length ∧ stretch p.1 = p.1.length)
  | [], _, _, _, p, hp => by simp at hp
  | (ns, run) :: ps, prev, was, ⟨h1, h2, h3, h4⟩, p, hp => by
    rcases List.mem_cons.1 hp with rfl | hp
    · refine ⟨h1, ?_⟩
      cases run with
      | true => simp only [if_true] at h3; exact (decide_eq_true h3).symm
      | false =>
        simp only [Bool.false_eq_true, if_false] at h3
        exact (decide_eq_false (fun h => no4_run h.1 h.2 h3.2)).symm
    · exact okP_piece ps _ _ h4 p hp
theorem cutP_piece {l : List UInt64} {p : Piece} (hp : p ∈ cutP l) : p.1 ≠ [] ∧ p.2 = decide (4 ≤ p.1.length ∧ stretch p.1 = p.1.length) := okP_piece _ _ _ (okP_cutP l) p hp
theorem piece_len {ps : List Piece} {p : Piece} (hp : p ∈ ps) : p.1.length ≤ (ps.flatMap (·.1)).length := by
  induction ps with
  | nil => simp at hp
  | cons q ps ih =>
    rw [List.flatMap_cons, List.length_append]
    rcases List.mem_cons.1 hp with rfl | hp
    · omega
    · have := ih hp; omega
theorem cutP_len {l : List UInt64} {p : Piece} (hp : p ∈ cutP l) : p.1.length ≤ l.length := by have := piece_len hp; rwa [cutP_all] at this
theorem enc_len : ∀ (ps : List Piece), (∀ p ∈ ps, p.1 ≠ [] ∧ p.1.length ≤ 65536) → ps.length ≤ (ps.flatMap (·.1)).length ∧ ps.length ≤ (ps.flatMap encP).length ∧ (ps.flatMap encP).length ≤ 29 * (ps.flatMap (·.1)).length
  | [], _ => by simp
  | p :: ps, h => by
    have h1 := encP_len p (h p (by simp)).1 (h p (by simp)).2
    have h0 := List.length_pos_iff.2 (h p (by simp)).1
    have h2 := enc_len ps (fun q hq => h q (by simp [hq]))
    rw [List.flatMap_cons, List.flatMap_cons, List.length_append, List.length_append, List.length_cons]
    omega
theorem cutP_fits {l : List UInt64} (hl : l.length ≤ 65536) : ∀ p ∈ cutP l, p.1 ≠ [] ∧ p.1.length ≤ 65536 := fun p hp => ⟨(cutP_piece hp).1, by have := cutP_len hp; omega⟩
theorem encB_len {l : List UInt64} (hl : l.length ≤ 65536) : (encR l).length ≤ 29 * l.length := by
  have := (enc_len (cutP l) (cutP_fits hl)).2.2
  rwa [cutP_all] at this
end Go.Proofs.Ytejbfknhnhhlfaa

namespace Go.Proofs.Ytejbfknhnhhlfaa
set_option linter.unusedVariables false
set_option linter.unusedSimpArgs false

/-- What a rest's bytes are read as, so many numbers. -/
def restC (s : Option (List UInt8)) (m : Nat) : List UInt64 × Option (List UInt8) :=
  let w : Int := byteC s
  let t := takeC (takeC s 1).2 (bytesLen w m)
  (unpackL t.1 w m, if unpackOk t.1 w m then t.2 else none)
/-- One step of reading: n numbers in all, q read. -/
def stepD (n : Nat) (q : List UInt64) (s : Option (List UInt8)) : Option (List UInt64 × Option (List UInt8)) :=
  let h := lenC s (2 * ((n : Int) - q.length) + 1)
  if h.1 < 2 then none
  else if h.1 % 2 = 1 then some (q ++ (restC h.2 (h.1 / 2)).1, (restC h.2 (h.1 / 2)).2)
  else some (q ++ List.replicate (h.1 / 2) (UInt64.ofNat (getC h.2).1), (getC h.2).2)

/-- What a row's pieces are like. -/
def okPc (p : Piece) : Prop := p.1 ≠ [] ∧ p.2 = decide (4 ≤ p.1.length ∧ stretch p.1 = p.1.length)
theorem run_rep {ns : List UInt64} (h : stretch ns = ns.length) : ns = List.replicate ns.length (ns.headD 0) := by
  apply List.ext_getElem (by simp)
  intro i h1 h2
  obtain ⟨h3, h4, h5⟩ := stretch_same (l := ns) (k := i) (by omega)
  rw [h5, List.getElem_replicate]
  cases ns with
  | nil => simp at h3
  | cons x t => rfl
theorem stepD_enc {n : Nat} {q : List UInt64} {p : Piece} (hp : okPc p) (hfit : q.length + p.1.length ≤ n) (hn : n ≤ 65536) (t : List UInt8) : stepD n q (some (encP p ++ t)) = some (q ++ p.1, some t) := by
  obtain ⟨ns, run⟩ := p
  obtain ⟨h0, hr⟩ := hp
  simp only [] at h0 hr hfit
  have hpos := List.length_pos_iff.2 h0
  cases run with
  | true =>
    obtain ⟨h4, hs⟩ := of_decide_eq_true hr.symm
    have hrep := run_rep hs
    have hx := (ns.headD 0).toNat_lt
    unfold stepD encP
    simp only [if_true]
    rw [List.append_assoc, lenC_put (by omega) (by omega)]
    simp only []
    rw [if_neg (by omega), if_neg (by omega), getC_put hx, show 2 * ns.length / 2 = ns.length from by omega, UInt64.ofNat_toNat, ← hrep]
  | false =>
    have hw := width_le64 ns
    have hu := unpack_pack (pack_width ns (by omega))
    unfold stepD encP
    simp only [Bool.false_eq_true, if_false]
    rw [List.append_assoc, List.append_assoc, lenC_put (by omega) (by omega)]
    simp only []
    rw [if_neg (by omega), if_pos (by omega), show (2 * ns.length + 1) / 2 = ns.length from by omega]
    have hb : ((UInt8.ofNat (width ns)).toNat : Int) = (width ns : Nat) := by rw [UInt8.toNat_ofNat']; omega
    unfold restC
    simp only [List.cons_append, List.nil_append]
    rw [byteC_cons, hb, show takeC (some (UInt8.ofNat (width ns) :: (packB ns (width ns : Nat) ++ t))) 1 = ([UInt8.ofNat (width ns)], some (packB ns (width ns : Nat) ++ t)) from takeC_app [UInt8.ofNat (width ns)] _ rfl]
    simp only []
    rw [takeC_app _ _ (by rw [bytesLen_nat ⟨by omega, by omega, by omega, by omega⟩, hu.2.2]; rfl)]
    simp only []
    rw [hu.1, hu.2.1, if_pos rfl]

/-- What is known between two steps: whoever has these bytes goes on so. -/
def InvD (n : Nat) (b : List UInt8) (q : List UInt64) (s : Option (List UInt8)) : Prop :=
  ∀ l : List UInt64, l.length = n → n ≤ 65536 → encR l = b → ∃ ps : List Piece, (∀ p ∈ ps, okPc p) ∧ l = q ++ ps.flatMap (·.1) ∧ s = some (ps.flatMap encP)
theorem InvD.start (n : Nat) (b : List UInt8) : InvD n b [] (some b) := fun l hl hn hb =>
  ⟨cutP l, fun p hp => cutP_piece hp, by rw [List.nil_append, cutP_all], by rw [← hb]; rfl⟩
theorem InvD.step {n : Nat} {b : List UInt8} {q : List UInt64} {s : Option (List UInt8)} (h : InvD n b q s) (hs : s ≠ some []) :
    (stepD n q s = none → ∀ l : List UInt64, l.length = n → n ≤ 65536 → encR l ≠ b) ∧ (∀ q' s', stepD n q s = some (q', s') → InvD n b q' s') := by
  have key : ∀ l : List UInt64, l.length = n → n ≤ 65536 → encR l = b → ∃ p ps, (∀ x ∈ p :: ps, okPc x) ∧ l = q ++ p.1 ++ ps.flatMap (·.1) ∧ stepD n q s = some (q ++ p.1, some (ps.flatMap encP)) := by
    intro l hl hn hb
    obtain ⟨ps, h1, h2, h3⟩ := h l hl hn hb
    cases ps with
    | nil => exact absurd h3 hs
    | cons p ps =>
      refine ⟨p, ps, h1, by rw [h2]; simp, ?_⟩
      rw [h3, List.flatMap_cons]
      refine stepD_enc (h1 p (by simp)) ?_ hn _
      rw [← hl, h2]
      simp
  refine ⟨fun h0 l hl hn hb => ?_, fun q' s' h0 l hl hn hb => ?_⟩
  · obtain ⟨p, ps, _, _, h3⟩ := key l hl hn hb
    rw [h0] at h3
    cases h3
  · obtain ⟨p, ps, h1, h2, h3⟩ := key l hl hn hb
    rw [h0] at h3
    injection h3 with h3
    injection h3 with h3 h4
    subst h3 h4
    exact ⟨ps, fun x hx => h1 x (by simp [hx]), h2, rfl⟩
theorem InvD.end_ {n : Nat} {b : List UInt8} {q : List UInt64} (h : InvD n b q (some [])) : ∀ l : List UInt64, l.length = n → n ≤ 65536 → encR l = b → l = q := by
  intro l hl hn hb
  obtain ⟨ps, h1, h2, h3⟩ := h l hl hn hb
  cases ps with
  | nil => simpa using h2
  | cons p ps =>
    rw [List.flatMap_cons] at h3
    injection h3 with h3
    have h4 := List.append_eq_nil_iff.1 h3.symm
    have h5 := (encP_len p (h1 p (by simp)).1 (by
      have := congrArg List.length h2
      simp at this
      omega)).1
    rw [h4.1] at h5
    simp at h5
theorem InvD.bad {n : Nat} {b : List UInt8} {q : List UInt64} (h : InvD n b q none) : ∀ l : List UInt64, l.length = n → n ≤ 65536 → encR l ≠ b := by
  intro l hl hn hb
  obtain ⟨ps, h1, h2, h3⟩ := h l hl hn hb
  cases h3

/-- What 'Decode' answers: out and ok. -/
def DecOk (b : List UInt8) (n : Int) (out : List UInt64) (ok : Bool) : Prop :=
  (ok = true → (out.length : Int) = n ∧ n ≤ 65536 ∧ encR out = b) ∧ (ok = false → out = []) ∧ ∀ l : List UInt64, (l.length : Int) = n → n ≤ 65536 → encR l = b → ok = true ∧ out = l
theorem DecOk.same {b : List UInt8} {n : Int} {o1 o2 : List UInt64} {k1 k2 : Bool} (h1 : DecOk b n o1 k1) (h2 : DecOk b n o2 k2) : o1 = o2 ∧ k1 = k2 := by
  cases k1 with
  | true =>
    obtain ⟨e1, e2, e3⟩ := h1.1 rfl
    obtain ⟨e4, e5⟩ := h2.2.2 o1 e1 e2 e3
    exact ⟨e5.symm, e4.symm⟩
  | false =>
    cases k2 with
    | false => exact ⟨(h1.2.1 rfl).trans (h2.2.1 rfl).symm, rfl⟩
    | true =>
      obtain ⟨e1, e2, e3⟩ := h2.1 rfl
      obtain ⟨e4, e5⟩ := h1.2.2 o2 e1 e2 e3
      cases e4
theorem DecOk.back {l out : List UInt64} {ok : Bool} (hl : l.length ≤ 65536) (h : DecOk (encR l) l.length out ok) : ok = true ∧ out = l := h.2.2 l rfl (by omega) rfl
theorem enc_inj {a b : List UInt64} (ha : a.length ≤ 65536) (hl : a.length = b.length) (h : encR a = encR b) : a = b := by
  have key : ∀ (k : Nat) (q : List UInt64) (s : Option (List UInt8)), (s.getD []).length ≤ k → InvD a.length (encR a) q s → a = b := by
    intro k
    induction k with
    | zero =>
      intro q s hk hI
      obtain ⟨ps, _, _, h3⟩ := hI a rfl ha rfl
      subst h3
      have h4 : ps.flatMap encP = [] := List.eq_nil_of_length_eq_zero (by simpa using hk)
      rw [h4] at hI
      exact (hI.end_ a rfl ha rfl).trans (hI.end_ b hl.symm ha h.symm).symm
    | succ k ih =>
      intro q s hk hI
      obtain ⟨ps, hps, h2, h3⟩ := hI a rfl ha rfl
      by_cases h0 : s = some []
      · subst h0; exact (hI.end_ a rfl ha rfl).trans (hI.end_ b hl.symm ha h.symm).symm
      · cases ps with
        | nil => exact absurd h3 h0
        | cons p ps =>
          have hst := stepD_enc (n := a.length) (q := q) (hps p (by simp)) (by have := congrArg List.length h2; simp at this; omega) ha (ps.flatMap encP)
          rw [List.flatMap_cons] at h3
          have h5 := (encP_len p (hps p (by simp)).1 (by have := congrArg List.length h2; simp at this; omega)).1
          refine ih _ _ ?_ ((hI.step h0).2 _ _ (by rw [h3]; exact hst))
          subst h3
          simp at hk ⊢
          omega
  exact key _ [] (some (encR a)) (Nat.le_refl _) (InvD.start _ _)
end Go.Proofs.Ytejbfknhnhhlfaa

namespace Go.Proofs.Ytejbfknhnhhlfaa
open Go Go.RowKit
set_option maxRecDepth 10000

theorem Try.infoInt : (Try.prog.info? 3).map (fun i => (i.zero, i.size, i.bytes)) = some (some (.int .i64 0), 1, 8) := by kernel_rfl

/-- How many numbers runs and rests have. -/
def sizes (ps : List Piece) : List Int := ps.map fun p => (p.1.length : Int)
theorem sizes_append (a b : List Piece) : sizes (a ++ b) = sizes a ++ sizes b := by simp [sizes]

/-- Numbers as bytes, if they are few enough. -/
def enc (l : List UInt64) : List UInt8 := if l.length ≤ 65536 then encR l else []

end Go.Proofs.Ytejbfknhnhhlfaa
