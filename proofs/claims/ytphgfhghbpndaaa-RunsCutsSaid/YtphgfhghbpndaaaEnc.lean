/-
  Runs and rests as bytes, as plain laws: no program here.
-/
import Derived.Test.YtphgfhghbpndaaaRuns
namespace Go.Proofs.Ytphgfhghbpndaaa
set_option linter.unusedVariables false
set_option linter.unusedSimpArgs false

/-- A run's, or a rest's, bytes. -/
def encP (p : Piece) : List UInt8 := if p.2 then putB (2 * p.1.length) ++ putB (p.1.headD 0).toNat else putB (2 * p.1.length + 1) ++ [UInt8.ofNat (width p.1)] ++ packB p.1 (width p.1)
/-- A row's bytes. -/
def encB (l : List UInt64) : List UInt8 := (cutP l).flatMap encP

theorem pack_width (l : List UInt64) (h : l.length ≤ 65536) : packOk l (width l) = true := packOk_iff.2 ⟨by omega, by have := width_le64 l; omega, h, Int.le_refl _⟩
theorem encP_len (p : Piece) (h0 : p.1 ≠ []) (hl : p.1.length ≤ 65536) : 0 < (encP p).length ∧ (encP p).length ≤ 29 * p.1.length := by
  have hp := List.length_pos_iff.2 h0
  unfold encP
  split
  · rw [List.length_append]
    have h1 := putB_len (2 * p.1.length)
    have h2 := putB_len (p.1.headD 0).toNat
    omega
  · rw [List.length_append, List.length_append]
    have h1 := putB_len (2 * p.1.length + 1)
    have h2 := (unpack_pack (pack_width p.1 hl)).2.2
    have h3 := width_le64 p.1
    rw [h2, Int.toNat_natCast]
    unfold sizeOf'
    have h4 : width p.1 * p.1.length ≤ 64 * p.1.length := Nat.mul_le_mul_right _ h3
    simp only [List.length_singleton]
    omega

theorem no4_run {ns : List UInt64} (h4 : 4 ≤ ns.length) (hs : stretch ns = ns.length) : ¬ no4 ns := by
  intro h
  obtain ⟨_, _, e1⟩ := stretch_same (l := ns) (k := 1) (by omega)
  obtain ⟨_, _, e2⟩ := stretch_same (l := ns) (k := 2) (by omega)
  obtain ⟨_, _, e3⟩ := stretch_same (l := ns) (k := 3) (by omega)
  exact h 0 (by omega) ⟨e1.symm, e2.symm, e3.symm⟩
/-- A piece is a run just if it is long, and of one number. -/
theorem okP_piece : ∀ (ps : List Piece) (prev : Option UInt64) (was : Bool), okP prev was ps → ∀ p ∈ ps, p.1 ≠ [] ∧ p.2 = decide (4 ≤ p.1.length ∧ stretch p.1 = p.1.length)
  | [], _, _, _, p, hp => by simp at hp
  | (ns, run) :: ps, prev, was, ⟨h1, h2, h3, h4⟩, p, hp => by
    rcases List.mem_cons.1 hp with rfl | hp
    · refine ⟨h1, ?_⟩
      cases run with
      | true => simp only [if_true] at h3; exact (decide_eq_true h3).symm
      | false =>
        simp only [Bool.false_eq_true, if_false] at h3
        exact (decide_eq_false (fun h => no4_run h.1 h.2 h3.2)).symm
    · exact okP_piece ps _ _ h4 p hp
theorem cutP_piece {l : List UInt64} {p : Piece} (hp : p ∈ cutP l) : p.1 ≠ [] ∧ p.2 = decide (4 ≤ p.1.length ∧ stretch p.1 = p.1.length) := okP_piece _ _ _ (okP_cutP l) p hp
theorem piece_len {ps : List Piece} {p : Piece} (hp : p ∈ ps) : p.1.length ≤ (ps.flatMap (·.1)).length := by
  induction ps with
  | nil => simp at hp
  | cons q ps ih =>
    rw [List.flatMap_cons, List.length_append]
    rcases List.mem_cons.1 hp with rfl | hp
    · omega
    · have := ih hp; omega
theorem cutP_len {l : List UInt64} {p : Piece} (hp : p ∈ cutP l) : p.1.length ≤ l.length := by have := piece_len hp; rwa [cutP_all] at this
theorem enc_len : ∀ (ps : List Piece), (∀ p ∈ ps, p.1 ≠ [] ∧ p.1.length ≤ 65536) → ps.length ≤ (ps.flatMap (·.1)).length ∧ ps.length ≤ (ps.flatMap encP).length ∧ (ps.flatMap encP).length ≤ 29 * (ps.flatMap (·.1)).length
  | [], _ => by simp
  | p :: ps, h => by
    have h1 := encP_len p (h p (by simp)).1 (h p (by simp)).2
    have h0 := List.length_pos_iff.2 (h p (by simp)).1
    have h2 := enc_len ps (fun q hq => h q (by simp [hq]))
    rw [List.flatMap_cons, List.flatMap_cons, List.length_append, List.length_append, List.length_cons]
    omega
theorem cutP_fits {l : List UInt64} (hl : l.length ≤ 65536) : ∀ p ∈ cutP l, p.1 ≠ [] ∧ p.1.length ≤ 65536 := fun p hp => ⟨(cutP_piece hp).1, by have := cutP_len hp; omega⟩
theorem encB_len {l : List UInt64} (hl : l.length ≤ 65536) : (encB l).length ≤ 29 * l.length := by
  have := (enc_len (cutP l) (cutP_fits hl)).2.2
  rwa [cutP_all] at this
end Go.Proofs.Ytphgfhghbpndaaa
