/-
  Layer 10's pieces, of whatever row.
-/
import Derived.Test.YtphgfhghbpndaaaRn6
namespace Go.Proofs.Ytphgfhghbpndaaa
open Go Go.RowKit Go.Shelf
set_option linter.unusedVariables false
set_option linter.unusedSimpArgs false

theorem pieces_seq (n : Nat) (hn : 3 ≤ n) (Bs n₀ c : Nat) (A : Option Addr) (l : List UInt64) (w : World) (hBs : w.cell? ⟨Bs, 0, none⟩ = some (.slice A l.length c)) (hl : U64s [] w A l.length c l) (hb : ∀ b off, A = some ⟨b, off, none⟩ → l ≠ [] → b < n₀) (hBn : Bs < w.heap.size) (hn₀ : n₀ ≤ w.heap.size) :
    ∃ b off, (l ≠ [] → A = some ⟨b, off, none⟩) ∧ SeqStopsK Fence.wide n Try.prog 40 #[.pointer (some ⟨Bs, 0, none⟩)] (fun x : Spot l.length => x.val b off c) (KpB n₀ Bs) (fun xs => xs.map Spot.piece = cutP l) (fun _ => True) (l.length + 1) w := by
  by_cases h0 : l = []
  · subst h0
    refine ⟨0, 0, fun h => absurd rfl h, fun y J Jx W hW hJ hJx hY h0 => ?_⟩
    exact (pieces1_nil A c n y Bs n₀ J W ((hW.cell (p := ⟨Bs, 0, none⟩) hBn).trans hBs) h0).mono fun e W' ⟨he, hj⟩ => ⟨he, .inl ⟨[], by simp [cutP, cutF], hj⟩⟩
  · obtain ⟨b, off, rfl, _, _, _⟩ := hl.2.2.2.1 (List.length_pos_iff.2 h0)
    exact ⟨b, off, fun _ => rfl, pieces_stops n hn Bs n₀ b off c l w (hb b off rfl h0) hBs hl hBn hn₀⟩
end Go.Proofs.Ytphgfhghbpndaaa
