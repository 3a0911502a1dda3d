/-
  Cells that came in, with their texts' bound.
-/
import Derived.Test.YtejbfknhnhhlfaaFOp
namespace Go.Proofs.Ytejbfknhnhhlfaa
open Go Go.RowKit Go.ChangeShapes Go.WideShapes Go.ChangeAt Go.Deep
set_option linter.unusedVariables false
set_option maxRecDepth 10000

section
variable {H : Type} {enc : TypeId × Value → H} {w : World} {base : Nat} {spare : Nat → Bool} {held : Bool}
theorem open_cellsT {r : Reach} {b0 : Nat} {v : Value} {d : DataW H} {ps : List MemPlace} (hval : Value.okWide Try.prog w r b0 22 v) (hd : DataW.Trod enc Try.prog w base spare held 22 v d ps) :
    ∃ A n c l, v = .slice A n c ∧ Cells [] w A n c l ∧ ∀ x ∈ l, x.text.size ≤ maxLen := by
  obtain ⟨A, n, c, l, rfl, hr, hg⟩ := open_rows (α := Cell) Cell.cs (fun x => x.text.size ≤ maxLen) Cell.len (by omega) Try.underlying22 (by kernel_rfl) (fun fuel cs x h => by
    obtain ⟨c, hc, ht⟩ := cell_of h
    exact ⟨c, hc, ht⟩) hval hd
  exact ⟨A, n, c, l, rfl, hr, hg⟩
end
end Go.Proofs.Ytejbfknhnhhlfaa
