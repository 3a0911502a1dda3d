/-
  Regions whose order is open, whole: their calls make memory at most; one walk in the text's order.
-/
import Derived.Deep.Quiet
import Derived.Test.YtcpimhefclfbaaaGreatDoorOrds4
namespace Go.Proofs.YtcpimhefclfbaaaGreatDoor
open Go Go.RowKit
set_option linter.unusedVariables false
set_option linter.unusedSimpArgs false

section
variable {P : Program} {ops : Array Oper} {C : World → Prop} {Qa : Act → Prop} {a : Act} {o : Oper} {rest : List Oper}
theorem wp_region_quietK {id : Nat} {Q : Exit → Act → World → Prop} {w0 w : World} {l : List Oper} (hm : P.follows .mixedOrders = true) (hB : Region.lexB .any l.toArray = true) (hw0 : Keep [] w0 w)
    (h : wpQuiet P l.toArray (fun w' => Keep [] w0 w') (fun a' => ∀ w', Keep [] w0 w' → Q .normal a' w') l a) : (Code.region id l.toArray true).wp P Q a w :=
  wp_region_quiet (C := fun w' => Keep [] w0 w') hm hB hw0.drew (by simpa using h)
theorem q_val {v : Value} (hg : Region.wanted o (yielded ops a.tmps) = true) (h : ∀ w, C w → Gives v w ((execOp a.eval o).run P w)) (hr : wpQuiet P ops C Qa rest (a.put o.dst v)) : wpQuiet P ops C Qa (o :: rest) a := by
  unfold wpQuiet
  rw [if_pos hg]
  refine ⟨v, fun w hw => ?_, hr⟩
  unfold Oper.quietAt
  rw [h w hw]
  exact ⟨rfl, rfl⟩
theorem q_skip (hg : Region.wanted o (yielded ops a.tmps) = false) (hr : wpQuiet P ops C Qa rest (a.put o.dst undef)) : wpQuiet P ops C Qa (o :: rest) a := by
  unfold wpQuiet
  rw [if_neg (by simp [hg])]
  exact hr
theorem q_call {v : Value} {f : FuncId} {args : Array Value} (hg : Region.wanted o (yielded ops a.tmps) = true) (h : ∀ w, C w → Enters f args w ((execOp a.eval o).run P w))
    (hc : ∀ w, C w → Calls P f args w fun e w' => e = .returned v ∧ C w') (hr : wpQuiet P ops C Qa rest (a.put o.dst v)) : wpQuiet P ops C Qa (o :: rest) a := by
  unfold wpQuiet
  rw [if_pos hg]
  refine ⟨v, fun w hw => ?_, hr⟩
  unfold Oper.quietAt
  rw [h w hw]
  exact ⟨rfl, hc w hw⟩
/-- A contract, in the class. -/
theorem keep_call {f : FuncId} {args : Array Value} {w0 w : World} {v : Value} (h : Calls P f args w fun e w' => e = .returned v ∧ Keep [] w w') (hw : Keep [] w0 w) : Calls P f args w fun e w' => e = .returned v ∧ Keep [] w0 w' :=
  h.mono fun _ _ ⟨h1, h2⟩ => ⟨h1, hw.trans h2⟩
end
end Go.Proofs.YtcpimhefclfbaaaGreatDoor
