/-
  Regions whose order is open, whole, as Qk has them, behind a wall: what is left is not looked into while a step is shown (a chain of passed-over operations would be).
-/
import Derived.Test.YtcpimhefclfbaaaGreatDoorQk
namespace Go.Proofs.YtcpimhefclfbaaaGreatDoor
open Go Go.RowKit
set_option linter.unusedVariables false
set_option linter.unusedSimpArgs false

structure QQ (P : Program) (ops : Array Oper) (C : World → Prop) (Qa : Act → Prop) (l : List Oper) (a : Act) : Prop where
  out : wpQuiet P ops C Qa l a
section
variable {P : Program} {ops : Array Oper} {C : World → Prop} {Qa : Act → Prop} {a : Act} {o : Oper} {rest : List Oper}
theorem wp_region_qq {id : Nat} {Q : Exit → Act → World → Prop} {w0 w : World} {l : List Oper} (hm : P.follows .mixedOrders = true) (hB : Region.lexB .any l.toArray = true) (hw0 : Keep [] w0 w)
    (h : QQ P l.toArray (fun w' => Keep [] w0 w') (fun a' => ∀ w', Keep [] w0 w' → Q .normal a' w') l a) : (Code.region id l.toArray true).wp P Q a w :=
  wp_region_quietK hm hB hw0 h.out
theorem qq_val {v : Value} (hg : Region.wanted o (yielded ops a.tmps) = true) (h : ∀ w, C w → Gives v w ((execOp a.eval o).run P w)) (hr : QQ P ops C Qa rest (a.put o.dst v)) : QQ P ops C Qa (o :: rest) a := ⟨q_val hg h hr.out⟩
theorem qq_skip (hg : Region.wanted o (yielded ops a.tmps) = false) (hr : QQ P ops C Qa rest (a.put o.dst undef)) : QQ P ops C Qa (o :: rest) a := ⟨q_skip hg hr.out⟩
theorem qq_call {v : Value} {f : FuncId} {args : Array Value} (hg : Region.wanted o (yielded ops a.tmps) = true) (h : ∀ w, C w → Enters f args w ((execOp a.eval o).run P w))
    (hc : ∀ w, C w → Calls P f args w fun e w' => e = .returned v ∧ C w') (hr : QQ P ops C Qa rest (a.put o.dst v)) : QQ P ops C Qa (o :: rest) a := ⟨q_call hg h hc hr.out⟩
theorem qq_nil (h : Qa a) : QQ P ops C Qa [] a := ⟨wpQuiet_nil h⟩
end
end Go.Proofs.YtcpimhefclfbaaaGreatDoor
