/-
  Regions whose order is open: one walk in the text's order, each operation by the walk's own steps.
-/
import Derived.Test.YtcpimhefclfbaaaGreatDoorBase
namespace Go.Proofs.YtcpimhefclfbaaaGreatDoor
open Go Go.RowKit

/-- No call, nothing deferred, no check for nil. -/
def plainOp : Op → Bool
  | .call _ | .go _ | .defer _ | .send .. | .recv .. | .select .. | .nilCheck _ => false
  | _ => true

theorem plain_next {P : Program} {ρ : Operand → Value} {o : Oper} (h : plainOp o.op = true) {w w' : World} {n : Next} (hr : (execOp ρ o).run P w = .ok n w') :
    (∃ v, n = .value v) ∨ n = .skip := by
  have hv : ∀ {β : Type} (s : Sem β) (f : β → Value), (do Pure.pure (Next.value (f (← s))) : Sem Next).run P w = .ok n w' → ∃ v, n = .value v := by
    intro β s f hs
    simp only [Sem.run_bind] at hs
    cases hrun : s.run P w with
    | ok v w1 => rw [hrun] at hs; simp at hs; exact ⟨_, hs.1.symm⟩
    | halt x w1 => rw [hrun] at hs; simp [Result.andThen] at hs
  have hu : ∀ (s : Sem Unit), (do s; Pure.pure Next.skip : Sem Next).run P w = .ok n w' → n = .skip := by
    intro s hs
    simp only [Sem.run_bind] at hs
    cases hrun : s.run P w with
    | ok v w1 => rw [hrun] at hs; simp at hs; exact hs.1.symm
    | halt x w1 => rw [hrun] at hs; simp [Result.andThen] at hs
  unfold execOp at hr
  split at hr <;> first
    | (rename_i hop; rw [hop] at h; simp [plainOp] at h; done)
    | exact .inl (hv _ id hr)
    | exact .inr (hu _ hr)
    | (simp at hr; exact .inl ⟨_, hr.1.symm⟩)
    | exact .inl (hv _ (fun b => if b = true then _ else _) hr)

/-- One operation of a region whose order is open, carried out by the walk's own step: it must leave the world alone. -/
theorem still_of_wp {P : Program} {o : Oper} {a : Act} {w : World} {next : Act → Prop} (h : plainOp o.op = true) (hw : o.wp P a w (fun a' w' => w' = w ∧ next a') (fun _ _ _ => False)) : o.still P a w next := by
  unfold Oper.wp at hw
  unfold Oper.still
  cases hr : (execOp a.eval o).run P w with
  | ok n w' =>
    rw [hr] at hw
    rcases plain_next h hr with ⟨v, rfl⟩ | rfl
    · exact hw
    · exact hw
  | halt x w' =>
    rw [hr] at hw
    cases x <;> exact hw.elim

section
variable {P : Program} {ops : Array Oper} {w : World} {Q : Act → Prop} {a : Act} {o : Oper} {rest : List Oper}

theorem still_step (hp : plainOp o.op = true) (hg : Region.wanted o (yielded ops a.tmps) = true)
    (h : ∀ K : Act → World → Prop, (∀ a', wpStill P ops w Q rest a' → K a' w) → o.wp P a w K (fun _ _ _ => False)) : wpStill P ops w Q (o :: rest) a := by
  unfold wpStill
  rw [if_pos hg]
  exact still_of_wp hp (h _ (fun a' h => ⟨rfl, h⟩))
theorem still_plain (hp : plainOp o.op = true) (hg : o.guard = none)
    (h : ∀ K : Act → World → Prop, (∀ a', wpStill P ops w Q rest a' → K a' w) → o.wp P a w K (fun _ _ _ => False)) : wpStill P ops w Q (o :: rest) a :=
  still_step hp (by simp [Region.wanted, hg]) h
theorem still_skip (hg : Region.wanted o (yielded ops a.tmps) = false) (h : wpStill P ops w Q rest (a.put o.dst undef)) : wpStill P ops w Q (o :: rest) a := by
  unfold wpStill
  rw [hg]
  exact h
theorem still_call {f : FuncId} {args : Array Value} {v : Value} (hg : Region.wanted o (yielded ops a.tmps) = true) (hr : (execOp a.eval o).run P w = .ok (.enter f args) w)
    (hc : Calls P f args w (fun e w'' => e = .returned v ∧ w = w'')) (h : wpStill P ops w Q rest (a.put o.dst v)) : wpStill P ops w Q (o :: rest) a := by
  unfold wpStill
  rw [if_pos hg]
  unfold Oper.still
  rw [hr]
  exact ⟨rfl, v, hc.mono fun _ _ ⟨h1, h2⟩ => ⟨h1, h2.symm⟩, h⟩
theorem still_nilCheck {x : Operand} {p : Addr} (ho : o.op = .nilCheck x) (hg : Region.wanted o (yielded ops a.tmps) = true) (hx : a.eval x = .pointer (some p)) (h : wpStill P ops w Q rest (a.put o.dst (.pointer (some p)))) :
    wpStill P ops w Q (o :: rest) a := by
  unfold wpStill
  rw [if_pos hg]
  unfold Oper.still execOp
  simp only [ho, hx]
  exact ⟨rfl, h⟩
end
end Go.Proofs.YtcpimhefclfbaaaGreatDoor
