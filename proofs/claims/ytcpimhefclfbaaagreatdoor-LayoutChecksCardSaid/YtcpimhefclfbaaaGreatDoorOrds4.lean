/-
  Slices that an operation of an open region answers; stores by structs.
-/
import Derived.Test.YtcpimhefclfbaaaGreatDoorOrds3
namespace Go.Proofs.YtcpimhefclfbaaaGreatDoor
open Go Go.RowKit
set_option linter.unusedVariables false

/-- A slice that holds xs. -/
def RdIs (size : Nat) (xs : List Value) (_ : List Value) (v : Value) (w : World) : Prop := ∃ B k d, v = .slice B k d ∧ Rd [] w size B k d xs
theorem RdIs.lasts {size : Nat} {xs : List Value} : (Slot.spec (RdIs size xs)).lasts [] := fun _ _ _ _ ⟨B, k, d, h1, h2⟩ hk => ⟨B, k, d, h1, h2.pure hk⟩
/-- A quiet call, as one that may make memory. -/
theorem quiet_keep {P : Program} {f : FuncId} {args : Array Value} {w : World} {v : Value} (h : Calls P f args w fun e w' => e = .returned v ∧ w = w') : Calls P f args w fun e w' => e = .returned v ∧ Keep [] w w' :=
  h.mono fun _ _ ⟨h1, h2⟩ => ⟨h1, h2 ▸ Keep.refl _ _⟩

/-- 'append(v, x...)' is run: v the call's own, x whatever slice is read. -/
theorem run_append_rd {P : Program} {o : Oper} {a : Act} {w : World} (s x : Operand) (t : TypeId)
    (ho : o.op = .call { callee := .builtin .append, args := #[s, x], argTypes := #[t, t] })
    (base : Nat) (e : TypeId) (i : TypeInfo) (z : Value) (size bytes : Nat) (ht : P.underlying t = some (.slice e)) (hi : P.info? e = some i) (hz : i.zero = some z)
    (hsize : i.size = size) (hby : i.bytes = bytes) (hzs : z.cells.size = size) (hsz : 0 < size)
    (v : Value) (n : Nat) (xs : List Value) (hs : a.eval s = v) (hown : w.ownsRow base e size v n xs)
    {X : List Nat} {A : Option Addr} {m c : Nat} {news : List Value} (hx : a.eval x = .slice A m c) (hr : Rd X w size A m c news) (h1 : ∀ u ∈ news, u.oneCell' = true)
    (h63 : n + m ≤ maxLen) (hbytes : (n + m) * bytes ≤ 140737488355328) (hbase : base ≤ w.heap.size) :
    ∃ v' w', (execOp a.eval o).run P w = .ok (.value v') w' ∧ w'.ownsRow base e size v' (n + m) (xs ++ news) ∧ w.grownBy w' v.ownBlock := by
  cases A with
  | none =>
    obtain ⟨rfl, rfl⟩ := hr.none_nil
    obtain rfl := hr.2.2.2.2 rfl
    have hrun := run_append_owned_none (P := P) (w := w) base t o.type e i size ht hi v n xs hown
    refine ⟨v, w, ?_, by simpa using hown, ⟨rfl, rfl, rfl, Nat.le_refl _, fun _ _ _ => rfl⟩⟩
    simp [execOp, ho, resolve, invoke, builtin, hs, hx, hrun, Result.andThen]
  | some ad =>
    obtain ⟨v', w', hrun, h2, h3, _⟩ := run_append_own (P := P) w base t o.type e i z size bytes ht hi hz hsize hby hzs hsz v n xs hown ad m c news hr.1 (by
      intro j u hu
      rcases Nat.eq_zero_or_pos m with h0 | h0
      · subst h0
        have : news = [] := List.eq_nil_of_length_eq_zero (by simpa using hr.1)
        subst this
        simp at hu
      · obtain ⟨b, off, e', _, _, hc⟩ := hr.2.2.2.1 h0
        cases e'
        have := hc j u hu
        unfold Addr.add
        split
        · rename_i h0; subst h0; exact this
        · exact this) h1 h63 hbytes hbase
    refine ⟨v', w', ?_, h2, h3⟩
    unfold execOp
    simp only [ho, resolve, invoke, builtin, Sem.run_bind, Sem.run_pure, Result.andThen_ok, List.map_toArray, List.map_cons, List.map_nil, hs, hx, hrun]

section
variable {P : Program} {ops : Array Oper} {M : List Nat} {w0 : World} {C : Nat → World → Prop} {Ts : List Slot}
variable {o : Oper} {k : Nat} {A : (Nat → Value) → Act}
/-- An append to a row of the call's own, as the last operation that writes. -/
theorem obl_append (s x : Operand) (t : TypeId) (ho : o.op = .call { callee := .builtin .append, args := #[s, x], argTypes := #[t, t] }) (hg : ∀ vals, Region.wanted o (yielded ops (A vals).tmps) = true)
    (base : Nat) (e : TypeId) (i : TypeInfo) (z : Value) (size bytes : Nat) (ht : P.underlying t = some (.slice e)) (hi : P.info? e = some i) (hz : i.zero = some z)
    (hsize : i.size = size) (hby : i.bytes = bytes) (hzs : z.cells.size = size) (hsz : 0 < size)
    (v : Value) (n : Nat) (xs : List Value) (hs : ∀ vals, (A vals).eval s = v) (hM : ∀ b, v.ownBlock = some b → b ∈ M) (hC : ∀ w, C k w → w.ownsRow base e size v n xs) (hC1 : ∀ w, C (k + 1) w)
    {X : List Nat} {m : Nat} {news : List Value} (hx : ∀ vals w, Keep M w0 w → Known ops Ts o vals w → ∃ B c, (A vals).eval x = .slice B m c ∧ Rd X w size B m c news) (h1 : ∀ u ∈ news, u.oneCell' = true)
    (h63 : n + m ≤ maxLen) (hbytes : (n + m) * bytes ≤ 140737488355328) (hbase : base ≤ w0.heap.size) :
    oblOf P ops M w0 C Ts o (.mutS fun _ v' w' => w'.ownsRow base e size v' (n + m) (xs ++ news)) k A := fun vals w hw hCw hd => by
  obtain ⟨B, c, hxe, hr⟩ := hx vals w hw hd
  obtain ⟨v', w', hrun, h2, h3⟩ := run_append_rd (P := P) (a := A vals) s x t ho base e i z size bytes ht hi hz hsize hby hzs hsz v n xs (hs vals) (hC w hCw) hxe hr h1 h63 hbytes (Nat.le_trans hbase hw.size)
  refine .inl ⟨hg vals, ?_⟩
  rw [hrun]
  exact ⟨⟨(keep_of_grown h3).mono (fun b hb => .inl (hM b (by simpa using hb))), hC1 w'⟩, h2⟩
end
end Go.Proofs.YtcpimhefclfbaaaGreatDoor
