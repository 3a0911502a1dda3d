/-
  Regions whose order is open: each operation is shown once, in whatever order they come. What is known of an operation's value is a constant, or a predicate that lasts while memory is made; some operations (in a forced order among themselves) may write blocks of M.
-/
import Derived.StillTailTactics
import Derived.StillTail
import Derived.Test.YtcpimhefclfbaaaGreatDoorStep
namespace Go.Proofs.YtcpimhefclfbaaaGreatDoor
open Go Go.RowKit
set_option linter.unusedVariables false
set_option linter.unusedSimpArgs false

/-- What is known of an operation's value: a constant; a predicate over the values that it waits for, its own, and the world. 'mut': one of the operations that write. -/
inductive Slot where
  | val (c : Value)
  | spec (T : List Value → Value → World → Prop)
  | mut (c : Value)
  | mutS (T : List Value → Value → World → Prop)
def Slot.chain : Slot → Bool
  | .val _ | .spec _ => false
  | .mut _ | .mutS _ => true
def Slot.put : Slot → Value → Value
  | .val c, _ => c
  | .mut c, _ => c
  | .spec _, v => v
  | .mutS _, v => v
def Slot.holds : Slot → List Value → Value → World → Prop
  | .val c, _, v, _ => v = c
  | .mut c, _, v, _ => v = c
  | .spec T, ds, v, w => T ds v w
  | .mutS T, ds, v, w => T ds v w
def Slot.lasts (M : List Nat) : Slot → Prop
  | .val _ => True
  | .mut _ => True
  | .spec T => ∀ ds v w w', T ds v w → Keep M w w' → T ds v w'
  | .mutS T => ∀ ds v w w', T ds v w → Keep M w w' → T ds v w'
theorem Slot.holds_put {t : Slot} {ds : List Value} {v : Value} {w : World} (h : t.holds ds v w) : t.put v = v := by
  cases t <;> simp only [Slot.put, Slot.holds] at h ⊢ <;> exact h.symm
theorem Slot.holds_keep {M : List Nat} {t : Slot} {ds : List Value} {v : Value} {w w' : World} (hl : t.lasts M) (h : t.holds ds v w) (hk : Keep M w w') : t.holds ds v w' := by
  cases t <;> simp only [Slot.lasts, Slot.holds] at hl h ⊢
  · exact h
  · exact hl _ _ _ _ h hk
  · exact h
  · exact hl _ _ _ _ h hk

def depsOf (o : Oper) : List Nat := (o.after.toList.filter fun e => Region.binds .any e).map (·.on)
def depVals (ops : Array Oper) (vals : Nat → Value) (k : Nat) : List Value := match ops[k]? with
  | some o => (depsOf o).map vals
  | none => []
theorem mem_depsOf {o : Oper} {k : Nat} : k ∈ depsOf o ↔ ∃ e ∈ o.after, Region.binds .any e = true ∧ e.on = k := by
  unfold depsOf
  simp only [List.mem_map, List.mem_filter, Array.mem_toList_iff]
  constructor
  · rintro ⟨e, ⟨h1, h2⟩, h3⟩; exact ⟨e, h1, h2, h3⟩
  · rintro ⟨e, h1, h2, h3⟩; exact ⟨e, ⟨h1, h2⟩, h3⟩

/-- What a step comes to. -/
def Does (P : Program) (T : Value → World → Prop) (w : World) : Result Next → Prop
  | .ok (.value v) w' => T v w'
  | .ok .skip w' => T undef w'
  | .ok (.enter f args) w' => Calls P f args w' fun e w'' => ∃ v, e = .returned v ∧ T v w''
  | _ => False

/-- What an operation has to show: it is wanted, and does so; or it is not, and counts as undef. -/
def Obl (P : Program) (ops : Array Oper) (T : Value → World → Prop) (o : Oper) (a : Act) (w : World) : Prop :=
  (Region.wanted o (yielded ops a.tmps) = true ∧ Does P T w ((execOp a.eval o).run P w)) ∨ (Region.wanted o (yielded ops a.tmps) = false ∧ T undef w)

section
variable (P : Program) (ops : Array Oper) (M : List Nat) (w0 : World) (C : Nat → World → Prop) (Ts : List Slot) (R : (Nat → Value) → Act → World → Prop)
/-- Of the operations that o waits for, what is known. -/
def Known (o : Oper) (vals : Nat → Value) (w : World) : Prop := ∀ k ∈ depsOf o, ∀ t : Slot, Ts[k]? = some t → t.holds (depVals ops vals k) (vals k) w
def KnownAll (vals : Nat → Value) (w : World) : Prop := ∀ (k : Nat) (t : Slot), Ts[k]? = some t → t.holds (depVals ops vals k) (vals k) w
def oblOf (o : Oper) (t : Slot) (c : Nat) (A : (Nat → Value) → Act) : Prop :=
  match t.chain with
  | false => ∀ vals w, Keep M w0 w → Known ops Ts o vals w → Obl P ops (fun v w' => Keep [] w w' ∧ t.holds ((depsOf o).map vals) v w') o (A vals) w
  | true => ∀ vals w, Keep M w0 w → C c w → Known ops Ts o vals w → Obl P ops (fun v w' => (Keep M w w' ∧ C (c + 1) w') ∧ t.holds ((depsOf o).map vals) v w') o (A vals) w
/-- All that is to be shown, in the text's order; behind it the rest. -/
def Obls : List Oper → List Slot → Nat → Nat → ((Nat → Value) → Act) → Prop
  | o :: os, t :: ts, k, c, A => oblOf P ops M w0 C Ts o t c A ∧ Obls os ts (k + 1) (c + if t.chain then 1 else 0) (fun vals => (A vals).put o.dst (t.put (vals k)))
  | [], [], _, c, A => ∀ vals w, Keep M w0 w → C c w → KnownAll ops Ts vals w → R vals (A vals) w
  | _, _, _, _, _ => False
end

/-- The head's operations wait for what stands ahead alone, read what they wait for alone, and have slots of their own; those that write wait for one another. -/
def ordsB (ops : Array Oper) (ch : List Bool) (n : Nat) : Bool :=
  (List.range n).all fun j => match ops[j]? with
    | none => false
    | some o => (depsOf o).all (fun k => decide (k < j)) &&
        (List.range n).all (fun k => match ops[k]? with
          | none => false
          | some ok => (match ok.dst with
            | none => true
            | some d => (!(o.looksAt ops).contains d || (depsOf o).contains k) && (k == j || o.dst != some d))) &&
        (!(ch.getD j false) || (List.range j).all fun k => !(ch.getD k false) || (depsOf o).contains k || (List.range j).any fun m => ch.getD m false && decide (k < m) && (depsOf o).contains m)

/-! ### counts -/
def cntN (p : Nat → Bool) : Nat → Nat
  | 0 => 0
  | n + 1 => cntN p n + if p n then 1 else 0
theorem cntN_congr {p q : Nat → Bool} : ∀ {n : Nat}, (∀ k, k < n → p k = q k) → cntN p n = cntN q n
  | 0, _ => rfl
  | n + 1, h => by rw [cntN, cntN, cntN_congr (fun k hk => h k (by omega)), h n (by omega)]
theorem cntN_cut {p : Nat → Bool} {i : Nat} : ∀ {n : Nat}, i ≤ n → (∀ k, i ≤ k → k < n → p k = false) → cntN p n = cntN p i
  | 0, h, _ => by rw [show i = 0 by omega]
  | n + 1, h, hf => by
    by_cases hi : i = n + 1
    · rw [hi]
    · rw [cntN, hf n (by omega) (by omega), cntN_cut (n := n) (by omega) (fun k hk hk' => hf k hk (by omega))]
      simp
theorem cntN_shift (p : Nat → Bool) : ∀ n, cntN p (n + 1) = (if p 0 then 1 else 0) + cntN (fun k => p (k + 1)) n
  | 0 => by simp [cntN]
  | n + 1 => by rw [cntN, cntN_shift p n, cntN]; omega
theorem cntN_set {p q : Nat → Bool} {i : Nat} : ∀ {n : Nat}, i < n → p i = false → q i = true → (∀ k, k ≠ i → p k = q k) → cntN q n = cntN p n + 1
  | 0, h, _, _, _ => absurd h (by omega)
  | n + 1, h, hp, hq, hpq => by
    rw [cntN, cntN]
    by_cases hi : i = n
    · subst hi
      rw [hp, hq, cntN_congr (fun k hk => (hpq k (by omega)).symm)]
      simp
    · rw [cntN_set (n := n) (by omega) hp hq hpq, hpq n (Ne.symm hi)]
      omega
theorem cntN_zero {p : Nat → Bool} : ∀ {n : Nat}, cntN p n = 0 → ∀ k, k < n → p k = false
  | 0, _, k, hk => absurd hk (by omega)
  | n + 1, h, k, hk => by
    rw [cntN] at h
    by_cases hkn : k = n
    · subst hkn
      cases hp : p k with
      | false => rfl
      | true => rw [hp] at h; simp at h
    · exact cntN_zero (n := n) (by omega) k (by omega)
theorem cntN_some {p : Nat → Bool} : ∀ {n : Nat}, 0 < cntN p n → ∃ k, k < n ∧ p k = true ∧ ∀ j, j < k → p j = false
  | 0, h => absurd h (by simp [cntN])
  | n + 1, h => by
    by_cases h0 : 0 < cntN p n
    · obtain ⟨k, h1, h2, h3⟩ := cntN_some h0
      exact ⟨k, by omega, h2, h3⟩
    · rw [cntN, show cntN p n = 0 by omega] at h
      refine ⟨n, by omega, ?_, cntN_zero (by omega)⟩
      cases hp : p n with
      | true => rfl
      | false => rw [hp] at h; simp at h

/-! ### the state when the first operations have come, in the text's order -/
def pre : List Oper → List Slot → Nat → Nat → ((Nat → Value) → Act) → (Nat → Value) → Act
  | o :: os, t :: ts, k, i + 1, A => pre os ts (k + 1) i (fun vals => (A vals).put o.dst (t.put (vals k)))
  | _, _, _, _, A => A
theorem put_size (a : Act) (d : Option Tmp) (v : Value) : (a.put d v).tmps.size = a.tmps.size := by cases d <;> simp [Act.put]
theorem put_defers (a : Act) (d : Option Tmp) (v : Value) : (a.put d v).defers = a.defers := by cases d <;> rfl
theorem put_other {a : Act} {x : Option Tmp} {v : Value} {d : Tmp} (h : x ≠ some d) : (a.put x v).tmps[d]? = a.tmps[d]? := by
  cases x with
  | none => rfl
  | some e => simp only [Act.put]; exact Array.getElem?_setIfInBounds_ne (fun he => h (by rw [he]))
theorem put_same {a : Act} {v : Value} {d : Tmp} : (a.put (some d) v).tmps[d]? = if d < a.tmps.size then some v else none := by
  simp only [Act.put]
  rw [Array.getElem?_setIfInBounds]
  simp
theorem pre_size : ∀ (os : List Oper) (ts : List Slot) (k i : Nat) (A : (Nat → Value) → Act) (vals : Nat → Value), (pre os ts k i A vals).tmps.size = (A vals).tmps.size ∧ (pre os ts k i A vals).defers = (A vals).defers
  | o :: os, t :: ts, k, i + 1, A, vals => by
    have h := pre_size os ts (k + 1) i (fun vals => (A vals).put o.dst (t.put (vals k))) vals
    rw [pre]
    exact ⟨h.1.trans (put_size _ _ _), h.2.trans (put_defers _ _ _)⟩
  | [], _, _, _, _, _ => by cases ‹Nat› <;> exact ⟨rfl, rfl⟩
  | _ :: _, [], _, _, _, _ => by cases ‹Nat› <;> exact ⟨rfl, rfl⟩
  | _ :: _, _ :: _, _, 0, _, _ => ⟨rfl, rfl⟩
theorem pre_other : ∀ (os : List Oper) (ts : List Slot) (k i : Nat) (A : (Nat → Value) → Act) (vals : Nat → Value) (d : Tmp), (∀ j o, j < i → os[j]? = some o → o.dst ≠ some d) → (pre os ts k i A vals).tmps[d]? = (A vals).tmps[d]?
  | o :: os, t :: ts, k, i + 1, A, vals, d, h => by
    rw [pre, pre_other os ts (k + 1) i _ vals d (fun j o' hj ho => h (j + 1) o' (by omega) (by simpa using ho))]
    exact put_other (h 0 o (by omega) rfl)
  | [], _, _, i, _, _, _, _ => by cases i <;> rfl
  | _ :: _, [], _, i, _, _, _, _ => by cases i <;> rfl
  | _ :: _, _ :: _, _, 0, _, _, _, _ => rfl
theorem pre_at : ∀ (os : List Oper) (ts : List Slot) (k i : Nat) (A : (Nat → Value) → Act) (vals : Nat → Value) (d : Tmp) (j : Nat) (o : Oper) (t : Slot), j < i → os[j]? = some o → ts[j]? = some t → o.dst = some d →
      (∀ m o', m ≠ j → m < i → os[m]? = some o' → o'.dst ≠ some d) → (pre os ts k i A vals).tmps[d]? = if d < (A vals).tmps.size then some (t.put (vals (k + j))) else none
  | o :: os, t :: ts, k, i + 1, A, vals, d, 0, o', t', _, ho, ht, hd, hu => by
    have ho : o = o' := by simpa using ho
    have ht : t = t' := by simpa using ht
    subst ho ht
    rw [pre, pre_other os ts (k + 1) i _ vals d (fun j o' hj ho' => hu (j + 1) o' (by omega) (by omega) (by simpa using ho')), hd]
    exact put_same
  | o :: os, t :: ts, k, i + 1, A, vals, d, j + 1, o', t', hj, ho, ht, hd, hu => by
    rw [pre, pre_at os ts (k + 1) i _ vals d j o' t' (by omega) (by simpa using ho) (by simpa using ht) hd (fun m o'' hm hm' ho'' => hu (m + 1) o'' (by omega) (by omega) (by simpa using ho''))]
    rw [put_size, show k + 1 + j = k + (j + 1) by omega]
  | [], _, _, _, _, _, _, _, _, _, _, ho, _, _, _ => by simp at ho
  | _ :: _, [], _, _, _, _, _, _, _, _, _, _, ht, _, _ => by simp at ht
  | _ :: _, _ :: _, _, 0, _, _, _, _, _, _, hj, _, _, _, _ => absurd hj (by omega)

def chAt (Ts : List Slot) (k : Nat) : Bool := ((Ts[k]?).map Slot.chain).getD false
section
variable {P : Program} {ops : Array Oper} {M : List Nat} {w0 : World} {C : Nat → World → Prop} {Ts : List Slot} {R : (Nat → Value) → Act → World → Prop}
theorem obls_get : ∀ (os : List Oper) (ts : List Slot) (k c : Nat) (A : (Nat → Value) → Act), Obls P ops M w0 C Ts R os ts k c A →
    os.length = ts.length ∧ (∀ i o t, os[i]? = some o → ts[i]? = some t → oblOf P ops M w0 C Ts o t (c + cntN (chAt ts) i) (pre os ts k i A)) ∧
      ∀ vals w, Keep M w0 w → C (c + cntN (chAt ts) ts.length) w → KnownAll ops Ts vals w → R vals (pre os ts k ts.length A vals) w
  | [], [], k, c, A, h => ⟨rfl, fun i o t ho => by simp at ho, fun vals w h1 h2 h3 => h vals w h1 h2 h3⟩
  | [], _ :: _, _, _, _, h => h.elim
  | _ :: _, [], _, _, _, h => h.elim
  | o :: os, t :: ts, k, c, A, h => by
    obtain ⟨h1, h2⟩ := h
    obtain ⟨g1, g2, g3⟩ := obls_get os ts (k + 1) _ _ h2
    have hs : ∀ i, c + cntN (chAt (t :: ts)) (i + 1) = (c + if t.chain then 1 else 0) + cntN (chAt ts) i := fun i => by
      rw [cntN_shift]
      have : (fun k => chAt (t :: ts) (k + 1)) = chAt ts := funext fun k => by simp [chAt]
      rw [this, show chAt (t :: ts) 0 = t.chain from rfl]
      omega
    refine ⟨by simp [g1], fun i o' t' ho ht => ?_, fun vals w k1 k2 k3 => ?_⟩
    · cases i with
      | zero =>
        have ho : o = o' := by simpa using ho
        have ht : t = t' := by simpa using ht
        subst ho ht
        exact h1
      | succ i =>
        rw [hs, pre]
        exact g2 i o' t' (by simpa using ho) (by simpa using ht)
    · rw [List.length_cons, hs] at k2
      exact g3 vals w k1 k2 k3
end
end Go.Proofs.YtcpimhefclfbaaaGreatDoor
