/-
  Regions whose order is open: each operation is shown once, in whatever order they come. What is known of an operation's value is a constant, or a predicate that lasts while memory is made; some operations (in a forced order among themselves) may write blocks of M.
  Regions whose order is open: each operation is shown once: the law.
  Regions whose order is open: each operation is shown once: the law as it is used, and its steps.
  Slices that an operation of an open region answers; stores by structs.
-/
import Derived.StillTailTactics
import Derived.StillTail
import Derived.Test.YtcpimhefclfbaaaFA
namespace Go.Proofs.Ytcpimhefclfbaaa
open Go Go.RowKit
set_option linter.unusedVariables false
set_option linter.unusedSimpArgs false

/-- What is known of an operation's value: a constant; a predicate over the values that it waits for, its own, and the world. 'mut': one of the operations that write. -/
inductive Slot where
  | val (c : Value)
  | spec (T : List Value → Value → World → Prop)
  | mut (c : Value)
  | mutS (T : List Value → Value → World → Prop)
def Slot.chain : Slot → Bool
  | .val _ | .spec _ => false
  | .mut _ | .mutS _ => true
def Slot.put : Slot → Value → Value
  | .val c, _ => c
  | .mut c, _ => c
  | .spec _, v => v
  | .mutS _, v => v
def Slot.holds : Slot → List Value → Value → World → Prop
  | .val c, _, v, _ => v = c
  | .mut c, _, v, _ => v = c
  | .spec T, ds, v, w => T ds v w
  | .mutS T, ds, v, w => T ds v w
def Slot.lasts (M : List Nat) : Slot → Prop
  | .val _ => True
  | .mut _ => True
  | .spec T => ∀ ds v w w', T ds v w → Keep M w w' → T ds v w'
  | .mutS T => ∀ ds v w w', T ds v w → Keep M w w' → T ds v w'
theorem Slot.holds_put {t : Slot} {ds : List Value} {v : Value} {w : World} (h : t.holds ds v w) : t.put v = v := by
  cases t <;> simp only [Slot.put, Slot.holds] at h ⊢ <;> exact h.symm
theorem Slot.holds_keep {M : List Nat} {t : Slot} {ds : List Value} {v : Value} {w w' : World} (hl : t.lasts M) (h : t.holds ds v w) (hk : Keep M w w') : t.holds ds v w' := by
  cases t <;> simp only [Slot.lasts, Slot.holds] at hl h ⊢
  · exact h
  · exact hl _ _ _ _ h hk
  · exact h
  · exact hl _ _ _ _ h hk

def depsOf (o : Oper) : List Nat := (o.after.toList.filter fun e => Region.binds .any e).map (·.on)
def depVals (ops : Array Oper) (vals : Nat → Value) (k : Nat) : List Value := match ops[k]? with
  | some o => (depsOf o).map vals
  | none => []
theorem mem_depsOf {o : Oper} {k : Nat} : k ∈ depsOf o ↔ ∃ e ∈ o.after, Region.binds .any e = true ∧ e.on = k := by
  unfold depsOf
  simp only [List.mem_map, List.mem_filter, Array.mem_toList_iff]
  constructor
  · rintro ⟨e, ⟨h1, h2⟩, h3⟩; exact ⟨e, h1, h2, h3⟩
  · rintro ⟨e, h1, h2, h3⟩; exact ⟨e, ⟨h1, h2⟩, h3⟩

/-- What a step comes to. -/
def Does (P : Program) (T : Value → World → Prop) (w : World) : Result Next → Prop
  | .ok (.value v) w' => T v w'
  | .ok .skip w' => T undef w'
  | .ok (.enter f args) w' => Calls P f args w' fun e w'' => ∃ v, e = .returned v ∧ T v w''
  | _ => False

/-- What an operation has to show: it is wanted, and does so; or it is not, and counts as undef. -/
def Obl (P : Program) (ops : Array Oper) (T : Value → World → Prop) (o : Oper) (a : Act) (w : World) : Prop :=
  (Region.wanted o (yielded ops a.tmps) = true ∧ Does P T w ((execOp a.eval o).run P w)) ∨ (Region.wanted o (yielded ops a.tmps) = false ∧ T undef w)

section
variable (P : Program) (ops : Array Oper) (M : List Nat) (w0 : World) (C : Nat → World → Prop) (Ts : List Slot) (R : (Nat → Value) → Act → World → Prop)
/-- Of the operations that o waits for, what is known. -/
def Known (o : Oper) (vals : Nat → Value) (w : World) : Prop := ∀ k ∈ depsOf o, ∀ t : Slot, Ts[k]? = some t → t.holds (depVals ops vals k) (vals k) w
def KnownAll (vals : Nat → Value) (w : World) : Prop := ∀ (k : Nat) (t : Slot), Ts[k]? = some t → t.holds (depVals ops vals k) (vals k) w
def oblOf (o : Oper) (t : Slot) (c : Nat) (A : (Nat → Value) → Act) : Prop :=
  match t.chain with
  | false => ∀ vals w, Keep M w0 w → Known ops Ts o vals w → Obl P ops (fun v w' => Keep [] w w' ∧ t.holds ((depsOf o).map vals) v w') o (A vals) w
  | true => ∀ vals w, Keep M w0 w → C c w → Known ops Ts o vals w → Obl P ops (fun v w' => (Keep M w w' ∧ C (c + 1) w') ∧ t.holds ((depsOf o).map vals) v w') o (A vals) w
/-- All that is to be shown, in the text's order; behind it the rest. -/
def Obls : List Oper → List Slot → Nat → Nat → ((Nat → Value) → Act) → Prop
  | o :: os, t :: ts, k, c, A => oblOf P ops M w0 C Ts o t c A ∧ Obls os ts (k + 1) (c + if t.chain then 1 else 0) (fun vals => (A vals).put o.dst (t.put (vals k)))
  | [], [], _, c, A => ∀ vals w, Keep M w0 w → C c w → KnownAll ops Ts vals w → R vals (A vals) w
  | _, _, _, _, _ => False
end

/-- The head's operations wait for what stands ahead alone, read what they wait for alone, and have slots of their own; those that write wait for one another. -/
def ordsB (ops : Array Oper) (ch : List Bool) (n : Nat) : Bool :=
  (List.range n).all fun j => match ops[j]? with
    | none => false
    | some o => (depsOf o).all (fun k => decide (k < j)) &&
        (List.range n).all (fun k => match ops[k]? with
          | none => false
          | some ok => (match ok.dst with
            | none => true
            | some d => (!(o.looksAt ops).contains d || (depsOf o).contains k) && (k == j || o.dst != some d))) &&
        (!(ch.getD j false) || (List.range j).all fun k => !(ch.getD k false) || (depsOf o).contains k || (List.range j).any fun m => ch.getD m false && decide (k < m) && (depsOf o).contains m)

/-! ### counts -/
def cntN (p : Nat → Bool) : Nat → Nat
  | 0 => 0
  | n + 1 => cntN p n + if p n then 1 else 0
theorem cntN_congr {p q : Nat → Bool} : ∀ {n : Nat}, (∀ k, k < n → p k = q k) → cntN p n = cntN q n
  | 0, _ => rfl
  | n + 1, h => by rw [cntN, cntN, cntN_congr (fun k hk => h k (by omega)), h n (by omega)]
theorem cntN_cut {p : Nat → Bool} {i : Nat} : ∀ {n : Nat}, i ≤ n → (∀ k, i ≤ k → k < n → p k = false) → cntN p n = cntN p i
  | 0, h, _ => by rw [show i = 0 by omega]
  | n + 1, h, hf => by
    by_cases hi : i = n + 1
    · rw [hi]
    · rw [cntN, hf n (by omega) (by omega), cntN_cut (n := n) (by omega) (fun k hk hk' => hf k hk (by omega))]
      simp
theorem cntN_shift (p : Nat → Bool) : ∀ n, cntN p (n + 1) = (if p 0 then 1 else 0) + cntN (fun k => p (k + 1)) n
  | 0 => by simp [cntN]
  | n + 1 => by rw [cntN, cntN_shift p n, cntN]; omega
theorem cntN_set {p q : Nat → Bool} {i : Nat} : ∀ {n : Nat}, i < n → p i = false → q i = true → (∀ k, k ≠ i → p k = q k) → cntN q n = cntN p n + 1
  | 0, h, _, _, _ => absurd h (by omega)
  | n + 1, h, hp, hq, hpq => by
    rw [cntN, cntN]
    by_cases hi : i = n
    · subst hi
      rw [hp, hq, cntN_congr (fun k hk => (hpq k (by omega)).symm)]
      simp
    · rw [cntN_set (n := n) (by omega) hp hq hpq, hpq n (Ne.symm hi)]
      omega
theorem cntN_zero {p : Nat → Bool} : ∀ {n : Nat}, cntN p n = 0 → ∀ k, k < n → p k = false
  | 0, _, k, hk => absurd hk (by omega)
  | n + 1, h, k, hk => by
    rw [cntN] at h
    by_cases hkn : k = n
    · subst hkn
      cases hp : p k with
      | false => rfl
      | true => rw [hp] at h; simp at h
    · exact cntN_zero (n := n) (by omega) k (by omega)
theorem cntN_some {p : Nat → Bool} : ∀ {n : Nat}, 0 < cntN p n → ∃ k, k < n ∧ p k = true ∧ ∀ j, j < k → p j = false
  | 0, h => absurd h (by simp [cntN])
  | n + 1, h => by
    by_cases h0 : 0 < cntN p n
    · obtain ⟨k, h1, h2, h3⟩ := cntN_some h0
      exact ⟨k, by omega, h2, h3⟩
    · rw [cntN, show cntN p n = 0 by omega] at h
      refine ⟨n, by omega, ?_, cntN_zero (by omega)⟩
      cases hp : p n with
      | true => rfl
      | false => rw [hp] at h; simp at h

/-! ### the state when the first operations have come, in the text's order -/
def pre : List Oper → List Slot → Nat → Nat → ((Nat → Value) → Act) → (Nat → Value) → Act
  | o :: os, t :: ts, k, i + 1, A => pre os ts (k + 1) i (fun vals => (A vals).put o.dst (t.put (vals k)))
  | _, _, _, _, A => A
theorem put_size (a : Act) (d : Option Tmp) (v : Value) : (a.put d v).tmps.size = a.tmps.size := by cases d <;> simp [Act.put]
theorem put_defers (a : Act) (d : Option Tmp) (v : Value) : (a.put d v).defers = a.defers := by cases d <;> rfl
theorem put_other {a : Act} {x : Option Tmp} {v : Value} {d : Tmp} (h : x ≠ some d) : (a.put x v).tmps[d]? = a.tmps[d]? := by
  cases x with
  | none => rfl
  | some e => simp only [Act.put]; exact Array.getElem?_setIfInBounds_ne (fun he => h (by rw [he]))
theorem put_same {a : Act} {v : Value} {d : Tmp} : (a.put (some d) v).tmps[d]? = if d < a.tmps.size then some v else none := by
  simp only [Act.put]
  rw [Array.getElem?_setIfInBounds]
  simp
theorem pre_size : ∀ (os : List Oper) (ts : List Slot) (k i : Nat) (A : (Nat → Value) → Act) (vals : Nat → Value), (pre os ts k i A vals).tmps.size = (A vals).tmps.size ∧ (pre os ts k i A vals).defers = (A vals).defers
  | o :: os, t :: ts, k, i + 1, A, vals => by
    have h := pre_size os ts (k + 1) i (fun vals => (A vals).put o.dst (t.put (vals k))) vals
    rw [pre]
    exact ⟨h.1.trans (put_size _ _ _), h.2.trans (put_defers _ _ _)⟩
  | [], _, _, _, _, _ => by cases ‹Nat› <;> exact ⟨rfl, rfl⟩
  | _ :: _, [], _, _, _, _ => by cases ‹Nat› <;> exact ⟨rfl, rfl⟩
  | _ :: _, _ :: _, _, 0, _, _ => ⟨rfl, rfl⟩
theorem pre_other : ∀ (os : List Oper) (ts : List Slot) (k i : Nat) (A : (Nat → Value) → Act) (vals : Nat → Value) (d : Tmp), (∀ j o, j < i → os[j]? = some o → o.dst ≠ some d) → (pre os ts k i A vals).tmps[d]? = (A vals).tmps[d]?
  | o :: os, t :: ts, k, i + 1, A, vals, d, h => by
    rw [pre, pre_other os ts (k + 1) i _ vals d (fun j o' hj ho => h (j + 1) o' (by omega) (by simpa using ho))]
    exact put_other (h 0 o (by omega) rfl)
  | [], _, _, i, _, _, _, _ => by cases i <;> rfl
  | _ :: _, [], _, i, _, _, _, _ => by cases i <;> rfl
  | _ :: _, _ :: _, _, 0, _, _, _, _ => rfl
theorem pre_at : ∀ (os : List Oper) (ts : List Slot) (k i : Nat) (A : (Nat → Value) → Act) (vals : Nat → Value) (d : Tmp) (j : Nat) (o : Oper) (t : Slot), j < i → os[j]? = some o → ts[j]? = some t → o.dst = some d →
      (∀ m o', m ≠ j → m < i → os[m]? = some o' → o'.dst ≠ some d) → (pre os ts k i A vals).tmps[d]? = if d < (A vals).tmps.size then some (t.put (vals (k + j))) else none
  | o :: os, t :: ts, k, i + 1, A, vals, d, 0, o', t', _, ho, ht, hd, hu => by
    have ho : o = o' := by simpa using ho
    have ht : t = t' := by simpa using ht
    subst ho ht
    rw [pre, pre_other os ts (k + 1) i _ vals d (fun j o' hj ho' => hu (j + 1) o' (by omega) (by omega) (by simpa using ho')), hd]
    exact put_same
  | o :: os, t :: ts, k, i + 1, A, vals, d, j + 1, o', t', hj, ho, ht, hd, hu => by
    rw [pre, pre_at os ts (k + 1) i _ vals d j o' t' (by omega) (by simpa using ho) (by simpa using ht) hd (fun m o'' hm hm' ho'' => hu (m + 1) o'' (by omega) (by omega) (by simpa using ho''))]
    rw [put_size, show k + 1 + j = k + (j + 1) by omega]
  | [], _, _, _, _, _, _, _, _, _, _, ho, _, _, _ => by simp at ho
  | _ :: _, [], _, _, _, _, _, _, _, _, _, _, ht, _, _ => by simp at ht
  | _ :: _, _ :: _, _, 0, _, _, _, _, _, _, hj, _, _, _, _ => absurd hj (by omega)

def chAt (Ts : List Slot) (k : Nat) : Bool := ((Ts[k]?).map Slot.chain).getD false
section
variable {P : Program} {ops : Array Oper} {M : List Nat} {w0 : World} {C : Nat → World → Prop} {Ts : List Slot} {R : (Nat → Value) → Act → World → Prop}
theorem obls_get : ∀ (os : List Oper) (ts : List Slot) (k c : Nat) (A : (Nat → Value) → Act), Obls P ops M w0 C Ts R os ts k c A →
    os.length = ts.length ∧ (∀ i o t, os[i]? = some o → ts[i]? = some t → oblOf P ops M w0 C Ts o t (c + cntN (chAt ts) i) (pre os ts k i A)) ∧
      ∀ vals w, Keep M w0 w → C (c + cntN (chAt ts) ts.length) w → KnownAll ops Ts vals w → R vals (pre os ts k ts.length A vals) w
  | [], [], k, c, A, h => ⟨rfl, fun i o t ho => by simp at ho, fun vals w h1 h2 h3 => h vals w h1 h2 h3⟩
  | [], _ :: _, _, _, _, h => h.elim
  | _ :: _, [], _, _, _, h => h.elim
  | o :: os, t :: ts, k, c, A, h => by
    obtain ⟨h1, h2⟩ := h
    obtain ⟨g1, g2, g3⟩ := obls_get os ts (k + 1) _ _ h2
    have hs : ∀ i, c + cntN (chAt (t :: ts)) (i + 1) = (c + if t.chain then 1 else 0) + cntN (chAt ts) i := fun i => by
      rw [cntN_shift]
      have : (fun k => chAt (t :: ts) (k + 1)) = chAt ts := funext fun k => by simp [chAt]
      rw [this, show chAt (t :: ts) 0 = t.chain from rfl]
      omega
    refine ⟨by simp [g1], fun i o' t' ho ht => ?_, fun vals w k1 k2 k3 => ?_⟩
    · cases i with
      | zero =>
        have ho : o = o' := by simpa using ho
        have ht : t = t' := by simpa using ht
        subst ho ht
        exact h1
      | succ i =>
        rw [hs, pre]
        exact g2 i o' t' (by simpa using ho) (by simpa using ht)
    · rw [List.length_cons, hs] at k2
      exact g3 vals w k1 k2 k3
end
end Go.Proofs.Ytcpimhefclfbaaa

namespace Go.Proofs.Ytcpimhefclfbaaa
open Go Go.RowKit
set_option linter.unusedVariables false
set_option linter.unusedSimpArgs false

section
variable {P : Program} {ops : Array Oper} {M : List Nat} {w0 : World} {C : Nat → World → Prop} {Ts : List Slot} {n : Nat}

/-- What ordsB tells. -/
structure OrdOk (ops : Array Oper) (Ts : List Slot) (n : Nat) : Prop where
  len : Ts.length = n
  some_ : ∀ j, j < n → ∃ o, ops[j]? = some o
  back : ∀ j o, j < n → ops[j]? = some o → ∀ k ∈ depsOf o, k < j
  reads : ∀ j k o ok d, j < n → k < n → ops[j]? = some o → ops[k]? = some ok → ok.dst = some d → d ∈ o.looksAt ops → k ∈ depsOf o
  own : ∀ j k o ok d, j < n → k < n → ops[j]? = some o → ops[k]? = some ok → o.dst = some d → ok.dst = some d → k = j
  chain : ∀ j k o, j < n → k < j → ops[j]? = some o → chAt Ts j = true → chAt Ts k = true → k ∈ depsOf o ∨ ∃ m, k < m ∧ m < j ∧ chAt Ts m = true ∧ m ∈ depsOf o

theorem ordOk_of (hT : Ts.length = n) (h : ordsB ops (Ts.map Slot.chain) n = true) : OrdOk ops Ts n := by
  have hch : ∀ k, (Ts.map Slot.chain).getD k false = chAt Ts k := fun k => by simp [chAt]
  have hj : ∀ j, j < n → ∃ o, ops[j]? = some o ∧ (∀ k ∈ depsOf o, k < j) ∧ (∀ k, k < n → ∃ ok, ops[k]? = some ok ∧ ∀ d, ok.dst = some d → (d ∈ o.looksAt ops → k ∈ depsOf o) ∧ (k = j ∨ o.dst ≠ some d)) ∧
      (chAt Ts j = true → ∀ k, k < j → chAt Ts k = true → k ∈ depsOf o ∨ ∃ m, k < m ∧ m < j ∧ chAt Ts m = true ∧ m ∈ depsOf o) := fun j hjn => by
    have h1 := List.all_eq_true.1 h j (List.mem_range.2 hjn)
    cases ho : ops[j]? with
    | none => rw [ho] at h1; simp at h1
    | some o =>
      rw [ho] at h1
      simp only [Bool.and_eq_true, List.all_eq_true, decide_eq_true_eq, List.mem_range] at h1
      obtain ⟨⟨a1, a2⟩, a3⟩ := h1
      refine ⟨o, rfl, a1, fun k hk => ?_, fun hc k hk hck => ?_⟩
      · have b := a2 k hk
        cases hok : ops[k]? with
        | none => rw [hok] at b; simp at b
        | some ok =>
          rw [hok] at b
          refine ⟨ok, rfl, fun d hd => ?_⟩
          simp only [hd, Bool.and_eq_true, Bool.or_eq_true, Bool.not_eq_true', beq_iff_eq, bne_iff_ne, ne_eq] at b
          refine ⟨fun hm => ?_, b.2⟩
          rcases b.1 with b1 | b1
          · exact absurd (List.contains_iff_mem.2 hm) (by rw [b1]; simp)
          · exact List.contains_iff_mem.1 b1
      · rw [hch] at a3
        simp only [hc, Bool.not_true, Bool.false_or, List.all_eq_true, List.mem_range] at a3
        have b := a3 k hk
        rw [hch] at b
        simp only [hck, Bool.not_true, Bool.false_or, Bool.or_eq_true, List.any_eq_true, List.mem_range, Bool.and_eq_true, decide_eq_true_eq] at b
        rcases b with b | ⟨m, hm, ⟨b1, b2⟩, b3⟩
        · exact .inl (List.contains_iff_mem.1 b)
        · rw [hch] at b1
          exact .inr ⟨m, b2, hm, b1, List.contains_iff_mem.1 b3⟩
  refine ⟨hT, fun j h => (hj j h).imp fun o h => h.1, fun j o h ho => ?_, fun j k o ok d h hk ho hok hd hm => ?_, fun j k o ok d h hk ho hok hd hd' => ?_, fun j k o h hk ho hc hck => ?_⟩
  · obtain ⟨o', h1, h2, _⟩ := hj j h
    rw [ho] at h1; cases h1; exact h2
  · obtain ⟨o', h1, _, h3, _⟩ := hj j h
    rw [ho] at h1; cases h1
    obtain ⟨ok', g1, g2⟩ := h3 k hk
    rw [hok] at g1; cases g1
    exact (g2 d hd).1 hm
  · obtain ⟨o', h1, _, h3, _⟩ := hj j h
    rw [ho] at h1; cases h1
    obtain ⟨ok', g1, g2⟩ := h3 k hk
    rw [hok] at g1; cases g1
    exact (g2 d hd').2.resolve_right (fun hne => hne hd)
  · obtain ⟨o', h1, _, _, h4⟩ := hj j h
    rw [ho] at h1; cases h1
    exact h4 hc k hk hck

/-- A state that the values in vals have come into, of the operations that are listed. -/
structure Agree (ops : Array Oper) (n : Nat) (listed : Array Bool) (vals : Nat → Value) (a0 a : Act) : Prop where
  size : a.tmps.size = a0.tmps.size
  defers : a.defers = a0.defers
  at_ : ∀ k o d, k < n → listed.getD k false = true → ops[k]? = some o → o.dst = some d → a.tmps[d]? = if d < a0.tmps.size then some (vals k) else none
  other : ∀ d, (∀ k o, k < n → listed.getD k false = true → ops[k]? = some o → o.dst ≠ some d) → a.tmps[d]? = a0.tmps[d]?

theorem exec_same {o : Oper} (hs : ∀ cs b, o.op ≠ .select cs b) {a b : Act} (h : ∀ t ∈ o.looksAt ops, a.tmps[t]? = b.tmps[t]?) : execOp a.eval o = execOp b.eval o :=
  execOp_congr o hs fun x hx => by
    cases x with
    | tmp t =>
      have := h t (List.mem_append_left _ (List.mem_filterMap.2 ⟨.tmp t, by simpa using hx, rfl⟩))
      simp only [Act.eval, Array.getD_eq_getD_getElem?, this]
    | _ => rfl
theorem wanted_same {o : Oper} {a b : Act} (h : ∀ t ∈ o.looksAt ops, a.tmps[t]? = b.tmps[t]?) : Region.wanted o (yielded ops a.tmps) = Region.wanted o (yielded ops b.tmps) := by
  unfold Region.wanted
  cases hg : o.guard with
  | none => rfl
  | some gw =>
    obtain ⟨g, want⟩ := gw
    have hy : yielded ops a.tmps g = yielded ops b.tmps g := by
      unfold yielded
      cases ht : (ops[g]?).bind (·.dst) with
      | none => rfl
      | some t =>
        simp only [Option.bind_some]
        rw [h t (by simp [Oper.looksAt, hg, ht])]
    simp only [hy]

theorem Obl.wpOp {i : Nat} {o : Oper} {a : Act} {w : World} {T : Value → World → Prop} {Q : Exit → Act → World → Prop} (hi : ops[i]? = some o) (ho : Obl P ops T o a w) {K : Act → World → Prop} (h : ∀ v w', T v w' → K (a.put o.dst v) w') : Go.wpOp P ops Q i K a w := by
  unfold Go.wpOp
  simp only [hi]
  rcases ho with ⟨hw, hd⟩ | ⟨hw, hT⟩
  · simp only [hw, if_true]
    refine .inl ?_
    unfold Oper.wp
    generalize (execOp a.eval o).run P w = r at *
    cases r with
    | ok n w' =>
      cases n <;> simp only [Does] at hd <;> simp only [Oper.upon]
      case value u => exact h _ _ hd
      case skip => exact h _ _ hd
      case enter f args => exact hd.mono fun e w'' ⟨v, he, h2⟩ => by subst he; exact h _ _ h2
    | halt x w' => cases x <;> simp only [Does] at hd
  · simp only [hw, Bool.false_eq_true, if_false]
    exact h _ _ hT
theorem Obl.of_same {o : Oper} {a b : Act} {w : World} {T : Value → World → Prop} (h : Obl P ops T o b w) (he : execOp a.eval o = execOp b.eval o) (hw : Region.wanted o (yielded ops a.tmps) = Region.wanted o (yielded ops b.tmps)) : Obl P ops T o a w := by
  unfold Obl at *
  rw [he, hw]
  exact h

theorem chain_listed (ok : OrdOk ops Ts n) {listed : Array Bool} (inv : HeadInv .any ops n listed) : ∀ i o, i < n → ops[i]? = some o → chAt Ts i = true → (∀ d ∈ depsOf o, listed.getD d false = true) → ∀ k, k < i → chAt Ts k = true → listed.getD k false = true := by
  intro i
  induction i using Nat.strongRecOn with
  | _ i ih =>
    intro o hi ho hc hd k hk hck
    rcases ok.chain i k o hi hk ho hc hck with h | ⟨m, h1, h2, h3, h4⟩
    · exact hd k h
    · obtain ⟨om, hom⟩ := ok.some_ m (by omega)
      refine ih m h2 om (by omega) hom h3 (fun d hdm => ?_) k h1 hck
      obtain ⟨e, he, hb, rfl⟩ := mem_depsOf.1 hdm
      exact inv.closed m om hom (hd m h4) e he hb

/-- Does an operation that writes come behind k? -/
def laterB (Ts : List Slot) (k : Nat) : Bool := (List.range Ts.length).any fun j => decide (k < j) && chAt Ts j
/-- What may still be written when k has come: nothing, if k is the last of those that write. -/
def lastM (Ts : List Slot) (M : List Nat) (k : Nat) : List Nat := if chAt Ts k && !laterB Ts k then [] else M
theorem laterB_of {k j : Nat} (h : k < j) (hj : j < Ts.length) (hc : chAt Ts j = true) : laterB Ts k = true := by
  unfold laterB
  simp only [List.any_eq_true, List.mem_range, Bool.and_eq_true, decide_eq_true_eq]
  exact ⟨j, hj, h, hc⟩

theorem ords_go {l : List Oper} {g : Nat} {Q : Exit → Act → World → Prop} {a0 : Act} (ok : OrdOk ops Ts n) (hops : ops = l.toArray) (hsel : Region.noSelect ops = true) (hn : n < ops.size) (hs : Region.sinkB .any ops n = true) (hc : Region.chainB .any ops n = true)
    (hlast : ∀ listed : Array Bool, HeadInv .any ops n listed → (∀ k, k < n → listed.getD k false = true) → Region.seqB .any ops g n listed = true) (hg : g = (l.drop n).length)
    (hl : ∀ k (t : Slot), Ts[k]? = some t → t.lasts (lastM Ts M k)) (hC : ∀ c w w', C c w → Keep [] w w' → C c w')
    (hO : ∀ i o t, (l.take n)[i]? = some o → Ts[i]? = some t → oblOf P ops M w0 C Ts o t (cntN (chAt Ts) i) (pre (l.take n) Ts 0 i (fun _ => a0)))
    (hR : ∀ vals w, Keep M w0 w → C (cntN (chAt Ts) n) w → KnownAll ops Ts vals w → wpList P ops Q (l.drop n) (pre (l.take n) Ts 0 n (fun _ => a0) vals) w) :
    ∀ (f : Nat) (listed : Array Bool) (a : Act) (w : World) (vals : Nat → Value), cntN (fun k => !listed.getD k false) n = f → HeadInv .any ops n listed → Keep M w0 w → C (cntN (fun k => chAt Ts k && listed.getD k false) n) w →
      (∀ k (t : Slot), k < n → listed.getD k false = true → Ts[k]? = some t → t.holds (depVals ops vals k) (vals k) w) → Agree ops n listed vals a0 a → wpAny P .any ops Q (f + g) listed a w := by
  have hget : ∀ k, k < n → (l.take n)[k]? = ops[k]? := fun k hk => by rw [hops, List.getElem?_take, if_pos hk]; simp
  have hTs : ∀ k, k < n → ∃ t, Ts[k]? = some t := fun k hk => ⟨Ts[k]'(by rw [ok.len]; exact hk), List.getElem?_eq_getElem _⟩
  -- the state in the text's order holds the same values
  have hpre : ∀ (i : Nat) (hi : i ≤ n) (vals : Nat → Value) (w : World), (∀ k (t : Slot), k < i → Ts[k]? = some t → t.put (vals k) = vals k) → ∀ d k o, k < i → ops[k]? = some o → o.dst = some d →
      (pre (l.take n) Ts 0 i (fun _ => a0) vals).tmps[d]? = if d < a0.tmps.size then some (vals k) else none := fun i hi vals w hput d k o hk ho hd => by
    obtain ⟨t, ht⟩ := hTs k (by omega)
    rw [pre_at (l.take n) Ts 0 i _ vals d k o t hk (by rw [hget k (by omega)]; exact ho) ht hd (fun m o' hm hmi ho' hd' => hm (ok.own k m o o' d (by omega) (by omega) ho (by rw [← hget m (by omega)]; exact ho') hd hd'))]
    rw [Nat.zero_add, hput k t hk ht]
  have hpre' : ∀ (i : Nat) (hi : i ≤ n) (vals : Nat → Value) (d : Tmp), (∀ k o, k < i → ops[k]? = some o → o.dst ≠ some d) → (pre (l.take n) Ts 0 i (fun _ => a0) vals).tmps[d]? = a0.tmps[d]? := fun i hi vals d h =>
    pre_other (l.take n) Ts 0 i (fun _ => a0) vals d (fun j o hj ho => h j o hj (by rw [← hget j (by omega)]; exact ho))
  intro f
  induction f with
  | zero =>
    intro listed a w vals hf inv hk hCc hkn hag
    have hall : ∀ k, k < n → listed.getD k false = true := fun k hkn' => by simpa using cntN_zero hf k hkn'
    have hput : ∀ k (t : Slot), k < n → Ts[k]? = some t → t.put (vals k) = vals k := fun k t hk' ht => Slot.holds_put (hkn k t hk' (hall k hk') ht)
    have ha : a = pre (l.take n) Ts 0 n (fun _ => a0) vals := by
      obtain ⟨s1, s2⟩ := pre_size (l.take n) Ts 0 n (fun _ => a0) vals
      have ht : a.tmps = (pre (l.take n) Ts 0 n (fun _ => a0) vals).tmps := by
        apply Array.ext_getElem?
        intro d
        by_cases hd : ∃ k o, k < n ∧ ops[k]? = some o ∧ o.dst = some d
        · obtain ⟨k, o, h1, h2, h3⟩ := hd
          rw [hag.at_ k o d h1 (hall k h1) h2 h3, hpre n (Nat.le_refl _) vals w hput d k o h1 h2 h3]
        · have hd' : ∀ k o, k < n → ops[k]? = some o → o.dst ≠ some d := fun k o h1 h2 h3 => hd ⟨k, o, h1, h2, h3⟩
          rw [hag.other d (fun k o h1 _ h2 => hd' k o h1 h2), hpre' n (Nat.le_refl _) vals d hd']
      have hd : a.defers = (pre (l.take n) Ts 0 n (fun _ => a0) vals).defers := hag.defers.trans s2.symm
      cases a
      cases hp : pre (l.take n) Ts 0 n (fun _ => a0) vals
      rw [hp] at ht hd
      simp only [Act.mk.injEq]
      exact ⟨ht, hd⟩
    rw [Nat.zero_add, hg]
    refine wpAny_of_seq (l.drop n) n listed a w (fun j => by rw [hops]; simp) ?_ ?_
    · rw [← hg]; exact hlast listed inv hall
    · rw [ha]
      refine hR vals w hk ?_ (fun k t ht => hkn k t (by rw [← ok.len]; exact (List.getElem?_eq_some_iff.1 ht).1) (hall k (by rw [← ok.len]; exact (List.getElem?_eq_some_iff.1 ht).1)) ht)
      have : cntN (fun k => chAt Ts k && listed.getD k false) n = cntN (chAt Ts) n := cntN_congr fun k hk => by rw [hall k hk, Bool.and_true]
      rwa [this] at hCc
  | succ f ih =>
    intro listed a w vals hf inv hk hCc hkn hag
    rw [show f + 1 + g = (f + g) + 1 by omega]
    obtain ⟨i0, hi0, hu0, hb0⟩ := cntN_some (p := fun k => !listed.getD k false) (n := n) (by omega)
    have hu0' : listed.getD i0 false = false := by simpa using hu0
    have hun0 : listed.getD i0 true = false := getD_in (by rw [inv.size]; omega) hu0'
    have hready0 : i0 ∈ Region.ready .any ops listed := by
      obtain ⟨o, ho⟩ := ok.some_ i0 hi0
      refine mem_ready.2 ⟨hun0, o, ho, fun e he hb => ?_⟩
      have := ok.back i0 o hi0 ho e.on (mem_depsOf.2 ⟨e, he, hb, rfl⟩)
      simpa using hb0 e.on this
    refine ⟨fun h => absurd hready0 (by rw [h]; simp), fun i hir => ?_⟩
    have hin : i < n := by
      rcases Nat.lt_or_ge i n with h | h
      · exact h
      · exact absurd hir (tail_waits hs hc hn inv _ i0 rfl hi0 hun0 i h)
    obtain ⟨hun, oi, hoi, hdep⟩ := mem_ready.1 hir
    have hdep' : ∀ d ∈ depsOf oi, listed.getD d false = true := fun d hd => by
      obtain ⟨e, he, hb, rfl⟩ := mem_depsOf.1 hd
      exact hdep e he hb
    have hunf : listed.getD i false = false := getD_both hun
    obtain ⟨ti, hti⟩ := hTs i hin
    have hbk := ok.back i oi hin hoi
    -- the state as the text's order would have it, for what i reads
    have hlook : ∀ t ∈ oi.looksAt ops, a.tmps[t]? = (pre (l.take n) Ts 0 i (fun _ => a0) (fun k => if listed.getD k false then vals k else (match (Ts[k]?) with | some t => t.put (vals k) | none => vals k))).tmps[t]? := fun t ht => by
      by_cases hd : ∃ k o, k < n ∧ ops[k]? = some o ∧ o.dst = some t
      · obtain ⟨k, o, h1, h2, h3⟩ := hd
        have hkd := ok.reads i k oi o t hin h1 hoi h2 h3 ht
        have hkl := hdep' k hkd
        rw [hag.at_ k o t h1 hkl h2 h3, hpre i (by omega) _ w ?_ t k o (hbk k hkd) h2 h3]
        · simp only [hkl, if_true]
        · intro k' t' hk' ht'
          by_cases hl' : listed.getD k' false = true
          · simp only [hl', if_true]
            exact Slot.holds_put (hkn k' t' (by omega) hl' ht')
          · simp only [hl', Bool.false_eq_true, if_false, ht']
            cases t' <;> rfl
      · have hd' : ∀ k o, k < n → ops[k]? = some o → o.dst ≠ some t := fun k o h1 h2 h3 => hd ⟨k, o, h1, h2, h3⟩
        rw [hag.other t (fun k o h1 _ h2 => hd' k o h1 h2), hpre' i (by omega) _ t (fun k o h1 h2 => hd' k o (by omega) h2)]
    generalize hvals' : (fun k => if listed.getD k false then vals k else (match (Ts[k]?) with | some t => t.put (vals k) | none => vals k)) = vals' at hlook
    have hv' : ∀ k, listed.getD k false = true → vals' k = vals k := fun k hkl => by rw [← hvals']; simp only [hkl, if_true]
    have hknown : Known ops Ts oi vals' w := fun k hkd t ht => by
      have hkl := hdep' k hkd
      have hkn' : k < n := Nat.lt_trans (hbk k hkd) hin
      have h1 := hkn k t hkn' hkl ht
      have h2 : depVals ops vals' k = depVals ops vals k := by
        unfold depVals
        obtain ⟨o, ho⟩ := ok.some_ k hkn'
        rw [ho]
        exact List.map_congr_left fun d hd => hv' d (by
          obtain ⟨e, he, hb, rfl⟩ := mem_depsOf.1 hd
          exact inv.closed k o ho hkl e he hb)
      rw [h2, hv' k hkl]
      exact h1
    have hds : (depsOf oi).map vals' = (depsOf oi).map vals := List.map_congr_left fun d hd => hv' d (hdep' d hd)
    have hsame1 := exec_same (ops := ops) (Region.noSelect_spec hsel i oi · · hoi) hlook
    have hsame2 := wanted_same (ops := ops) hlook
    have hob := hO i oi ti (by rw [hget i hin]; exact hoi) hti
    have hcnt : chAt Ts i = true → cntN (fun k => chAt Ts k && listed.getD k false) n = cntN (chAt Ts) i := fun hch => by
      rw [cntN_cut (i := i) (n := n) (by omega) (fun k hk1 hk2 => ?_)]
      · refine cntN_congr fun k hk1 => ?_
        cases hck : chAt Ts k with
        | false => rfl
        | true => rw [chain_listed ok inv i oi hin hoi hch hdep' k hk1 hck]; rfl
      · by_cases hki : k = i
        · subst hki; rw [hunf, Bool.and_false]
        · cases hck : chAt Ts k with
          | false => rfl
          | true =>
            cases hlk : listed.getD k false with
            | false => rfl
            | true =>
              obtain ⟨o, ho⟩ := ok.some_ k hk2
              have := chain_listed ok inv k o hk2 ho hck (fun d hd => by
                obtain ⟨e, he, hb, rfl⟩ := mem_depsOf.1 hd
                exact inv.closed k o ho hlk e he hb) i (by omega) hch
              rw [hunf] at this
              cases this
    -- behind i
    have hnext : ∀ v w', Keep M w w' → (∀ k (t : Slot), k < n → listed.getD k false = true → Ts[k]? = some t → ∀ ds v, t.holds ds v w → t.holds ds v w') → C (cntN (fun k => chAt Ts k && (listed.setIfInBounds i true).getD k false) n) w' → ti.holds ((depsOf oi).map vals) v w' → wpAny P .any ops Q (f + g) (listed.setIfInBounds i true) (a.put oi.dst v) w' := fun v w' hkw hst hCw hT => by
      have hset : ∀ k, k ≠ i → (listed.setIfInBounds i true).getD k false = listed.getD k false := fun k hki => getD_set_ne false (Ne.symm hki)
      have hself : (listed.setIfInBounds i true).getD i false = true := by
        have : i < listed.size := by rw [inv.size]; omega
        simp [this]
      have hdv : ∀ k, listed.getD k false = true → k < n → depVals ops (fun k => if k = i then v else vals k) k = depVals ops vals k := fun k hkl hkn' => by
        unfold depVals
        obtain ⟨o, ho⟩ := ok.some_ k hkn'
        rw [ho]
        refine List.map_congr_left fun d hd => ?_
        have hdl : listed.getD d false = true := by
          obtain ⟨e, he, hb, rfl⟩ := mem_depsOf.1 hd
          exact inv.closed k o ho hkl e he hb
        have : d ≠ i := fun he => by rw [he, hunf] at hdl; cases hdl
        simp only [this, if_false]
      refine ih (listed.setIfInBounds i true) (a.put oi.dst v) w' (fun k => if k = i then v else vals k) ?_ (inv.set hir hin) (hk.trans hkw) hCw ?_ ?_
      · have := cntN_set (p := fun k => !(listed.setIfInBounds i true).getD k false) (q := fun k => !listed.getD k false) (i := i) (n := n) hin (by rw [hself]; rfl) (by rw [hunf]; rfl) (fun k hki => by rw [hset k hki])
        omega
      · intro k t hkn' hkl ht
        by_cases hki : k = i
        · subst hki
          rw [hti] at ht
          injection ht with ht
          subst ht
          simp only [if_true]
          have : depVals ops (fun k' => if k' = k then v else vals k') k = (depsOf oi).map vals := by
            unfold depVals
            rw [hoi]
            refine List.map_congr_left fun d hd => ?_
            have : d ≠ k := fun he => by have := hbk d hd; omega
            simp only [this, if_false]
          rw [this]
          exact hT
        · rw [hset k hki] at hkl
          rw [hdv k hkl hkn']
          simp only [hki, if_false]
          exact hst k t hkn' hkl ht _ _ (hkn k t hkn' hkl ht)
      · refine ⟨(put_size _ _ _).trans hag.size, (put_defers _ _ _).trans hag.defers, fun k o d hkn' hkl ho hd => ?_, fun d hd => ?_⟩
        · by_cases hki : k = i
          · subst hki
            rw [hoi] at ho
            injection ho with ho
            subst ho
            rw [hd, put_same, hag.size]
            simp only [if_true]
          · rw [hset k hki] at hkl
            rw [put_other (fun he => hki (ok.own i k oi o d hin hkn' hoi ho he hd)), hag.at_ k o d hkn' hkl ho hd]
            simp only [hki, if_false]
        · rw [put_other (hd i oi hin hself hoi)]
          refine hag.other d fun k o hkn' hkl ho => ?_
          by_cases hki : k = i
          · subst hki; rw [hunf] at hkl; cases hkl
          · exact hd k o hkn' (by rw [hset k hki]; exact hkl) ho
    have hcs : ∀ b, chAt Ts i = b → cntN (fun k => chAt Ts k && (listed.setIfInBounds i true).getD k false) n = cntN (fun k => chAt Ts k && listed.getD k false) n + if b then 1 else 0 := fun b hb => by
      cases b with
      | false =>
        refine (cntN_congr fun k hk => ?_).trans (Nat.add_zero _).symm
        by_cases hki : k = i
        · subst hki; rw [hb]; rfl
        · rw [getD_set_ne false (Ne.symm hki)]
      | true =>
        refine cntN_set (i := i) hin (by rw [hunf, Bool.and_false]) ?_ (fun k hki => by rw [getD_set_ne false (Ne.symm hki)])
        have : i < listed.size := by rw [inv.size]; omega
        simp [hb, this]
    have hchi : chAt Ts i = ti.chain := by unfold chAt; rw [hti]; rfl
    unfold oblOf at hob
    cases hch : ti.chain with
    | false =>
      rw [hch] at hob
      have h1 := (hob vals' w hk hknown).of_same hsame1 hsame2
      refine h1.wpOp hoi fun v w' ⟨h2, h3⟩ => hnext v w' h2.nil (fun k t _ _ ht ds v hh => Slot.holds_keep (hl k t ht) hh h2.nil) ?_ (by rw [← hds]; exact h3)
      rw [hcs false (by rw [hchi, hch])]
      exact hC _ _ _ hCc h2
    | true =>
      rw [hch] at hob
      have h1 := (hob vals' w hk (by rw [← hcnt (by rw [hchi, hch])]; exact hCc) hknown).of_same hsame1 hsame2
      refine h1.wpOp hoi fun v w' ⟨⟨h2, h2'⟩, h3⟩ => hnext v w' h2 (fun k t hkn' hkl ht ds v hh => ?_) ?_ (by rw [← hds]; exact h3)
      · refine Slot.holds_keep (hl k t ht) hh ?_
        have hM : lastM Ts M k = M := by
          unfold lastM
          cases hck : chAt Ts k with
          | false => rfl
          | true =>
            have hik : k < i := by
              rcases Nat.lt_trichotomy i k with h | h | h
              · obtain ⟨o, ho⟩ := ok.some_ k hkn'
                have := chain_listed ok inv k o hkn' ho hck (fun d hd => by
                  obtain ⟨e, he, hb, rfl⟩ := mem_depsOf.1 hd
                  exact inv.closed k o ho hkl e he hb) i h (by rw [hchi, hch])
                rw [hunf] at this
                cases this
              · subst h; rw [hunf] at hkl; cases hkl
              · exact h
            rw [laterB_of hik (by rw [ok.len]; exact hin) (by rw [hchi, hch])]
            rfl
        rw [hM]
        exact h2
      rw [hcs true (by rw [hchi, hch]), hcnt (by rw [hchi, hch])]
      exact h2'
end
end Go.Proofs.Ytcpimhefclfbaaa

namespace Go.Proofs.Ytcpimhefclfbaaa
open Go Go.RowKit
set_option linter.unusedVariables false
set_option linter.unusedSimpArgs false

def ordsAllB (ops : Array Oper) (ch : List Bool) (n : Nat) : Bool :=
  Region.noSelect ops && decide (n < ops.size) && Region.sinkB .any ops n && Region.chainB .any ops n && Region.seqB .any ops (ops.size - n) n ((Array.range ops.size).map fun k => decide (k < n)) && ordsB ops ch n

section
variable {P : Program} {ops : Array Oper} {M : List Nat} {w0 : World} {C : Nat → World → Prop} {Ts : List Slot} {R : (Nat → Value) → Act → World → Prop}
theorem Slot.lasts_nil {M : List Nat} {t : Slot} (h : t.lasts M) : t.lasts [] := by
  cases t <;> simp only [Slot.lasts] at h ⊢
  · exact fun ds v w w' h1 h2 => h ds v w w' h1 h2.nil
  · exact fun ds v w w' h1 h2 => h ds v w w' h1 h2.nil
theorem wp_region_ords2 {id : Nat} {a0 : Act} {w : World} {l : List Oper} {Q : Exit → Act → World → Prop} (n : Nat) (M : List Nat) (C : Nat → World → Prop) (ch : List Bool) (Ts : List Slot)
    (hm : P.follows .mixedOrders = true) (hT : Ts.length = n) (hch : Ts.map Slot.chain = ch) (hB : ordsAllB l.toArray ch n = true)
    (hl : ∀ k (t : Slot), Ts[k]? = some t → t.lasts (lastM Ts M k)) (hC : ∀ c w w', C c w → Keep [] w w' → C c w') (hC0 : C 0 w.drew)
    (h : Obls P l.toArray M w C Ts (fun vals a w => wpList P l.toArray Q (l.drop n) a w) (l.take n) Ts 0 0 (fun _ => a0)) : (Code.region id l.toArray true).wp P Q a0 w := by
  simp only [ordsAllB, Bool.and_eq_true, decide_eq_true_eq] at hB
  obtain ⟨⟨⟨⟨⟨hsel, hn⟩, hs⟩, hc⟩, hseq⟩, hord⟩ := hB
  have ok := ordOk_of hT (by rw [hch]; exact hord)
  obtain ⟨_, hO, hR⟩ := obls_get _ _ _ _ _ h
  have hdl : (l.drop n).length = l.toArray.size - n := by simp
  have inv0 : HeadInv .any l.toArray n (Array.replicate l.toArray.size false) :=
    ⟨by simp, fun j oj _ hl => (by rw [getD_replicate_false] at hl; cases hl), fun t _ ht => getD_in (by simpa using ht) (getD_replicate_false _ _)⟩
  refine wp_region_any hm ?_
  have key := ords_go (P := P) (M := M) (w0 := w) (C := C) (l := l) (g := l.toArray.size - n) (Q := Q) (a0 := a0) ok rfl hsel hn hs hc (fun listed inv hall => by
      have : listed = (Array.range l.toArray.size).map fun k => decide (k < n) := by
        apply Array.ext
        · rw [inv.size]; simp
        · intro k h1 h2
          have hk : k < l.toArray.size := by rw [← inv.size]; exact h1
          simp only [Array.getElem_map, Array.getElem_range]
          by_cases hkn : k < n
          · have := hall k hkn
            simpa [h1, hkn] using this
          · have := inv.tail k (by omega) hk
            simpa [h1, hkn] using this
      rw [this]; exact hseq) hdl.symm hl hC
    (fun i o t ho ht => by have := hO i o t ho ht; rwa [Nat.zero_add] at this)
    (fun vals w' h1 h2 h3 => by rw [← hT]; have := hR vals w' h1 (by rw [Nat.zero_add, hT]; exact h2) h3; rwa [hT] at this ⊢)
    (cntN (fun k => !(Array.replicate l.toArray.size false).getD k false) n) (Array.replicate l.toArray.size false) a0 w.drew (fun _ => undef) rfl inv0 (Keep.refl _ _).drew
    (by
      have h0 : cntN (fun k => chAt Ts k && (Array.replicate l.toArray.size false).getD k false) n = 0 := by
        have := cntN_cut (p := fun k => chAt Ts k && (Array.replicate l.toArray.size false).getD k false) (i := 0) (n := n) (by omega) (fun k _ _ => by rw [getD_replicate_false, Bool.and_false])
        rw [this]; rfl
      rw [h0]; exact hC0)
    (fun k t _ hk => by rw [getD_replicate_false] at hk; cases hk)
    ⟨rfl, rfl, (fun k o d _ hk => by rw [getD_replicate_false] at hk; cases hk), fun d _ => rfl⟩
  have hn0 : cntN (fun k => !(Array.replicate l.toArray.size false).getD k false) n = n := by
    have : ∀ m, cntN (fun k => !(Array.replicate l.toArray.size false).getD k false) m = m := fun m => by
      induction m with
      | zero => rfl
      | succ m ih => rw [cntN, ih, getD_replicate_false]; rfl
    exact this n
  rw [hn0, show n + (l.toArray.size - n) = l.toArray.size by omega] at key
  exact key

theorem wp_region_ords {id : Nat} {a0 : Act} {w : World} {l : List Oper} {Q : Exit → Act → World → Prop} (n : Nat) (M : List Nat) (C : Nat → World → Prop) (ch : List Bool) (Ts : List Slot)
    (hm : P.follows .mixedOrders = true) (hT : Ts.length = n) (hch : Ts.map Slot.chain = ch) (hB : ordsAllB l.toArray ch n = true)
    (hl : ∀ t ∈ Ts, t.lasts M) (hC : ∀ c w w', C c w → Keep [] w w' → C c w') (hC0 : C 0 w.drew)
    (h : Obls P l.toArray M w C Ts (fun vals a w => wpList P l.toArray Q (l.drop n) a w) (l.take n) Ts 0 0 (fun _ => a0)) : (Code.region id l.toArray true).wp P Q a0 w :=
  wp_region_ords2 n M C ch Ts hm hT hch hB (fun k t ht => by
    have := hl t (List.mem_of_getElem? ht)
    unfold lastM
    split
    · exact Slot.lasts_nil this
    · exact this) hC hC0 h

/-! ### its steps -/
theorem obls_cons {o : Oper} {os : List Oper} {t : Slot} {ts : List Slot} {k c : Nat} {A : (Nat → Value) → Act} (h1 : oblOf P ops M w0 C Ts o t c A)
    (h2 : Obls P ops M w0 C Ts R os ts (k + 1) (c + if t.chain then 1 else 0) (fun vals => (A vals).put o.dst (t.put (vals k)))) : Obls P ops M w0 C Ts R (o :: os) (t :: ts) k c A := ⟨h1, h2⟩
theorem obls_nil {k c : Nat} {A : (Nat → Value) → Act} (h : ∀ vals w, Keep M w0 w → C c w → KnownAll ops Ts vals w → R vals (A vals) w) : Obls P ops M w0 C Ts R [] [] k c A := h

/-- An operation comes to value v, and leaves the world. -/
def Gives (v : Value) (w : World) (r : Result Next) : Prop := r = .ok (.value v) w
/-- An operation is a call of f with these arguments, and leaves the world. -/
def Enters (f : FuncId) (args : Array Value) (w : World) (r : Result Next) : Prop := r = .ok (.enter f args) w

variable {o : Oper} {k : Nat} {A : (Nat → Value) → Act}
theorem obl_val {c : Value} (hg : ∀ vals, Region.wanted o (yielded ops (A vals).tmps) = true)
    (h : ∀ vals w, Keep M w0 w → Known ops Ts o vals w → Gives c w ((execOp (A vals).eval o).run P w)) : oblOf P ops M w0 C Ts o (.val c) k A := fun vals w hw hd =>
  .inl ⟨hg vals, by rw [h vals w hw hd]; exact ⟨Keep.refl _ _, rfl⟩⟩
theorem obl_skip {c : Value} (hg : ∀ vals, Region.wanted o (yielded ops (A vals).tmps) = false) (hc : c = undef) : oblOf P ops M w0 C Ts o (.val c) k A := fun vals w hw hd =>
  .inr ⟨hg vals, Keep.refl _ _, hc.symm⟩
/-- A call that answers a constant and may make memory. -/
theorem obl_call {c : Value} {f : FuncId} {args : (Nat → Value) → Array Value} (hg : ∀ vals, Region.wanted o (yielded ops (A vals).tmps) = true)
    (h : ∀ vals w, Keep M w0 w → Known ops Ts o vals w → Enters f (args vals) w ((execOp (A vals).eval o).run P w))
    (hc : ∀ vals w, Keep M w0 w → Known ops Ts o vals w → Calls P f (args vals) w fun e w' => e = .returned c ∧ Keep [] w w') : oblOf P ops M w0 C Ts o (.val c) k A := fun vals w hw hd =>
  .inl ⟨hg vals, by rw [h vals w hw hd]; exact (hc vals w hw hd).mono fun e w' ⟨h1, h2⟩ => ⟨c, h1, h2, rfl⟩⟩
/-- A call that answers what meets T. -/
theorem obl_callT {T : List Value → Value → World → Prop} {f : FuncId} {args : (Nat → Value) → Array Value} (hg : ∀ vals, Region.wanted o (yielded ops (A vals).tmps) = true)
    (h : ∀ vals w, Keep M w0 w → Known ops Ts o vals w → Enters f (args vals) w ((execOp (A vals).eval o).run P w))
    (hc : ∀ vals w, Keep M w0 w → Known ops Ts o vals w → Calls P f (args vals) w fun e w' => ∃ v, e = .returned v ∧ Keep [] w w' ∧ T ((depsOf o).map vals) v w') : oblOf P ops M w0 C Ts o (.spec T) k A := fun vals w hw hd =>
  .inl ⟨hg vals, by rw [h vals w hw hd]; exact hc vals w hw hd⟩
/-- A call that writes M alone and answers a constant. -/
theorem obl_mut {c : Value} {f : FuncId} {args : (Nat → Value) → Array Value} (hg : ∀ vals, Region.wanted o (yielded ops (A vals).tmps) = true)
    (h : ∀ vals w, Keep M w0 w → Known ops Ts o vals w → Enters f (args vals) w ((execOp (A vals).eval o).run P w))
    (hc : ∀ vals w, Keep M w0 w → C k w → Known ops Ts o vals w → Calls P f (args vals) w fun e w' => e = .returned c ∧ Keep M w w' ∧ C (k + 1) w') : oblOf P ops M w0 C Ts o (.mut c) k A := fun vals w hw hC hd =>
  .inl ⟨hg vals, by rw [h vals w hw hd]; exact (hc vals w hw hC hd).mono fun e w' ⟨h1, h2⟩ => ⟨c, h1, h2, rfl⟩⟩
/-- A call that writes M alone and answers what meets T. -/
theorem obl_mutT {T : List Value → Value → World → Prop} {f : FuncId} {args : (Nat → Value) → Array Value} (hg : ∀ vals, Region.wanted o (yielded ops (A vals).tmps) = true)
    (h : ∀ vals w, Keep M w0 w → Known ops Ts o vals w → Enters f (args vals) w ((execOp (A vals).eval o).run P w))
    (hc : ∀ vals w, Keep M w0 w → C k w → Known ops Ts o vals w → Calls P f (args vals) w fun e w' => ∃ v, e = .returned v ∧ (Keep M w w' ∧ C (k + 1) w') ∧ T ((depsOf o).map vals) v w') : oblOf P ops M w0 C Ts o (.mutS T) k A := fun vals w hw hC hd =>
  .inl ⟨hg vals, by rw [h vals w hw hd]; exact hc vals w hw hC hd⟩
/-- Memory is made. -/
def Makes (v : Value) (w' : World) (r : Result Next) : Prop := r = .ok (.value v) w'
theorem obl_make {T : List Value → Value → World → Prop} {v : (Nat → Value) → World → Value} {w' : (Nat → Value) → World → World} (hg : ∀ vals, Region.wanted o (yielded ops (A vals).tmps) = true)
    (h : ∀ vals w, Keep M w0 w → Known ops Ts o vals w → Makes (v vals w) (w' vals w) ((execOp (A vals).eval o).run P w))
    (hT : ∀ vals w, Keep M w0 w → Keep [] w (w' vals w) ∧ T ((depsOf o).map vals) (v vals w) (w' vals w)) : oblOf P ops M w0 C Ts o (.spec T) k A := fun vals w hw hd =>
  .inl ⟨hg vals, by rw [h vals w hw hd]; exact hT vals w hw⟩
end

/-- A pointer to a new block that holds cs; a slice of one. B: below it lies what was there before. -/
def PtrTo (B : Nat) (t : TypeId) (cs : List Value) (_ : List Value) (v : Value) (w : World) : Prop := ∃ p, v = .pointer (some ⟨p, 0, none⟩) ∧ B ≤ p ∧ Blk w p t cs
def SlTo (B : Nat) (t : TypeId) (n c : Nat) (cs : List Value) (_ : List Value) (v : Value) (w : World) : Prop := ∃ p, v = .slice (some ⟨p, 0, none⟩) n c ∧ B ≤ p ∧ Blk w p t cs
theorem PtrTo.lasts {M : List Nat} {B : Nat} {t : TypeId} {cs : List Value} (h : ∀ b ∈ M, b < B) : (Slot.spec (PtrTo B t cs)).lasts M := fun _ _ _ _ ⟨p, h1, h2, h3⟩ hk =>
  ⟨p, h1, h2, h3.keep hk (fun hm => by have := h p hm; omega)⟩
theorem SlTo.lasts {M : List Nat} {B n c : Nat} {t : TypeId} {cs : List Value} (h : ∀ b ∈ M, b < B) : (Slot.spec (SlTo B t n c cs)).lasts M := fun _ _ _ _ ⟨p, h1, h2, h3⟩ hk =>
  ⟨p, h1, h2, h3.keep hk (fun hm => by have := h p hm; omega)⟩
theorem ptrTo_new {B : Nat} {t : TypeId} {cs : List Value} {ds : List Value} {w : World} (h : B ≤ w.heap.size) : Keep [] w (w.alloc (.cells cs.toArray t)) ∧ PtrTo B t cs ds (.pointer (some ⟨w.heap.size, 0, none⟩)) (w.alloc (.cells cs.toArray t)) :=
  ⟨(Keep.refl _ _).alloc _, _, rfl, h, Blk.new w t cs⟩
theorem slTo_new {B n c : Nat} {t : TypeId} {cs : List Value} {ds : List Value} {w : World} (h : B ≤ w.heap.size) : Keep [] w (w.alloc (.cells cs.toArray t)) ∧ SlTo B t n c cs ds (.slice (some ⟨w.heap.size, 0, none⟩) n c) (w.alloc (.cells cs.toArray t)) :=
  ⟨(Keep.refl _ _).alloc _, _, rfl, h, Blk.new w t cs⟩
end Go.Proofs.Ytcpimhefclfbaaa

namespace Go.Proofs.Ytcpimhefclfbaaa
open Go Go.RowKit
set_option linter.unusedVariables false

/-- A slice that holds xs. -/
def RdIs (size : Nat) (xs : List Value) (_ : List Value) (v : Value) (w : World) : Prop := ∃ B k d, v = .slice B k d ∧ Rd [] w size B k d xs
theorem RdIs.lasts {size : Nat} {xs : List Value} : (Slot.spec (RdIs size xs)).lasts [] := fun _ _ _ _ ⟨B, k, d, h1, h2⟩ hk => ⟨B, k, d, h1, h2.pure hk⟩
/-- A quiet call, as one that may make memory. -/
theorem quiet_keep {P : Program} {f : FuncId} {args : Array Value} {w : World} {v : Value} (h : Calls P f args w fun e w' => e = .returned v ∧ w = w') : Calls P f args w fun e w' => e = .returned v ∧ Keep [] w w' :=
  h.mono fun _ _ ⟨h1, h2⟩ => ⟨h1, h2 ▸ Keep.refl _ _⟩

/-- 'append(v, x...)' is run: v the call's own, x whatever slice is read. -/
theorem run_append_rd {P : Program} {o : Oper} {a : Act} {w : World} (s x : Operand) (t : TypeId)
    (ho : o.op = .call { callee := .builtin .append, args := #[s, x], argTypes := #[t, t] })
    (base : Nat) (e : TypeId) (i : TypeInfo) (z : Value) (size bytes : Nat) (ht : P.underlying t = some (.slice e)) (hi : P.info? e = some i) (hz : i.zero = some z)
    (hsize : i.size = size) (hby : i.bytes = bytes) (hzs : z.cells.size = size) (hsz : 0 < size)
    (v : Value) (n : Nat) (xs : List Value) (hs : a.eval s = v) (hown : w.ownsRow base e size v n xs)
    {X : List Nat} {A : Option Addr} {m c : Nat} {news : List Value} (hx : a.eval x = .slice A m c) (hr : Rd X w size A m c news) (h1 : ∀ u ∈ news, u.oneCell' = true)
    (h63 : n + m ≤ maxLen) (hbytes : (n + m) * bytes ≤ 140737488355328) (hbase : base ≤ w.heap.size) :
    ∃ v' w', (execOp a.eval o).run P w = .ok (.value v') w' ∧ w'.ownsRow base e size v' (n + m) (xs ++ news) ∧ w.grownBy w' v.ownBlock := by
  cases A with
  | none =>
    obtain ⟨rfl, rfl⟩ := hr.none_nil
    obtain rfl := hr.2.2.2.2 rfl
    have hrun := run_append_owned_none (P := P) (w := w) base t o.type e i size ht hi v n xs hown
    refine ⟨v, w, ?_, by simpa using hown, ⟨rfl, rfl, rfl, Nat.le_refl _, fun _ _ _ => rfl⟩⟩
    simp [execOp, ho, resolve, invoke, builtin, hs, hx, hrun, Result.andThen]
  | some ad =>
    obtain ⟨v', w', hrun, h2, h3, _⟩ := run_append_own (P := P) w base t o.type e i z size bytes ht hi hz hsize hby hzs hsz v n xs hown ad m c news hr.1 (by
      intro j u hu
      rcases Nat.eq_zero_or_pos m with h0 | h0
      · subst h0
        have : news = [] := List.eq_nil_of_length_eq_zero (by simpa using hr.1)
        subst this
        simp at hu
      · obtain ⟨b, off, e', _, _, hc⟩ := hr.2.2.2.1 h0
        cases e'
        have := hc j u hu
        unfold Addr.add
        split
        · rename_i h0; subst h0; exact this
        · exact this) h1 h63 hbytes hbase
    refine ⟨v', w', ?_, h2, h3⟩
    unfold execOp
    simp only [ho, resolve, invoke, builtin, Sem.run_bind, Sem.run_pure, Result.andThen_ok, List.map_toArray, List.map_cons, List.map_nil, hs, hx, hrun]

section
variable {P : Program} {ops : Array Oper} {M : List Nat} {w0 : World} {C : Nat → World → Prop} {Ts : List Slot}
variable {o : Oper} {k : Nat} {A : (Nat → Value) → Act}
/-- An append to a row of the call's own, as the last operation that writes. -/
theorem obl_append (s x : Operand) (t : TypeId) (ho : o.op = .call { callee := .builtin .append, args := #[s, x], argTypes := #[t, t] }) (hg : ∀ vals, Region.wanted o (yielded ops (A vals).tmps) = true)
    (base : Nat) (e : TypeId) (i : TypeInfo) (z : Value) (size bytes : Nat) (ht : P.underlying t = some (.slice e)) (hi : P.info? e = some i) (hz : i.zero = some z)
    (hsize : i.size = size) (hby : i.bytes = bytes) (hzs : z.cells.size = size) (hsz : 0 < size)
    (v : Value) (n : Nat) (xs : List Value) (hs : ∀ vals, (A vals).eval s = v) (hM : ∀ b, v.ownBlock = some b → b ∈ M) (hC : ∀ w, C k w → w.ownsRow base e size v n xs) (hC1 : ∀ w, C (k + 1) w)
    {X : List Nat} {m : Nat} {news : List Value} (hx : ∀ vals w, Keep M w0 w → Known ops Ts o vals w → ∃ B c, (A vals).eval x = .slice B m c ∧ Rd X w size B m c news) (h1 : ∀ u ∈ news, u.oneCell' = true)
    (h63 : n + m ≤ maxLen) (hbytes : (n + m) * bytes ≤ 140737488355328) (hbase : base ≤ w0.heap.size) :
    oblOf P ops M w0 C Ts o (.mutS fun _ v' w' => w'.ownsRow base e size v' (n + m) (xs ++ news)) k A := fun vals w hw hCw hd => by
  obtain ⟨B, c, hxe, hr⟩ := hx vals w hw hd
  obtain ⟨v', w', hrun, h2, h3⟩ := run_append_rd (P := P) (a := A vals) s x t ho base e i z size bytes ht hi hz hsize hby hzs hsz v n xs (hs vals) (hC w hCw) hxe hr h1 h63 hbytes (Nat.le_trans hbase hw.size)
  refine .inl ⟨hg vals, ?_⟩
  rw [hrun]
  exact ⟨⟨(keep_of_grown h3).mono (fun b hb => .inl (hM b (by simpa using hb))), hC1 w'⟩, h2⟩
end
end Go.Proofs.Ytcpimhefclfbaaa
