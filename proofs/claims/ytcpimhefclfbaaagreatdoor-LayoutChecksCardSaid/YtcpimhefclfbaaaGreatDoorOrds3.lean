/-
  Regions whose order is open: each operation is shown once: the law as it is used, and its steps.
-/
import Derived.Test.YtcpimhefclfbaaaGreatDoorOrds2
import Derived.Test.YtcpimhefclfbaaaGreatDoorMem
namespace Go.Proofs.YtcpimhefclfbaaaGreatDoor
open Go Go.RowKit
set_option linter.unusedVariables false
set_option linter.unusedSimpArgs false

def ordsAllB (ops : Array Oper) (ch : List Bool) (n : Nat) : Bool :=
  Region.noSelect ops && decide (n < ops.size) && Region.sinkB .any ops n && Region.chainB .any ops n && Region.seqB .any ops (ops.size - n) n ((Array.range ops.size).map fun k => decide (k < n)) && ordsB ops ch n

section
variable {P : Program} {ops : Array Oper} {M : List Nat} {w0 : World} {C : Nat → World → Prop} {Ts : List Slot} {R : (Nat → Value) → Act → World → Prop}
theorem Slot.lasts_nil {M : List Nat} {t : Slot} (h : t.lasts M) : t.lasts [] := by
  cases t <;> simp only [Slot.lasts] at h ⊢
  · exact fun ds v w w' h1 h2 => h ds v w w' h1 h2.nil
  · exact fun ds v w w' h1 h2 => h ds v w w' h1 h2.nil
theorem wp_region_ords2 {id : Nat} {a0 : Act} {w : World} {l : List Oper} {Q : Exit → Act → World → Prop} (n : Nat) (M : List Nat) (C : Nat → World → Prop) (ch : List Bool) (Ts : List Slot)
    (hm : P.follows .mixedOrders = true) (hT : Ts.length = n) (hch : Ts.map Slot.chain = ch) (hB : ordsAllB l.toArray ch n = true)
    (hl : ∀ k (t : Slot), Ts[k]? = some t → t.lasts (lastM Ts M k)) (hC : ∀ c w w', C c w → Keep [] w w' → C c w') (hC0 : C 0 w.drew)
    (h : Obls P l.toArray M w C Ts (fun vals a w => wpList P l.toArray Q (l.drop n) a w) (l.take n) Ts 0 0 (fun _ => a0)) : (Code.region id l.toArray true).wp P Q a0 w := by
  simp only [ordsAllB, Bool.and_eq_true, decide_eq_true_eq] at hB
  obtain ⟨⟨⟨⟨⟨hsel, hn⟩, hs⟩, hc⟩, hseq⟩, hord⟩ := hB
  have ok := ordOk_of hT (by rw [hch]; exact hord)
  obtain ⟨_, hO, hR⟩ := obls_get _ _ _ _ _ h
  have hdl : (l.drop n).length = l.toArray.size - n := by simp
  have inv0 : HeadInv .any l.toArray n (Array.replicate l.toArray.size false) :=
    ⟨by simp, fun j oj _ hl => (by rw [getD_replicate_false] at hl; cases hl), fun t _ ht => getD_in (by simpa using ht) (getD_replicate_false _ _)⟩
  refine wp_region_any hm ?_
  have key := ords_go (P := P) (M := M) (w0 := w) (C := C) (l := l) (g := l.toArray.size - n) (Q := Q) (a0 := a0) ok rfl hsel hn hs hc (fun listed inv hall => by
      have : listed = (Array.range l.toArray.size).map fun k => decide (k < n) := by
        apply Array.ext
        · rw [inv.size]; simp
        · intro k h1 h2
          have hk : k < l.toArray.size := by rw [← inv.size]; exact h1
          simp only [Array.getElem_map, Array.getElem_range]
          by_cases hkn : k < n
          · have := hall k hkn
            simpa [h1, hkn] using this
          · have := inv.tail k (by omega) hk
            simpa [h1, hkn] using this
      rw [this]; exact hseq) hdl.symm hl hC
    (fun i o t ho ht => by have := hO i o t ho ht; rwa [Nat.zero_add] at this)
    (fun vals w' h1 h2 h3 => by rw [← hT]; have := hR vals w' h1 (by rw [Nat.zero_add, hT]; exact h2) h3; rwa [hT] at this ⊢)
    (cntN (fun k => !(Array.replicate l.toArray.size false).getD k false) n) (Array.replicate l.toArray.size false) a0 w.drew (fun _ => undef) rfl inv0 (Keep.refl _ _).drew
    (by
      have h0 : cntN (fun k => chAt Ts k && (Array.replicate l.toArray.size false).getD k false) n = 0 := by
        have := cntN_cut (p := fun k => chAt Ts k && (Array.replicate l.toArray.size false).getD k false) (i := 0) (n := n) (by omega) (fun k _ _ => by rw [getD_replicate_false, Bool.and_false])
        rw [this]; rfl
      rw [h0]; exact hC0)
    (fun k t _ hk => by rw [getD_replicate_false] at hk; cases hk)
    ⟨rfl, rfl, (fun k o d _ hk => by rw [getD_replicate_false] at hk; cases hk), fun d _ => rfl⟩
  have hn0 : cntN (fun k => !(Array.replicate l.toArray.size false).getD k false) n = n := by
    have : ∀ m, cntN (fun k => !(Array.replicate l.toArray.size false).getD k false) m = m := fun m => by
      induction m with
      | zero => rfl
      | succ m ih => rw [cntN, ih, getD_replicate_false]; rfl
    exact this n
  rw [hn0, show n + (l.toArray.size - n) = l.toArray.size by omega] at key
  exact key

theorem wp_region_ords {id : Nat} {a0 : Act} {w : World} {l : List Oper} {Q : Exit → Act → World → Prop} (n : Nat) (M : List Nat) (C : Nat → World → Prop) (ch : List Bool) (Ts : List Slot)
    (hm : P.follows .mixedOrders = true) (hT : Ts.length = n) (hch : Ts.map Slot.chain = ch) (hB : ordsAllB l.toArray ch n = true)
    (hl : ∀ t ∈ Ts, t.lasts M) (hC : ∀ c w w', C c w → Keep [] w w' → C c w') (hC0 : C 0 w.drew)
    (h : Obls P l.toArray M w C Ts (fun vals a w => wpList P l.toArray Q (l.drop n) a w) (l.take n) Ts 0 0 (fun _ => a0)) : (Code.region id l.toArray true).wp P Q a0 w :=
  wp_region_ords2 n M C ch Ts hm hT hch hB (fun k t ht => by
    have := hl t (List.mem_of_getElem? ht)
    unfold lastM
    split
    · exact Slot.lasts_nil this
    · exact this) hC hC0 h

/-! ### its steps -/
theorem obls_cons {o : Oper} {os : List Oper} {t : Slot} {ts : List Slot} {k c : Nat} {A : (Nat → Value) → Act} (h1 : oblOf P ops M w0 C Ts o t c A)
    (h2 : Obls P ops M w0 C Ts R os ts (k + 1) (c + if t.chain then 1 else 0) (fun vals => (A vals).put o.dst (t.put (vals k)))) : Obls P ops M w0 C Ts R (o :: os) (t :: ts) k c A := ⟨h1, h2⟩
theorem obls_nil {k c : Nat} {A : (Nat → Value) → Act} (h : ∀ vals w, Keep M w0 w → C c w → KnownAll ops Ts vals w → R vals (A vals) w) : Obls P ops M w0 C Ts R [] [] k c A := h

/-- An operation comes to value v, and leaves the world. -/
def Gives (v : Value) (w : World) (r : Result Next) : Prop := r = .ok (.value v) w
/-- An operation is a call of f with these arguments, and leaves the world. -/
def Enters (f : FuncId) (args : Array Value) (w : World) (r : Result Next) : Prop := r = .ok (.enter f args) w

variable {o : Oper} {k : Nat} {A : (Nat → Value) → Act}
theorem obl_val {c : Value} (hg : ∀ vals, Region.wanted o (yielded ops (A vals).tmps) = true)
    (h : ∀ vals w, Keep M w0 w → Known ops Ts o vals w → Gives c w ((execOp (A vals).eval o).run P w)) : oblOf P ops M w0 C Ts o (.val c) k A := fun vals w hw hd =>
  .inl ⟨hg vals, by rw [h vals w hw hd]; exact ⟨Keep.refl _ _, rfl⟩⟩
theorem obl_skip {c : Value} (hg : ∀ vals, Region.wanted o (yielded ops (A vals).tmps) = false) (hc : c = undef) : oblOf P ops M w0 C Ts o (.val c) k A := fun vals w hw hd =>
  .inr ⟨hg vals, Keep.refl _ _, hc.symm⟩
/-- A call that answers a constant and may make memory. -/
theorem obl_call {c : Value} {f : FuncId} {args : (Nat → Value) → Array Value} (hg : ∀ vals, Region.wanted o (yielded ops (A vals).tmps) = true)
    (h : ∀ vals w, Keep M w0 w → Known ops Ts o vals w → Enters f (args vals) w ((execOp (A vals).eval o).run P w))
    (hc : ∀ vals w, Keep M w0 w → Known ops Ts o vals w → Calls P f (args vals) w fun e w' => e = .returned c ∧ Keep [] w w') : oblOf P ops M w0 C Ts o (.val c) k A := fun vals w hw hd =>
  .inl ⟨hg vals, by rw [h vals w hw hd]; exact (hc vals w hw hd).mono fun e w' ⟨h1, h2⟩ => ⟨c, h1, h2, rfl⟩⟩
/-- A call that answers what meets T. -/
theorem obl_callT {T : List Value → Value → World → Prop} {f : FuncId} {args : (Nat → Value) → Array Value} (hg : ∀ vals, Region.wanted o (yielded ops (A vals).tmps) = true)
    (h : ∀ vals w, Keep M w0 w → Known ops Ts o vals w → Enters f (args vals) w ((execOp (A vals).eval o).run P w))
    (hc : ∀ vals w, Keep M w0 w → Known ops Ts o vals w → Calls P f (args vals) w fun e w' => ∃ v, e = .returned v ∧ Keep [] w w' ∧ T ((depsOf o).map vals) v w') : oblOf P ops M w0 C Ts o (.spec T) k A := fun vals w hw hd =>
  .inl ⟨hg vals, by rw [h vals w hw hd]; exact hc vals w hw hd⟩
/-- A call that writes M alone and answers a constant. -/
theorem obl_mut {c : Value} {f : FuncId} {args : (Nat → Value) → Array Value} (hg : ∀ vals, Region.wanted o (yielded ops (A vals).tmps) = true)
    (h : ∀ vals w, Keep M w0 w → Known ops Ts o vals w → Enters f (args vals) w ((execOp (A vals).eval o).run P w))
    (hc : ∀ vals w, Keep M w0 w → C k w → Known ops Ts o vals w → Calls P f (args vals) w fun e w' => e = .returned c ∧ Keep M w w' ∧ C (k + 1) w') : oblOf P ops M w0 C Ts o (.mut c) k A := fun vals w hw hC hd =>
  .inl ⟨hg vals, by rw [h vals w hw hd]; exact (hc vals w hw hC hd).mono fun e w' ⟨h1, h2⟩ => ⟨c, h1, h2, rfl⟩⟩
/-- A call that writes M alone and answers what meets T. -/
theorem obl_mutT {T : List Value → Value → World → Prop} {f : FuncId} {args : (Nat → Value) → Array Value} (hg : ∀ vals, Region.wanted o (yielded ops (A vals).tmps) = true)
    (h : ∀ vals w, Keep M w0 w → Known ops Ts o vals w → Enters f (args vals) w ((execOp (A vals).eval o).run P w))
    (hc : ∀ vals w, Keep M w0 w → C k w → Known ops Ts o vals w → Calls P f (args vals) w fun e w' => ∃ v, e = .returned v ∧ (Keep M w w' ∧ C (k + 1) w') ∧ T ((depsOf o).map vals) v w') : oblOf P ops M w0 C Ts o (.mutS T) k A := fun vals w hw hC hd =>
  .inl ⟨hg vals, by rw [h vals w hw hd]; exact hc vals w hw hC hd⟩
/-- Memory is made. -/
def Makes (v : Value) (w' : World) (r : Result Next) : Prop := r = .ok (.value v) w'
theorem obl_make {T : List Value → Value → World → Prop} {v : (Nat → Value) → World → Value} {w' : (Nat → Value) → World → World} (hg : ∀ vals, Region.wanted o (yielded ops (A vals).tmps) = true)
    (h : ∀ vals w, Keep M w0 w → Known ops Ts o vals w → Makes (v vals w) (w' vals w) ((execOp (A vals).eval o).run P w))
    (hT : ∀ vals w, Keep M w0 w → Keep [] w (w' vals w) ∧ T ((depsOf o).map vals) (v vals w) (w' vals w)) : oblOf P ops M w0 C Ts o (.spec T) k A := fun vals w hw hd =>
  .inl ⟨hg vals, by rw [h vals w hw hd]; exact hT vals w hw⟩
end

/-- A pointer to a new block that holds cs; a slice of one. B: below it lies what was there before. -/
def PtrTo (B : Nat) (t : TypeId) (cs : List Value) (_ : List Value) (v : Value) (w : World) : Prop := ∃ p, v = .pointer (some ⟨p, 0, none⟩) ∧ B ≤ p ∧ Blk w p t cs
def SlTo (B : Nat) (t : TypeId) (n c : Nat) (cs : List Value) (_ : List Value) (v : Value) (w : World) : Prop := ∃ p, v = .slice (some ⟨p, 0, none⟩) n c ∧ B ≤ p ∧ Blk w p t cs
theorem PtrTo.lasts {M : List Nat} {B : Nat} {t : TypeId} {cs : List Value} (h : ∀ b ∈ M, b < B) : (Slot.spec (PtrTo B t cs)).lasts M := fun _ _ _ _ ⟨p, h1, h2, h3⟩ hk =>
  ⟨p, h1, h2, h3.keep hk (fun hm => by have := h p hm; omega)⟩
theorem SlTo.lasts {M : List Nat} {B n c : Nat} {t : TypeId} {cs : List Value} (h : ∀ b ∈ M, b < B) : (Slot.spec (SlTo B t n c cs)).lasts M := fun _ _ _ _ ⟨p, h1, h2, h3⟩ hk =>
  ⟨p, h1, h2, h3.keep hk (fun hm => by have := h p hm; omega)⟩
theorem ptrTo_new {B : Nat} {t : TypeId} {cs : List Value} {ds : List Value} {w : World} (h : B ≤ w.heap.size) : Keep [] w (w.alloc (.cells cs.toArray t)) ∧ PtrTo B t cs ds (.pointer (some ⟨w.heap.size, 0, none⟩)) (w.alloc (.cells cs.toArray t)) :=
  ⟨(Keep.refl _ _).alloc _, _, rfl, h, Blk.new w t cs⟩
theorem slTo_new {B n c : Nat} {t : TypeId} {cs : List Value} {ds : List Value} {w : World} (h : B ≤ w.heap.size) : Keep [] w (w.alloc (.cells cs.toArray t)) ∧ SlTo B t n c cs ds (.slice (some ⟨w.heap.size, 0, none⟩) n c) (w.alloc (.cells cs.toArray t)) :=
  ⟨(Keep.refl _ _).alloc _, _, rfl, h, Blk.new w t cs⟩
end Go.Proofs.YtcpimhefclfbaaaGreatDoor
