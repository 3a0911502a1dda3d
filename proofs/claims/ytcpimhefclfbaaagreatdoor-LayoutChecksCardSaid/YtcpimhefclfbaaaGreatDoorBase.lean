/-
  Words for memory: what a slice that is only read holds; a block of the call's own; what a call leaves as it was.
-/
import Derived.WalkKit
import Derived.WalkSpells
import Derived.WalkLawsBesides
import Derived.BigQuiet
import Derived.Deep.QuietTactic
import Derived.StillTailTactics
import Derived.Lib.Hide
import Derived.Laws.BytesArg
import Derived.Laws.AppendOwnNone
namespace Go.Proofs.YtcpimhefclfbaaaGreatDoor
open Go Go.RowKit

/-- All blocks of w but those of M are in w' as they were. -/
structure Keep (M : List Nat) (w w' : World) : Prop where
  os : w'.os = w.os
  tape : w'.tape = w.tape
  output : w'.output = w.output
  size : w.heap.size ≤ w'.heap.size
  block : ∀ k, k < w.heap.size → k ∉ M → w'.heap[k]? = w.heap[k]?

namespace Keep
variable {M N : List Nat} {w w' w'' : World}
theorem refl (M : List Nat) (w : World) : Keep M w w := ⟨rfl, rfl, rfl, Nat.le_refl _, fun _ _ _ => rfl⟩
theorem trans (h : Keep M w w') (k : Keep M w' w'') : Keep M w w'' :=
  ⟨k.os.trans h.os, k.tape.trans h.tape, k.output.trans h.output, Nat.le_trans h.size k.size,
    fun i hi hn => (k.block i (Nat.lt_of_lt_of_le hi h.size) hn).trans (h.block i hi hn)⟩
theorem mono (h : Keep M w w') (hs : ∀ b ∈ M, b ∈ N ∨ w.heap.size ≤ b) : Keep N w w' :=
  ⟨h.os, h.tape, h.output, h.size, fun i hi hn => h.block i hi fun hm => (hs i hm).elim hn (fun h => by omega)⟩
theorem alloc (h : Keep M w w') (o : Obj) : Keep M w (w'.alloc o) :=
  ⟨h.os, h.tape, h.output, Nat.le_trans h.size (by simp), fun i hi hn => (Below.heap_alloc w' o i (Nat.lt_of_lt_of_le hi h.size)).trans (h.block i hi hn)⟩
theorem drew (h : Keep M w w') : Keep M w w'.drew := ⟨h.os, h.tape, h.output, h.size, h.block⟩
theorem drewN (h : Keep M w w') (n : Nat) : Keep M w (w'.drewN n) := ⟨h.os, h.tape, h.output, h.size, h.block⟩
theorem setCell (h : Keep M w w') {p : Addr} (hp : p.block ∈ M ∨ w.heap.size ≤ p.block) (u : Value) : Keep M w (w'.setCell p u) :=
  ⟨h.os, h.tape, h.output, by simpa [World.setCell] using h.size, fun i hi hn => (Below.heap_setCell w' p u i (by
    rintro rfl
    rcases hp with hp | hp
    · exact hn hp
    · omega)).trans (h.block i hi hn)⟩
theorem of_below {B : Nat} (h : Below B w w') (hB : w.heap.size ≤ B) : Keep [] w w' := ⟨h.os, h.tape, h.output, h.size, fun i hi _ => h.block i (by omega)⟩
theorem below (h : Keep [] w w') : Below w.heap.size w w' := ⟨h.os, h.tape, h.output, h.size, fun i hi => h.block i hi (by simp)⟩
theorem grown {row : Option Nat} (h : Keep M w w') (hg : w'.grownBy w'' row) (hr : ∀ k, row = some k → k ∈ M ∨ w.heap.size ≤ k) : Keep M w w'' :=
  ⟨hg.os.trans h.os, hg.tape.trans h.tape, hg.output.trans h.output, Nat.le_trans h.size hg.size,
    fun i hi hn => (hg.block i (Nat.lt_of_lt_of_le hi h.size) (fun e => by
      rcases hr i e.symm with h1 | h1
      · exact hn h1
      · omega)).trans (h.block i hi hn)⟩
theorem nil (h : Keep [] w w') : Keep M w w' := h.mono (by simp)
theorem heap (h : Keep M w w') {b : Nat} {o : Obj} (hb : w.heap[b]? = some o) (hn : b ∉ M) : w'.heap[b]? = some o :=
  (h.block b (Array.getElem?_eq_some_iff.1 hb).1 hn).trans hb
end Keep

/-- What is written is a row's block: nothing else. -/
theorem keep_of_grown {w w' : World} {row : Option Nat} (hg : w.grownBy w' row) : Keep row.toList w w' :=
  ⟨hg.os, hg.tape, hg.output, hg.size, fun k hk hn => hg.block k hk (fun e => hn (by rw [← e]; simp))⟩
theorem Keep.cat {M N : List Nat} {w w' w'' : World} (h : Keep M w w') (k : Keep N w' w'') : Keep (M ++ N) w w'' :=
  (h.mono (N := M ++ N) (fun b hb => .inl (by simp [hb]))).trans (k.mono (fun b hb => .inl (by simp [hb])))
theorem Keep.after {M N : List Nat} {w w' w'' : World} (h : Keep M w w') (k : Keep N w' w'') (hN : ∀ b ∈ N, b ∈ M ∨ w.heap.size ≤ b) : Keep M w w'' :=
  ⟨k.os.trans h.os, k.tape.trans h.tape, k.output.trans h.output, Nat.le_trans h.size k.size,
    fun i hi hn => (k.block i (Nat.lt_of_lt_of_le hi h.size) (fun hm => (hN i hm).elim hn (fun h => by omega))).trans (h.block i hi hn)⟩

/-- What a slice value that is only read holds: n elements of 'size' cells each, none in a block of X. -/
def Rd (X : List Nat) (w : World) (size : Nat) (A : Option Addr) (n c : Nat) (xs : List Value) : Prop :=
  xs.length = n * size ∧ n ≤ c ∧ c ≤ maxLen ∧
    (0 < n → ∃ b off, A = some ⟨b, off, none⟩ ∧ b < w.heap.size ∧ b ∉ X ∧ ∀ j u, xs[j]? = some u → w.cell? ⟨b, off + j, none⟩ = some u) ∧ (A = none → c = 0)

namespace Rd
variable {X Y M : List Nat} {w w' : World} {size n c : Nat} {A : Option Addr} {xs : List Value}
theorem nil_ (X : List Nat) (w : World) (size : Nat) : Rd X w size none 0 0 [] := ⟨by simp, by simp, by simp [maxLen], fun h => absurd h (by omega), fun _ => rfl⟩
theorem le (h : Rd X w size A n c xs) : n ≤ c := h.2.1
theorem cap (h : Rd X w size A n c xs) : c ≤ 9223372036854775807 := by have := h.2.2.1; unfold maxLen at this; omega
theorem keep (h : Rd X w size A n c xs) (hk : Keep M w w') (hM : ∀ b ∈ M, b ∈ X ∨ w.heap.size ≤ b) : Rd X w' size A n c xs :=
  ⟨h.1, h.2.1, h.2.2.1, fun hn => by
    obtain ⟨b, off, e, hlt, hb, hc⟩ := h.2.2.2.1 hn
    refine ⟨b, off, e, Nat.lt_of_lt_of_le hlt hk.size, hb, fun j u hu => ?_⟩
    exact (World.cell?_of_block (w := w) (a := ⟨b, off + j, none⟩) (hk.block b hlt (fun hm => (hM b hm).elim hb (fun h => by omega)))).trans (hc j u hu), h.2.2.2.2⟩
theorem pure (h : Rd X w size A n c xs) (hk : Keep [] w w') : Rd X w' size A n c xs := h.keep hk (by simp)
theorem weaken (h : Rd X w size A n c xs) (hs : ∀ b ∈ Y, b ∈ X ∨ w.heap.size ≤ b) : Rd Y w size A n c xs :=
  ⟨h.1, h.2.1, h.2.2.1, fun hn => by
    obtain ⟨b, off, e, hlt, hb, hc⟩ := h.2.2.2.1 hn
    exact ⟨b, off, e, hlt, fun hm => (hs b hm).elim hb (fun h => by omega), hc⟩, h.2.2.2.2⟩
theorem none_nil (h : Rd X w size none n c xs) : n = 0 ∧ xs = [] := by
  have h0 : n = 0 := by
    rcases Nat.eq_zero_or_pos n with h0 | h0
    · exact h0
    · obtain ⟨b, off, e, _⟩ := h.2.2.2.1 h0; cases e
  subst h0
  exact ⟨rfl, List.eq_nil_of_length_eq_zero (by simpa using h.1)⟩
theorem drew (h : Rd X w size A n c xs) : Rd X w.drew size A n c xs := h
theorem drewN (h : Rd X w size A n c xs) (k : Nat) : Rd X (w.drewN k) size A n c xs := h
/-- The cells of element k. -/
theorem at_ {k : Nat} (h : Rd X w size A n c xs) (hk : k < n) : ∃ b off, A = some ⟨b, off, none⟩ ∧ b < w.heap.size ∧ b ∉ X ∧ ∀ j, j < size → w.cell? ⟨b, off + (k * size + j), none⟩ = xs[k * size + j]? := by
  obtain ⟨b, off, e, hlt, hb, hc⟩ := h.2.2.2.1 (by omega)
  refine ⟨b, off, e, hlt, hb, fun j hj => ?_⟩
  have hl : k * size + j < xs.length := by
    rw [h.1]
    have := Nat.mul_le_mul_right size (show k + 1 ≤ n from hk)
    rw [Nat.add_mul] at this
    omega
  rw [hc _ _ (List.getElem?_eq_getElem hl), List.getElem?_eq_getElem hl]
theorem cut_low {k m cap : Nat} (h : Rd X w size A n cap xs) (hk : k ≤ n) (hm : m = cap - k) :
    Rd X w size (if cap = k then A else A.map (·.add (k * size))) (n - k) m (xs.drop (k * size)) := by
  subst hm
  refine ⟨by rw [List.length_drop, h.1, Nat.sub_mul], by have := h.2.1; omega, by have := h.2.2.1; omega, fun hn => ?_, fun hA => ?_⟩
  rotate_left
  · by_cases hck : cap = k
    · omega
    · rw [if_neg hck] at hA
      have := h.2.2.2.2 (Option.map_eq_none_iff.1 hA)
      omega
  obtain ⟨b, off, rfl, hlt, hb, hc⟩ := h.2.2.2.1 (by omega)
  rw [if_neg (by have := h.2.1; omega)]
  refine ⟨b, off + k * size, ?_, hlt, hb, fun j u hu => ?_⟩
  · simp only [Option.map_some, Addr.add]
    split <;> simp_all
  · rw [Nat.add_assoc]
    exact hc _ u (by rw [← hu, List.getElem?_drop])
theorem cut_high {k : Nat} (h : Rd X w size A n c xs) (hk : k ≤ n) : Rd X w size A k c (xs.take (k * size)) := by
  refine ⟨?_, by have := h.2.1; omega, h.2.2.1, fun hn => ?_, h.2.2.2.2⟩
  · rw [List.length_take, h.1]
    exact Nat.min_eq_left (Nat.mul_le_mul_right _ hk)
  obtain ⟨b, off, rfl, hlt, hb, hc⟩ := h.2.2.2.1 (by omega)
  refine ⟨b, off, rfl, hlt, hb, fun j u hu => hc j u ?_⟩
  rw [List.getElem?_take] at hu
  split at hu
  · exact hu
  · cases hu
end Rd

/-- A block of the call's own. -/
def Blk (w : World) (g : Nat) (t : TypeId) (cs : List Value) : Prop := w.heap[g]? = some (.cells cs.toArray t (0, 0))
namespace Blk
variable {w w' : World} {g : Nat} {t : TypeId} {cs : List Value}
theorem lt (h : Blk w g t cs) : g < w.heap.size := (Array.getElem?_eq_some_iff.1 h).1
theorem cell (h : Blk w g t cs) (i : Nat) : w.cell? ⟨g, i, none⟩ = cs[i]? := by
  have := cell_of_row w g i cs.toArray t (0, 0) h
  simpa using this
theorem frozen (h : Blk w g t cs) (i : Nat) : w.frozen? ⟨g, i, none⟩ = false := frozen_of_row w g i cs.toArray t h
theorem new (w : World) (t : TypeId) (cs : List Value) : Blk (w.alloc (.cells cs.toArray t)) w.heap.size t cs := heap_alloc_new w _
theorem drew (h : Blk w g t cs) : Blk w.drew g t cs := h
theorem drewN (h : Blk w g t cs) (n : Nat) : Blk (w.drewN n) g t cs := h
theorem alloc (h : Blk w g t cs) (o : Obj) : Blk (w.alloc o) g t cs := (Below.heap_alloc w o g h.lt).trans h
theorem set_ (h : Blk w g t cs) (i : Nat) (u : Value) : Blk (w.setCell ⟨g, i, none⟩ u) g t (cs.set i u) := by
  unfold Blk at h ⊢
  simp [World.setCell, Array.getElem?_modify, h]
theorem far (h : Blk w g t cs) {p : Addr} (hp : g ≠ p.block) (u : Value) : Blk (w.setCell p u) g t cs := (Below.heap_setCell w p u g hp).trans h
theorem keep {M : List Nat} (h : Blk w g t cs) (hk : Keep M w w') (hg : g ∉ M) : Blk w' g t cs := (hk.block g h.lt hg).trans h
theorem ne_ {g' : Nat} {t' : TypeId} {cs' : List Value} (h : Blk w g t cs) (h' : Blk w g' t' cs') (hne : t ≠ t') : g ≠ g' := by
  rintro rfl
  unfold Blk at h h'
  rw [h] at h'
  injection h' with h'
  injection h' with _ ht
  exact hne ht
/-- A whole block, read as a slice. -/
theorem rd {X : List Nat} {size n c : Nat} {xs : List Value} (h : Blk w g t cs) (hx : g ∉ X) (hn : xs.length = n * size) (hnc : n ≤ c) (hc : c ≤ maxLen) (ht : cs.take (n * size) = xs) : Rd X w size (some ⟨g, 0, none⟩) n c xs :=
  ⟨hn, hnc, hc, fun _ => ⟨g, 0, rfl, h.lt, hx, fun j u hu => by
    rw [Nat.zero_add, h.cell j]
    rw [← ht, List.getElem?_take] at hu
    split at hu
    · exact hu
    · cases hu⟩, fun h => by cases h⟩
end Blk

/-- A row of the call's own, read as a slice. -/
theorem rd_of_own {X : List Nat} {w : World} {base : Nat} {e : TypeId} {size n c : Nat} {A : Option Addr} {xs : List Value} (h : w.ownsRow base e size (.slice A n c) n xs) (hx : ∀ b ∈ X, b < base) :
    Rd X w size A n c xs := by
  obtain ⟨h1, h2⟩ := h
  rcases h2 with ⟨hv, rfl⟩ | ⟨g, cap, cur, hv, hb, hg, hnc, hcm, hcs, ht⟩
  · injection hv with e1 e2 e3
    subst e1 e3
    have : xs = [] := List.eq_nil_of_length_eq_zero (by simpa using h1)
    subst this
    exact Rd.nil_ X w size
  · injection hv with e1 e2 e3
    subst e1 e3
    refine ⟨h1, hnc, hcm, fun _ => ⟨g, 0, rfl, (Array.getElem?_eq_some_iff.1 hg).1, fun hm => by have := hx g hm; omega, fun j u hu => ?_⟩, fun h => by cases h⟩
    rw [Nat.zero_add, cell_of_row w g j cur e (0, 0) hg]
    rw [← ht, List.getElem?_take] at hu
    split at hu
    · simpa using hu
    · cases hu

/-- A row that was just made, as a block. -/
theorem blk_of_own {w w' : World} {g S : Nat} {e : TypeId} {xs : List Value} (h : w'.ownsRow w.heap.size e 1 (.slice (some ⟨g, 0, none⟩) S S) S xs) : Blk w' g e xs := by
  obtain ⟨h1, h2⟩ := h
  rcases h2 with ⟨hv, _⟩ | ⟨g', cap, cur, hv, hb, hg, hnc, hcm, hcs, ht⟩
  · cases hv
  · injection hv with e1 e2 e3
    injection e1 with e1
    injection e1 with e1
    subst e1 e3
    have : cur = xs.toArray := by
      have hlen : cur.toList.length = S * 1 := by simpa using hcs
      rw [← hlen, List.take_length] at ht
      rw [← ht]
    subst this
    exact hg

/-- The value of an owned row is a slice. -/
theorem own_form {w : World} {base : Nat} {e : TypeId} {size n : Nat} {v : Value} {xs : List Value} (h : w.ownsRow base e size v n xs) : ∃ A c, v = .slice A n c := by
  rcases h.2 with ⟨rfl, rfl⟩ | ⟨g, cap, cur, rfl, _⟩
  · exact ⟨none, 0, rfl⟩
  · exact ⟨_, _, rfl⟩

/-- An owned row as time goes on, other blocks being written. -/
theorem own_keep {M : List Nat} {w w' : World} {base : Nat} {e : TypeId} {size n : Nat} {v : Value} {xs : List Value} (h : w.ownsRow base e size v n xs) (hk : Keep M w w') (hM : ∀ b ∈ M, b < base) : w'.ownsRow base e size v n xs := by
  refine ⟨h.1, ?_⟩
  rcases h.2 with h2 | ⟨g, cap, cur, hv, hg, hh, r⟩
  · exact .inl h2
  · exact .inr ⟨g, cap, cur, hv, hg, (hk.block g (Array.getElem?_eq_some_iff.1 hh).1 (fun hm => by have := hM g hm; omega)).trans hh, r⟩

theorem own_lower {w : World} {base base' : Nat} {e : TypeId} {size n : Nat} {v : Value} {xs : List Value} (h : w.ownsRow base e size v n xs) (hb : base' ≤ base) : w.ownsRow base' e size v n xs := by
  refine ⟨h.1, ?_⟩
  rcases h.2 with h2 | ⟨g, cap, cur, hv, hg, r⟩
  · exact .inl h2
  · exact .inr ⟨g, cap, cur, hv, by omega, r⟩

/-- Rows of unlike element types lie in unlike blocks. -/
theorem own_apart {w : World} {base base' : Nat} {e e' : TypeId} {size size' n n' : Nat} {v v' : Value} {xs xs' : List Value} (h : w.ownsRow base e size v n xs) (h' : w.ownsRow base' e' size' v' n' xs') (hne : e ≠ e') :
    v.ownBlock = none ∨ v.ownBlock ≠ v'.ownBlock := by
  rcases h.2 with ⟨rfl, _⟩ | ⟨g, cap, cur, rfl, _, hg, _⟩
  · exact .inl rfl
  · rcases h'.2 with ⟨rfl, _⟩ | ⟨g', cap', cur', rfl, _, hg', _⟩
    · exact .inr (by simp [Value.ownBlock])
    · refine .inr fun he => ?_
      have : g = g' := by simpa [Value.ownBlock] using he
      subst this
      rw [hg] at hg'
      injection hg' with hg'
      injection hg' with _ ht
      exact hne ht
theorem own_ge {w : World} {base : Nat} {e : TypeId} {size n : Nat} {v : Value} {xs : List Value} (h : w.ownsRow base e size v n xs) : ∀ k, v.ownBlock = some k → base ≤ k := fun k hk => (h.lt k hk).1

def vU64 (x : UInt64) : Value := .int .u64 (x.toNat : Int)
def vU8 (x : UInt8) : Value := .int .u8 (x.toNat : Int)
def vInt (x : Int) : Value := .int .i64 x

abbrev U64s (X : List Nat) (w : World) (A : Option Addr) (n c : Nat) (l : List UInt64) : Prop := Rd X w 1 A n c (l.map vU64)
abbrev Bys (X : List Nat) (w : World) (A : Option Addr) (n c : Nat) (l : List UInt8) : Prop := Rd X w 1 A n c (l.map vU8)
abbrev Ints (X : List Nat) (w : World) (A : Option Addr) (n c : Nat) (l : List Int) : Prop := Rd X w 1 A n c (l.map vInt)

section
variable {α : Type} {f : α → Value} {X : List Nat} {w : World} {A : Option Addr} {n c : Nat} {l : List α}
theorem Rd.len1 (h : Rd X w 1 A n c (l.map f)) : l.length = n := by have := h.1; simpa using this
theorem Rd.one {k : Nat} (h : Rd X w 1 A n c (l.map f)) (hk : k < l.length) : ∃ b off, A = some ⟨b, off, none⟩ ∧ b < w.heap.size ∧ b ∉ X ∧ w.cell? ⟨b, off + k, none⟩ = some (f l[k]) := by
  obtain ⟨b, off, e, hlt, hb, hc⟩ := Rd.at_ h (k := k) (by have := h.len1; omega)
  refine ⟨b, off, e, hlt, hb, ?_⟩
  have := hc 0 (by omega)
  simpa [hk] using this
theorem Rd.drop1 {k m : Nat} (h : Rd X w 1 A n c (l.map f)) (hk : k ≤ n) (hm : m = c - k) : Rd X w 1 (if c = k then A else A.map (·.add k)) (n - k) m ((l.drop k).map f) := by
  have := Rd.cut_low h hk hm
  simpa [List.map_drop] using this
theorem Rd.take1 {k : Nat} (h : Rd X w 1 A n c (l.map f)) (hk : k ≤ n) : Rd X w 1 A k c ((l.take k).map f) := by
  have := Rd.cut_high h hk
  simpa [List.map_take] using this
end
theorem vU64_one (l : List UInt64) : ∀ u ∈ l.map vU64, u.oneCell' = true := by simp [vU64, Value.oneCell']
theorem vU8_one (l : List UInt8) : ∀ u ∈ l.map vU8, u.oneCell' = true := by simp [vU8, Value.oneCell']
theorem vInt_one (l : List Int) : ∀ u ∈ l.map vInt, u.oneCell' = true := by simp [vInt, Value.oneCell']

/-- 'string(b)' of bytes that are read. -/
theorem run_str {P : Program} {X : List Nat} {w : World} {A : Option Addr} {n c : Nat} {l : List UInt8} (h : Bys X w A n c l) (src dst e : TypeId) (hs : P.underlying src = some (.slice e)) (he : P.underlying e = some (.int .u8)) (hd : P.underlying dst = some .string) :
    (convert src dst (.slice A n c)).run P w = .ok (.string ⟨l.toArray⟩) w := by
  have hl := h.len1
  by_cases h0 : l = []
  · subst h0
    obtain rfl : n = 0 := by simpa using hl.symm
    cases A with
    | none => exact run_convert_bytes_nil w src e hs he 0 c dst hd
    | some a =>
      rw [run_convert_bytes_string w src dst e _ 0 c hs he hd, run_bytesToString w a 0 c [] (by simp [loadCells, loadCellsFrom])]
      rfl
  · obtain ⟨b, off, rfl, _, _, hc⟩ := h.2.2.2.1 (by have := List.length_pos_iff.2 h0; omega)
    rw [run_convert_bytes_arg w src e hs he b off n c (l.map fun x => (x.toNat : Int)) (by simpa using hl) (fun i hi => ?_) dst hd]
    · simp [strOfNums, Function.comp_def]
    · have hil : i < l.length := by omega
      rw [hc i (vU8 l[i]) (by simp [hil])]
      simp [vU8, hil]

section
variable {P : Program} {w : World} {ops : Array Oper} {rest : List Oper} {o : Oper} {a : Act} {K : Act → World → Prop} {Q : Exit → Act → World → Prop} {E : Prop}
/-- 'append(v, x...)': v the call's own, x whatever slice is read. -/
theorem wp_append_rd (s x : Operand) (t : TypeId)
    (ho : o.op = .call { callee := .builtin .append, args := #[s, x], argTypes := #[t, t] })
    (base : Nat) (e : TypeId) (i : TypeInfo) (z : Value) (size bytes : Nat) (ht : P.underlying t = some (.slice e)) (hi : P.info? e = some i) (hz : i.zero = some z)
    (hsize : i.size = size) (hby : i.bytes = bytes) (hzs : z.cells.size = size) (hsz : 0 < size)
    (v : Value) (n : Nat) (xs : List Value) (hs : a.eval s = v) (hown : w.ownsRow base e size v n xs)
    {X : List Nat} {A : Option Addr} {m c : Nat} {news : List Value} (hx : a.eval x = .slice A m c) (hr : Rd X w size A m c news) (h1 : ∀ u ∈ news, u.oneCell' = true)
    (h63 : n + m ≤ maxLen) (hbytes : (n + m) * bytes ≤ 140737488355328) (hbase : base ≤ w.heap.size)
    (h : ∀ v' w', w'.ownsRow base e size v' (n + m) (xs ++ news) → w.grownBy w' v.ownBlock → K (a.put o.dst v') w') : o.wp P a w K Q := by
  cases A with
  | none =>
    obtain ⟨rfl, rfl⟩ := hr.none_nil
    obtain rfl := hr.2.2.2.2 rfl
    have hrun := run_append_owned_none (P := P) (w := w) base t o.type e i size ht hi v n xs hown
    unfold Oper.wp
    simp [execOp, ho, resolve, invoke, builtin, hs, hx, hrun, Result.andThen]
    exact h v w (by simpa using hown) ⟨rfl, rfl, rfl, Nat.le_refl _, fun _ _ _ => rfl⟩
  | some ad =>
    refine wp_append_own w s x t ho base e i z size bytes ht hi hz hsize hby hzs hsz v n xs hs hown ad m c news hx hr.1 ?_ h1 h63 hbytes hbase (fun v' w' h2 h3 _ => h v' w' h2 h3)
    intro j u hu
    rcases Nat.eq_zero_or_pos m with h0 | h0
    · subst h0
      have : news = [] := List.eq_nil_of_length_eq_zero (by simpa using hr.1)
      subst this
      simp at hu
    · obtain ⟨b, off, e', _, _, hc⟩ := hr.2.2.2.1 h0
      cases e'
      have := hc j u hu
      unfold Addr.add
      split
      · rename_i h0; subst h0; exact this
      · exact this
theorem wpList_append_rd (hgd : o.guard = none) (s x : Operand) (t : TypeId)
    (ho : o.op = .call { callee := .builtin .append, args := #[s, x], argTypes := #[t, t] })
    (base : Nat) (e : TypeId) (i : TypeInfo) (z : Value) (size bytes : Nat) (ht : P.underlying t = some (.slice e)) (hi : P.info? e = some i) (hz : i.zero = some z)
    (hsize : i.size = size) (hby : i.bytes = bytes) (hzs : z.cells.size = size) (hsz : 0 < size)
    (v : Value) (n : Nat) (xs : List Value) (hs : a.eval s = v) (hown : w.ownsRow base e size v n xs)
    {X : List Nat} {A : Option Addr} {m c : Nat} {news : List Value} (hx : a.eval x = .slice A m c) (hr : Rd X w size A m c news) (h1 : ∀ u ∈ news, u.oneCell' = true)
    (h63 : n + m ≤ maxLen) (hbytes : (n + m) * bytes ≤ 140737488355328) (hbase : base ≤ w.heap.size)
    (h : ∀ v' w', w'.ownsRow base e size v' (n + m) (xs ++ news) → w.grownBy w' v.ownBlock → wpList P ops Q rest (a.put o.dst v') w') : wpList P ops Q (o :: rest) a w :=
  wpList_plain hgd fun _ hK => wp_append_rd s x t ho base e i z size bytes ht hi hz hsize hby hzs hsz v n xs hs hown hx hr h1 h63 hbytes hbase fun v' w' h2 h3 => hK _ _ (h v' w' h2 h3)
/-- The same in a region whose order is open. -/
theorem step_append_rd (hgd : o.guard = none) (s x : Operand) (t : TypeId)
    (ho : o.op = .call { callee := .builtin .append, args := #[s, x], argTypes := #[t, t] })
    (base : Nat) (e : TypeId) (i : TypeInfo) (z : Value) (size bytes : Nat) (ht : P.underlying t = some (.slice e)) (hi : P.info? e = some i) (hz : i.zero = some z)
    (hsize : i.size = size) (hby : i.bytes = bytes) (hzs : z.cells.size = size) (hsz : 0 < size)
    (v : Value) (n : Nat) (xs : List Value) (hs : a.eval s = v) (hown : w.ownsRow base e size v n xs)
    {X : List Nat} {A : Option Addr} {m c : Nat} {news : List Value} (hx : a.eval x = .slice A m c) (hr : Rd X w size A m c news) (h1 : ∀ u ∈ news, u.oneCell' = true)
    (h63 : n + m ≤ maxLen) (hbytes : (n + m) * bytes ≤ 140737488355328) (hbase : base ≤ w.heap.size)
    (h : ∀ v' w', w'.ownsRow base e size v' (n + m) (xs ++ news) → w.grownBy w' v.ownBlock → K (a.put o.dst v') w') : if Region.wanted o (yielded ops a.tmps) = true then Oper.wp P o a w K Q else E := by
  rw [if_pos (by simp [Region.wanted, hgd])]
  exact wp_append_rd s x t ho base e i z size bytes ht hi hz hsize hby hzs hsz v n xs hs hown hx hr h1 h63 hbytes hbase h
end

theorem ret_i {k : IntKind} {a b : Int} (h : a = b) : Ending.returned (.int k a) = .returned (.int k b) := by rw [h]
theorem ret_b {a b : Bool} (h : a = b) : Ending.returned (.bool a) = .returned (.bool b) := by rw [h]
end Go.Proofs.YtcpimhefclfbaaaGreatDoor
