/-
  Words for memory: what a slice that is only read holds; a block of the call's own; what a call leaves as it was.
  Numbers of few bits, as numbers alone: no program here.
  math/bits.Len64 at this program: the library's own contract, laid.
  Regions whose order is open: one walk in the text's order, each operation by the walk's own steps.
  Laws for whole structs and arrays in memory: loads, stores, clear.
-/
import Derived.WalkKit
import Derived.WalkSpells
import Derived.WalkLawsBesides
import Derived.BigQuiet
import Derived.Deep.QuietTactic
import Derived.StillTailTactics
import Derived.Lib.Hide
import Derived.Laws.BytesArg
import Derived.Laws.AppendOwnNone
import Derived.Lib.BitFns
import Derived.Shelf.Strconv.Itoa0
import Derived.Test.YtcpimhefclfbaaaProg
namespace Go.Proofs.Ytcpimhefclfbaaa
open Go Go.RowKit

/-- All blocks of w but those of M are in w' as they were. -/
structure Keep (M : List Nat) (w w' : World) : Prop where
  os : w'.os = w.os
  tape : w'.tape = w.tape
  output : w'.output = w.output
  size : w.heap.size ≤ w'.heap.size
  block : ∀ k, k < w.heap.size → k ∉ M → w'.heap[k]? = w.heap[k]?

namespace Keep
variable {M N : List Nat} {w w' w'' : World}
theorem refl (M : List Nat) (w : World) : Keep M w w := ⟨rfl, rfl, rfl, Nat.le_refl _, fun _ _ _ => rfl⟩
theorem trans (h : Keep M w w') (k : Keep M w' w'') : Keep M w w'' :=
  ⟨k.os.trans h.os, k.tape.trans h.tape, k.output.trans h.output, Nat.le_trans h.size k.size,
    fun i hi hn => (k.block i (Nat.lt_of_lt_of_le hi h.size) hn).trans (h.block i hi hn)⟩
theorem mono (h : Keep M w w') (hs : ∀ b ∈ M, b ∈ N ∨ w.heap.size ≤ b) : Keep N w w' :=
  ⟨h.os, h.tape, h.output, h.size, fun i hi hn => h.block i hi fun hm => (hs i hm).elim hn (fun h => by omega)⟩
theorem alloc (h : Keep M w w') (o : Obj) : Keep M w (w'.alloc o) :=
  ⟨h.os, h.tape, h.output, Nat.le_trans h.size (by simp), fun i hi hn => (Below.heap_alloc w' o i (Nat.lt_of_lt_of_le hi h.size)).trans (h.block i hi hn)⟩
theorem drew (h : Keep M w w') : Keep M w w'.drew := ⟨h.os, h.tape, h.output, h.size, h.block⟩
theorem drewN (h : Keep M w w') (n : Nat) : Keep M w (w'.drewN n) := ⟨h.os, h.tape, h.output, h.size, h.block⟩
theorem setCell (h : Keep M w w') {p : Addr} (hp : p.block ∈ M ∨ w.heap.size ≤ p.block) (u : Value) : Keep M w (w'.setCell p u) :=
  ⟨h.os, h.tape, h.output, by simpa [World.setCell] using h.size, fun i hi hn => (Below.heap_setCell w' p u i (by
    rintro rfl
    rcases hp with hp | hp
    · exact hn hp
    · omega)).trans (h.block i hi hn)⟩
theorem of_below {B : Nat} (h : Below B w w') (hB : w.heap.size ≤ B) : Keep [] w w' := ⟨h.os, h.tape, h.output, h.size, fun i hi _ => h.block i (by omega)⟩
theorem below (h : Keep [] w w') : Below w.heap.size w w' := ⟨h.os, h.tape, h.output, h.size, fun i hi => h.block i hi (by simp)⟩
theorem grown {row : Option Nat} (h : Keep M w w') (hg : w'.grownBy w'' row) (hr : ∀ k, row = some k → k ∈ M ∨ w.heap.size ≤ k) : Keep M w w'' :=
  ⟨hg.os.trans h.os, hg.tape.trans h.tape, hg.output.trans h.output, Nat.le_trans h.size hg.size,
    fun i hi hn => (hg.block i (Nat.lt_of_lt_of_le hi h.size) (fun e => by
      rcases hr i e.symm with h1 | h1
      · exact hn h1
      · omega)).trans (h.block i hi hn)⟩
theorem nil (h : Keep [] w w') : Keep M w w' := h.mono (by simp)
theorem heap (h : Keep M w w') {b : Nat} {o : Obj} (hb : w.heap[b]? = some o) (hn : b ∉ M) : w'.heap[b]? = some o :=
  (h.block b (Array.getElem?_eq_some_iff.1 hb).1 hn).trans hb
end Keep

/-- What is written is a row's block: nothing else. -/
theorem keep_of_grown {w w' : World} {row : Option Nat} (hg : w.grownBy w' row) : Keep row.toList w w' :=
  ⟨hg.os, hg.tape, hg.output, hg.size, fun k hk hn => hg.block k hk (fun e => hn (by rw [← e]; simp))⟩
theorem Keep.cat {M N : List Nat} {w w' w'' : World} (h : Keep M w w') (k : Keep N w' w'') : Keep (M ++ N) w w'' :=
  (h.mono (N := M ++ N) (fun b hb => .inl (by simp [hb]))).trans (k.mono (fun b hb => .inl (by simp [hb])))
theorem Keep.after {M N : List Nat} {w w' w'' : World} (h : Keep M w w') (k : Keep N w' w'') (hN : ∀ b ∈ N, b ∈ M ∨ w.heap.size ≤ b) : Keep M w w'' :=
  ⟨k.os.trans h.os, k.tape.trans h.tape, k.output.trans h.output, Nat.le_trans h.size k.size,
    fun i hi hn => (k.block i (Nat.lt_of_lt_of_le hi h.size) (fun hm => (hN i hm).elim hn (fun h => by omega))).trans (h.block i hi hn)⟩

/-- What a slice value that is only read holds: n elements of 'size' cells each, none in a block of X. -/
def Rd (X : List Nat) (w : World) (size : Nat) (A : Option Addr) (n c : Nat) (xs : List Value) : Prop :=
  xs.length = n * size ∧ n ≤ c ∧ c ≤ maxLen ∧
    (0 < n → ∃ b off, A = some ⟨b, off, none⟩ ∧ b < w.heap.size ∧ b ∉ X ∧ ∀ j u, xs[j]? = some u → w.cell? ⟨b, off + j, none⟩ = some u) ∧ (A = none → c = 0)

namespace Rd
variable {X Y M : List Nat} {w w' : World} {size n c : Nat} {A : Option Addr} {xs : List Value}
theorem nil_ (X : List Nat) (w : World) (size : Nat) : Rd X w size none 0 0 [] := ⟨by simp, by simp, by simp [maxLen], fun h => absurd h (by omega), fun _ => rfl⟩
theorem le (h : Rd X w size A n c xs) : n ≤ c := h.2.1
theorem cap (h : Rd X w size A n c xs) : c ≤ 9223372036854775807 := by have := h.2.2.1; unfold maxLen at this; omega
theorem keep (h : Rd X w size A n c xs) (hk : Keep M w w') (hM : ∀ b ∈ M, b ∈ X ∨ w.heap.size ≤ b) : Rd X w' size A n c xs :=
  ⟨h.1, h.2.1, h.2.2.1, fun hn => by
    obtain ⟨b, off, e, hlt, hb, hc⟩ := h.2.2.2.1 hn
    refine ⟨b, off, e, Nat.lt_of_lt_of_le hlt hk.size, hb, fun j u hu => ?_⟩
    exact (World.cell?_of_block (w := w) (a := ⟨b, off + j, none⟩) (hk.block b hlt (fun hm => (hM b hm).elim hb (fun h => by omega)))).trans (hc j u hu), h.2.2.2.2⟩
theorem pure (h : Rd X w size A n c xs) (hk : Keep [] w w') : Rd X w' size A n c xs := h.keep hk (by simp)
theorem weaken (h : Rd X w size A n c xs) (hs : ∀ b ∈ Y, b ∈ X ∨ w.heap.size ≤ b) : Rd Y w size A n c xs :=
  ⟨h.1, h.2.1, h.2.2.1, fun hn => by
    obtain ⟨b, off, e, hlt, hb, hc⟩ := h.2.2.2.1 hn
    exact ⟨b, off, e, hlt, fun hm => (hs b hm).elim hb (fun h => by omega), hc⟩, h.2.2.2.2⟩
theorem none_nil (h : Rd X w size none n c xs) : n = 0 ∧ xs = [] := by
  have h0 : n = 0 := by
    rcases Nat.eq_zero_or_pos n with h0 | h0
    · exact h0
    · obtain ⟨b, off, e, _⟩ := h.2.2.2.1 h0; cases e
  subst h0
  exact ⟨rfl, List.eq_nil_of_length_eq_zero (by simpa using h.1)⟩
theorem drew (h : Rd X w size A n c xs) : Rd X w.drew size A n c xs := h
theorem drewN (h : Rd X w size A n c xs) (k : Nat) : Rd X (w.drewN k) size A n c xs := h
/-- The cells of element k. -/
theorem at_ {k : Nat} (h : Rd X w size A n c xs) (hk : k < n) : ∃ b off, A = some ⟨b, off, none⟩ ∧ b < w.heap.size ∧ b ∉ X ∧ ∀ j, j < size → w.cell? ⟨b, off + (k * size + j), none⟩ = xs[k * size + j]? := by
  obtain ⟨b, off, e, hlt, hb, hc⟩ := h.2.2.2.1 (by omega)
  refine ⟨b, off, e, hlt, hb, fun j hj => ?_⟩
  have hl : k * size + j < xs.length := by
    rw [h.1]
    have := Nat.mul_le_mul_right size (show k + 1 ≤ n from hk)
    rw [Nat.add_mul] at this
    omega
  rw [hc _ _ (List.getElem?_eq_getElem hl), List.getElem?_eq_getElem hl]
theorem cut_low {k m cap : Nat} (h : Rd X w size A n cap xs) (hk : k ≤ n) (hm : m = cap - k) :
    Rd X w size (if cap = k then A else A.map (·.add (k * size))) (n - k) m (xs.drop (k * size)) := by
  subst hm
  refine ⟨by rw [List.length_drop, h.1, Nat.sub_mul], by have := h.2.1; omega, by have := h.2.2.1; omega, fun hn => ?_, fun hA => ?_⟩
  rotate_left
  · by_cases hck : cap = k
    · omega
    · rw [if_neg hck] at hA
      have := h.2.2.2.2 (Option.map_eq_none_iff.1 hA)
      omega
  obtain ⟨b, off, rfl, hlt, hb, hc⟩ := h.2.2.2.1 (by omega)
  rw [if_neg (by have := h.2.1; omega)]
  refine ⟨b, off + k * size, ?_, hlt, hb, fun j u hu => ?_⟩
  · simp only [Option.map_some, Addr.add]
    split <;> simp_all
  · rw [Nat.add_assoc]
    exact hc _ u (by rw [← hu, List.getElem?_drop])
theorem cut_high {k : Nat} (h : Rd X w size A n c xs) (hk : k ≤ n) : Rd X w size A k c (xs.take (k * size)) := by
  refine ⟨?_, by have := h.2.1; omega, h.2.2.1, fun hn => ?_, h.2.2.2.2⟩
  · rw [List.length_take, h.1]
    exact Nat.min_eq_left (Nat.mul_le_mul_right _ hk)
  obtain ⟨b, off, rfl, hlt, hb, hc⟩ := h.2.2.2.1 (by omega)
  refine ⟨b, off, rfl, hlt, hb, fun j u hu => hc j u ?_⟩
  rw [List.getElem?_take] at hu
  split at hu
  · exact hu
  · cases hu
end Rd

/-- A block of the call's own. -/
def Blk (w : World) (g : Nat) (t : TypeId) (cs : List Value) : Prop := w.heap[g]? = some (.cells cs.toArray t (0, 0))
namespace Blk
variable {w w' : World} {g : Nat} {t : TypeId} {cs : List Value}
theorem lt (h : Blk w g t cs) : g < w.heap.size := (Array.getElem?_eq_some_iff.1 h).1
theorem cell (h : Blk w g t cs) (i : Nat) : w.cell? ⟨g, i, none⟩ = cs[i]? := by
  have := cell_of_row w g i cs.toArray t (0, 0) h
  simpa using this
theorem frozen (h : Blk w g t cs) (i : Nat) : w.frozen? ⟨g, i, none⟩ = false := frozen_of_row w g i cs.toArray t h
theorem new (w : World) (t : TypeId) (cs : List Value) : Blk (w.alloc (.cells cs.toArray t)) w.heap.size t cs := heap_alloc_new w _
theorem drew (h : Blk w g t cs) : Blk w.drew g t cs := h
theorem drewN (h : Blk w g t cs) (n : Nat) : Blk (w.drewN n) g t cs := h
theorem alloc (h : Blk w g t cs) (o : Obj) : Blk (w.alloc o) g t cs := (Below.heap_alloc w o g h.lt).trans h
theorem set_ (h : Blk w g t cs) (i : Nat) (u : Value) : Blk (w.setCell ⟨g, i, none⟩ u) g t (cs.set i u) := by
  unfold Blk at h ⊢
  simp [World.setCell, Array.getElem?_modify, h]
theorem far (h : Blk w g t cs) {p : Addr} (hp : g ≠ p.block) (u : Value) : Blk (w.setCell p u) g t cs := (Below.heap_setCell w p u g hp).trans h
theorem keep {M : List Nat} (h : Blk w g t cs) (hk : Keep M w w') (hg : g ∉ M) : Blk w' g t cs := (hk.block g h.lt hg).trans h
theorem ne_ {g' : Nat} {t' : TypeId} {cs' : List Value} (h : Blk w g t cs) (h' : Blk w g' t' cs') (hne : t ≠ t') : g ≠ g' := by
  rintro rfl
  unfold Blk at h h'
  rw [h] at h'
  injection h' with h'
  injection h' with _ ht
  exact hne ht
/-- A whole block, read as a slice. -/
theorem rd {X : List Nat} {size n c : Nat} {xs : List Value} (h : Blk w g t cs) (hx : g ∉ X) (hn : xs.length = n * size) (hnc : n ≤ c) (hc : c ≤ maxLen) (ht : cs.take (n * size) = xs) : Rd X w size (some ⟨g, 0, none⟩) n c xs :=
  ⟨hn, hnc, hc, fun _ => ⟨g, 0, rfl, h.lt, hx, fun j u hu => by
    rw [Nat.zero_add, h.cell j]
    rw [← ht, List.getElem?_take] at hu
    split at hu
    · exact hu
    · cases hu⟩, fun h => by cases h⟩
end Blk

/-- A row of the call's own, read as a slice. -/
theorem rd_of_own {X : List Nat} {w : World} {base : Nat} {e : TypeId} {size n c : Nat} {A : Option Addr} {xs : List Value} (h : w.ownsRow base e size (.slice A n c) n xs) (hx : ∀ b ∈ X, b < base) :
    Rd X w size A n c xs := by
  obtain ⟨h1, h2⟩ := h
  rcases h2 with ⟨hv, rfl⟩ | ⟨g, cap, cur, hv, hb, hg, hnc, hcm, hcs, ht⟩
  · injection hv with e1 e2 e3
    subst e1 e3
    have : xs = [] := List.eq_nil_of_length_eq_zero (by simpa using h1)
    subst this
    exact Rd.nil_ X w size
  · injection hv with e1 e2 e3
    subst e1 e3
    refine ⟨h1, hnc, hcm, fun _ => ⟨g, 0, rfl, (Array.getElem?_eq_some_iff.1 hg).1, fun hm => by have := hx g hm; omega, fun j u hu => ?_⟩, fun h => by cases h⟩
    rw [Nat.zero_add, cell_of_row w g j cur e (0, 0) hg]
    rw [← ht, List.getElem?_take] at hu
    split at hu
    · simpa using hu
    · cases hu

/-- A row that was just made, as a block. -/
theorem blk_of_own {w w' : World} {g S : Nat} {e : TypeId} {xs : List Value} (h : w'.ownsRow w.heap.size e 1 (.slice (some ⟨g, 0, none⟩) S S) S xs) : Blk w' g e xs := by
  obtain ⟨h1, h2⟩ := h
  rcases h2 with ⟨hv, _⟩ | ⟨g', cap, cur, hv, hb, hg, hnc, hcm, hcs, ht⟩
  · cases hv
  · injection hv with e1 e2 e3
    injection e1 with e1
    injection e1 with e1
    subst e1 e3
    have : cur = xs.toArray := by
      have hlen : cur.toList.length = S * 1 := by simpa using hcs
      rw [← hlen, List.take_length] at ht
      rw [← ht]
    subst this
    exact hg

/-- The value of an owned row is a slice. -/
theorem own_form {w : World} {base : Nat} {e : TypeId} {size n : Nat} {v : Value} {xs : List Value} (h : w.ownsRow base e size v n xs) : ∃ A c, v = .slice A n c := by
  rcases h.2 with ⟨rfl, rfl⟩ | ⟨g, cap, cur, rfl, _⟩
  · exact ⟨none, 0, rfl⟩
  · exact ⟨_, _, rfl⟩

/-- An owned row as time goes on, other blocks being written. -/
theorem own_keep {M : List Nat} {w w' : World} {base : Nat} {e : TypeId} {size n : Nat} {v : Value} {xs : List Value} (h : w.ownsRow base e size v n xs) (hk : Keep M w w') (hM : ∀ b ∈ M, b < base) : w'.ownsRow base e size v n xs := by
  refine ⟨h.1, ?_⟩
  rcases h.2 with h2 | ⟨g, cap, cur, hv, hg, hh, r⟩
  · exact .inl h2
  · exact .inr ⟨g, cap, cur, hv, hg, (hk.block g (Array.getElem?_eq_some_iff.1 hh).1 (fun hm => by have := hM g hm; omega)).trans hh, r⟩

theorem own_lower {w : World} {base base' : Nat} {e : TypeId} {size n : Nat} {v : Value} {xs : List Value} (h : w.ownsRow base e size v n xs) (hb : base' ≤ base) : w.ownsRow base' e size v n xs := by
  refine ⟨h.1, ?_⟩
  rcases h.2 with h2 | ⟨g, cap, cur, hv, hg, r⟩
  · exact .inl h2
  · exact .inr ⟨g, cap, cur, hv, by omega, r⟩

/-- Rows of unlike element types lie in unlike blocks. -/
theorem own_apart {w : World} {base base' : Nat} {e e' : TypeId} {size size' n n' : Nat} {v v' : Value} {xs xs' : List Value} (h : w.ownsRow base e size v n xs) (h' : w.ownsRow base' e' size' v' n' xs') (hne : e ≠ e') :
    v.ownBlock = none ∨ v.ownBlock ≠ v'.ownBlock := by
  rcases h.2 with ⟨rfl, _⟩ | ⟨g, cap, cur, rfl, _, hg, _⟩
  · exact .inl rfl
  · rcases h'.2 with ⟨rfl, _⟩ | ⟨g', cap', cur', rfl, _, hg', _⟩
    · exact .inr (by simp [Value.ownBlock])
    · refine .inr fun he => ?_
      have : g = g' := by simpa [Value.ownBlock] using he
      subst this
      rw [hg] at hg'
      injection hg' with hg'
      injection hg' with _ ht
      exact hne ht
theorem own_ge {w : World} {base : Nat} {e : TypeId} {size n : Nat} {v : Value} {xs : List Value} (h : w.ownsRow base e size v n xs) : ∀ k, v.ownBlock = some k → base ≤ k := fun k hk => (h.lt k hk).1

def vU64 (x : UInt64) : Value := .int .u64 (x.toNat : Int)
def vU8 (x : UInt8) : Value := .int .u8 (x.toNat : Int)
def vInt (x : Int) : Value := .int .i64 x

abbrev U64s (X : List Nat) (w : World) (A : Option Addr) (n c : Nat) (l : List UInt64) : Prop := Rd X w 1 A n c (l.map vU64)
abbrev Bys (X : List Nat) (w : World) (A : Option Addr) (n c : Nat) (l : List UInt8) : Prop := Rd X w 1 A n c (l.map vU8)
abbrev Ints (X : List Nat) (w : World) (A : Option Addr) (n c : Nat) (l : List Int) : Prop := Rd X w 1 A n c (l.map vInt)

section
variable {α : Type} {f : α → Value} {X : List Nat} {w : World} {A : Option Addr} {n c : Nat} {l : List α}
theorem Rd.len1 (h : Rd X w 1 A n c (l.map f)) : l.length = n := by have := h.1; simpa using this
theorem Rd.one {k : Nat} (h : Rd X w 1 A n c (l.map f)) (hk : k < l.length) : ∃ b off, A = some ⟨b, off, none⟩ ∧ b < w.heap.size ∧ b ∉ X ∧ w.cell? ⟨b, off + k, none⟩ = some (f l[k]) := by
  obtain ⟨b, off, e, hlt, hb, hc⟩ := Rd.at_ h (k := k) (by have := h.len1; omega)
  refine ⟨b, off, e, hlt, hb, ?_⟩
  have := hc 0 (by omega)
  simpa [hk] using this
theorem Rd.drop1 {k m : Nat} (h : Rd X w 1 A n c (l.map f)) (hk : k ≤ n) (hm : m = c - k) : Rd X w 1 (if c = k then A else A.map (·.add k)) (n - k) m ((l.drop k).map f) := by
  have := Rd.cut_low h hk hm
  simpa [List.map_drop] using this
theorem Rd.take1 {k : Nat} (h : Rd X w 1 A n c (l.map f)) (hk : k ≤ n) : Rd X w 1 A k c ((l.take k).map f) := by
  have := Rd.cut_high h hk
  simpa [List.map_take] using this
end
theorem vU64_one (l : List UInt64) : ∀ u ∈ l.map vU64, u.oneCell' = true := by simp [vU64, Value.oneCell']
theorem vU8_one (l : List UInt8) : ∀ u ∈ l.map vU8, u.oneCell' = true := by simp [vU8, Value.oneCell']
theorem vInt_one (l : List Int) : ∀ u ∈ l.map vInt, u.oneCell' = true := by simp [vInt, Value.oneCell']

/-- 'string(b)' of bytes that are read. -/
theorem run_str {P : Program} {X : List Nat} {w : World} {A : Option Addr} {n c : Nat} {l : List UInt8} (h : Bys X w A n c l) (src dst e : TypeId) (hs : P.underlying src = some (.slice e)) (he : P.underlying e = some (.int .u8)) (hd : P.underlying dst = some .string) :
    (convert src dst (.slice A n c)).run P w = .ok (.string ⟨l.toArray⟩) w := by
  have hl := h.len1
  by_cases h0 : l = []
  · subst h0
    obtain rfl : n = 0 := by simpa using hl.symm
    cases A with
    | none => exact run_convert_bytes_nil w src e hs he 0 c dst hd
    | some a =>
      rw [run_convert_bytes_string w src dst e _ 0 c hs he hd, run_bytesToString w a 0 c [] (by simp [loadCells, loadCellsFrom])]
      rfl
  · obtain ⟨b, off, rfl, _, _, hc⟩ := h.2.2.2.1 (by have := List.length_pos_iff.2 h0; omega)
    rw [run_convert_bytes_arg w src e hs he b off n c (l.map fun x => (x.toNat : Int)) (by simpa using hl) (fun i hi => ?_) dst hd]
    · simp [strOfNums, Function.comp_def]
    · have hil : i < l.length := by omega
      rw [hc i (vU8 l[i]) (by simp [hil])]
      simp [vU8, hil]

section
variable {P : Program} {w : World} {ops : Array Oper} {rest : List Oper} {o : Oper} {a : Act} {K : Act → World → Prop} {Q : Exit → Act → World → Prop} {E : Prop}
/-- 'append(v, x...)': v the call's own, x whatever slice is read. -/
theorem wp_append_rd (s x : Operand) (t : TypeId)
    (ho : o.op = .call { callee := .builtin .append, args := #[s, x], argTypes := #[t, t] })
    (base : Nat) (e : TypeId) (i : TypeInfo) (z : Value) (size bytes : Nat) (ht : P.underlying t = some (.slice e)) (hi : P.info? e = some i) (hz : i.zero = some z)
    (hsize : i.size = size) (hby : i.bytes = bytes) (hzs : z.cells.size = size) (hsz : 0 < size)
    (v : Value) (n : Nat) (xs : List Value) (hs : a.eval s = v) (hown : w.ownsRow base e size v n xs)
    {X : List Nat} {A : Option Addr} {m c : Nat} {news : List Value} (hx : a.eval x = .slice A m c) (hr : Rd X w size A m c news) (h1 : ∀ u ∈ news, u.oneCell' = true)
    (h63 : n + m ≤ maxLen) (hbytes : (n + m) * bytes ≤ 140737488355328) (hbase : base ≤ w.heap.size)
    (h : ∀ v' w', w'.ownsRow base e size v' (n + m) (xs ++ news) → w.grownBy w' v.ownBlock → K (a.put o.dst v') w') : o.wp P a w K Q := by
  cases A with
  | none =>
    obtain ⟨rfl, rfl⟩ := hr.none_nil
    obtain rfl := hr.2.2.2.2 rfl
    have hrun := run_append_owned_none (P := P) (w := w) base t o.type e i size ht hi v n xs hown
    unfold Oper.wp
    simp [execOp, ho, resolve, invoke, builtin, hs, hx, hrun, Result.andThen]
    exact h v w (by simpa using hown) ⟨rfl, rfl, rfl, Nat.le_refl _, fun _ _ _ => rfl⟩
  | some ad =>
    refine wp_append_own w s x t ho base e i z size bytes ht hi hz hsize hby hzs hsz v n xs hs hown ad m c news hx hr.1 ?_ h1 h63 hbytes hbase (fun v' w' h2 h3 _ => h v' w' h2 h3)
    intro j u hu
    rcases Nat.eq_zero_or_pos m with h0 | h0
    · subst h0
      have : news = [] := List.eq_nil_of_length_eq_zero (by simpa using hr.1)
      subst this
      simp at hu
    · obtain ⟨b, off, e', _, _, hc⟩ := hr.2.2.2.1 h0
      cases e'
      have := hc j u hu
      unfold Addr.add
      split
      · rename_i h0; subst h0; exact this
      · exact this
theorem wpList_append_rd (hgd : o.guard = none) (s x : Operand) (t : TypeId)
    (ho : o.op = .call { callee := .builtin .append, args := #[s, x], argTypes := #[t, t] })
    (base : Nat) (e : TypeId) (i : TypeInfo) (z : Value) (size bytes : Nat) (ht : P.underlying t = some (.slice e)) (hi : P.info? e = some i) (hz : i.zero = some z)
    (hsize : i.size = size) (hby : i.bytes = bytes) (hzs : z.cells.size = size) (hsz : 0 < size)
    (v : Value) (n : Nat) (xs : List Value) (hs : a.eval s = v) (hown : w.ownsRow base e size v n xs)
    {X : List Nat} {A : Option Addr} {m c : Nat} {news : List Value} (hx : a.eval x = .slice A m c) (hr : Rd X w size A m c news) (h1 : ∀ u ∈ news, u.oneCell' = true)
    (h63 : n + m ≤ maxLen) (hbytes : (n + m) * bytes ≤ 140737488355328) (hbase : base ≤ w.heap.size)
    (h : ∀ v' w', w'.ownsRow base e size v' (n + m) (xs ++ news) → w.grownBy w' v.ownBlock → wpList P ops Q rest (a.put o.dst v') w') : wpList P ops Q (o :: rest) a w :=
  wpList_plain hgd fun _ hK => wp_append_rd s x t ho base e i z size bytes ht hi hz hsize hby hzs hsz v n xs hs hown hx hr h1 h63 hbytes hbase fun v' w' h2 h3 => hK _ _ (h v' w' h2 h3)
/-- The same in a region whose order is open. -/
theorem step_append_rd (hgd : o.guard = none) (s x : Operand) (t : TypeId)
    (ho : o.op = .call { callee := .builtin .append, args := #[s, x], argTypes := #[t, t] })
    (base : Nat) (e : TypeId) (i : TypeInfo) (z : Value) (size bytes : Nat) (ht : P.underlying t = some (.slice e)) (hi : P.info? e = some i) (hz : i.zero = some z)
    (hsize : i.size = size) (hby : i.bytes = bytes) (hzs : z.cells.size = size) (hsz : 0 < size)
    (v : Value) (n : Nat) (xs : List Value) (hs : a.eval s = v) (hown : w.ownsRow base e size v n xs)
    {X : List Nat} {A : Option Addr} {m c : Nat} {news : List Value} (hx : a.eval x = .slice A m c) (hr : Rd X w size A m c news) (h1 : ∀ u ∈ news, u.oneCell' = true)
    (h63 : n + m ≤ maxLen) (hbytes : (n + m) * bytes ≤ 140737488355328) (hbase : base ≤ w.heap.size)
    (h : ∀ v' w', w'.ownsRow base e size v' (n + m) (xs ++ news) → w.grownBy w' v.ownBlock → K (a.put o.dst v') w') : if Region.wanted o (yielded ops a.tmps) = true then Oper.wp P o a w K Q else E := by
  rw [if_pos (by simp [Region.wanted, hgd])]
  exact wp_append_rd s x t ho base e i z size bytes ht hi hz hsize hby hzs hsz v n xs hs hown hx hr h1 h63 hbytes hbase h
end

theorem ret_i {k : IntKind} {a b : Int} (h : a = b) : Ending.returned (.int k a) = .returned (.int k b) := by rw [h]
theorem ret_b {a b : Bool} (h : a = b) : Ending.returned (.bool a) = .returned (.bool b) := by rw [h]
end Go.Proofs.Ytcpimhefclfbaaa

namespace Go.Proofs.Ytcpimhefclfbaaa
open Go

/-! ### how many bits -/
theorem bitLenAux_le : ∀ (f x k : Nat), x < 2 ^ f → (Lib.bitLenAux f x ≤ k ↔ x < 2 ^ k)
  | 0, x, k, h => by
    have : x = 0 := by simpa using h
    subst this
    simp [Lib.bitLenAux]
    exact Nat.pos_of_ne_zero (by simp)
  | f + 1, x, k, h => by
    rw [Lib.bitLenAux]
    split
    · rename_i h0
      subst h0
      simp
      exact Nat.pos_of_ne_zero (by simp)
    · rename_i h0
      have h2 : x / 2 < 2 ^ f := by rw [Nat.pow_succ] at h; omega
      cases k with
      | zero => simp; omega
      | succ k =>
        have ih := bitLenAux_le f (x / 2) k h2
        rw [Nat.pow_succ]
        constructor
        · intro h3
          have := ih.1 (by omega)
          omega
        · intro h3
          have := ih.2 (by omega)
          omega
theorem bitLen_le {x : Nat} (h : x < 2 ^ 64) (k : Nat) : Lib.bitLen x ≤ k ↔ x < 2 ^ k := bitLenAux_le 64 x k h
theorem bitLen_or {a b : Nat} (ha : a < 2 ^ 64) (hb : b < 2 ^ 64) : Lib.bitLen (a ||| b) = max (Lib.bitLen a) (Lib.bitLen b) := by
  have hab : a ||| b < 2 ^ 64 := Nat.or_lt_two_pow ha hb
  have key : ∀ k, Lib.bitLen (a ||| b) ≤ k ↔ max (Lib.bitLen a) (Lib.bitLen b) ≤ k := by
    intro k
    rw [bitLen_le hab, Nat.max_le, bitLen_le ha, bitLen_le hb]
    constructor
    · intro h
      exact ⟨Nat.lt_of_le_of_lt Nat.left_le_or h, Nat.lt_of_le_of_lt Nat.right_le_or h⟩
    · intro ⟨h1, h2⟩
      exact Nat.or_lt_two_pow h1 h2
  have h1 := (key _).1 (Nat.le_refl _)
  have h2 := (key _).2 (Nat.le_refl _)
  omega

/-- All of them, or-ed. -/
def orAll (l : List UInt64) : Nat := l.foldl (fun m x => m ||| x.toNat) 0
/-- How few bits all need. -/
def width (l : List UInt64) : Nat := l.foldl (fun m x => max m (Lib.bitLen x.toNat)) 0

theorem foldl_snoc {α β : Type} (f : β → α → β) (z : β) (l : List α) (k : Nat) (h : k < l.length) : (l.take (k + 1)).foldl f z = f ((l.take k).foldl f z) l[k] := by
  rw [List.take_succ_eq_append_getElem h, List.foldl_append]; rfl

theorem orAll_lt (l : List UInt64) : orAll l < 2 ^ 64 := by
  unfold orAll
  suffices h : ∀ (l : List UInt64) (m : Nat), m < 2 ^ 64 → l.foldl (fun m x => m ||| x.toNat) m < 2 ^ 64 from h l 0 (by decide)
  intro l
  induction l with
  | nil => intro m h; exact h
  | cons x l ih => intro m h; exact ih _ (Nat.or_lt_two_pow h x.toNat_lt)
theorem width_or (l : List UInt64) : Lib.bitLen (orAll l) = width l := by
  unfold orAll width
  suffices h : ∀ (l : List UInt64) (m : Nat), m < 2 ^ 64 → Lib.bitLen (l.foldl (fun m x => m ||| x.toNat) m) = l.foldl (fun m x => max m (Lib.bitLen x.toNat)) (Lib.bitLen m) from h l 0 (by decide)
  intro l
  induction l with
  | nil => intro m _; rfl
  | cons x l ih => intro m h; rw [List.foldl_cons, List.foldl_cons, ih _ (Nat.or_lt_two_pow h x.toNat_lt), bitLen_or h x.toNat_lt]
theorem width_le_iff (l : List UInt64) (k : Nat) : width l ≤ k ↔ ∀ x ∈ l, x.toNat < 2 ^ k := by
  unfold width
  suffices h : ∀ (l : List UInt64) (m : Nat), l.foldl (fun m x => max m (Lib.bitLen x.toNat)) m ≤ k ↔ m ≤ k ∧ ∀ x ∈ l, x.toNat < 2 ^ k by
    rw [h]; simp
  intro l
  induction l with
  | nil => intro m; simp
  | cons x l ih =>
    intro m
    rw [List.foldl_cons, ih, Nat.max_le, bitLen_le x.toNat_lt]
    simp [and_assoc]
theorem width_le64 (l : List UInt64) : width l ≤ 64 := (width_le_iff l 64).2 fun x _ => x.toNat_lt

/-! ### numbers behind one another, as one number -/
def pk (w : Nat) : List Nat → Nat
  | [] => 0
  | x :: l => x + 2 ^ w * pk w l

theorem pk_lt (w : Nat) : ∀ (l : List Nat), (∀ x ∈ l, x < 2 ^ w) → pk w l < 2 ^ (w * l.length)
  | [], _ => by simp [pk]
  | x :: l, h => by
    have ih := pk_lt w l fun y hy => h y (by simp [hy])
    have hx := h x (by simp)
    rw [pk, List.length_cons, Nat.mul_add, Nat.mul_one, Nat.pow_add, Nat.mul_comm (2 ^ (w * l.length))]
    have : 2 ^ w * (pk w l + 1) ≤ 2 ^ w * 2 ^ (w * l.length) := Nat.mul_le_mul_left _ ih
    rw [Nat.mul_add] at this
    omega
theorem pk_testBit (w : Nat) : ∀ (l : List Nat) (_ : ∀ x ∈ l, x < 2 ^ w) (i k : Nat), k < w → (pk w l).testBit (w * i + k) = (l.getD i 0).testBit k
  | [], _, i, k, _ => by simp [pk]
  | x :: l, h, 0, k, hk => by
    rw [pk, Nat.add_comm, Nat.mul_zero, Nat.zero_add, Nat.testBit_two_pow_mul_add _ (h x (by simp)), if_pos hk]
    rfl
  | x :: l, h, i + 1, k, hk => by
    rw [pk, Nat.add_comm, Nat.testBit_two_pow_mul_add _ (h x (by simp)), if_neg (by rw [Nat.mul_add]; omega)]
    have := pk_testBit w l (fun y hy => h y (by simp [hy])) i k hk
    rw [show w * (i + 1) + k - w = w * i + k from by rw [Nat.mul_add]; omega, this]
    rfl

/-- The bytes of a number, the lowest first. -/
def toBytes (N size : Nat) : List UInt8 := (List.range size).map fun j => UInt8.ofNat (N / 2 ^ (8 * j))
/-- Bytes as one number. -/
def num (b : List UInt8) : Nat := pk 8 (b.map UInt8.toNat)

theorem u8_testBit_ge (x : UInt8) {i : Nat} (h : 8 ≤ i) : x.toNat.testBit i = false :=
  Nat.testBit_lt_two_pow (Nat.lt_of_lt_of_le x.toNat_lt (Nat.pow_le_pow_right (by omega) h))
theorem u64_testBit_ge (x : UInt64) {i : Nat} (h : 64 ≤ i) : x.toNat.testBit i = false :=
  Nat.testBit_lt_two_pow (Nat.lt_of_lt_of_le x.toNat_lt (Nat.pow_le_pow_right (by omega) h))
theorem u8_ext {x y : UInt8} (h : ∀ i, i < 8 → x.toNat.testBit i = y.toNat.testBit i) : x = y := by
  refine UInt8.toNat_inj.1 (Nat.eq_of_testBit_eq fun i => ?_)
  rcases Nat.lt_or_ge i 8 with hi | hi
  · exact h i hi
  · rw [u8_testBit_ge x hi, u8_testBit_ge y hi]
theorem u64_ext {x y : UInt64} (h : ∀ i, i < 64 → x.toNat.testBit i = y.toNat.testBit i) : x = y := by
  refine UInt64.toNat_inj.1 (Nat.eq_of_testBit_eq fun i => ?_)
  rcases Nat.lt_or_ge i 64 with hi | hi
  · exact h i hi
  · rw [u64_testBit_ge x hi, u64_testBit_ge y hi]
theorem ofNat8_testBit (n i : Nat) : (UInt8.ofNat n).toNat.testBit i = (decide (i < 8) && n.testBit i) := by
  rw [UInt8.toNat_ofNat', Nat.testBit_mod_two_pow]
theorem ofNat64_testBit (n i : Nat) : (UInt64.ofNat n).toNat.testBit i = (decide (i < 64) && n.testBit i) := by
  rw [UInt64.toNat_ofNat', Nat.testBit_mod_two_pow]
@[simp] theorem toBytes_length (N size : Nat) : (toBytes N size).length = size := by simp [toBytes]
theorem toBytes_get (N size j : Nat) (h : j < (toBytes N size).length) : (toBytes N size)[j] = UInt8.ofNat (N / 2 ^ (8 * j)) := by simp [toBytes]
theorem toBytes_bit (N size j i : Nat) (h : j < (toBytes N size).length) (hi : i < 8) : (toBytes N size)[j].toNat.testBit i = N.testBit (8 * j + i) := by
  rw [toBytes_get, ofNat8_testBit, ← Nat.shiftRight_eq_div_pow, Nat.testBit_shiftRight]
  simp [hi]
theorem num_lt (b : List UInt8) : num b < 2 ^ (8 * b.length) := by
  have := pk_lt 8 (b.map UInt8.toNat) (by simp only [List.mem_map]; rintro x ⟨y, _, rfl⟩; exact y.toNat_lt)
  simpa [num] using this
theorem num_bit (b : List UInt8) (j i : Nat) (hi : i < 8) (hj : j < b.length) : (num b).testBit (8 * j + i) = b[j].toNat.testBit i := by
  rw [num, pk_testBit 8 _ (by simp only [List.mem_map]; rintro x ⟨y, _, rfl⟩; exact y.toNat_lt) j i hi]
  simp [hj]
theorem num_at (b : List UInt8) (at_ : Nat) (h : at_ < 8 * b.length) : (num b).testBit at_ = (b[at_ / 8]'(by omega)).toNat.testBit (at_ % 8) := by
  have := num_bit b (at_ / 8) (at_ % 8) (by omega) (by omega)
  rw [show 8 * (at_ / 8) + at_ % 8 = at_ from by omega] at this
  exact this
theorem num_toBytes (N size : Nat) (h : N < 2 ^ (8 * size)) : num (toBytes N size) = N := by
  refine Nat.eq_of_testBit_eq fun i => ?_
  rcases Nat.lt_or_ge i (8 * size) with hi | hi
  · rw [num_at _ _ (by simpa using hi), toBytes_bit _ _ _ _ _ (by omega)]
    congr 1
    omega
  · rw [Nat.testBit_lt_two_pow (Nat.lt_of_lt_of_le h (Nat.pow_le_pow_right (by omega) hi))]
    have h2 := num_lt (toBytes N size)
    rw [toBytes_length] at h2
    exact Nat.testBit_lt_two_pow (Nat.lt_of_lt_of_le h2 (Nat.pow_le_pow_right (by omega) hi))
theorem toBytes_num (b : List UInt8) : toBytes (num b) b.length = b := by
  refine List.ext_getElem (by simp) fun j h1 h2 => u8_ext fun i hi => ?_
  rw [toBytes_bit _ _ _ _ _ hi, num_bit b j i hi h2]

/-! ### Bytes, Pack, Unpack -/
def bytesLen (w n : Int) : Int := if w < 0 ∨ 64 < w ∨ n < 0 ∨ 65536 < n then -1 else (w * n + 7) / 8
def packOk (l : List UInt64) (w : Int) : Bool := decide (0 ≤ w ∧ w ≤ 64 ∧ l.length ≤ 65536 ∧ (width l : Int) ≤ w)
def sizeOf' (w n : Nat) : Nat := (w * n + 7) / 8
def packN (l : List UInt64) (w : Nat) : Nat := pk w (l.map UInt64.toNat)
def packB (l : List UInt64) (w : Int) : List UInt8 := if packOk l w then toBytes (packN l w.toNat) (sizeOf' w.toNat l.length) else []
/-- Of the number N, the numbers of w bits, as far as the first 'at' bits go. -/
def unpP (N w n at_ : Nat) : List UInt64 := (List.range n).map fun j => UInt64.ofNat (N / 2 ^ (w * j) % 2 ^ (min w (at_ - w * j)))
def unpackOk (b : List UInt8) (w n : Int) : Bool := decide (0 ≤ w ∧ w ≤ 64 ∧ 0 ≤ n ∧ n ≤ 65536 ∧ b.length = sizeOf' w.toNat n.toNat ∧ num b < 2 ^ (w.toNat * n.toNat))
def unpackL (b : List UInt8) (w n : Int) : List UInt64 := if unpackOk b w n then unpP (num b) w.toNat n.toNat (w.toNat * n.toNat) else []

@[simp] theorem unpP_length (N w n at_ : Nat) : (unpP N w n at_).length = n := by simp [unpP]
theorem unpP_bit (N w n at_ j i : Nat) (h : j < (unpP N w n at_).length) (hi : i < 64) : (unpP N w n at_)[j].toNat.testBit i = (decide (i < w ∧ w * j + i < at_) && N.testBit (w * j + i)) := by
  simp only [unpP, List.getElem_map, List.getElem_range, ofNat64_testBit, hi, decide_true, Bool.true_and, Nat.testBit_mod_two_pow, ← Nat.shiftRight_eq_div_pow, Nat.testBit_shiftRight]
  congr 1
  simp only [decide_eq_decide]
  omega
theorem unpP_zero (N w n : Nat) : unpP N w n 0 = List.replicate n 0 := by
  refine List.ext_getElem (by simp) fun j h1 h2 => u64_ext fun i hi => ?_
  rw [unpP_bit _ _ _ _ _ _ _ hi]
  simp
/-- One bit more. -/
theorem unpP_step {N w n at_ : Nat} (hw : w ≤ 64) (hat : at_ < w * n) (x : UInt64) (old : UInt64) (hold : (unpP N w n at_)[at_ / w]? = some old)
    (hx : x.toNat = old.toNat ||| ((N.testBit at_).toNat <<< (at_ % w))) : unpP N w n (at_ + 1) = (unpP N w n at_).set (at_ / w) x := by
  have hw0 : 0 < w := by rcases Nat.eq_zero_or_pos w with h | h; (· subst h; simp at hat); exact h
  have hjn : at_ / w < n := by rw [Nat.div_lt_iff_lt_mul hw0, Nat.mul_comm]; exact hat
  have hdm : w * (at_ / w) + at_ % w = at_ := Nat.div_add_mod at_ w
  have hmod : at_ % w < w := Nat.mod_lt _ hw0
  refine List.ext_getElem (by simp) fun j h1 h2 => u64_ext fun i hi => ?_
  rw [List.getElem_set]
  split
  · rename_i hj
    subst hj
    have ho : old = (unpP N w n at_)[at_ / w]'(by simpa using hjn) := by
      rw [List.getElem?_eq_getElem (by simpa using hjn)] at hold
      exact (Option.some.inj hold).symm
    rw [unpP_bit _ _ _ _ _ _ _ hi, hx, Nat.testBit_or, ho, unpP_bit _ _ _ _ _ _ _ hi, Nat.testBit_shiftLeft]
    by_cases hii : i = at_ % w
    · subst hii
      rw [hdm]
      have e1 : decide (at_ % w < w ∧ at_ < at_ + 1) = true := by simp [hmod]
      have e2 : decide (at_ % w < w ∧ at_ < at_) = false := by simp
      rw [e1, e2]
      cases N.testBit at_ <;> simp
    · have e3 : (decide (i ≥ at_ % w) && ((N.testBit at_).toNat).testBit (i - at_ % w)) = false := by
        rcases Nat.lt_or_ge i (at_ % w) with h | h
        · simp; omega
        · have : 0 < i - at_ % w := by omega
          have : (N.testBit at_).toNat.testBit (i - at_ % w) = false := by
            refine Nat.testBit_lt_two_pow (Nat.lt_of_le_of_lt (Bool.toNat_le _) ?_)
            exact Nat.one_lt_two_pow (by omega)
          simp [this]
      rw [e3, Bool.or_false]
      congr 1
      simp only [decide_eq_decide]
      omega
  · rename_i hj
    rw [unpP_bit _ _ _ _ _ _ _ hi, unpP_bit _ _ _ _ _ _ _ hi]
    congr 1
    simp only [decide_eq_decide]
    have hj' : w * j + i = at_ → i < w → False := by
      intro h hiw
      refine hj ?_
      rw [← h, Nat.mul_comm, Nat.add_comm, Nat.add_mul_div_right _ _ hw0, Nat.div_eq_of_lt hiw, Nat.zero_add]
    constructor
    · intro ⟨h3, h4⟩
      have : w * j + i ≠ at_ := fun h => hj' h h3
      exact ⟨h3, by omega⟩
    · intro ⟨h3, h4⟩
      exact ⟨h3, by omega⟩
/-- A bit that is not set. -/
theorem unpP_same {N w n at_ : Nat} (h : N.testBit at_ = false) : unpP N w n (at_ + 1) = unpP N w n at_ := by
  refine List.ext_getElem (by simp) fun j h1 h2 => u64_ext fun i hi => ?_
  rw [unpP_bit _ _ _ _ _ _ _ hi, unpP_bit _ _ _ _ _ _ _ hi]
  by_cases hat : w * j + i = at_
  · rw [hat, h]; simp
  · congr 1
    simp only [decide_eq_decide]
    omega
/-- Bits beyond do not count. -/
theorem unpP_beyond {N w n at_ : Nat} (h : w * n ≤ at_) : unpP N w n at_ = unpP N w n (w * n) := by
  refine List.ext_getElem (by simp) fun j h1 h2 => u64_ext fun i hi => ?_
  rw [unpP_bit _ _ _ _ _ _ _ hi, unpP_bit _ _ _ _ _ _ _ hi]
  congr 1
  simp only [decide_eq_decide]
  have hj : j < n := by simpa using h1
  have : w * (j + 1) ≤ w * n := Nat.mul_le_mul_left _ hj
  rw [Nat.mul_add] at this
  constructor <;> intro ⟨h3, h4⟩ <;> exact ⟨h3, by omega⟩

/-- Bits that are laid: some more of them, in one byte. -/
theorem bytes_step {N size at_ some_ : Nat} (hs : at_ % 8 + some_ ≤ 8) (x : UInt8) (old : UInt8) (hat : at_ / 8 < size) (hold : (toBytes (N % 2 ^ at_) size)[at_ / 8]? = some old)
    (hx : ∀ i, i < 8 → x.toNat.testBit i = (old.toNat.testBit i || (decide (at_ % 8 ≤ i ∧ i < at_ % 8 + some_) && N.testBit (8 * (at_ / 8) + i)))) :
    toBytes (N % 2 ^ (at_ + some_)) size = (toBytes (N % 2 ^ at_) size).set (at_ / 8) x := by
  refine List.ext_getElem (by simp) fun j h1 h2 => u8_ext fun i hi => ?_
  rw [List.getElem_set]
  split
  · rename_i hj
    subst hj
    have ho : old = (toBytes (N % 2 ^ at_) size)[at_ / 8]'(by simpa using hat) := by
      rw [List.getElem?_eq_getElem (by simpa using hat)] at hold
      exact (Option.some.inj hold).symm
    rw [hx i hi, ho, toBytes_bit _ _ _ _ _ hi, toBytes_bit _ _ _ _ _ hi, Nat.testBit_mod_two_pow, Nat.testBit_mod_two_pow, ← Bool.and_or_distrib_right]
    congr 1
    rw [← Bool.decide_or]
    simp only [decide_eq_decide]
    omega
  · rename_i hj
    rw [toBytes_bit _ _ _ _ _ hi, toBytes_bit _ _ _ _ _ hi, Nat.testBit_mod_two_pow, Nat.testBit_mod_two_pow]
    congr 1
    simp only [decide_eq_decide]
    omega
theorem bytes_zero (N size : Nat) : toBytes (N % 2 ^ 0) size = List.replicate size 0 := by
  refine List.ext_getElem (by simp) fun j h1 h2 => u8_ext fun i hi => ?_
  rw [toBytes_bit _ _ _ _ _ hi]
  simp [Nat.mod_one]
theorem bytes_same {N size at_ : Nat} (h : N.testBit at_ = false) : toBytes (N % 2 ^ (at_ + 1)) size = toBytes (N % 2 ^ at_) size := by
  refine List.ext_getElem (by simp) fun j h1 h2 => u8_ext fun i hi => ?_
  rw [toBytes_bit _ _ _ _ _ hi, toBytes_bit _ _ _ _ _ hi, Nat.testBit_mod_two_pow, Nat.testBit_mod_two_pow]
  by_cases hat : 8 * j + i = at_
  · rw [hat, h]; simp
  · congr 1
    simp only [decide_eq_decide]
    omega
theorem packN_lt {l : List UInt64} {w : Nat} (h : ∀ x ∈ l, x.toNat < 2 ^ w) : packN l w < 2 ^ (w * l.length) := by
  have := pk_lt w (l.map UInt64.toNat) (by simp only [List.mem_map]; rintro x ⟨y, hy, rfl⟩; exact h y hy)
  simpa [packN] using this
theorem packN_bit {l : List UInt64} {w : Nat} (h : ∀ x ∈ l, x.toNat < 2 ^ w) {i k : Nat} (hk : k < w) (hi : i < l.length) : (packN l w).testBit (w * i + k) = l[i].toNat.testBit k := by
  rw [packN, pk_testBit w _ (by simp only [List.mem_map]; rintro x ⟨y, hy, rfl⟩; exact h y hy) i k hk]
  simp [hi]
theorem size_mul (w n : Nat) : w * n ≤ 8 * sizeOf' w n ∧ 8 * sizeOf' w n < w * n + 8 := by unfold sizeOf'; omega

theorem pack_step {l : List UInt64} {w k j q s S x : Nat} (hfit : ∀ x ∈ l, x.toNat < 2 ^ w) (hk : k < l.length) (hj : j ≤ w) (hq : q = w * k + (w - j)) (hx : x = l[k].toNat / 2 ^ (w - j))
    (hs : 0 < s ∧ s ≤ j ∧ s + q % 8 ≤ 8) (hS : q / 8 < S) (old : UInt8) (hold : (toBytes (packN l w % 2 ^ q) S)[q / 8]? = some old) :
    toBytes (packN l w % 2 ^ (q + s)) S = (toBytes (packN l w % 2 ^ q) S).set (q / 8) (UInt8.ofNat (old.toNat ||| ((x * 2 ^ (q % 8) % 2 ^ 64 % 256) &&& (255 / 2 ^ (8 - s - q % 8))))) := by
  refine bytes_step (by omega) _ old hS hold fun i hi => ?_
  rw [ofNat8_testBit, Nat.testBit_or, Nat.testBit_and, show (256 : Nat) = 2 ^ 8 from rfl, Nat.testBit_mod_two_pow, Nat.testBit_mod_two_pow, ← Nat.shiftLeft_eq, Nat.testBit_shiftLeft,
    ← Nat.shiftRight_eq_div_pow, Nat.testBit_shiftRight, show (255 : Nat) = 2 ^ 8 - 1 from rfl, Nat.testBit_two_pow_sub_one]
  have h64 : i < 64 := by omega
  simp only [hi, h64, decide_true, Bool.true_and]
  congr 1
  by_cases hr : q % 8 ≤ i ∧ i < q % 8 + s
  · have e : 8 * (q / 8) + i = w * k + (w - j + (i - q % 8)) := by omega
    have e2 : decide (8 - s - q % 8 + i < 8) = true := by simp; omega
    rw [e, packN_bit hfit (by omega) hk, hx, e2, ← Nat.shiftRight_eq_div_pow, Nat.testBit_shiftRight]
    simp [hr.1, hr.2]
  · have e2 : (decide (i ≥ q % 8) && decide (8 - s - q % 8 + i < 8)) = false := by simp; omega
    have e3 : decide (q % 8 ≤ i ∧ i < q % 8 + s) = false := by simpa using hr
    rw [e3, Bool.false_and, Bool.and_right_comm, e2, Bool.false_and]

theorem bit_step {N q S : Nat} (hS : q / 8 < S) (old : UInt8) (hold : (toBytes (N % 2 ^ q) S)[q / 8]? = some old) (hb : N.testBit q = true) :
    toBytes (N % 2 ^ (q + 1)) S = (toBytes (N % 2 ^ q) S).set (q / 8) (UInt8.ofNat (old.toNat ||| (2 ^ (q % 8) % 256))) := by
  refine bytes_step (by omega) _ old hS hold fun i hi => ?_
  rw [ofNat8_testBit, Nat.testBit_or, show (256 : Nat) = 2 ^ 8 from rfl, Nat.testBit_mod_two_pow, Nat.testBit_two_pow]
  simp only [hi, decide_true, Bool.true_and]
  congr 1
  by_cases h : q % 8 = i
  · have e : 8 * (q / 8) + i = q := by omega
    rw [e, hb]
    simp [h]
  · have e1 : decide (q % 8 = i) = false := by simpa using h
    have e2 : decide (q % 8 ≤ i ∧ i < q % 8 + 1) = false := by simp; omega
    rw [e1, e2, Bool.false_and]
theorem test_bit (x t : Nat) : (((x : Int) / 2 ^ t).tmod 2 == 1) = x.testBit t := by
  have e : ((x : Int) / 2 ^ t) = ((x / 2 ^ t : Nat) : Int) := by simp
  rw [e, Nat.testBit_eq_decide_div_mod_eq, Int.tmod_eq_emod_of_nonneg (Int.natCast_nonneg _), Bool.eq_iff_iff, beq_iff_eq, decide_eq_true_eq]
  generalize x / 2 ^ t = m
  omega

/-! ### there and back -/
theorem packOk_iff {l : List UInt64} {w : Int} : packOk l w = true ↔ 0 ≤ w ∧ w ≤ 64 ∧ l.length ≤ 65536 ∧ (width l : Int) ≤ w := by simp [packOk]
theorem unpack_pack {l : List UInt64} {w : Int} (h : packOk l w = true) : unpackOk (packB l w) w l.length = true ∧ unpackL (packB l w) w l.length = l ∧ (packB l w).length = sizeOf' w.toNat l.length := by
  obtain ⟨h0, h1, h2, h3⟩ := packOk_iff.1 h
  obtain ⟨k, rfl⟩ : ∃ k : Nat, w = k := ⟨w.toNat, by omega⟩
  have hfit : ∀ x ∈ l, x.toNat < 2 ^ k := (width_le_iff l k).1 (by omega)
  have hlt := packN_lt hfit
  have hsz := size_mul k l.length
  have hN : packN l k < 2 ^ (8 * sizeOf' k l.length) := Nat.lt_of_lt_of_le hlt (Nat.pow_le_pow_right (by omega) hsz.1)
  have hb : packB l (k : Int) = toBytes (packN l k) (sizeOf' k l.length) := by rw [packB, if_pos h]; simp
  have hn : num (packB l (k : Int)) = packN l k := by rw [hb, num_toBytes _ _ hN]
  have hok : unpackOk (packB l (k : Int)) k l.length = true := by
    simp only [unpackOk, hn, Int.toNat_natCast, decide_eq_true_eq]
    exact ⟨by omega, by omega, by omega, by omega, by rw [hb]; simp, hlt⟩
  refine ⟨hok, ?_, by rw [hb]; simp⟩
  rw [unpackL, if_pos hok, hn]
  simp only [Int.toNat_natCast]
  refine List.ext_getElem (by simp) fun j hj1 hj2 => u64_ext fun i hi => ?_
  rw [unpP_bit _ _ _ _ _ _ _ hi]
  by_cases hik : i < k
  · have : k * (j + 1) ≤ k * l.length := Nat.mul_le_mul_left _ hj2
    rw [Nat.mul_add] at this
    have e : decide (i < k ∧ k * j + i < k * l.length) = true := by simp [hik]; omega
    rw [e, Bool.true_and, packN_bit hfit hik hj2]
  · have e : decide (i < k ∧ k * j + i < k * l.length) = false := by simp [hik]
    rw [e, Bool.false_and]
    exact (Nat.testBit_lt_two_pow (Nat.lt_of_lt_of_le (hfit _ (List.getElem_mem hj2)) (Nat.pow_le_pow_right (by omega) (by omega)))).symm
theorem pack_unpack {b : List UInt8} {w n : Int} (h : unpackOk b w n = true) : packOk (unpackL b w n) w = true ∧ packB (unpackL b w n) w = b ∧ ((unpackL b w n).length : Int) = n ∧ (width (unpackL b w n) : Int) ≤ w := by
  have h' := h
  simp only [unpackOk, decide_eq_true_eq] at h'
  obtain ⟨h0, h1, h2, h3, h4, h5⟩ := h'
  obtain ⟨k, rfl⟩ : ∃ k : Nat, w = k := ⟨w.toNat, by omega⟩
  obtain ⟨m, rfl⟩ : ∃ m : Nat, n = m := ⟨n.toNat, by omega⟩
  simp only [Int.toNat_natCast] at h4 h5
  have hl : unpackL b (k : Int) (m : Int) = unpP (num b) k m (k * m) := by rw [unpackL, if_pos h]; simp
  have hlen : (unpackL b (k : Int) (m : Int)).length = m := by rw [hl]; simp
  have hfit : ∀ x ∈ unpackL b (k : Int) (m : Int), x.toNat < 2 ^ k := by
    intro x hx
    obtain ⟨j, hj, rfl⟩ := List.getElem_of_mem hx
    refine Nat.lt_pow_two_of_testBit _ fun i hi => ?_
    rcases Nat.lt_or_ge i 64 with h64 | h64
    · simp only [hl]
      rw [unpP_bit _ _ _ _ _ _ _ h64]
      simp; omega
    · exact u64_testBit_ge _ h64
  have hw : width (unpackL b (k : Int) (m : Int)) ≤ k := (width_le_iff _ k).2 hfit
  have hok : packOk (unpackL b (k : Int) (m : Int)) k = true := packOk_iff.2 ⟨by omega, by omega, by omega, by omega⟩
  refine ⟨hok, ?_, by omega, by omega⟩
  rw [packB, if_pos hok]
  simp only [Int.toNat_natCast, hlen, ← h4]
  rw [show packN (unpackL b (k : Int) (m : Int)) k = num b from ?_]
  · exact toBytes_num b
  · refine Nat.eq_of_testBit_eq fun i => ?_
    have hlt := packN_lt hfit
    rw [hlen] at hlt
    rcases Nat.lt_or_ge i (k * m) with hi | hi
    · have hk0 : 0 < k := by rcases Nat.eq_zero_or_pos k with h | h; (· subst h; simp at hi); exact h
      have hj : i / k < m := by rw [Nat.div_lt_iff_lt_mul hk0, Nat.mul_comm]; exact hi
      have hmod : i % k < k := Nat.mod_lt _ hk0
      have := packN_bit hfit (i := i / k) (k := i % k) hmod (by rw [hlen]; exact hj)
      rw [Nat.div_add_mod] at this
      rw [this]
      simp only [hl]
      rw [unpP_bit _ _ _ _ _ _ _ (by omega), Nat.div_add_mod]
      simp [hmod, hi]
    · rw [Nat.testBit_lt_two_pow (Nat.lt_of_lt_of_le hlt (Nat.pow_le_pow_right (by omega) hi)), Nat.testBit_lt_two_pow (Nat.lt_of_lt_of_le h5 (Nat.pow_le_pow_right (by omega) hi))]
theorem bytesLen_nat {w n : Int} (h : 0 ≤ w ∧ w ≤ 64 ∧ 0 ≤ n ∧ n ≤ 65536) : bytesLen w n = (sizeOf' w.toNat n.toNat : Nat) := by
  obtain ⟨k, rfl⟩ : ∃ k : Nat, w = k := ⟨w.toNat, by omega⟩
  obtain ⟨m, rfl⟩ : ∃ m : Nat, n = m := ⟨n.toNat, by omega⟩
  rw [bytesLen, if_neg (by omega)]
  simp only [sizeOf', Int.toNat_natCast]
  omega
theorem packB_no {l : List UInt64} {w : Int} (h : packOk l w = false) : packB l w = [] := by rw [packB, if_neg (by simp [h])]
theorem unpackL_no {b : List UInt8} {w n : Int} (h : unpackOk b w n = false) : unpackL b w n = [] := by rw [unpackL, if_neg (by simp [h])]
end Go.Proofs.Ytcpimhefclfbaaa

namespace Go.Proofs
open Go.Shelf
def Try.lays129_ren : Go.Shelf.Ren := ⟨fun | 129 => 63 | n => n, fun | 53 => 59 | 3 => 3 | 4 => 4 | 46 => 82 | 5 => 5 | 9 => 9 | n => n, fun | n => n⟩
theorem Try.lays129 : Go.Proofs.Lays.n129 Try.prog Try.lays129_ren := {
  mixed := by kernel_rfl
  f129 := Try.func63.trans (congrArg some (by kernel_rfl))
  t3 := Try.underlying3
  a3 := Try.isAgg3
  z3 := Try.sizeOf3
  v3 := Try.zeroValue3
  t4 := Try.underlying4
  a4 := Try.isAgg4
  z4 := Try.sizeOf4
  v4 := Try.zeroValue4
  t5 := Try.underlying5
  a5 := Try.isAgg5
  z5 := Try.sizeOf5
  v5 := Try.zeroValue5
  t9 := Try.underlying9
  a9 := Try.isAgg9
  z9 := Try.sizeOf9
  v9 := Try.zeroValue9
  t46 := Try.underlying82
  a46 := Try.isAgg82
  z46 := Try.sizeOf82
  v46 := Try.zeroValue82
  t53 := Try.underlying59
  a53 := Try.isAgg59
  z53 := Try.sizeOf59
  v53 := Try.zeroValue59 }
theorem Try.bits_Len64 (x : Int) (w : World) (h0 : 0 ≤ x) (h1 : x ≤ 18446744073709551615) :
    Calls Try.prog 63 #[.int .u64 x] w fun e w' => e = .returned (.int .i64 (Lib.bitLen x.toNat)) ∧ w' = w := Any.bits_Len64 Try.lays129 x w h0 h1
end Go.Proofs

namespace Go.Proofs.Ytcpimhefclfbaaa
open Go Go.RowKit

/-- No call, nothing deferred, no check for nil. -/
def plainOp : Op → Bool
  | .call _ | .go _ | .defer _ | .send .. | .recv .. | .select .. | .nilCheck _ => false
  | _ => true

theorem plain_next {P : Program} {ρ : Operand → Value} {o : Oper} (h : plainOp o.op = true) {w w' : World} {n : Next} (hr : (execOp ρ o).run P w = .ok n w') :
    (∃ v, n = .value v) ∨ n = .skip := by
  have hv : ∀ {β : Type} (s : Sem β) (f : β → Value), (do Pure.pure (Next.value (f (← s))) : Sem Next).run P w = .ok n w' → ∃ v, n = .value v := by
    intro β s f hs
    simp only [Sem.run_bind] at hs
    cases hrun : s.run P w with
    | ok v w1 => rw [hrun] at hs; simp at hs; exact ⟨_, hs.1.symm⟩
    | halt x w1 => rw [hrun] at hs; simp [Result.andThen] at hs
  have hu : ∀ (s : Sem Unit), (do s; Pure.pure Next.skip : Sem Next).run P w = .ok n w' → n = .skip := by
    intro s hs
    simp only [Sem.run_bind] at hs
    cases hrun : s.run P w with
    | ok v w1 => rw [hrun] at hs; simp at hs; exact hs.1.symm
    | halt x w1 => rw [hrun] at hs; simp [Result.andThen] at hs
  unfold execOp at hr
  split at hr <;> first
    | (rename_i hop; rw [hop] at h; simp [plainOp] at h; done)
    | exact .inl (hv _ id hr)
    | exact .inr (hu _ hr)
    | (simp at hr; exact .inl ⟨_, hr.1.symm⟩)
    | exact .inl (hv _ (fun b => if b = true then _ else _) hr)

/-- One operation of a region whose order is open, carried out by the walk's own step: it must leave the world alone. -/
theorem still_of_wp {P : Program} {o : Oper} {a : Act} {w : World} {next : Act → Prop} (h : plainOp o.op = true) (hw : o.wp P a w (fun a' w' => w' = w ∧ next a') (fun _ _ _ => False)) : o.still P a w next := by
  unfold Oper.wp at hw
  unfold Oper.still
  cases hr : (execOp a.eval o).run P w with
  | ok n w' =>
    rw [hr] at hw
    rcases plain_next h hr with ⟨v, rfl⟩ | rfl
    · exact hw
    · exact hw
  | halt x w' =>
    rw [hr] at hw
    cases x <;> exact hw.elim

section
variable {P : Program} {ops : Array Oper} {w : World} {Q : Act → Prop} {a : Act} {o : Oper} {rest : List Oper}

theorem still_step (hp : plainOp o.op = true) (hg : Region.wanted o (yielded ops a.tmps) = true)
    (h : ∀ K : Act → World → Prop, (∀ a', wpStill P ops w Q rest a' → K a' w) → o.wp P a w K (fun _ _ _ => False)) : wpStill P ops w Q (o :: rest) a := by
  unfold wpStill
  rw [if_pos hg]
  exact still_of_wp hp (h _ (fun a' h => ⟨rfl, h⟩))
theorem still_plain (hp : plainOp o.op = true) (hg : o.guard = none)
    (h : ∀ K : Act → World → Prop, (∀ a', wpStill P ops w Q rest a' → K a' w) → o.wp P a w K (fun _ _ _ => False)) : wpStill P ops w Q (o :: rest) a :=
  still_step hp (by simp [Region.wanted, hg]) h
theorem still_skip (hg : Region.wanted o (yielded ops a.tmps) = false) (h : wpStill P ops w Q rest (a.put o.dst undef)) : wpStill P ops w Q (o :: rest) a := by
  unfold wpStill
  rw [hg]
  exact h
theorem still_call {f : FuncId} {args : Array Value} {v : Value} (hg : Region.wanted o (yielded ops a.tmps) = true) (hr : (execOp a.eval o).run P w = .ok (.enter f args) w)
    (hc : Calls P f args w (fun e w'' => e = .returned v ∧ w = w'')) (h : wpStill P ops w Q rest (a.put o.dst v)) : wpStill P ops w Q (o :: rest) a := by
  unfold wpStill
  rw [if_pos hg]
  unfold Oper.still
  rw [hr]
  exact ⟨rfl, v, hc.mono fun _ _ ⟨h1, h2⟩ => ⟨h1, h2.symm⟩, h⟩
theorem still_nilCheck {x : Operand} {p : Addr} (ho : o.op = .nilCheck x) (hg : Region.wanted o (yielded ops a.tmps) = true) (hx : a.eval x = .pointer (some p)) (h : wpStill P ops w Q rest (a.put o.dst (.pointer (some p)))) :
    wpStill P ops w Q (o :: rest) a := by
  unfold wpStill
  rw [if_pos hg]
  unfold Oper.still execOp
  simp only [ho, hx]
  exact ⟨rfl, h⟩
end
end Go.Proofs.Ytcpimhefclfbaaa

namespace Go.Proofs.Ytcpimhefclfbaaa
open Go Go.RowKit
set_option linter.unusedSimpArgs false

section
variable {P : Program} {ops : Array Oper} {rest : List Oper} {o : Oper} {a : Act} {w : World} {Q : Exit → Act → World → Prop}

theorem addr_add (g off j : Nat) : (⟨g, off, none⟩ : Addr).add j = ⟨g, off + j, none⟩ := by unfold Addr.add; split <;> simp_all

theorem blk_setRow {g : Nat} {t : TypeId} {cs ds : List Value} (h : Blk w g t cs) : Blk (w.setRow g ds.toArray) g t ds := setRow_heap w g cs.toArray ds.toArray t (0, 0) h
theorem keep_setRow (w : World) (g : Nat) (cs : Array Value) : Keep [g] w (w.setRow g cs) :=
  ⟨rfl, rfl, rfl, by simp, fun k _ hn => setRow_other w g k cs (by simpa using hn)⟩

/-- A struct or an array is loaded, wherever it lies. -/
theorem wpList_load_agg (hgd : o.guard = none) {ty : TypeId} {x : Operand} (ho : o.op = .load ty x) {n : Nat} (hagg : (isAgg ty).run P w = .ok true w) (hsz : (Go.sizeOf ty).run P w = .ok n w)
    {b off : Nat} {vs : List Value} (hx : a.eval x = .pointer (some ⟨b, off, none⟩)) (hl : vs.length = n) (hc : ∀ j u, vs[j]? = some u → w.cell? ⟨b, off + j, none⟩ = some u)
    (h : wpList P ops Q rest (a.put o.dst (.agg vs.toArray)) w) : wpList P ops Q (o :: rest) a w := by
  refine wpList_plain hgd fun K hK => ?_
  have hload : (loadCells ⟨b, off, none⟩ vs.length).run P w = .ok vs.toArray w :=
    run_loadCells_list (P := P) w ⟨b, off, none⟩ vs (fun j u hu => by rw [addr_add]; exact hc j u hu)
  unfold Oper.wp execOp
  simp only [ho, hx, Instr.loadAt, Instr.sureAddr, loadVar, Sem.run_bind, Sem.run_pure, Result.andThen_ok, hagg, hsz, ← hl, hload, if_true]
  exact hK _ _ h

/-- A struct or an array is stored into a block of the call's own. -/
theorem wpList_store_blk (hgd : o.guard = none) {ty : TypeId} {x y : Operand} (ho : o.op = .store ty x y) {n : Nat} (hsz : (Go.sizeOf ty).run P w = .ok n w)
    {g off : Nat} {t : TypeId} {cs : List Value} {v : Value} (hb : Blk w g t cs) (hx : a.eval x = .pointer (some ⟨g, off, none⟩)) (hy : a.eval y = v) (hl : v.cells.size = n) (hfit : off + n ≤ cs.length) (h1 : ∀ u ∈ v.cells, u.oneCell' = true)
    (h : ∀ w', Blk w' g t (cs.take off ++ v.cells.toList ++ cs.drop (off + n)) → Keep [g] w w' → wpList P ops Q rest (a.put o.dst undef) w') : wpList P ops Q (o :: rest) a w := by
  refine wpList_plain hgd fun K hK => ?_
  have hst := run_storeCells_at P g off t v.cells.toList 0 cs.toArray w hb (by simpa [hl] using hfit) (by simpa using h1)
  simp only [Nat.add_zero, List.size_toArray, Array.length_toList, hl] at hst
  unfold Oper.wp execOp
  simp only [ho, hx, hy, Instr.storeAt, Instr.sureAddr, storeVar, Sem.run_bind, Sem.run_pure, Result.andThen_ok, hsz, hl, ne_eq, not_true, if_false, hst]
  exact hK _ _ (h _ (blk_setRow hb) (keep_setRow w g _))

/-- 'clear(s)': what stood ahead of s stays. -/
theorem wpList_clear_blk (hgd : o.guard = none) {s : Operand} {t e : TypeId} (ho : o.op = .call { callee := .builtin .clear, args := #[s], argTypes := #[t] }) {z : Value} {size : Nat} (ht : P.underlying t = some (.slice e))
    (hz : (zeroValue e).run P w = .ok z w) (hzs : z.cells.size = size) (hz1 : ∀ u ∈ z.cells, u.oneCell' = true) {A : Option Addr} {m c g k : Nat} {cs : List Value} (hx : a.eval s = .slice A m c) (hb : Blk w g e cs)
    (hA : 0 < m → A = some ⟨g, k, none⟩) (hfit : k + m * size ≤ cs.length)
    (h : ∀ w' ds, Blk w' g e ds → ds.take k = cs.take k → ds.length = cs.length → Keep [g] w w' → wpList P ops Q rest (a.put o.dst (.tuple #[])) w') : wpList P ops Q (o :: rest) a w := by
  refine wpList_plain hgd fun K hK => ?_
  rcases Nat.eq_zero_or_pos m with hm | hm
  · subst hm
    unfold Oper.wp execOp
    cases A with
    | none =>
      simp only [ho, resolve, invoke, builtin, Sem.run_bind, Sem.run_pure, Result.andThen_ok, List.map_toArray, List.map_cons, List.map_nil, hx, Builtin.clear_]
      simp [run_underlying ht]
      exact hK _ _ (h w cs hb rfl rfl (Keep.refl _ _))
    | some ad =>
      simp only [ho, resolve, invoke, builtin, Sem.run_bind, Sem.run_pure, Result.andThen_ok, List.map_toArray, List.map_cons, List.map_nil, hx, Builtin.clear_]
      simp [run_underlying ht]
      exact hK _ _ (h w cs hb rfl rfl (Keep.refl _ _))
  · obtain rfl := hA hm
    have hlen : (Builtin.zeroCells z.cells m).toList.length = m * size := by simp [size_zeroCells, hzs]
    have hst := run_storeCells_at P g k e (Builtin.zeroCells z.cells m).toList 0 cs.toArray w hb (by rw [Nat.add_zero, hlen]; simpa using hfit) (by
      intro u hu
      simp only [Builtin.zeroCells, Array.toList_map, List.mem_map] at hu
      obtain ⟨i, hi, rfl⟩ := hu
      have hi' : i < m * z.cells.size := by simpa using hi
      have hpos : 0 < z.cells.size := by
        rcases Nat.eq_zero_or_pos z.cells.size with h0 | h0
        · rw [h0] at hi'; simp at hi'
        · exact h0
      rw [getElem!_pos z.cells (i % z.cells.size) (Nat.mod_lt _ hpos)]
      exact hz1 _ (Array.getElem_mem _))
    simp only [Nat.add_zero] at hst
    obtain ⟨m', rfl⟩ : ∃ m', m = m' + 1 := ⟨m - 1, by omega⟩
    unfold Oper.wp execOp
    simp only [ho, resolve, invoke, builtin, Sem.run_bind, Sem.run_pure, Result.andThen_ok, List.map_toArray, List.map_cons, List.map_nil, hx, Builtin.clear_]
    simp [run_underlying ht, hz, hst]
    refine hK _ _ (h _ _ (blk_setRow hb) ?_ ?_ (keep_setRow w g _))
    · simp [List.take_append, Nat.min_eq_left (show k ≤ cs.length by omega)]
    · simp [hlen]
      have : (Builtin.zeroCells z.cells (m' + 1)).size = (m' + 1) * size := by simp [size_zeroCells, hzs]
      omega
end
end Go.Proofs.Ytcpimhefclfbaaa
