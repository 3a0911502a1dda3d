/-
  Columns in plain words, as cells and as bytes: no program here.
  Footers in plain words: which are right, their bytes, and how they are read: no program here.
  Footers in plain words: the rows of pages, and where pages stand: no program here.
  Footers in memory: slices of slices that are only read.
  Footers that are read: what is still to be read, and what comes of it: no program here.
-/
import Derived.Test.YtcpimhefclfbaaaFStc
import Derived.Test.YtcpimhefclfbaaaFA
namespace Go.Proofs.Ytcpimhefclfbaaa
open Go Go.RowKit
set_option maxRecDepth 10000
set_option linter.unusedVariables false
set_option linter.unusedSimpArgs false

/-- A column. -/
structure Col where
  name : ByteArray
  typ : Int64
  null : Bool
  deriving DecidableEq, Inhabited
def Col.cs (c : Col) : List Value := [.string c.name, vI c.typ, .bool c.null]
theorem Col.len (c : Col) : c.cs.length = 3 := rfl
theorem Col.one (c : Col) : ∀ u ∈ c.cs, u.oneCell' = true := by simp [Col.cs, vI, Value.oneCell']
abbrev colV3 (c : Col) : Value := .agg #[.string c.name, .int .i64 c.typ.toInt, .bool c.null]
abbrev Cols (X : List Nat) (w : World) (A : Option Addr) (n c : Nat) (l : List Col) : Prop := Rd X w 3 A n c (l.flatMap Col.cs)
theorem Cols.len {X : List Nat} {w : World} {A : Option Addr} {n c : Nat} {l : List Col} (h : Cols X w A n c l) : l.length = n := Rd.lenF Col.len h (by omega)
theorem Cols.at3 {X : List Nat} {w : World} {A : Option Addr} {n c k : Nat} {l : List Col} (h : Cols X w A n c l) (hk : k < l.length) :
    ∃ b off, A = some ⟨b, off, none⟩ ∧ b < w.heap.size ∧ b ∉ X ∧ w.cell? ⟨b, off + k * 3, none⟩ = some (.string l[k].name) ∧ w.cell? ⟨b, off + k * 3 + 1, none⟩ = some (.int .i64 l[k].typ.toInt) ∧ w.cell? ⟨b, off + k * 3 + 2, none⟩ = some (.bool l[k].null) := by
  have hlen : l.length = n := h.len
  obtain ⟨b, off, rfl, hlt, hb, hc⟩ := Rd.at_ h (k := k) (by omega)
  have hg := fun j hj => flat_get Col.len l k j hk hj
  refine ⟨b, off, rfl, hlt, hb, ?_, ?_, ?_⟩
  · have := hc 0 (by omega)
    rw [hg 0 (by omega)] at this
    simpa [Col.cs] using this
  · have := hc 1 (by omega)
    rw [hg 1 (by omega)] at this
    simpa [Col.cs, vI, Nat.add_assoc] using this
  · have := hc 2 (by omega)
    rw [hg 2 (by omega)] at this
    simpa [Col.cs, Nat.add_assoc] using this

def seenB (seen : List ByteArray) (s : ByteArray) : Bool := seen.any fun x => decide (x = s)
theorem seenB_iff {seen : List ByteArray} {s : ByteArray} : seenB seen s = true ↔ s ∈ seen := by
  unfold seenB
  rw [List.any_eq_true]
  constructor
  · rintro ⟨x, hx, he⟩
    rw [← of_decide_eq_true he]
    exact hx
  · exact fun h => ⟨s, h, decide_eq_true rfl⟩
/-- What is wrong of columns, names having been seen: 0 is nothing. -/
def colsF (seen : List ByteArray) : List Col → Int
  | [] => 0
  | c :: r => if c.name.size = 0 ∨ 100 < c.name.size ∨ seenB seen c.name = true then 1 else if c.typ.toInt < 0 ∨ 3 < c.typ.toInt then 3 else colsF (seen ++ [c.name]) r
def colsE (l : List Col) : Int := if 64 < l.length then 4 else colsF [] l
theorem colsF_at (l : List Col) (seen : List ByteArray) (k : Nat) (hk : k < l.length) : colsF seen (l.drop k) =
    if l[k].name.size = 0 ∨ 100 < l[k].name.size ∨ seenB seen l[k].name = true then 1 else if l[k].typ.toInt < 0 ∨ 3 < l[k].typ.toInt then 3 else colsF (seen ++ [l[k].name]) (l.drop (k + 1)) := by
  rw [List.drop_eq_getElem_cons hk]
  rfl
theorem colsF_cases : ∀ (l : List Col) (seen : List ByteArray), colsF seen l = 0 ∨ colsF seen l = 1 ∨ colsF seen l = 3
  | [], _ => .inl rfl
  | c :: r, seen => by
    rw [colsF]
    split
    · exact .inr (.inl rfl)
    · split
      · exact .inr (.inr rfl)
      · exact colsF_cases r _
theorem colsF_mem : ∀ (l : List Col) (seen : List ByteArray), colsF seen l = 0 → ∀ c ∈ l, 0 < c.name.size ∧ c.name.size ≤ 100 ∧ 0 ≤ c.typ.toInt ∧ c.typ.toInt ≤ 3
  | [], _, _, c, hc => by simp at hc
  | d :: r, seen, h, c, hc => by
    rw [colsF] at h
    split at h
    · cases h
    · split at h
      · cases h
      · rename_i h1 h2
        rcases List.mem_cons.1 hc with rfl | hc
        · exact ⟨by omega, by omega, by omega, by omega⟩
        · exact colsF_mem r _ h c hc
theorem colsE_len {l : List Col} (h : colsE l = 0) : l.length ≤ 64 := by
  unfold colsE at h
  split at h
  · cases h
  · omega
theorem colsE_mem {l : List Col} (h : colsE l = 0) : ∀ c ∈ l, 0 < c.name.size ∧ c.name.size ≤ 100 ∧ 0 ≤ c.typ.toInt ∧ c.typ.toInt ≤ 3 := by
  unfold colsE at h
  split at h
  · cases h
  · exact colsF_mem l [] h

/-! ### bytes -/
def byteN (typ : Int) : UInt8 := UInt8.ofNat (typ.toNat % 256)
/-- A column's bytes. -/
def colB (c : Col) : List UInt8 := putB c.name.size ++ c.name.data.toList ++ [byteN c.typ.toInt, if c.null = true then 1 else 0]
/-- Columns' bytes, behind others. -/
def colsB (l : List Col) : List UInt8 := if colsE l = 0 then putB l.length ++ l.flatMap colB else []
/-- The next column, and what is left then. -/
def oneC (s : Option (List UInt8)) : Col × Option (List UInt8) :=
  (⟨⟨(takeC (lenC s 100).2 (lenC s 100).1).1.toArray⟩, Int64.ofInt (byteC (takeC (lenC s 100).2 (lenC s 100).1).2), decide (byteC (takeC (takeC (lenC s 100).2 (lenC s 100).1).2 1).2 = 1)⟩,
    if byteC (takeC (takeC (lenC s 100).2 (lenC s 100).1).2 1).2 ≤ 1 then (takeC (takeC (takeC (lenC s 100).2 (lenC s 100).1).2 1).2 1).2 else none)
def getCs : Nat → Option (List UInt8) → List Col × Option (List UInt8)
  | 0, s => ([], s)
  | n + 1, s => ((oneC s).1 :: (getCs n (oneC s).2).1, (getCs n (oneC s).2).2)
/-- The columns that bytes begin with, and what is left then. -/
def colsG (s : Option (List UInt8)) : List Col × Option (List UInt8) :=
  if colsE (getCs (lenC s 64).1 (lenC s 64).2).1 = 0 ∧ (getCs (lenC s 64).1 (lenC s 64).2).2.isSome = true then getCs (lenC s 64).1 (lenC s 64).2 else ([], none)

theorem size_toList (a : ByteArray) : a.data.toList.length = a.size := Array.length_toList
theorem byteN_is {t : Int} (h0 : 0 ≤ t) (h1 : t ≤ 255) : ((byteN t).toNat : Int) = t := by
  unfold byteN
  rw [UInt8.toNat_ofNat']
  omega
theorem oneC_put {c : Col} (hn : c.name.size ≤ 100) (h0 : 0 ≤ c.typ.toInt) (h1 : c.typ.toInt ≤ 3) (r : List UInt8) : oneC (some (colB c ++ r)) = (c, some r) := by
  have e1 : lenC (some (colB c ++ r)) 100 = (c.name.size, some (c.name.data.toList ++ (byteN c.typ.toInt :: (if c.null = true then 1 else 0) :: r))) := by
    have := lenC_put (n := c.name.size) (most := 100) (by omega) (by omega) (c.name.data.toList ++ (byteN c.typ.toInt :: (if c.null = true then 1 else 0) :: r))
    rw [← this]
    unfold colB
    simp [List.append_assoc]
  unfold oneC
  rw [e1]
  simp only []
  rw [takeC_app _ _ (by rw [size_toList])]
  simp only []
  rw [byteC_cons, takeC_cons]
  simp only []
  rw [byteC_cons, takeC_cons, byteN_is h0 (by omega), ofInt_vI]
  cases c with
  | mk name typ null =>
    cases null <;> simp
theorem oneC_inv {b r : List UInt8} {c : Col} (h : oneC (some b) = (c, some r)) : b = colB c ++ r := by
  unfold oneC at h
  simp only [Prod.mk.injEq] at h
  obtain ⟨h1, h2⟩ := h
  split at h2
  · rename_i hle
    obtain ⟨z, h3, h4⟩ := byteC_inv h2
    rw [h4] at hle h1
    obtain ⟨y, h5, h6⟩ := byteC_inv h3
    rw [h6] at h1
    obtain ⟨h7, h8⟩ := takeC_inv (show takeC (lenC (some b) 100).2 (lenC (some b) 100).1 = ((takeC (lenC (some b) 100).2 (lenC (some b) 100).1).1, some (y :: z :: r)) by rw [← h5])
    generalize (takeC (lenC (some b) 100).2 (lenC (some b) 100).1).1 = x at *
    obtain ⟨h9, _, _, _⟩ := lenC_inv (show lenC (some b) 100 = ((lenC (some b) 100).1, some (x ++ y :: z :: r)) by rw [← h7])
    generalize (lenC (some b) 100).1 = n at *
    injection h9 with h9
    subst h1
    have hn : (⟨x.toArray⟩ : ByteArray).size = n := by
      have : (⟨x.toArray⟩ : ByteArray).size = x.length := by simp [ByteArray.size]
      omega
    have hy := y.toNat_lt
    have ht : byteN (Int64.ofInt ((y.toNat : Nat) : Int)).toInt = y := by
      rw [toI (by unfold isI64; omega)]
      unfold byteN
      apply UInt8.toNat_inj.1
      rw [UInt8.toNat_ofNat']
      omega
    have hz : (if decide (z.toNat = 1) = true then (1 : UInt8) else 0) = z := by
      apply UInt8.toNat_inj.1
      split
      · rename_i he; rw [of_decide_eq_true he]; rfl
      · rename_i he
        have : z.toNat ≠ 1 := fun h => he (decide_eq_true h)
        have : z.toNat = 0 := by omega
        rw [this]; rfl
    unfold colB
    simp only []
    rw [hn, ht, hz, h9]
    simp [List.append_assoc]
  · cases h2
theorem getCs_len : ∀ (n : Nat) (s : Option (List UInt8)), (getCs n s).1.length = n
  | 0, _ => rfl
  | n + 1, s => by rw [getCs]; simp [getCs_len n]
theorem oneC_none : (oneC none).2 = none := rfl
theorem getCs_none : ∀ (n : Nat), (getCs n none).2 = none
  | 0 => rfl
  | n + 1 => by rw [getCs]; exact getCs_none n
theorem getCs_put : ∀ (l : List Col) (_ : ∀ c ∈ l, c.name.size ≤ 100 ∧ 0 ≤ c.typ.toInt ∧ c.typ.toInt ≤ 3) (r : List UInt8), getCs l.length (some (l.flatMap colB ++ r)) = (l, some r)
  | [], _, _ => rfl
  | c :: l, h, r => by
    obtain ⟨h1, h2, h3⟩ := h c (by simp)
    rw [List.flatMap_cons, List.append_assoc, List.length_cons, getCs, oneC_put h1 h2 h3]
    simp only []
    rw [getCs_put l (fun d hd => h d (by simp [hd])) r]
theorem getCs_inv : ∀ (n : Nat) (b : List UInt8) (l : List Col) (r : List UInt8), getCs n (some b) = (l, some r) → b = l.flatMap colB ++ r ∧ l.length = n
  | 0, b, l, r, h => by
    simp only [getCs, Prod.mk.injEq, Option.some.injEq] at h
    obtain ⟨rfl, rfl⟩ := h
    simp
  | n + 1, b, l, r, h => by
    rw [getCs] at h
    simp only [Prod.mk.injEq] at h
    obtain ⟨h1, h2⟩ := h
    cases hs : (oneC (some b)).2 with
    | none => rw [hs, getCs_none] at h2; cases h2
    | some q =>
      rw [hs] at h1 h2
      have e1 := oneC_inv (show oneC (some b) = ((oneC (some b)).1, some q) by rw [← hs])
      obtain ⟨e2, e3⟩ := getCs_inv n q _ r (show getCs n (some q) = ((getCs n (some q)).1, some r) by rw [← h2])
      subst h1
      rw [List.flatMap_cons, List.append_assoc, ← e2]
      exact ⟨e1, by simp [e3]⟩
theorem colsG_put {l : List Col} (h : colsE l = 0) (r : List UInt8) : colsG (some (colsB l ++ r)) = (l, some r) := by
  have hl := colsE_len h
  have hm := colsE_mem h
  have e : lenC (some (colsB l ++ r)) 64 = (l.length, some (l.flatMap colB ++ r)) := by
    unfold colsB
    rw [if_pos h, List.append_assoc, lenC_put (by omega) (by omega)]
  unfold colsG
  rw [e]
  simp only []
  rw [getCs_put l (fun c hc => by obtain ⟨_, h2, h3, h4⟩ := hm c hc; exact ⟨h2, h3, h4⟩), if_pos ⟨h, rfl⟩]
theorem colsG_inv {b r : List UInt8} {l : List Col} (h : colsG (some b) = (l, some r)) : colsE l = 0 ∧ b = colsB l ++ r := by
  unfold colsG at h
  split at h
  · rename_i hc
    obtain ⟨h1, h2⟩ := hc
    rw [h] at h1
    refine ⟨h1, ?_⟩
    cases hs : (lenC (some b) 64).2 with
    | none => rw [hs] at h; have := getCs_none (lenC (some b) 64).1; rw [h] at this; cases this
    | some q =>
      rw [hs] at h
      obtain ⟨e1, e2⟩ := getCs_inv _ q l r h
      obtain ⟨e3, _, _, _⟩ := lenC_inv (show lenC (some b) 64 = ((lenC (some b) 64).1, some q) by rw [← hs])
      injection e3 with e3
      unfold colsB
      rw [if_pos h1, e3, e1, e2, List.append_assoc]
  · simp at h
end Go.Proofs.Ytcpimhefclfbaaa

namespace Go.Proofs.Ytcpimhefclfbaaa
open Go Go.RowKit
set_option maxRecDepth 10000
set_option linter.unusedVariables false
set_option linter.unusedSimpArgs false

/-- A page. -/
structure Pg where
  size : Int64
  rows : Int64
  stat : St
  deriving DecidableEq, Inhabited
def Pg.cs (p : Pg) : List Value := vI p.size :: vI p.rows :: p.stat.cs
theorem Pg.len (p : Pg) : p.cs.length = 14 := rfl
theorem Pg.one (p : Pg) : ∀ u ∈ p.cs, u.oneCell' = true := by simp [Pg.cs, vI, Value.oneCell']
structure Grp where
  rows : Int64
  chunks : List (List Pg)
  deriving DecidableEq, Inhabited
structure Ftr where
  cols : List Col
  rows : Int64
  groups : List Grp
  deriving DecidableEq, Inhabited
def Ftr.zero : Ftr := ⟨[], 0, []⟩
def pageOk (c : Col) (p : Pg) : Bool :=
  decide (1 ≤ p.rows.toInt ∧ p.rows.toInt ≤ 65536 ∧ 1 ≤ p.size.toInt ∧ p.size.toInt ≤ 268435456 ∧ p.stat.nulls.toInt ≤ p.rows.toInt ∧ p.stat.has = decide (p.stat.nulls.toInt < p.rows.toInt) ∧ (0 < p.stat.nulls.toInt → c.null = true)) && rightS c.typ.toInt p.stat
theorem pageOk_is {c : Col} {p : Pg} (h : pageOk c p = true) : 1 ≤ p.rows.toInt ∧ p.rows.toInt ≤ 65536 ∧ 1 ≤ p.size.toInt ∧ p.size.toInt ≤ 268435456 ∧ rightS c.typ.toInt p.stat = true := by
  unfold pageOk at h
  simp only [Bool.and_eq_true, decide_eq_true_eq] at h
  exact ⟨h.1.1, h.1.2.1, h.1.2.2.1, h.1.2.2.2.1, h.2⟩

/-- The room that is left behind a chunk of so many rows, if its pages may be. -/
def chunkF (c : Col) : Int → Int → List Pg → Option Int
  | rows, room, [] => if 0 < rows then none else some room
  | rows, room, p :: l => if pageOk c p = true ∧ p.rows.toInt ≤ rows ∧ p.size.toInt ≤ room then chunkF c (rows - p.rows.toInt) (room - p.size.toInt) l else none
def chunksF (rows : Int) : Int → List (Col × List Pg) → Option Int
  | room, [] => some room
  | room, x :: l => match chunkF x.1 rows room x.2 with
    | none => none
    | some r => chunksF rows r l
def groupsF (cols : List Col) : Int → Int → List Grp → Bool
  | left, _, [] => decide (left = 0)
  | left, room, g :: l => if 1 ≤ g.rows.toInt ∧ g.rows.toInt ≤ left ∧ g.chunks.length = cols.length then match chunksF g.rows.toInt room (cols.zip g.chunks) with
      | none => false
      | some r => groupsF cols (left - g.rows.toInt) r l
    else false
/-- May a footer be? -/
def rightF (f : Ftr) : Bool := decide (colsE f.cols = 0 ∧ 0 ≤ f.rows.toInt ∧ f.rows.toInt ≤ 65536) && groupsF f.cols f.rows.toInt 1073741824 f.groups

theorem chunkF_at {c : Col} {rows room : Int} (l : List Pg) (k : Nat) (hk : k < l.length) : chunkF c rows room (l.drop k) =
    if pageOk c l[k] = true ∧ l[k].rows.toInt ≤ rows ∧ l[k].size.toInt ≤ room then chunkF c (rows - l[k].rows.toInt) (room - l[k].size.toInt) (l.drop (k + 1)) else none := by
  rw [List.drop_eq_getElem_cons hk, chunkF]
theorem chunksF_at {rows room : Int} (cs : List Col) (l : List (List Pg)) (k : Nat) (hc : k < cs.length) (hk : k < l.length) : chunksF rows room ((cs.zip l).drop k) =
    match chunkF cs[k] rows room l[k] with
    | none => none
    | some r => chunksF rows r ((cs.zip l).drop (k + 1)) := by
  rw [List.drop_eq_getElem_cons (by simp; omega), chunksF]
  simp only [List.getElem_zip]
theorem groupsF_at {cols : List Col} {left room : Int} (l : List Grp) (k : Nat) (hk : k < l.length) : groupsF cols left room (l.drop k) =
    if 1 ≤ l[k].rows.toInt ∧ l[k].rows.toInt ≤ left ∧ l[k].chunks.length = cols.length then match chunksF l[k].rows.toInt room (cols.zip l[k].chunks) with
      | none => false
      | some r => groupsF cols (left - l[k].rows.toInt) r (l.drop (k + 1))
    else false := by
  rw [List.drop_eq_getElem_cons hk, groupsF]

/-! ### what is told of a right one -/
def sumZ {α : Type} (f : α → Int) : List α → Int
  | [] => 0
  | a :: l => f a + sumZ f l
theorem sumZ_append {α : Type} (f : α → Int) : ∀ (a b : List α), sumZ f (a ++ b) = sumZ f a + sumZ f b
  | [], b => by simp [sumZ]
  | x :: a, b => by rw [List.cons_append, sumZ, sumZ, sumZ_append f a b]; omega
theorem sumZ_pos {α : Type} {f : α → Int} : ∀ (l : List α), (∀ x ∈ l, 0 ≤ f x) → 0 ≤ sumZ f l
  | [], _ => by simp [sumZ]
  | x :: l, h => by
    have h1 := h x (by simp)
    have h2 := sumZ_pos (f := f) l (fun y hy => h y (by simp [hy]))
    rw [sumZ]
    omega
theorem sumZ_len {α : Type} {f : α → Int} : ∀ (l : List α), (∀ x ∈ l, 1 ≤ f x) → (l.length : Int) ≤ sumZ f l
  | [], _ => by simp [sumZ]
  | x :: l, h => by
    have h1 := h x (by simp)
    have h2 := sumZ_len (f := f) l (fun y hy => h y (by simp [hy]))
    rw [sumZ, List.length_cons]
    omega
def pgR (p : Pg) : Int := p.rows.toInt
def pgS (p : Pg) : Int := p.size.toInt
def chS (l : List Pg) : Int := sumZ pgS l
def grS (g : Grp) : Int := sumZ chS g.chunks
def grR (g : Grp) : Int := g.rows.toInt
theorem chunkF_is {c : Col} : ∀ (l : List Pg) (rows room r : Int), 0 ≤ rows → chunkF c rows room l = some r → (∀ p ∈ l, pageOk c p = true) ∧ sumZ pgR l = rows ∧ r = room - chS l
  | [], rows, room, r, h0, h => by
    rw [chunkF] at h
    split at h
    · cases h
    · injection h with h
      refine ⟨by simp, ?_, ?_⟩
      · simp only [sumZ]; omega
      · simp only [chS, sumZ]; omega
  | p :: l, rows, room, r, h0, h => by
    rw [chunkF] at h
    split at h
    · rename_i hc
      obtain ⟨h1, h2, h3⟩ := chunkF_is l _ _ r (by omega) h
      refine ⟨fun q hq => ?_, ?_, ?_⟩
      · rcases List.mem_cons.1 hq with rfl | hq
        · exact hc.1
        · exact h1 q hq
      · rw [sumZ, h2]; unfold pgR; omega
      · rw [h3]; simp only [chS, sumZ, pgS]; omega
    · cases h
theorem chunkF_room {c : Col} : ∀ (l : List Pg) (rows room r : Int), 0 ≤ room → chunkF c rows room l = some r → 0 ≤ r
  | [], rows, room, r, h0, h => by
    rw [chunkF] at h
    split at h
    · cases h
    · injection h with h; omega
  | p :: l, rows, room, r, h0, h => by
    rw [chunkF] at h
    split at h
    · rename_i hc
      exact chunkF_room l _ _ r (by omega) h
    · cases h
/-- Chunks that may be. -/
def chunksOk (rows : Int) (cols : List Col) (l : List (List Pg)) : Prop := l.length = cols.length ∧ ∀ x ∈ cols.zip l, (∀ p ∈ x.2, pageOk x.1 p = true) ∧ sumZ pgR x.2 = rows
theorem chunksF_is : ∀ (l : List (Col × List Pg)) (rows room r : Int), 0 ≤ rows → 0 ≤ room → chunksF rows room l = some r → (∀ x ∈ l, (∀ p ∈ x.2, pageOk x.1 p = true) ∧ sumZ pgR x.2 = rows) ∧ r = room - sumZ (fun x => chS x.2) l ∧ 0 ≤ r
  | [], rows, room, r, h0, hr, h => by
    rw [chunksF] at h
    injection h with h
    refine ⟨by simp, ?_, by omega⟩
    simp only [sumZ]; omega
  | x :: l, rows, room, r, h0, hr, h => by
    rw [chunksF] at h
    cases hc : chunkF x.1 rows room x.2 with
    | none => rw [hc] at h; cases h
    | some r1 =>
      rw [hc] at h
      obtain ⟨h1, h2, h3⟩ := chunkF_is _ _ _ _ h0 hc
      have h4 := chunkF_room _ _ _ _ hr hc
      obtain ⟨h5, h6, h7⟩ := chunksF_is l rows r1 r h0 h4 h
      refine ⟨fun y hy => ?_, ?_, h7⟩
      · rcases List.mem_cons.1 hy with rfl | hy
        · exact ⟨h1, h2⟩
        · exact h5 y hy
      · rw [sumZ, h6, h3]; omega
theorem sumZ_zip {α β : Type} (f : β → Int) : ∀ (a : List α) (b : List β), b.length = a.length → sumZ (fun x => f x.2) (a.zip b) = sumZ f b
  | [], [], _ => rfl
  | x :: a, y :: b, h => by
    rw [List.zip_cons_cons, sumZ, sumZ, sumZ_zip f a b (by simpa using h)]
theorem groupsF_is {cols : List Col} : ∀ (l : List Grp) (left room : Int), 0 ≤ left → 0 ≤ room → groupsF cols left room l = true → (∀ g ∈ l, 1 ≤ g.rows.toInt ∧ chunksOk g.rows.toInt cols g.chunks) ∧ sumZ grR l = left ∧ sumZ grS l ≤ room
  | [], left, room, h0, hr, h => by
    rw [groupsF] at h
    have := of_decide_eq_true h
    refine ⟨by simp, ?_, ?_⟩
    · simp only [sumZ]; omega
    · simp only [sumZ]; omega
  | g :: l, left, room, h0, hr, h => by
    rw [groupsF] at h
    split at h
    · rename_i hg
      obtain ⟨g1, g2, g3⟩ := hg
      cases hc : chunksF g.rows.toInt room (cols.zip g.chunks) with
      | none => rw [hc] at h; cases h
      | some r =>
        rw [hc] at h
        obtain ⟨h1, h2, h3⟩ := chunksF_is _ _ _ _ (by omega) hr hc
        obtain ⟨h4, h5, h6⟩ := groupsF_is l _ r (by omega) h3 h
        rw [sumZ_zip chS _ _ g3] at h2
        refine ⟨fun y hy => ?_, ?_, ?_⟩
        · rcases List.mem_cons.1 hy with rfl | hy
          · exact ⟨g1, g3, h1⟩
          · exact h4 y hy
        · rw [sumZ, h5]; unfold grR; omega
        · rw [sumZ]; unfold grS at *; omega
    · cases h
theorem rightF_is {f : Ftr} (h : rightF f = true) : colsE f.cols = 0 ∧ 0 ≤ f.rows.toInt ∧ f.rows.toInt ≤ 65536 ∧ (∀ g ∈ f.groups, 1 ≤ g.rows.toInt ∧ chunksOk g.rows.toInt f.cols g.chunks) ∧ sumZ grR f.groups = f.rows.toInt ∧ sumZ grS f.groups ≤ 1073741824 := by
  unfold rightF at h
  simp only [Bool.and_eq_true, decide_eq_true_eq] at h
  obtain ⟨⟨h1, h2, h3⟩, h4⟩ := h
  obtain ⟨h5, h6, h7⟩ := groupsF_is _ _ _ h2 (by omega) h4
  exact ⟨h1, h2, h3, h5, h6, h7⟩

/-! ### bytes -/
def nB (x : Int64) : List UInt8 := putB (uN x.toInt)
def pgB (c : Col) (p : Pg) : List UInt8 := nB p.size ++ nB p.rows ++ putS c.typ.toInt p.stat
def chB (x : Col × List Pg) : List UInt8 := putB x.2.length ++ x.2.flatMap (pgB x.1)
def grB (cols : List Col) (g : Grp) : List UInt8 := nB g.rows ++ (cols.zip g.chunks).flatMap chB
/-- A footer's bytes. -/
def ftrB (f : Ftr) : List UInt8 := colsB f.cols ++ nB f.rows ++ putB f.groups.length ++ f.groups.flatMap (grB f.cols)

/-- The next page, and what is left then. -/
def pgG (typ : Int) (s : Option (List UInt8)) : Pg × Option (List UInt8) :=
  (⟨Int64.ofInt (lenC s 268435456).1, Int64.ofInt (lenC (lenC s 268435456).2 65536).1, (getS typ (lenC (lenC s 268435456).2 65536).2).1⟩, (getS typ (lenC (lenC s 268435456).2 65536).2).2)
def pgsO (typ : Int) : Nat → List UInt8 → Option (List Pg × List UInt8)
  | 0, b => some ([], b)
  | n + 1, b => match (pgG typ (some b)).2 with
    | none => none
    | some r => match pgsO typ n r with
      | none => none
      | some x => some ((pgG typ (some b)).1 :: x.1, x.2)
def chO (typ : Int) (b : List UInt8) : Option (List Pg × List UInt8) := match (lenC (some b) 65536).2 with
  | none => none
  | some r => pgsO typ (lenC (some b) 65536).1 r
def chsO : List Col → List UInt8 → Option (List (List Pg) × List UInt8)
  | [], b => some ([], b)
  | c :: l, b => match chO c.typ.toInt b with
    | none => none
    | some x => match chsO l x.2 with
      | none => none
      | some y => some (x.1 :: y.1, y.2)
def grO (cols : List Col) (b : List UInt8) : Option (Grp × List UInt8) := match (lenC (some b) 65536).2 with
  | none => none
  | some r => match chsO cols r with
    | none => none
    | some x => some (⟨Int64.ofInt (lenC (some b) 65536).1, x.1⟩, x.2)
def grsO (cols : List Col) : Nat → List UInt8 → Option (List Grp × List UInt8)
  | 0, b => some ([], b)
  | n + 1, b => match grO cols b with
    | none => none
    | some x => match grsO cols n x.2 with
      | none => none
      | some y => some (x.1 :: y.1, y.2)
/-- A footer, if it is right, and nothing is left. -/
def endO (cols : List Col) (rows : Int64) : Option (List Grp × List UInt8) → Option Ftr
  | some (gs, []) => if rightF ⟨cols, rows, gs⟩ = true then some ⟨cols, rows, gs⟩ else none
  | _ => none
/-- The footer of bytes. -/
def ftrO (b : List UInt8) : Option Ftr := match (lenC (lenC (colsG (some b)).2 65536).2 65536).2 with
  | none => none
  | some r => endO (colsG (some b)).1 (Int64.ofInt (lenC (colsG (some b)).2 65536).1) (grsO (colsG (some b)).1 (lenC (lenC (colsG (some b)).2 65536).2 65536).1 r)

theorem nB_get {x : Int64} {m : Int} (h0 : 0 ≤ x.toInt) (h1 : x.toInt ≤ m) (r : List UInt8) : lenC (some (nB x ++ r)) m = (uN x.toInt, some r) ∧ Int64.ofInt (uN x.toInt) = x := by
  have hx := i64_hi x
  have hu := uN_nat h0 hx
  exact ⟨lenC_put (uN_lt _) ⟨by omega, by omega⟩ r, by rw [hu, ofInt_vI]⟩
theorem nB_inv {b r : List UInt8} {m : Int} {n : Nat} (hm : m ≤ 9223372036854775807) (h : lenC (some b) m = (n, some r)) : b = nB (Int64.ofInt n) ++ r ∧ (Int64.ofInt n).toInt = n ∧ (n : Int) ≤ m := by
  obtain ⟨e1, e2, e3, e4⟩ := lenC_inv h
  injection e1 with e1
  have ht : (Int64.ofInt (n : Int)).toInt = n := toI (by unfold isI64; omega)
  refine ⟨?_, ht, e4⟩
  unfold nB
  rw [ht, show uN (n : Int) = n from by unfold uN; omega]
  exact e1
theorem pgG_put {c : Col} {p : Pg} (h : pageOk c p = true) (r : List UInt8) : pgG c.typ.toInt (some (pgB c p ++ r)) = (p, some r) := by
  obtain ⟨h1, h2, h3, h4, h5⟩ := pageOk_is h
  unfold pgG pgB
  rw [List.append_assoc, List.append_assoc]
  obtain ⟨e1, e2⟩ := nB_get (x := p.size) (m := 268435456) (by omega) h4 (nB p.rows ++ (putS c.typ.toInt p.stat ++ r))
  obtain ⟨e3, e4⟩ := nB_get (x := p.rows) (m := 65536) (by omega) h2 (putS c.typ.toInt p.stat ++ r)
  rw [e1]
  simp only []
  rw [e3]
  simp only []
  rw [getS_put h5, e2, e4]
theorem pgG_inv {c : Col} {b r : List UInt8} {p : Pg} (h : pgG c.typ.toInt (some b) = (p, some r)) : b = pgB c p ++ r := by
  unfold pgG at h
  simp only [Prod.mk.injEq] at h
  obtain ⟨h1, h2⟩ := h
  have hg : ∀ s, (getS c.typ.toInt s).2 = some r → ∃ q, s = some q := by
    intro s hs
    cases s with
    | none =>
      exfalso
      unfold getS at hs
      rw [lenC_no] at hs
      simp only [] at hs
      rw [show byteC none = 0 from rfl] at hs
      simp [takeC_none] at hs
    | some q => exact ⟨q, rfl⟩
  obtain ⟨q, hq⟩ := hg _ h2
  obtain ⟨e1, e2⟩ := getS_inv (show getS c.typ.toInt (some q) = ((getS c.typ.toInt (some q)).1, some r) by rw [← h2, hq])
  rw [hq] at h1
  cases hs : (lenC (some b) 268435456).2 with
  | none => rw [hs, lenC_no] at hq; cases hq
  | some q2 =>
    rw [hs] at hq h1
    obtain ⟨e3, e4, e5⟩ := nB_inv (by omega) (show lenC (some q2) 65536 = ((lenC (some q2) 65536).1, some q) by rw [← hq])
    obtain ⟨e6, e7, e8⟩ := nB_inv (by omega) (show lenC (some b) 268435456 = ((lenC (some b) 268435456).1, some q2) by rw [← hs])
    subst h1
    unfold pgB
    simp only []
    rw [List.append_assoc, List.append_assoc, ← e2, ← e3, ← e6]
theorem pgsO_put {c : Col} : ∀ (l : List Pg) (_ : ∀ p ∈ l, pageOk c p = true) (r : List UInt8), pgsO c.typ.toInt l.length (l.flatMap (pgB c) ++ r) = some (l, r)
  | [], _, _ => rfl
  | p :: l, h, r => by
    rw [List.flatMap_cons, List.append_assoc, List.length_cons, pgsO, pgG_put (h p (by simp))]
    simp only []
    rw [pgsO_put l (fun q hq => h q (by simp [hq])) r]
theorem pgsO_inv {c : Col} : ∀ (n : Nat) (b : List UInt8) (l : List Pg) (r : List UInt8), pgsO c.typ.toInt n b = some (l, r) → b = l.flatMap (pgB c) ++ r ∧ l.length = n
  | 0, b, l, r, h => by
    simp only [pgsO, Option.some.injEq, Prod.mk.injEq] at h
    obtain ⟨rfl, rfl⟩ := h
    simp
  | n + 1, b, l, r, h => by
    rw [pgsO] at h
    split at h
    · cases h
    · rename_i q hq
      split at h
      · cases h
      · rename_i x hx
        simp only [Option.some.injEq, Prod.mk.injEq] at h
        obtain ⟨h1, h2⟩ := h
        obtain ⟨e1, e2⟩ := pgsO_inv n q x.1 r (by rw [hx, ← h2])
        have e3 := pgG_inv (show pgG c.typ.toInt (some b) = ((pgG c.typ.toInt (some b)).1, some q) by rw [← hq])
        subst h1
        rw [List.flatMap_cons, List.append_assoc, ← e1]
        exact ⟨e3, by simp [e2]⟩
theorem chO_put {c : Col} {l : List Pg} (h : ∀ p ∈ l, pageOk c p = true) (hl : l.length ≤ 65536) (r : List UInt8) : chO c.typ.toInt (chB (c, l) ++ r) = some (l, r) := by
  have e : chB (c, l) ++ r = putB l.length ++ (l.flatMap (pgB c) ++ r) := by unfold chB; simp [List.append_assoc]
  unfold chO
  rw [e, lenC_put (by omega) (by omega)]
  simp only []
  rw [pgsO_put l h r]
theorem chO_inv {c : Col} {b r : List UInt8} {l : List Pg} (h : chO c.typ.toInt b = some (l, r)) : b = chB (c, l) ++ r := by
  unfold chO at h
  split at h
  · cases h
  · rename_i q hq
    obtain ⟨e1, e2⟩ := pgsO_inv _ _ _ _ h
    obtain ⟨e3, _, _, _⟩ := lenC_inv (show lenC (some b) 65536 = ((lenC (some b) 65536).1, some q) by rw [← hq])
    injection e3 with e3
    unfold chB
    simp only []
    rw [e3, e1, e2, List.append_assoc]
theorem chsO_put : ∀ (cols : List Col) (l : List (List Pg)), l.length = cols.length → (∀ x ∈ cols.zip l, (∀ p ∈ x.2, pageOk x.1 p = true) ∧ x.2.length ≤ 65536) → ∀ (r : List UInt8), chsO cols ((cols.zip l).flatMap chB ++ r) = some (l, r)
  | [], [], _, _, r => rfl
  | c :: cols, y :: l, hl, h, r => by
    obtain ⟨h1, h2⟩ := h (c, y) (by simp)
    rw [List.zip_cons_cons, List.flatMap_cons, List.append_assoc, chsO, chO_put h1 h2]
    simp only []
    rw [chsO_put cols l (by simpa using hl) (fun x hx => h x (by rw [List.zip_cons_cons]; exact List.mem_cons_of_mem _ hx)) r]
theorem chsO_inv : ∀ (cols : List Col) (b : List UInt8) (l : List (List Pg)) (r : List UInt8), chsO cols b = some (l, r) → b = (cols.zip l).flatMap chB ++ r ∧ l.length = cols.length
  | [], b, l, r, h => by
    simp only [chsO, Option.some.injEq, Prod.mk.injEq] at h
    obtain ⟨rfl, rfl⟩ := h
    simp
  | c :: cols, b, l, r, h => by
    rw [chsO] at h
    split at h
    · cases h
    · rename_i x hx
      split at h
      · cases h
      · rename_i y hy
        simp only [Option.some.injEq, Prod.mk.injEq] at h
        obtain ⟨rfl, rfl⟩ := h
        obtain ⟨e1, e2⟩ := chsO_inv cols x.2 y.1 y.2 hy
        have e3 := chO_inv (c := c) (b := b) (l := x.1) (r := x.2) hx
        rw [List.zip_cons_cons, List.flatMap_cons, List.append_assoc, ← e1]
        exact ⟨e3, by simp [e2]⟩
theorem chunksOk_few {rows : Int} {cols : List Col} {l : List (List Pg)} (h : chunksOk rows cols l) (hr : rows ≤ 65536) : ∀ x ∈ cols.zip l, (∀ p ∈ x.2, pageOk x.1 p = true) ∧ x.2.length ≤ 65536 := fun x hx => by
  obtain ⟨h1, h2⟩ := h.2 x hx
  refine ⟨h1, ?_⟩
  have := sumZ_len (f := pgR) x.2 (fun p hp => (pageOk_is (h1 p hp)).1)
  omega
theorem grO_put {cols : List Col} {g : Grp} (h0 : 1 ≤ g.rows.toInt) (h1 : g.rows.toInt ≤ 65536) (h : chunksOk g.rows.toInt cols g.chunks) (r : List UInt8) : grO cols (grB cols g ++ r) = some (g, r) := by
  unfold grO grB
  rw [List.append_assoc]
  obtain ⟨e1, e2⟩ := nB_get (x := g.rows) (m := 65536) (by omega) h1 ((cols.zip g.chunks).flatMap chB ++ r)
  rw [e1]
  simp only []
  rw [chsO_put cols g.chunks h.1 (chunksOk_few h h1) r]
  simp only []
  rw [e2]
theorem grO_inv {cols : List Col} {b r : List UInt8} {g : Grp} (h : grO cols b = some (g, r)) : b = grB cols g ++ r := by
  unfold grO at h
  split at h
  · cases h
  · rename_i q hq
    split at h
    · cases h
    · rename_i x hx
      simp only [Option.some.injEq, Prod.mk.injEq] at h
      obtain ⟨h1, h2⟩ := h
      obtain ⟨e1, e2⟩ := chsO_inv cols q x.1 x.2 hx
      obtain ⟨e3, _, _⟩ := nB_inv (by omega) (show lenC (some b) 65536 = ((lenC (some b) 65536).1, some q) by rw [← hq])
      subst h1 h2
      unfold grB
      simp only []
      rw [List.append_assoc, ← e1, ← e3]
theorem grsO_put {cols : List Col} : ∀ (l : List Grp) (_ : ∀ g ∈ l, 1 ≤ g.rows.toInt ∧ g.rows.toInt ≤ 65536 ∧ chunksOk g.rows.toInt cols g.chunks) (r : List UInt8), grsO cols l.length (l.flatMap (grB cols) ++ r) = some (l, r)
  | [], _, _ => rfl
  | g :: l, h, r => by
    obtain ⟨h1, h2, h3⟩ := h g (by simp)
    rw [List.flatMap_cons, List.append_assoc, List.length_cons, grsO, grO_put h1 h2 h3]
    simp only []
    rw [grsO_put l (fun x hx => h x (by simp [hx])) r]
theorem grsO_inv {cols : List Col} : ∀ (n : Nat) (b : List UInt8) (l : List Grp) (r : List UInt8), grsO cols n b = some (l, r) → b = l.flatMap (grB cols) ++ r ∧ l.length = n
  | 0, b, l, r, h => by
    simp only [grsO, Option.some.injEq, Prod.mk.injEq] at h
    obtain ⟨rfl, rfl⟩ := h
    simp
  | n + 1, b, l, r, h => by
    rw [grsO] at h
    split at h
    · cases h
    · rename_i x hx
      split at h
      · cases h
      · rename_i y hy
        simp only [Option.some.injEq, Prod.mk.injEq] at h
        obtain ⟨rfl, rfl⟩ := h
        obtain ⟨e1, e2⟩ := grsO_inv n x.2 y.1 y.2 hy
        have e3 := grO_inv (cols := cols) (b := b) (g := x.1) (r := x.2) hx
        rw [List.flatMap_cons, List.append_assoc, ← e1]
        exact ⟨e3, by simp [e2]⟩
theorem grR_le {l : List Grp} : (∀ g ∈ l, 1 ≤ g.rows.toInt) → ∀ g ∈ l, g.rows.toInt ≤ sumZ grR l := by
  induction l with
  | nil => simp
  | cons x l ih =>
    intro h g hg
    have h2 := sumZ_pos (f := grR) l (fun y hy => by have := h y (by simp [hy]); unfold grR; omega)
    have h1 := h x (by simp)
    rw [sumZ]
    rcases List.mem_cons.1 hg with rfl | hg
    · unfold grR at *; omega
    · have := ih (fun y hy => h y (by simp [hy])) g hg
      unfold grR at *; omega
/-- What was laid is read. -/
theorem ftrO_put {f : Ftr} (h : rightF f = true) : ftrO (ftrB f) = some f := by
  obtain ⟨h1, h2, h3, h4, h5, h6⟩ := rightF_is h
  have hg : ∀ g ∈ f.groups, 1 ≤ g.rows.toInt ∧ g.rows.toInt ≤ 65536 ∧ chunksOk g.rows.toInt f.cols g.chunks := fun g hg => by
    obtain ⟨e1, e2⟩ := h4 g hg
    have := grR_le (fun g hg => (h4 g hg).1) g hg
    exact ⟨e1, by omega, e2⟩
  have hlen := sumZ_len (f := grR) f.groups (fun g hg => (h4 g hg).1)
  have e0 : ftrB f = colsB f.cols ++ (nB f.rows ++ (putB f.groups.length ++ (f.groups.flatMap (grB f.cols) ++ []))) := by
    unfold ftrB
    simp [List.append_assoc]
  obtain ⟨e1, e2⟩ := nB_get (x := f.rows) (m := 65536) h2 h3 (putB f.groups.length ++ (f.groups.flatMap (grB f.cols) ++ []))
  have e3 : lenC (some (putB f.groups.length ++ (f.groups.flatMap (grB f.cols) ++ []))) 65536 = (f.groups.length, some (f.groups.flatMap (grB f.cols) ++ [])) := lenC_put (by omega) (by omega) _
  unfold ftrO
  rw [e0, colsG_put h1]
  simp only []
  rw [e1]
  simp only []
  rw [e3]
  simp only []
  rw [grsO_put f.groups hg [], e2]
  unfold endO
  simp only []
  rw [if_pos h]
/-- What is read is right, and was laid so. -/
theorem ftrO_inv {b : List UInt8} {f : Ftr} (h : ftrO b = some f) : rightF f = true ∧ ftrB f = b := by
  unfold ftrO at h
  split at h
  · cases h
  · rename_i r hr
    cases hc : (colsG (some b)).2 with
    | none => rw [hc, lenC_no] at hr; cases hr
    | some q =>
      rw [hc] at h hr
      cases hq : (lenC (some q) 65536).2 with
      | none => rw [hq, lenC_no] at hr; cases hr
      | some q2 =>
        rw [hq] at h hr
        obtain ⟨e1, e2⟩ := colsG_inv (show colsG (some b) = ((colsG (some b)).1, some q) by rw [← hc])
        obtain ⟨e3, e4, _⟩ := nB_inv (by omega) (show lenC (some q) 65536 = ((lenC (some q) 65536).1, some q2) by rw [← hq])
        obtain ⟨e5, _, _, _⟩ := lenC_inv (show lenC (some q2) 65536 = ((lenC (some q2) 65536).1, some r) by rw [← hr])
        injection e5 with e5
        generalize (colsG (some b)).1 = cols at *
        generalize Int64.ofInt ((lenC (some q) 65536).1 : Int) = rows at *
        generalize (lenC (some q2) 65536).1 = n at *
        unfold endO at h
        split at h
        · rename_i gs hgs
          split at h
          · rename_i hR
            injection h with h
            subst h
            obtain ⟨g1, g2⟩ := grsO_inv n r gs [] hgs
            refine ⟨hR, ?_⟩
            unfold ftrB
            simp only []
            rw [e2, e3, e5, g1, g2]
            simp [List.append_assoc]
          · cases h
        · cases h
end Go.Proofs.Ytcpimhefclfbaaa

namespace Go.Proofs.Ytcpimhefclfbaaa
open Go Go.RowKit
set_option maxRecDepth 10000
set_option linter.unusedVariables false
set_option linter.unusedSimpArgs false

/-- Pages' rows, from a row on. -/
def spansP : Int → List Pg → List (Int × Int)
  | _, [] => []
  | a, p :: l => (a, a + p.rows.toInt) :: spansP (a + p.rows.toInt) l
def rowsTo (f : Ftr) (g : Nat) : Int := sumZ grR (f.groups.take g)
/-- The rows of a chunk's pages. -/
def spansF (f : Ftr) (g c : Int) : List (Int × Int) :=
  if g < 0 ∨ f.groups.length ≤ g ∨ c < 0 ∨ f.cols.length ≤ c ∨ rightF f = false then []
  else spansP (rowsTo f g.toNat) (((f.groups.getD g.toNat default).chunks).getD c.toNat [])
theorem spansP_at (a : Int) : ∀ (l : List Pg) (k : Nat), (spansP a l)[k]? = (l[k]?).map (fun p => (a + sumZ pgR (l.take k), a + sumZ pgR (l.take k) + p.rows.toInt))
  | [], k => by simp [spansP]
  | p :: l, 0 => by simp [spansP, sumZ]
  | p :: l, k + 1 => by
    rw [spansP, List.getElem?_cons_succ, spansP_at _ l k, List.getElem?_cons_succ, List.take_succ_cons, sumZ]
    unfold pgR
    congr 1
    funext q
    simp only [Prod.mk.injEq]
    constructor <;> omega
theorem spansP_len (a : Int) (l : List Pg) : (spansP a l).length = l.length := by
  induction l generalizing a with
  | nil => rfl
  | cons p l ih => rw [spansP, List.length_cons, ih, List.length_cons]

/-- The place of a page, or what stands ahead of the others: found, or not. -/
def placeP (hit : Bool) (p : Int) : Nat → Int → List Pg → Bool × Int
  | _, at_, [] => (false, at_)
  | m, at_, y :: l => if hit = true ∧ (m : Int) = p then (true, at_) else placeP hit p (m + 1) (at_ + y.size.toInt) l
def placeC (hit : Bool) (c p : Int) : Nat → Int → List (List Pg) → Bool × Int
  | _, at_, [] => (false, at_)
  | k, at_, x :: l => if (placeP (hit && decide ((k : Int) = c)) p 0 at_ x).1 = true then placeP (hit && decide ((k : Int) = c)) p 0 at_ x
    else placeC hit c p (k + 1) (placeP (hit && decide ((k : Int) = c)) p 0 at_ x).2 l
def placeG (g c p : Int) : Nat → Int → List Grp → Bool × Int
  | _, at_, [] => (false, at_)
  | i, at_, x :: l => if (placeC (decide ((i : Int) = g)) c p 0 at_ x.chunks).1 = true then placeC (decide ((i : Int) = g)) c p 0 at_ x.chunks
    else placeG g c p (i + 1) (placeC (decide ((i : Int) = g)) c p 0 at_ x.chunks).2 l
/-- How many bytes stand ahead of a page. -/
def placeF (f : Ftr) (g c p : Int) : Int :=
  if rightF f = false then -1
  else if (placeG g c p 0 0 f.groups).1 = true then (placeG g c p 0 0 f.groups).2
  else if g = f.groups.length ∧ c = 0 ∧ p = 0 then (placeG g c p 0 0 f.groups).2 else -1

theorem placeP_is (hit : Bool) (p : Int) : ∀ (l : List Pg) (m : Nat) (a : Int), placeP hit p m a l = if hit = true ∧ (m : Int) ≤ p ∧ p < (m + l.length : Nat) then (true, a + chS (l.take (p - m).toNat)) else (false, a + chS l)
  | [], m, a => by
    rw [placeP, if_neg (by rintro ⟨_, h1, h2⟩; simp at h2; omega)]
    simp [chS, sumZ]
  | y :: l, m, a => by
    rw [placeP, placeP_is hit p l (m + 1)]
    by_cases hh : hit = true
    · by_cases hm : (m : Int) = p
      · rw [if_pos ⟨hh, hm⟩, if_pos ⟨hh, by omega, by simp; omega⟩, show (p - m).toNat = 0 from by omega]
        simp [chS, sumZ]
      · rw [if_neg (by simp [hm])]
        by_cases hr : (m : Int) + 1 ≤ p ∧ p < (m + 1 + l.length : Nat)
        · rw [if_pos ⟨hh, by omega, by omega⟩, if_pos ⟨hh, by omega, by simp; omega⟩, show (p - m).toNat = (p - ((m + 1 : Nat) : Int)).toNat + 1 from by omega, List.take_succ_cons]
          simp only [chS, sumZ, pgS]
          congr 1
          omega
        · rw [if_neg (by rintro ⟨_, h1, h2⟩; exact hr ⟨by omega, h2⟩), if_neg (by rintro ⟨_, h1, h2⟩; simp at h2; exact hr ⟨by omega, by omega⟩)]
          simp only [chS, sumZ, pgS]
          congr 1
          omega
    · rw [if_neg (by simp [hh]), if_neg (by simp [hh]), if_neg (by simp [hh])]
      simp only [chS, sumZ, pgS]
      congr 1
      omega
theorem placeC_is (hit : Bool) (c p : Int) : ∀ (l : List (List Pg)) (k : Nat) (a : Int), placeC hit c p k a l =
    if hit = true ∧ (k : Int) ≤ c ∧ c < (k + l.length : Nat) ∧ 0 ≤ p ∧ p < (l.getD (c - k).toNat []).length then (true, a + sumZ chS (l.take (c - k).toNat) + chS ((l.getD (c - k).toNat []).take p.toNat)) else (false, a + sumZ chS l)
  | [], k, a => by
    rw [placeC, if_neg (by rintro ⟨_, h1, h2, _⟩; simp at h2; omega)]
    simp [sumZ]
  | x :: l, k, a => by
    have e := placeP_is (hit && decide ((k : Int) = c)) p x 0 a
    have ih := placeC_is hit c p l (k + 1)
    rw [placeC]
    by_cases hh : hit = true ∧ (k : Int) = c
    · obtain ⟨hh, hk⟩ := hh
      subst hk
      by_cases hp : 0 ≤ p ∧ p < x.length
      · rw [if_pos ⟨by simp [hh], by omega, by omega⟩] at e
        rw [e]
        simp only [if_true]
        rw [if_pos ⟨hh, by omega, by simp; omega, hp.1, by rw [Int.sub_self]; simpa using hp.2⟩, Int.sub_self]
        simp [sumZ]
      · rw [if_neg (by rintro ⟨_, h1, h2⟩; exact hp ⟨by omega, by omega⟩)] at e
        rw [e]
        simp only [Bool.false_eq_true, if_false]
        rw [ih, if_neg (by omega), if_neg (by rintro ⟨_, _, _, h1, h2⟩; rw [Int.sub_self] at h2; exact hp ⟨h1, by simpa using h2⟩)]
        simp only [sumZ]
        congr 1
        omega
    · rw [if_neg (by rintro ⟨h1, _⟩; simp at h1; exact hh h1)] at e
      rw [e]
      simp only [Bool.false_eq_true, if_false]
      rw [ih]
      by_cases hr : (k : Int) + 1 ≤ c
      · rw [show (c - k).toNat = (c - ((k + 1 : Nat) : Int)).toNat + 1 from by omega, List.getD_cons_succ, List.take_succ_cons]
        by_cases hc : hit = true ∧ ((k + 1 : Nat) : Int) ≤ c ∧ c < (k + 1 + l.length : Nat) ∧ 0 ≤ p ∧ p < (l.getD (c - ((k + 1 : Nat) : Int)).toNat []).length
        · rw [if_pos hc, if_pos ⟨hc.1, by omega, by simp; omega, hc.2.2.2⟩]
          simp only [sumZ]
          congr 1
          omega
        · rw [if_neg hc, if_neg (by rintro ⟨h1, h2, h3, h4⟩; simp at h3; exact hc ⟨h1, by omega, by omega, h4⟩)]
          simp only [sumZ]
          congr 1
          omega
      · rw [if_neg (by omega), if_neg (by rintro ⟨h1, h2, _⟩; exact hh ⟨h1, by omega⟩)]
        simp only [sumZ]
        congr 1
        omega
theorem placeG_is (g c p : Int) : ∀ (l : List Grp) (i : Nat) (a : Int), placeG g c p i a l =
    if (i : Int) ≤ g ∧ g < (i + l.length : Nat) ∧ 0 ≤ c ∧ c < (l.getD (g - i).toNat default).chunks.length ∧ 0 ≤ p ∧ p < ((l.getD (g - i).toNat default).chunks.getD c.toNat []).length
    then (true, a + sumZ grS (l.take (g - i).toNat) + sumZ chS ((l.getD (g - i).toNat default).chunks.take c.toNat) + chS (((l.getD (g - i).toNat default).chunks.getD c.toNat []).take p.toNat)) else (false, a + sumZ grS l)
  | [], i, a => by
    rw [placeG, if_neg (by rintro ⟨h1, h2, _⟩; simp at h2; omega)]
    simp [sumZ]
  | x :: l, i, a => by
    have e := placeC_is (decide ((i : Int) = g)) c p x.chunks 0 a
    have ih := placeG_is g c p l (i + 1)
    rw [placeG]
    simp only [Nat.zero_add, Int.natCast_zero, Int.sub_zero] at e
    by_cases hi : (i : Int) = g
    · subst hi
      by_cases hp : 0 ≤ c ∧ c < x.chunks.length ∧ 0 ≤ p ∧ p < (x.chunks.getD c.toNat []).length
      · rw [if_pos ⟨by simp, hp⟩] at e
        rw [e]
        simp only [if_true]
        rw [if_pos (by rw [Int.sub_self]; exact ⟨by omega, by simp; omega, hp⟩), Int.sub_self]
        simp [sumZ]
      · rw [if_neg (by rintro ⟨_, h⟩; exact hp h)] at e
        rw [e]
        simp only [Bool.false_eq_true, if_false]
        rw [ih, if_neg (by omega), if_neg (by rw [Int.sub_self]; rintro ⟨_, _, h⟩; exact hp h)]
        simp only [sumZ, grS]
        congr 1
        omega
    · rw [if_neg (by rintro ⟨h1, _⟩; exact hi (of_decide_eq_true h1))] at e
      rw [e]
      simp only [Bool.false_eq_true, if_false]
      rw [ih]
      by_cases hr : (i : Int) + 1 ≤ g
      · rw [show (g - i).toNat = (g - ((i + 1 : Nat) : Int)).toNat + 1 from by omega, List.getD_cons_succ, List.take_succ_cons]
        by_cases hc : ((i + 1 : Nat) : Int) ≤ g ∧ g < (i + 1 + l.length : Nat) ∧ 0 ≤ c ∧ c < (l.getD (g - ((i + 1 : Nat) : Int)).toNat default).chunks.length ∧ 0 ≤ p ∧ p < ((l.getD (g - ((i + 1 : Nat) : Int)).toNat default).chunks.getD c.toNat []).length
        · rw [if_pos hc, if_pos ⟨by omega, by simp; omega, hc.2.2⟩]
          simp only [sumZ, grS]
          congr 1
          omega
        · rw [if_neg hc, if_neg (by rintro ⟨h1, h2, h3⟩; simp at h2; exact hc ⟨by omega, by omega, h3⟩)]
          simp only [sumZ, grS]
          congr 1
          omega
      · rw [if_neg (by omega), if_neg (by omega)]
        simp only [sumZ, grS]
        congr 1
        omega
end Go.Proofs.Ytcpimhefclfbaaa

namespace Go.Proofs.Ytcpimhefclfbaaa
open Go Go.RowKit
set_option maxRecDepth 10000
set_option linter.unusedVariables false
set_option linter.unusedSimpArgs false

abbrev pgVal (p : Pg) : Value := .agg #[.int .i64 p.size.toInt, .int .i64 p.rows.toInt, .int .i64 p.stat.nulls.toInt, .bool p.stat.has, .bool p.stat.min.null, .int .i64 p.stat.min.int.toInt, .string p.stat.min.text, .int .i64 p.stat.min.x.toInt, .int .i64 p.stat.min.y.toInt, .bool p.stat.max.null, .int .i64 p.stat.max.int.toInt, .string p.stat.max.text, .int .i64 p.stat.max.x.toInt, .int .i64 p.stat.max.y.toInt]
def PgsR (X : List Nat) (w : World) (v : Value) (l : List Pg) : Prop := ∃ A c, v = .slice A l.length c ∧ Rd X w 14 A l.length c (l.flatMap Pg.cs)
def ChsR (X : List Nat) (w : World) (v : Value) (ls : List (List Pg)) : Prop := ∃ A c, ∃ vs : List Value, v = .slice A ls.length c ∧ vs.length = ls.length ∧ Rd X w 1 A ls.length c vs ∧ ∀ k (h : k < ls.length) (h' : k < vs.length), PgsR X w vs[k] ls[k]
def grC (x : Grp × Value) : List Value := [vI x.1.rows, x.2]
theorem grC_len (x : Grp × Value) : (grC x).length = 2 := rfl
def GrsR (X : List Nat) (w : World) (v : Value) (gs : List Grp) : Prop := ∃ A c, ∃ vs : List Value, v = .slice A gs.length c ∧ vs.length = gs.length ∧ Rd X w 2 A gs.length c ((gs.zip vs).flatMap grC) ∧ ∀ k (h : k < gs.length) (h' : k < vs.length), ChsR X w vs[k] gs[k].chunks
def FtrR (X : List Nat) (w : World) (v : Value) (f : Ftr) : Prop := ∃ A c G, v = .agg #[.slice A f.cols.length c, .int .i64 f.rows.toInt, G] ∧ Cols X w A f.cols.length c f.cols ∧ GrsR X w G f.groups ∧ ∀ x ∈ f.cols, x.name.size ≤ maxLen

theorem Keep.cell {w w' : World} {a : Addr} {u : Value} (h : Keep [] w w') (hc : w.cell? a = some u) : w'.cell? a = some u :=
  (World.cell?_of_block (h.block a.block (World.block_lt_of_cell? w a hc) (by simp))).trans hc
section
variable {X Y M : List Nat} {w w' : World} {v : Value}
theorem PgsR.keep {l : List Pg} (h : PgsR X w v l) (hk : Keep M w w') (hM : ∀ b ∈ M, b ∈ X ∨ w.heap.size ≤ b) : PgsR X w' v l := by
  obtain ⟨A, c, e, hr⟩ := h
  exact ⟨A, c, e, hr.keep hk hM⟩
theorem ChsR.keep {l : List (List Pg)} (h : ChsR X w v l) (hk : Keep M w w') (hM : ∀ b ∈ M, b ∈ X ∨ w.heap.size ≤ b) : ChsR X w' v l := by
  obtain ⟨A, c, vs, e, hl, hr, hp⟩ := h
  exact ⟨A, c, vs, e, hl, hr.keep hk hM, fun k h h' => (hp k h h').keep hk hM⟩
theorem GrsR.keep {l : List Grp} (h : GrsR X w v l) (hk : Keep M w w') (hM : ∀ b ∈ M, b ∈ X ∨ w.heap.size ≤ b) : GrsR X w' v l := by
  obtain ⟨A, c, vs, e, hl, hr, hp⟩ := h
  exact ⟨A, c, vs, e, hl, hr.keep hk hM, fun k h h' => (hp k h h').keep hk hM⟩
theorem FtrR.keep {f : Ftr} (h : FtrR X w v f) (hk : Keep M w w') (hM : ∀ b ∈ M, b ∈ X ∨ w.heap.size ≤ b) : FtrR X w' v f := by
  obtain ⟨A, c, G, e, hc, hg, ht⟩ := h
  exact ⟨A, c, G, e, hc.keep hk hM, hg.keep hk hM, ht⟩
theorem PgsR.pure {l : List Pg} (h : PgsR X w v l) (hk : Keep [] w w') : PgsR X w' v l := h.keep hk (by simp)
theorem ChsR.pure {l : List (List Pg)} (h : ChsR X w v l) (hk : Keep [] w w') : ChsR X w' v l := h.keep hk (by simp)
theorem GrsR.pure {l : List Grp} (h : GrsR X w v l) (hk : Keep [] w w') : GrsR X w' v l := h.keep hk (by simp)
theorem FtrR.pure {f : Ftr} (h : FtrR X w v f) (hk : Keep [] w w') : FtrR X w' v f := h.keep hk (by simp)

theorem PgsR.at14 {A : Option Addr} {n c : Nat} {l : List Pg} (h : PgsR X w (.slice A n c) l) {k : Nat} (hk : k < l.length) :
    ∃ b off, A = some ⟨b, off, none⟩ ∧ b < w.heap.size ∧ b ∉ X ∧
      (w.cell? ⟨b, off + k * 14, none⟩ = some (.int .i64 l[k].size.toInt) ∧ w.cell? ⟨b, off + k * 14 + 1, none⟩ = some (.int .i64 l[k].rows.toInt)) ∧
      (w.cell? ⟨b, off + k * 14 + 2, none⟩ = some (.int .i64 l[k].stat.nulls.toInt) ∧ w.cell? ⟨b, off + k * 14 + 3, none⟩ = some (.bool l[k].stat.has)) ∧
      (w.cell? ⟨b, off + k * 14 + 4, none⟩ = some (.bool l[k].stat.min.null) ∧ w.cell? ⟨b, off + k * 14 + 5, none⟩ = some (.int .i64 l[k].stat.min.int.toInt) ∧ w.cell? ⟨b, off + k * 14 + 6, none⟩ = some (.string l[k].stat.min.text) ∧
        w.cell? ⟨b, off + k * 14 + 7, none⟩ = some (.int .i64 l[k].stat.min.x.toInt) ∧ w.cell? ⟨b, off + k * 14 + 8, none⟩ = some (.int .i64 l[k].stat.min.y.toInt)) ∧
      (w.cell? ⟨b, off + k * 14 + 9, none⟩ = some (.bool l[k].stat.max.null) ∧ w.cell? ⟨b, off + k * 14 + 10, none⟩ = some (.int .i64 l[k].stat.max.int.toInt) ∧ w.cell? ⟨b, off + k * 14 + 11, none⟩ = some (.string l[k].stat.max.text) ∧
        w.cell? ⟨b, off + k * 14 + 12, none⟩ = some (.int .i64 l[k].stat.max.x.toInt) ∧ w.cell? ⟨b, off + k * 14 + 13, none⟩ = some (.int .i64 l[k].stat.max.y.toInt)) := by
  obtain ⟨A', c', e, hr⟩ := h
  cases e
  obtain ⟨b, off, rfl, hlt, hb, hc⟩ := Rd.at_ hr hk
  have hg : ∀ j, j < 14 → w.cell? ⟨b, off + k * 14 + j, none⟩ = l[k].cs[j]? := fun j hj => by
    rw [Nat.add_assoc, hc j hj, flat_get Pg.len l k j hk hj]
  refine ⟨b, off, rfl, hlt, hb, ⟨hg 0 (by omega), hg 1 (by omega)⟩, ⟨hg 2 (by omega), hg 3 (by omega)⟩, ⟨hg 4 (by omega), hg 5 (by omega), hg 6 (by omega), hg 7 (by omega), hg 8 (by omega)⟩, ⟨hg 9 (by omega), hg 10 (by omega), hg 11 (by omega), hg 12 (by omega), hg 13 (by omega)⟩⟩
theorem PgsR.len {A : Option Addr} {n c : Nat} {l : List Pg} (h : PgsR X w (.slice A n c) l) : l.length = n ∧ n ≤ c ∧ c ≤ maxLen := by
  obtain ⟨A', c', e, hr⟩ := h
  cases e
  exact ⟨rfl, hr.2.1, hr.2.2.1⟩
theorem ChsR.form {l : List (List Pg)} (h : ChsR X w v l) : ∃ A c, v = .slice A l.length c ∧ l.length ≤ c ∧ c ≤ maxLen := by
  obtain ⟨A, c, vs, e, hl, hr, hp⟩ := h
  exact ⟨A, c, e, hr.2.1, hr.2.2.1⟩
theorem GrsR.form {l : List Grp} (h : GrsR X w v l) : ∃ A c, v = .slice A l.length c ∧ l.length ≤ c ∧ c ≤ maxLen := by
  obtain ⟨A, c, vs, e, hl, hr, hp⟩ := h
  exact ⟨A, c, e, hr.2.1, hr.2.2.1⟩
theorem ChsR.at_ {A : Option Addr} {n c : Nat} {l : List (List Pg)} (h : ChsR X w (.slice A n c) l) {k : Nat} (hk : k < l.length) :
    ∃ b off A' c', A = some ⟨b, off, none⟩ ∧ w.cell? ⟨b, off + k, none⟩ = some (.slice A' l[k].length c') ∧ PgsR X w (.slice A' l[k].length c') l[k] ∧ l[k].length ≤ c' ∧ c' ≤ maxLen := by
  obtain ⟨A', c', vs, e, hl, hr, hp⟩ := h
  cases e
  obtain ⟨b, off, rfl, hlt, hb, hc⟩ := Rd.at_ hr hk
  have h1 := hp k hk (by omega)
  have h2 := hc 0 (by omega)
  obtain ⟨A2, c2, e2, hr2⟩ := h1
  rw [Nat.mul_one, Nat.add_zero, List.getElem?_eq_getElem (by omega), e2] at h2
  exact ⟨b, off, A2, c2, rfl, h2, ⟨A2, c2, rfl, hr2⟩, hr2.2.1, hr2.2.2.1⟩
theorem GrsR.at_ {A : Option Addr} {n c : Nat} {l : List Grp} (h : GrsR X w (.slice A n c) l) {k : Nat} (hk : k < l.length) :
    ∃ b off A' c', A = some ⟨b, off, none⟩ ∧ w.cell? ⟨b, off + k * 2, none⟩ = some (.int .i64 l[k].rows.toInt) ∧ w.cell? ⟨b, off + k * 2 + 1, none⟩ = some (.slice A' l[k].chunks.length c') ∧ ChsR X w (.slice A' l[k].chunks.length c') l[k].chunks ∧ l[k].chunks.length ≤ c' ∧ c' ≤ maxLen := by
  obtain ⟨A', c', vs, e, hl, hr, hp⟩ := h
  cases e
  obtain ⟨b, off, rfl, hlt, hb, hc⟩ := Rd.at_ hr hk
  have h1 := hp k hk (by omega)
  have hz : k < (l.zip vs).length := by simp; omega
  have hg : ∀ j, j < 2 → w.cell? ⟨b, off + k * 2 + j, none⟩ = (grC (l.zip vs)[k])[j]? := fun j hj => by
    rw [Nat.add_assoc, hc j hj, flat_get grC_len _ k j hz hj]
  obtain ⟨A2, c2, e2, h3, h4⟩ := h1.form
  rw [e2] at h1
  refine ⟨b, off, A2, c2, rfl, ?_, ?_, h1, h3, h4⟩
  · have := hg 0 (by omega)
    simpa [grC, vI] using this
  · have := hg 1 (by omega)
    simpa [grC, e2] using this
end
end Go.Proofs.Ytcpimhefclfbaaa

namespace Go.Proofs.Ytcpimhefclfbaaa
open Go Go.RowKit
set_option maxRecDepth 10000
set_option linter.unusedVariables false
set_option linter.unusedSimpArgs false

abbrev Got (α : Type) := Option (List α × List UInt8)
def aheadG {α : Type} (q : List α) : Got α → Got α
  | none => none
  | some x => some (q ++ x.1, x.2)
/-- What comes of it, in a cursor's state. -/
def Sts (V : Option Ftr) (f : List UInt8 → Option Ftr) : Option (List UInt8) → Prop
  | none => V = none
  | some b => V = f b
theorem Sts.some {V : Option Ftr} {f : List UInt8 → Option Ftr} {b : List UInt8} (h : Sts V f (.some b)) : V = f b := h
theorem Sts.len {V : Option Ftr} {f : Nat → List UInt8 → Option Ftr} {most : Int} {s : Option (List UInt8)} (h : Sts V (fun b => match (lenC (.some b) most).2 with | none => none | .some r => f (lenC (.some b) most).1 r) s) :
    Sts V (f (lenC s most).1) (lenC s most).2 := by
  cases s with
  | none =>
    rw [lenC_no]
    exact h
  | some b =>
    have h := h.some
    cases hs : (lenC (.some b) most).2 with
    | none => rw [hs] at h; exact h
    | some r => rw [hs] at h; exact h
theorem getS_no (typ : Int) : (getS typ none).2 = none := by
  unfold getS
  rw [lenC_no]
  simp only []
  rw [show byteC none = 0 from rfl]
  simp [takeC_none]
theorem pgG_no (typ : Int) : (pgG typ none).2 = none := by
  unfold pgG
  rw [lenC_no]
  simp only []
  rw [lenC_no]
  exact getS_no typ
/-- Pages. -/
theorem Sts.page {V : Option Ftr} {T : Got Pg → Option Ftr} {typ : Int} {q : List Pg} {m : Nat} {s : Option (List UInt8)} (hT : T none = none) (h : Sts V (fun b => T (aheadG q (pgsO typ (m + 1) b))) s) :
    Sts V (fun b => T (aheadG (q ++ [(pgG typ s).1]) (pgsO typ m b))) (pgG typ s).2 := by
  cases s with
  | none => rw [pgG_no]; exact h
  | some b =>
    have h := h.some
    rw [pgsO] at h
    cases hs : (pgG typ (.some b)).2 with
    | none => rw [hs] at h; simp only [aheadG] at h; rw [hT] at h; exact h
    | some r =>
      rw [hs] at h
      simp only [] at h
      show V = T (aheadG (q ++ [(pgG typ (.some b)).1]) (pgsO typ m r))
      rw [h]
      cases pgsO typ m r with
      | none => rfl
      | some x => simp [aheadG]
theorem aheadG_zero {q : List Pg} {typ : Int} (b : List UInt8) : aheadG q (pgsO typ 0 b) = .some (q, b) := by simp [aheadG, pgsO]
/-- A chunk. -/
theorem Sts.chunk {V : Option Ftr} {T : Got (List Pg) → Option Ftr} {ls : List (List Pg)} {cols : List Col} {j : Nat} {s : Option (List UInt8)} (hj : j < cols.length) (hT : T none = none) (h : Sts V (fun b => T (aheadG ls (chsO (cols.drop j) b))) s) :
    ∃ T3 : Got Pg → Option Ftr, T3 none = none ∧ (∀ l b, T3 (.some (l, b)) = T (aheadG (ls ++ [l]) (chsO (cols.drop (j + 1)) b))) ∧ Sts V (fun b => T3 (aheadG [] (pgsO cols[j].typ.toInt (lenC s 65536).1 b))) (lenC s 65536).2 := by
  refine ⟨fun o => match o with | none => none | .some x => T (aheadG (ls ++ [x.1]) (chsO (cols.drop (j + 1)) x.2)), rfl, fun _ _ => rfl, ?_⟩
  have key : Sts V (fun b => match (lenC (.some b) 65536).2 with | none => none | .some r => (fun o : Got Pg => match o with | none => none | .some x => T (aheadG (ls ++ [x.1]) (chsO (cols.drop (j + 1)) x.2))) (aheadG [] (pgsO cols[j].typ.toInt (lenC (.some b) 65536).1 r))) s := by
    cases s with
    | none => exact h
    | some b =>
      have h := h.some
      show V = _
      rw [h, List.drop_eq_getElem_cons hj, chsO, chO]
      simp only []
      cases (lenC (.some b) 65536).2 with
      | none => simp only [aheadG]; exact hT
      | some r =>
        simp only []
        cases pgsO cols[j].typ.toInt (lenC (.some b) 65536).1 r with
        | none => simp only [aheadG]; exact hT
        | some x =>
          simp only [aheadG, List.nil_append]
          cases chsO (cols.drop (j + 1)) x.2 with
          | none => simp only [aheadG]
          | some y => simp [aheadG]
  exact Sts.len (f := fun n r => (fun o : Got Pg => match o with | none => none | .some x => T (aheadG (ls ++ [x.1]) (chsO (cols.drop (j + 1)) x.2))) (aheadG [] (pgsO cols[j].typ.toInt n r))) key
/-- A group. -/
theorem Sts.group {V : Option Ftr} {T : Got Grp → Option Ftr} {gs : List Grp} {cols : List Col} {m : Nat} {s : Option (List UInt8)} (hT : T none = none) (h : Sts V (fun b => T (aheadG gs (grsO cols (m + 1) b))) s) :
    ∃ T2 : Got (List Pg) → Option Ftr, T2 none = none ∧ (∀ l b, T2 (.some (l, b)) = T (aheadG (gs ++ [⟨Int64.ofInt (lenC s 65536).1, l⟩]) (grsO cols m b))) ∧ Sts V (fun b => T2 (aheadG [] (chsO (cols.drop 0) b))) (lenC s 65536).2 := by
  refine ⟨fun o => match o with | none => none | .some x => T (aheadG (gs ++ [⟨Int64.ofInt (lenC s 65536).1, x.1⟩]) (grsO cols m x.2)), rfl, fun _ _ => rfl, ?_⟩
  have key : Sts V (fun b => match (lenC (.some b) 65536).2 with | none => none | .some r => (fun o : Got (List Pg) => match o with | none => none | .some x => T (aheadG (gs ++ [⟨Int64.ofInt (lenC (.some b) 65536).1, x.1⟩]) (grsO cols m x.2))) (aheadG [] (chsO (cols.drop 0) r))) s := by
    cases s with
    | none => exact h
    | some b =>
      have h := h.some
      show V = _
      rw [h, grsO, grO, List.drop_zero]
      simp only []
      cases (lenC (.some b) 65536).2 with
      | none => simp only [aheadG]; exact hT
      | some r =>
        simp only []
        cases chsO cols r with
        | none => simp only [aheadG]; exact hT
        | some x =>
          simp only [aheadG, List.nil_append]
          cases grsO cols m x.2 with
          | none => simp only [aheadG]
          | some y => simp [aheadG]
  exact Sts.len (f := fun n r => (fun o : Got (List Pg) => match o with | none => none | .some x => T (aheadG (gs ++ [⟨Int64.ofInt n, x.1⟩]) (grsO cols m x.2))) (aheadG [] (chsO (cols.drop 0) r))) key
theorem endO_none (cols : List Col) (rows : Int64) : endO cols rows none = none := rfl
/-- At the start. -/
theorem ftrO_start (b : List UInt8) : Sts (ftrO b) (fun r => endO (colsG (.some b)).1 (Int64.ofInt (lenC (colsG (.some b)).2 65536).1) (aheadG [] (grsO (colsG (.some b)).1 (lenC (lenC (colsG (.some b)).2 65536).2 65536).1 r))) (lenC (lenC (colsG (.some b)).2 65536).2 65536).2 := by
  unfold ftrO
  cases (lenC (lenC (colsG (.some b)).2 65536).2 65536).2 with
  | none => rfl
  | some r =>
    show endO _ _ _ = endO _ _ _
    cases grsO (colsG (.some b)).1 (lenC (lenC (colsG (.some b)).2 65536).2 65536).1 r with
    | none => rfl
    | some x => simp [aheadG]
/-- At the end. -/
theorem Sts.done {V : Option Ftr} {cols : List Col} {rows : Int64} {gs : List Grp} {s : Option (List UInt8)} (h : Sts V (fun b => endO cols rows (aheadG gs (grsO cols 0 b))) s) :
    V = if s = .some [] ∧ rightF ⟨cols, rows, gs⟩ = true then .some ⟨cols, rows, gs⟩ else none := by
  cases s with
  | none => rw [if_neg (by simp)]; exact h
  | some b =>
    have h := h.some
    rw [h]
    simp only [grsO, aheadG, List.append_nil]
    cases b with
    | nil =>
      simp only [endO, true_and]
    | cons x l =>
      rw [if_neg (by simp)]
      rfl
end Go.Proofs.Ytcpimhefclfbaaa
