/-
  Cells of tables, as they lie in memory; slices of structs whose fields are of one cell each.
  Cells are compared.
  Cells as values, their equality; the laws of layer 7 in plain words.
  The walks of layer 7's functions: what a cell is, plainly; which may stand in a column.
  The walks of layer 7's functions: which cells may stand in a column.
  The walks of layer 7's functions: the order of cells.
  The walks of the reference's layer 7: which cells may stand in a column, the order of cells.
  The walks of the reference's layer 7: the order of cells.
-/
import Derived.Laws.StructEq
import Derived.WalkLawsBesides
import Derived.Laws.Cover1
import Derived.Test.YtcpimhefclfbaaaFA
import Derived.Test.YtcpimhefclfbaaaProg
import Derived.Test.YtcpimhefclfbaaaFPt
namespace Go.Proofs.Ytcpimhefclfbaaa
open Go Go.RowKit

/-- A table's cell. -/
structure Cell where
  null : Bool
  int : Int64
  text : ByteArray
  x : Int64
  y : Int64
  deriving DecidableEq, Inhabited

def vI (i : Int64) : Value := .int .i64 i.toInt
theorem i64_lo (i : Int64) : -9223372036854775808 ≤ i.toInt := Int64.minValue_le_toInt i
theorem i64_hi (i : Int64) : i.toInt ≤ 9223372036854775807 := Int64.toInt_le i
def Cell.cs (c : Cell) : List Value := [.bool c.null, vI c.int, .string c.text, vI c.x, vI c.y]
def Cell.val (c : Cell) : Value := .agg c.cs.toArray
/-- A cell as a value, written out. -/
abbrev cellVal (c : Cell) : Value := .agg #[.bool c.null, .int .i64 c.int.toInt, .string c.text, .int .i64 c.x.toInt, .int .i64 c.y.toInt]
theorem Cell.len (c : Cell) : c.cs.length = 5 := rfl
theorem Cell.one (c : Cell) : ∀ u ∈ c.cs, u.oneCell' = true := by simp [Cell.cs, vI, Value.oneCell']
theorem Cell.cs_inj {a b : Cell} (h : a.cs = b.cs) : a = b := by
  cases a; cases b
  simp only [Cell.cs, vI, List.cons.injEq, Value.bool.injEq, Value.int.injEq, Value.string.injEq, true_and, and_true] at h
  obtain ⟨rfl, h2, rfl, h4, h5⟩ := h
  rw [Int64.toInt_inj.1 h2, Int64.toInt_inj.1 h4, Int64.toInt_inj.1 h5]
/-- The cell that is null. -/
def Cell.nil : Cell := ⟨true, 0, ByteArray.empty, 0, 0⟩
/-- The zero cell. -/
def Cell.zero : Cell := ⟨false, 0, ByteArray.empty, 0, 0⟩

/-! ### elements of several cells, each -/
section
variable {α : Type} {enc : α → List Value} {n : Nat}
theorem flat_len (hl : ∀ a, (enc a).length = n) (l : List α) : (l.flatMap enc).length = l.length * n := by
  induction l with
  | nil => simp
  | cons a l ih => rw [List.flatMap_cons, List.length_append, ih, hl, List.length_cons, Nat.add_mul]; omega
theorem flat_get (hl : ∀ a, (enc a).length = n) : ∀ (l : List α) (k j : Nat) (hk : k < l.length), j < n → (l.flatMap enc)[k * n + j]? = (enc l[k])[j]?
  | [], _, _, hk, _ => absurd hk (by simp)
  | a :: l, 0, j, _, hj => by
    rw [List.flatMap_cons, List.getElem?_append_left (by rw [hl]; omega)]
    simp
  | a :: l, k + 1, j, hk, hj => by
    rw [List.flatMap_cons, List.getElem?_append_right (by rw [hl, Nat.add_mul]; omega), hl]
    have := flat_get hl l k j (by simpa using hk) hj
    rw [show (k + 1) * n + j - n = k * n + j from by rw [Nat.add_mul]; omega, this]
    rfl
theorem flat_one (h1 : ∀ a, ∀ u ∈ enc a, u.oneCell' = true) (l : List α) : ∀ u ∈ l.flatMap enc, u.oneCell' = true := by
  intro u hu
  obtain ⟨a, _, ha⟩ := List.mem_flatMap.1 hu
  exact h1 a u ha
theorem flat_take (hl : ∀ a, (enc a).length = n) : ∀ (l : List α) (k : Nat), (l.flatMap enc).take (k * n) = (l.take k).flatMap enc
  | [], _ => by simp
  | a :: l, 0 => by simp
  | a :: l, k + 1 => by
    rw [List.flatMap_cons, List.take_succ_cons, List.flatMap_cons, List.take_append, hl, List.take_of_length_le (by rw [hl, Nat.add_mul]; omega)]
    rw [show (k + 1) * n - n = k * n from by rw [Nat.add_mul]; omega, flat_take hl l k]
theorem flat_drop (hl : ∀ a, (enc a).length = n) : ∀ (l : List α) (k : Nat), (l.flatMap enc).drop (k * n) = (l.drop k).flatMap enc
  | [], _ => by simp
  | a :: l, 0 => by simp
  | a :: l, k + 1 => by
    rw [List.flatMap_cons, List.drop_succ_cons, List.drop_append, hl, List.drop_of_length_le (by rw [hl, Nat.add_mul]; omega)]
    rw [show (k + 1) * n - n = k * n from by rw [Nat.add_mul]; omega, flat_drop hl l k]
    rfl
theorem Rd.lenF {X : List Nat} {w : World} {A : Option Addr} {m c : Nat} {l : List α} (hl : ∀ a, (enc a).length = n) (h : Rd X w n A m c (l.flatMap enc)) (hn : 0 < n) : l.length = m := by
  have := h.1
  rw [flat_len hl] at this
  exact Nat.eq_of_mul_eq_mul_right hn this
theorem Rd.dropF {X : List Nat} {w : World} {A : Option Addr} {m c k d : Nat} {l : List α} (hl : ∀ a, (enc a).length = n) (h : Rd X w n A m c (l.flatMap enc)) (hk : k ≤ m) (hd : d = c - k) :
    Rd X w n (if c = k then A else A.map (·.add (k * n))) (m - k) d ((l.drop k).flatMap enc) := by
  have := Rd.cut_low h hk hd
  rwa [flat_drop hl] at this
theorem Rd.takeF {X : List Nat} {w : World} {A : Option Addr} {m c k : Nat} {l : List α} (hl : ∀ a, (enc a).length = n) (h : Rd X w n A m c (l.flatMap enc)) (hk : k ≤ m) : Rd X w n A k c ((l.take k).flatMap enc) := by
  have := Rd.cut_high h hk
  rwa [flat_take hl] at this
end

/-- What a slice of cells holds. -/
abbrev Cells (X : List Nat) (w : World) (A : Option Addr) (n c : Nat) (l : List Cell) : Prop := Rd X w 5 A n c (l.flatMap Cell.cs)

theorem Cells.len {X : List Nat} {w : World} {A : Option Addr} {n c : Nat} {l : List Cell} (h : Cells X w A n c l) : l.length = n := Rd.lenF Cell.len h (by omega)
theorem Cells.at5 {X : List Nat} {w : World} {A : Option Addr} {n c k : Nat} {l : List Cell} (h : Cells X w A n c l) (hk : k < l.length) :
    ∃ b off, A = some ⟨b, off, none⟩ ∧ b < w.heap.size ∧ b ∉ X ∧ w.cell? ⟨b, off + k * 5, none⟩ = some (.bool l[k].null) ∧ w.cell? ⟨b, off + k * 5 + 1, none⟩ = some (.int .i64 l[k].int.toInt) ∧
      w.cell? ⟨b, off + k * 5 + 2, none⟩ = some (.string l[k].text) ∧ w.cell? ⟨b, off + k * 5 + 3, none⟩ = some (.int .i64 l[k].x.toInt) ∧ w.cell? ⟨b, off + k * 5 + 4, none⟩ = some (.int .i64 l[k].y.toInt) := by
  obtain ⟨b, off, rfl, hlt, hb, hc⟩ := Rd.at_ h (k := k) (by have := h.len; omega)
  refine ⟨b, off, rfl, hlt, hb, ?_, ?_, ?_, ?_, ?_⟩
  · have := hc 0 (by omega)
    rw [flat_get Cell.len l k 0 hk (by omega)] at this
    exact this
  · have := hc 1 (by omega)
    rw [flat_get Cell.len l k 1 hk (by omega)] at this
    exact this
  · have := hc 2 (by omega)
    rw [flat_get Cell.len l k 2 hk (by omega)] at this
    exact this
  · have := hc 3 (by omega)
    rw [flat_get Cell.len l k 3 hk (by omega)] at this
    exact this
  · have := hc 4 (by omega)
    rw [flat_get Cell.len l k 4 hk (by omega)] at this
    exact this
end Go.Proofs.Ytcpimhefclfbaaa

namespace Go.Proofs.Ytcpimhefclfbaaa
open Go Go.RowKit
set_option maxRecDepth 10000
set_option linter.unusedVariables false
set_option linter.unusedSimpArgs false

theorem Cell.ext' {x y : Cell} (h0 : x.null = y.null) (h1 : x.int.toInt = y.int.toInt) (h2 : x.text = y.text) (h3 : x.x.toInt = y.x.toInt) (h4 : x.y.toInt = y.y.toInt) : x = y := by
  cases x; cases y
  simp only [Int64.toInt_inj] at h1 h3 h4
  simp_all
theorem text_eq (a b : ByteArray) : a.toList = b.toList ↔ a = b :=
  ⟨fun e => by
    cases a; cases b
    simp only [ByteArray.toList_eq, Array.toList_inj] at e
    exact congrArg _ e, fun e => by rw [e]⟩

theorem equal_cell (d : Nat) (a b : Bool) (i j : Int) (s t : ByteArray) (x y u v : Int) (w : World) : (Op.equalIn (d + 3) 50 (.agg #[.bool a, .int .i64 i, .string s, .int .i64 x, .int .i64 y]) (.agg #[.bool b, .int .i64 j, .string t, .int .i64 u, .int .i64 v])).run Try.prog w =
    .ok (a == b && (i == j && (decide (s = t) && (x == u && y == v)))) w := by
  have hu : Try.prog.underlying 50 = some (.struct (Try.prog.fieldsOf 50)) := by kernel_rfl
  rw [run_equalIn_agg w (d + 2) _ _ _ hu Try.stoodInHeld50]
  simp only [Program.fieldsOf, Try.underlying50]
  go_simp
  simp only [text_eq]
  by_cases h1 : a = b <;> by_cases h2 : i = j <;> by_cases h3 : s = t <;> by_cases h4 : x = u <;> by_cases h5 : y = v <;> simp [h1, h2, h3, h4, h5]
theorem neq_cell_raw (a b : Bool) (i j : Int) (s t : ByteArray) (x y u v : Int) (w : World) : (binOp .neq 50 (.agg #[.bool a, .int .i64 i, .string s, .int .i64 x, .int .i64 y]) (.agg #[.bool b, .int .i64 j, .string t, .int .i64 u, .int .i64 v])).run Try.prog w =
    .ok (.bool (!(a == b && (i == j && (decide (s = t) && (x == u && y == v)))))) w := by
  rw [run_neq_struct, show (10000 : Nat) = 9997 + 3 from rfl, equal_cell]
  rfl

theorem neq_cell (x y : Cell) (w : World) : (binOp .neq 50 (cellVal x) (cellVal y)).run Try.prog w = .ok (.bool (decide (x ≠ y))) w := by
  rw [cellVal, cellVal, neq_cell_raw]
  congr 2
  by_cases h : x = y
  · subst h; simp
  · rw [decide_eq_true h]
    apply Classical.byContradiction
    intro hc
    simp at hc
    exact h (Cell.ext' hc.1 hc.2.1 hc.2.2.1 hc.2.2.2.1 hc.2.2.2.2)

theorem same_cell (x y : Cell) : (x.null == y.null && (x.int.toInt == y.int.toInt && (decide (x.text = y.text) && (x.x.toInt == y.x.toInt && x.y.toInt == y.y.toInt)))) = decide (x = y) := by
  by_cases h : x = y
  · subst h; simp
  · rw [decide_eq_false h]
    apply Classical.byContradiction
    intro hc
    simp at hc
    exact h (Cell.ext' hc.1 hc.2.1 hc.2.2.1 hc.2.2.2.1 hc.2.2.2.2)
theorem eql_cell (x y : Cell) (w : World) : (binOp .eql 50 (cellVal x) (cellVal y)).run Try.prog w = .ok (.bool (decide (x = y))) w := by
  rw [cellVal, cellVal, run_eql_struct, show (10000 : Nat) = 9997 + 3 from rfl, equal_cell, same_cell]
  rfl

end Go.Proofs.Ytcpimhefclfbaaa

namespace Go.Proofs.Ytcpimhefclfbaaa
open Go Go.RowKit
set_option maxRecDepth 10000
set_option linter.unusedVariables false
set_option linter.unusedSimpArgs false


/-! ### layer 7 in plain words -/
/-- What a cell would be with no more in it than its type names. -/
def plainC (typ : Int) (c : Cell) : Cell := if typ = 0 ∨ typ = 1 then ⟨false, c.int, ByteArray.empty, 0, 0⟩ else if typ = 2 then ⟨false, 0, c.text, 0, 0⟩ else ⟨false, 0, ByteArray.empty, c.x, c.y⟩
def known (typ : Int) : Bool := decide (0 ≤ typ) && decide (typ < 4)
/-- May a cell stand in a column? -/
def rightC (typ : Int) (nl : Bool) (c : Cell) : Bool :=
  if known typ = false ∨ c.null = true then decide (c = Cell.nil) && nl
  else decide (c = plainC typ c) && decide (c.text.size ≤ 65536) && ptRight c.x.toInt c.y.toInt && (decide (typ ≠ 1) || decide (c.int.toInt = 0) || decide (c.int.toInt = 1))
/-- The order of cells. -/
def cmpC (typ : Int) (a b : Cell) : Int :=
  if a.null = true then (if b.null = true then 0 else -1) else if b.null = true then 1
  else if typ = 0 ∨ typ = 1 then cmpZ a.int.toInt b.int.toInt else if typ = 2 then cmpS a.text b.text
  else if typ = 3 then cmpP a.x.toInt a.y.toInt b.x.toInt b.y.toInt else 0
/-- Its point is near. -/
def Cell.near (c : Cell) : Prop := nearZ c.x.toInt ∧ nearZ c.y.toInt

theorem near_of_ptRight {x y : Int} (h : ptRight x y = true) : nearZ x ∧ nearZ y := by
  unfold ptRight at h
  have := of_decide_eq_true h
  unfold nearZ; omega
theorem rightC_near {typ : Int} {nl : Bool} {c : Cell} (h : rightC typ nl c = true) : c.near := by
  unfold rightC at h
  split at h
  · simp only [Bool.and_eq_true, decide_eq_true_eq] at h
    obtain ⟨rfl, _⟩ := h
    exact ⟨by unfold nearZ; decide, by unfold nearZ; decide⟩
  · simp only [Bool.and_eq_true] at h
    exact near_of_ptRight h.1.2
theorem rightC_known {typ : Int} {c : Cell} (h : rightC typ false c = true) : known typ = true ∧ c.null = false := by
  unfold rightC at h
  split at h
  · simp at h
  · rename_i hn
    simp only [not_or, Bool.not_eq_true, Bool.not_eq_false] at hn
    exact hn
theorem rightC_val {typ : Int} {c : Cell} (hk : known typ = true) (h : rightC typ true c = true) (hn : c.null = false) : rightC typ false c = true := by
  unfold rightC at h ⊢
  rw [if_neg (by simp [hk, hn])] at h ⊢
  exact h
theorem rightC_null {typ : Int} {c : Cell} (h : rightC typ true c = true) (hn : c.null = true) : c = Cell.nil := by
  unfold rightC at h
  rw [if_pos (.inr hn)] at h
  simpa using h
theorem rightC_nl {typ : Int} {c : Cell} (h : rightC typ false c = true) : rightC typ true c = true := by
  have := rightC_known h
  unfold rightC at h ⊢
  rw [if_neg (by simp [this])] at h ⊢
  exact h

theorem cmpZ_swap (a b : Int) : cmpZ b a = - cmpZ a b := by unfold cmpZ; repeat' split
                                                            all_goals omega
theorem cmpZ_zero {a b : Int} : cmpZ a b = 0 ↔ a = b := by unfold cmpZ; repeat' split
                                                           all_goals omega
theorem cmpZ_le {a b : Int} : cmpZ a b ≤ 0 ↔ a ≤ b := by unfold cmpZ; repeat' split
                                                         all_goals omega
theorem cmpP_swap (x y u v : Int) : cmpP u v x y = - cmpP x y u v := by
  unfold cmpP
  by_cases h : normZ x y = normZ u v
  · rw [if_pos h, if_pos h.symm]
    by_cases h2 : x = u
    · rw [if_pos h2, if_pos h2.symm, cmpZ_swap]
    · rw [if_neg h2, if_neg (Ne.symm h2), cmpZ_swap]
  · rw [if_neg h, if_neg (Ne.symm h), cmpZ_swap]
theorem cmpP_zero {x y u v : Int} : cmpP x y u v = 0 ↔ x = u ∧ y = v := by
  unfold cmpP
  by_cases h : normZ x y = normZ u v
  · rw [if_pos h]
    by_cases h2 : x = u
    · rw [if_pos h2, cmpZ_zero]; simp [h2]
    · rw [if_neg h2, cmpZ_zero]; simp [h2]
  · rw [if_neg h, cmpZ_zero]
    refine ⟨fun h' => absurd h' h, fun ⟨h1, h2⟩ => absurd (by rw [h1, h2]) h⟩
theorem cmpP_le {x y u v : Int} : cmpP x y u v ≤ 0 ↔ normZ x y < normZ u v ∨ (normZ x y = normZ u v ∧ (x < u ∨ (x = u ∧ y ≤ v))) := by
  unfold cmpP
  by_cases h : normZ x y = normZ u v
  · rw [if_pos h]
    by_cases h2 : x = u
    · rw [if_pos h2, cmpZ_le]; omega
    · rw [if_neg h2, cmpZ_le]; omega
  · rw [if_neg h, cmpZ_le]; omega
theorem cmpP_trans {x y u v p q : Int} (h1 : cmpP x y u v ≤ 0) (h2 : cmpP u v p q ≤ 0) : cmpP x y p q ≤ 0 := by
  rw [cmpP_le] at *
  generalize normZ x y = n1 at *
  generalize normZ u v = n2 at *
  generalize normZ p q = n3 at *
  omega

theorem cmpC_swap (typ : Int) (a b : Cell) : cmpC typ b a = - cmpC typ a b := by
  unfold cmpC
  cases a.null <;> cases b.null <;> simp only [if_true, if_false, Bool.false_eq_true, reduceIte] <;> try rfl
  split
  · exact cmpZ_swap _ _
  · split
    · exact cmpS_swap _ _
    · split
      · exact cmpP_swap _ _ _ _
      · rfl
theorem cmpC_trans {typ : Int} {a b c : Cell} (h1 : cmpC typ a b ≤ 0) (h2 : cmpC typ b c ≤ 0) : cmpC typ a c ≤ 0 := by
  unfold cmpC at *
  revert h1 h2
  cases a.null <;> cases b.null <;> cases c.null <;> simp only [if_true, if_false, Bool.false_eq_true, reduceIte] <;> try (intros; omega)
  split
  · intro h1 h2; rw [cmpZ_le] at *; omega
  · split
    · exact cmpS_trans
    · split
      · exact cmpP_trans
      · intros; omega
/-- Right cells of one type that are alike in order are one. -/
theorem cmpC_zero {typ : Int} {a b : Cell} (ha : rightC typ false a = true) (hb : rightC typ false b = true) : cmpC typ a b = 0 ↔ a = b := by
  refine ⟨fun h => ?_, fun h => ?_⟩
  · obtain ⟨hk, hna⟩ := rightC_known ha
    have hnb := (rightC_known hb).2
    unfold rightC at ha hb
    rw [if_neg (by simp [hk, hna])] at ha
    rw [if_neg (by simp [hk, hnb])] at hb
    simp only [Bool.and_eq_true, decide_eq_true_eq] at ha hb
    unfold cmpC at h
    rw [if_neg (by simp [hna]), if_neg (by simp [hnb])] at h
    have ea := ha.1.1.1
    have eb := hb.1.1.1
    unfold plainC at ea eb
    by_cases h01 : typ = 0 ∨ typ = 1
    · rw [if_pos h01] at ea eb h
      rw [cmpZ_zero, Int64.toInt_inj] at h
      rw [ea, eb, h]
    · rw [if_neg h01] at ea eb h
      by_cases h2 : typ = 2
      · rw [if_pos h2] at ea eb h
        rw [cmpS_zero] at h
        rw [ea, eb, h]
      · rw [if_neg h2] at ea eb h
        have h3 : typ = 3 := by
          simp only [known, Bool.and_eq_true, decide_eq_true_eq] at hk
          omega
        rw [if_pos h3, cmpP_zero, Int64.toInt_inj, Int64.toInt_inj] at h
        rw [ea, eb, h.1, h.2]
  · subst h
    have := cmpC_swap typ a a
    omega
end Go.Proofs.Ytcpimhefclfbaaa

namespace Go.Proofs.Ytcpimhefclfbaaa
open Go Go.RowKit
set_option maxRecDepth 10000
set_option linter.unusedVariables false
set_option linter.unusedSimpArgs false

abbrev colVal (nm : ByteArray) (typ : Int) (nl : Bool) : Value := .agg #[.string nm, .int .i64 typ, .bool nl]

theorem ret_cell {fn : Func} {p : Tmp} (h : fn.results = #[.cell p 50]) {tmps : Array Value} {w : World} {g : Nat} (c : Cell) (hp : tmps.getD p undef = .pointer (some ⟨g, 0, none⟩)) (hb : Blk w g 50 c.cs) :
    (results fn tmps).run Try.prog w = .ok (cellVal c) w :=
  results_cell_row h tmps w g 50 _ (0, 0) _ hp hb Try.underlying50 rfl (by show (Try.prog.info? 50).map (·.size) = some 5; kernel_rfl)
theorem blk_alloc2 (w : World) (A : Obj) (t : TypeId) (cs : List Value) : Blk ((w.alloc A).alloc (.cells cs.toArray t)) (w.heap.size + 1) t cs := heap_alloc2_new w A _

set_option maxHeartbeats 400000 in
theorem plain_prog (c : Cell) (typ : Int) (W : World) : Calls Try.prog 79 #[cellVal c, .int .i64 typ] W fun e W' => e = .returned (cellVal (plainC typ c)) ∧ Keep [] W W' := by
  by_cases h0 : typ = 0
  · subst h0
    have hp : plainC 0 c = ⟨false, c.int, ByteArray.empty, 0, 0⟩ := by unfold plainC; simp
    rw [hp]
    clear hp
    go_enter Try.func79, Try.ntmps79
    go_wp2
    exact bodyPost_ret (ret_cell rfl ⟨false, c.int, ByteArray.empty, 0, 0⟩ rfl (blk_alloc2 W _ _ _)) rfl ⟨rfl, ((Keep.refl _ _).alloc _).alloc _⟩
  by_cases h1 : typ = 1
  · subst h1
    have hp : plainC 1 c = ⟨false, c.int, ByteArray.empty, 0, 0⟩ := by unfold plainC; simp
    rw [hp]
    clear hp
    go_enter Try.func79, Try.ntmps79
    go_wp2
    exact bodyPost_ret (ret_cell rfl ⟨false, c.int, ByteArray.empty, 0, 0⟩ rfl (blk_alloc2 W _ _ _)) rfl ⟨rfl, ((Keep.refl _ _).alloc _).alloc _⟩
  by_cases h2 : typ = 2
  · subst h2
    have hp : plainC 2 c = ⟨false, 0, c.text, 0, 0⟩ := by unfold plainC; simp
    rw [hp]
    clear hp
    go_enter Try.func79, Try.ntmps79
    go_wp2
    exact bodyPost_ret (ret_cell rfl ⟨false, 0, c.text, 0, 0⟩ rfl (blk_alloc2 W _ _ _)) rfl ⟨rfl, ((Keep.refl _ _).alloc _).alloc _⟩
  · have hp : plainC typ c = ⟨false, 0, ByteArray.empty, c.x, c.y⟩ := by unfold plainC; simp [h0, h1, h2]
    rw [hp]
    clear hp
    go_enter Try.func79, Try.ntmps79
    go_wp2
    exact bodyPost_ret (ret_cell rfl ⟨false, 0, ByteArray.empty, c.x, c.y⟩ rfl (blk_alloc2 W _ _ _)) rfl ⟨rfl, ((Keep.refl _ _).alloc _).alloc _⟩
end Go.Proofs.Ytcpimhefclfbaaa

namespace Go.Proofs.Ytcpimhefclfbaaa
open Go Go.RowKit
set_option maxRecDepth 10000
set_option linter.unusedVariables false
set_option linter.unusedSimpArgs false

theorem eql_nil (c : Cell) (w : World) : (binOp .eql 50 (.agg #[.bool c.null, .int .i64 c.int.toInt, .string c.text, .int .i64 c.x.toInt, .int .i64 c.y.toInt]) (.agg #[.bool true, .int .i64 0, .string { data := #[] }, .int .i64 0, .int .i64 0])).run Try.prog w = .ok (.bool (decide (c = Cell.nil))) w := eql_cell c Cell.nil w

set_option maxHeartbeats 1000000 in
theorem cellRight_prog (c : Cell) (nm : ByteArray) (typ : Int) (nl : Bool) (W : World) : Calls Try.prog 64 #[cellVal c, colVal nm typ nl] W fun e W' => e = .returned (.bool (rightC typ nl c)) ∧ Keep [] W W' := by
  have hkn : known typ = (decide (0 ≤ typ) && decide (typ < 4)) := rfl
  have e1 := eql_nil c
  have hR : known typ = false ∨ c.null = true → rightC typ nl c = (decide (c = Cell.nil) && nl) := fun h => by unfold rightC; rw [if_pos h]
  have hV : known typ = true → c.null = false → rightC typ nl c = (decide (c = plainC typ c) && decide (c.text.size ≤ 65536) && ptRight c.x.toInt c.y.toInt && (decide (typ ≠ 1) || decide (c.int.toInt = 0) || decide (c.int.toInt = 1))) := fun h h' => by unfold rightC; rw [if_neg (by simp [h, h'])]
  have hk0 : Keep [] W ((W.alloc (.cells #[.bool c.null, .int .i64 c.int.toInt, .string c.text, .int .i64 c.x.toInt, .int .i64 c.y.toInt] 50)).alloc (.cells #[.string nm, .int .i64 typ, .bool nl] 56)) := ((Keep.refl _ _).alloc _).alloc _
  generalize hd : decide (c = Cell.nil) = d at e1 hR
  clear hd
  by_cases hlo : typ < 0
  · rw [hR (.inl (by rw [hkn]; simp; omega))]
    clear hR hV hkn
    cases d <;> go_enter Try.func64, Try.ntmps64
    · go_wp2
      go_ret
      exact ⟨rfl, hk0⟩
    · go_wp2
      go_ret
      exact ⟨rfl, hk0⟩
  by_cases hhi : 4 ≤ typ
  · rw [hR (.inl (by rw [hkn]; simp; omega))]
    clear hR hV hkn
    cases d <;> go_enter Try.func64, Try.ntmps64
    · go_wp2
      go_ret
      exact ⟨rfl, hk0⟩
    · go_wp2
      go_ret
      exact ⟨rfl, hk0⟩
  have hk : known typ = true := by rw [hkn]; simp; omega
  cases hn : c.null with
  | true =>
    rw [hR (.inr hn)]
    clear hR hV hkn
    rw [hn] at e1 hk0
    cases d <;> go_enter Try.func64, Try.ntmps64
    · go_wp2
      go_ret
      exact ⟨rfl, hk0⟩
    · go_wp2
      go_ret
      exact ⟨rfl, hk0⟩
  | false =>
    obtain ⟨r, hr⟩ : ∃ r, Hid (rightC typ nl c = r) := ⟨_, rfl⟩
    rw [hr.out]
    have r1 : c ≠ plainC typ c → Hid (r = false) := fun h => by rw [Hid, ← hr.out, hV hk hn, decide_eq_false h]; rfl
    have r2 : ¬ c.text.size ≤ 65536 → Hid (r = false) := fun h => by rw [Hid, ← hr.out, hV hk hn, decide_eq_false h, Bool.and_false]; rfl
    have r3 : c = plainC typ c → c.text.size ≤ 65536 → Hid (r = (ptRight c.x.toInt c.y.toInt && (decide (typ ≠ 1) || decide (c.int.toInt = 0) || decide (c.int.toInt = 1)))) := fun h h' => by rw [Hid, ← hr.out, hV hk hn, decide_eq_true h, decide_eq_true h', Bool.true_and, Bool.true_and]
    clear hR hV hkn e1 hk
    have C := fun w => plain_prog c typ w
    have hne := fun w => neq_cell c (plainC typ c) w
    have hcv : cellVal c = .agg #[.bool false, .int .i64 c.int.toInt, .string c.text, .int .i64 c.x.toInt, .int .i64 c.y.toInt] := by rw [cellVal, hn]
    simp only [hcv] at C hne
    simp only [hn] at hk0
    rw [hcv]
    clear hcv
    obtain ⟨W2, hW2⟩ : ∃ W2, ((W.alloc (.cells #[.bool false, .int .i64 c.int.toInt, .string c.text, .int .i64 c.x.toInt, .int .i64 c.y.toInt] 50)).alloc (.cells #[.string nm, .int .i64 typ, .bool nl] 56)) = W2 := ⟨_, rfl⟩
    have hb1 : Blk W2 W.heap.size 50 [.bool false, .int .i64 c.int.toInt, .string c.text, .int .i64 c.x.toInt, .int .i64 c.y.toInt] := by rw [← hW2]; exact (Blk.new W 50 _).alloc _
    have hb2 : Blk W2 (W.heap.size + 1) 56 [.string nm, .int .i64 typ, .bool nl] := by rw [← hW2]; exact blk_alloc2 _ _ _ _
    rw [hW2] at hk0
    have hl : ∀ w, Keep [] W2 w → (w.cell? ⟨W.heap.size, 0, none⟩ = some (.bool false) ∧ w.cell? ⟨W.heap.size, 1, none⟩ = some (.int .i64 c.int.toInt) ∧ w.cell? ⟨W.heap.size, 2, none⟩ = some (.string c.text) ∧ w.cell? ⟨W.heap.size, 3, none⟩ = some (.int .i64 c.x.toInt) ∧ w.cell? ⟨W.heap.size, 4, none⟩ = some (.int .i64 c.y.toInt)) ∧ w.cell? ⟨W.heap.size + 1, 1, none⟩ = some (.int .i64 typ) := fun w hS =>
      have h := hb1.keep hS (by simp)
      ⟨⟨h.cell 0, h.cell 1, h.cell 2, h.cell 3, h.cell 4⟩, (hb2.keep hS (by simp)).cell 1⟩
    obtain ⟨⟨b1, b2, b3, b4, b5⟩, b6⟩ := hl W2 (Keep.refl _ _)
    go_enter Try.func64, Try.ntmps64
    go_wp2
    refine wp_region_conf (S := fun w => Keep [] W2 w) 5 (by kernel_rfl) (by kernel_rfl) ((Keep.refl _ _).drew) ?_
    simp only [List.take_succ_cons, List.take_zero, List.drop_succ_cons, List.drop_zero]
    refine conf_value (.agg #[.bool false, .int .i64 c.int.toInt, .string c.text, .int .i64 c.x.toInt, .int .i64 c.y.toInt]) rfl (fun w hS => ?_) ?_
    · obtain ⟨⟨c1, c2, c3, c4, c5⟩, c6⟩ := hl w hS
      go_simp
    simp only [Act.put, List.setIfInBounds_toArray, List.set_cons_succ, List.set_cons_zero]
    refine conf_value (.agg #[.bool false, .int .i64 c.int.toInt, .string c.text, .int .i64 c.x.toInt, .int .i64 c.y.toInt]) rfl (fun w hS => ?_) ?_
    · obtain ⟨⟨c1, c2, c3, c4, c5⟩, c6⟩ := hl w hS
      go_simp
    simp only [Act.put, List.setIfInBounds_toArray, List.set_cons_succ, List.set_cons_zero]
    refine conf_value (.pointer (some ⟨W.heap.size + 1, 1, none⟩)) rfl (fun w hS => ?_) ?_
    · obtain ⟨⟨c1, c2, c3, c4, c5⟩, c6⟩ := hl w hS
      go_simp
    simp only [Act.put, List.setIfInBounds_toArray, List.set_cons_succ, List.set_cons_zero]
    refine conf_value (.int .i64 typ) rfl (fun w hS => ?_) ?_
    · obtain ⟨⟨c1, c2, c3, c4, c5⟩, c6⟩ := hl w hS
      go_simp
    simp only [Act.put, List.setIfInBounds_toArray, List.set_cons_succ, List.set_cons_zero]
    refine conf_call (cellVal (plainC typ c)) 79 #[.agg #[.bool false, .int .i64 c.int.toInt, .string c.text, .int .i64 c.x.toInt, .int .i64 c.y.toInt], .int .i64 typ] rfl (fun w hS => by go_simp) (fun w hS => (C w).mono fun e w' ⟨h1, h2⟩ => ⟨h1, hS.trans h2⟩) ?_
    simp only [Act.put, List.setIfInBounds_toArray, List.set_cons_succ, List.set_cons_zero]
    refine conf_nil (fun w3 hS3 => ?_)
    obtain ⟨⟨c1, c2, c3, c4, c5⟩, c6⟩ := hl w3 hS3
    generalize hp : plainC typ c = pc at *
    by_cases hcp : c = pc
    · have hd1 : decide (c ≠ pc) = false := by simp [hcp]
      simp only [hd1] at hne
      by_cases hs : c.text.size ≤ 65536
      · have r4 := r3 hcp hs
        clear hd1 hcp hp r1 r2 r3
        have P := ptRight_prog c.x.toInt c.y.toInt w3 ⟨i64_lo _, i64_hi _⟩ ⟨i64_lo _, i64_hi _⟩
        generalize ptRight c.x.toInt c.y.toInt = pr at *
        cases pr with
        | false =>
          go_wp2_with fail
          refine P.mono ?_
          rintro e w4 ⟨rfl, hk4⟩
          go_wp2
          go_ret
          exact ⟨ret_b (by rw [r4.out]; rfl), (hk0.trans hS3).trans hk4⟩
        | true =>
          rw [Bool.true_and] at r4
          go_wp2_with fail
          refine P.mono ?_
          rintro e w4 ⟨rfl, hk4⟩
          obtain ⟨⟨d1, d2, d3, d4, d5⟩, d6⟩ := hl w4 (hS3.trans hk4)
          by_cases h1 : typ = 1
          · have hne1 : (typ != 1) = false := by simp [h1]
            by_cases h2 : c.int.toInt = 0
            · have r5 : Hid (r = true) := by rw [Hid, r4.out, decide_eq_true h2]; simp
              clear r4 h1
              go_wp2
              go_ret
              exact ⟨ret_b (by rw [r5.out]), (hk0.trans hS3).trans hk4⟩
            · by_cases h3 : c.int.toInt = 1
              · have r5 : Hid (r = true) := by rw [Hid, r4.out, decide_eq_true h3]; simp
                clear r4 h1
                go_wp2
                go_ret
                exact ⟨ret_b (by rw [r5.out]), (hk0.trans hS3).trans hk4⟩
              · have r5 : Hid (r = false) := by rw [Hid, r4.out, decide_eq_false h3, decide_eq_false h2]; simp [h1]
                clear r4 h1
                go_wp2
                go_ret
                exact ⟨ret_b (by rw [r5.out]; simp [h2, h3]), (hk0.trans hS3).trans hk4⟩
          · have hne1 : (typ != 1) = true := by simp [h1]
            have r5 : Hid (r = true) := by rw [Hid, r4.out]; simp [h1]
            clear r4 h1
            go_wp2
            go_ret
            exact ⟨ret_b (by rw [r5.out]), (hk0.trans hS3).trans hk4⟩
      · have r4 := r2 hs
        clear hd1 hcp hp r1 r2 r3
        go_wp2
        go_ret
        exact ⟨ret_b (by rw [r4.out]), hk0.trans hS3⟩
    · have hd1 : decide (c ≠ pc) = true := by simp [hcp]
      simp only [hd1] at hne
      have r4 := r1 hcp
      clear hd1 hcp hp r1 r2 r3
      go_wp2
      go_ret
      exact ⟨ret_b (by rw [r4.out]), hk0.trans hS3⟩
end Go.Proofs.Ytcpimhefclfbaaa

namespace Go.Proofs.Ytcpimhefclfbaaa
open Go Go.RowKit
set_option maxRecDepth 10000
set_option linter.unusedVariables false
set_option linter.unusedSimpArgs false

set_option maxHeartbeats 1000000 in
theorem cellCompare_prog (typ : Int) (a b : Cell) (W : World) (h : typ = 3 → a.near ∧ b.near) : Calls Try.prog 65 #[.int .i64 typ, cellVal a, cellVal b] W fun e W' => e = .returned (.int .i64 (cmpC typ a b)) ∧ Keep [] W W' := by
  have hk0 : Keep [] W ((W.alloc (.cells #[.bool a.null, .int .i64 a.int.toInt, .string a.text, .int .i64 a.x.toInt, .int .i64 a.y.toInt] 50)).alloc (.cells #[.bool b.null, .int .i64 b.int.toInt, .string b.text, .int .i64 b.x.toInt, .int .i64 b.y.toInt] 50)) := ((Keep.refl _ _).alloc _).alloc _
  obtain ⟨r, hr⟩ : ∃ r, Hid (cmpC typ a b = r) := ⟨_, rfl⟩
  rw [hr.out]
  cases ha : a.null with
  | true =>
    rw [ha] at hk0
    cases hb : b.null with
    | true =>
      have r1 : Hid (r = 0) := by rw [Hid, ← hr.out]; unfold cmpC; rw [if_pos ha, if_pos hb]
      rw [hb] at hk0
      go_enter Try.func65, Try.ntmps65
      go_wp2
      go_ret
      exact ⟨ret_i (by rw [r1.out]), hk0⟩
    | false =>
      have r1 : Hid (r = -1) := by rw [Hid, ← hr.out]; unfold cmpC; rw [if_pos ha, if_neg (by simp [hb])]
      rw [hb] at hk0
      go_enter Try.func65, Try.ntmps65
      go_wp2
      go_ret
      exact ⟨ret_i (by rw [r1.out]), hk0⟩
  | false =>
    rw [ha] at hk0
    cases hb : b.null with
    | true =>
      have r1 : Hid (r = 1) := by rw [Hid, ← hr.out]; unfold cmpC; rw [if_neg (by simp [ha]), if_pos hb]
      rw [hb] at hk0
      go_enter Try.func65, Try.ntmps65
      go_wp2
      go_ret
      exact ⟨ret_i (by rw [r1.out]), hk0⟩
    | false =>
      rw [hb] at hk0
      have hr' : r = (if typ = 0 ∨ typ = 1 then cmpZ a.int.toInt b.int.toInt else if typ = 2 then cmpS a.text b.text else if typ = 3 then cmpP a.x.toInt a.y.toInt b.x.toInt b.y.toInt else 0) := by
        rw [← hr.out]; unfold cmpC; rw [if_neg (by simp [ha]), if_neg (by simp [hb])]
      by_cases h0 : typ = 0
      · have r1 : Hid (r = cmpZ a.int.toInt b.int.toInt) := by rw [Hid, hr', if_pos (.inl h0)]
        clear hr' hr
        subst h0
        go_enter Try.func65, Try.ntmps65
        go_wp2_with fail
        refine (compare_int _ _ _).mono ?_
        rintro e w1 ⟨rfl, rfl⟩
        go_wp2
        go_ret
        exact ⟨ret_i (by rw [r1.out]), hk0⟩
      by_cases h1 : typ = 1
      · have r1 : Hid (r = cmpZ a.int.toInt b.int.toInt) := by rw [Hid, hr', if_pos (.inr h1)]
        clear hr' hr
        subst h1
        go_enter Try.func65, Try.ntmps65
        go_wp2_with fail
        refine (compare_int _ _ _).mono ?_
        rintro e w1 ⟨rfl, rfl⟩
        go_wp2
        go_ret
        exact ⟨ret_i (by rw [r1.out]), hk0⟩
      by_cases h2 : typ = 2
      · have r1 : Hid (r = cmpS a.text b.text) := by rw [Hid, hr', if_neg (by omega), if_pos h2]
        clear hr' hr
        subst h2
        go_enter Try.func65, Try.ntmps65
        go_wp2_with fail
        refine (Try.strings_Compare _ _ _).mono ?_
        rintro e w1 ⟨rfl, rfl⟩
        go_wp2
        go_ret
        exact ⟨ret_i (by rw [r1.out]; rfl), hk0⟩
      by_cases h3 : typ = 3
      · have r1 : Hid (r = cmpP a.x.toInt a.y.toInt b.x.toInt b.y.toInt) := by rw [Hid, hr', if_neg (by omega), if_neg h2, if_pos h3]
        clear hr' hr
        obtain ⟨⟨n1, n2⟩, n3, n4⟩ := h h3
        have P := fun w => ptCompare_prog a.x.toInt a.y.toInt b.x.toInt b.y.toInt w n1 n2 n3 n4
        clear n1 n2 n3 n4 h h0 h1 h2
        subst h3
        replace P := Lib.hid P
        go_enter Try.func65, Try.ntmps65
        go_wp2_with fail
        refine (P.out _).mono ?_
        rintro e w1 ⟨rfl, hk1⟩
        go_wp2
        go_ret
        exact ⟨ret_i (by rw [r1.out]), hk0.trans hk1⟩
      · have r1 : Hid (r = 0) := by rw [Hid, hr', if_neg (by omega), if_neg h2, if_neg h3]
        clear hr' hr h
        go_enter Try.func65, Try.ntmps65
        go_wp2
        go_ret
        exact ⟨ret_i (by rw [r1.out]), hk0⟩
end Go.Proofs.Ytcpimhefclfbaaa

namespace Go.Proofs.Ytcpimhefclfbaaa
open Go Go.RowKit
set_option maxRecDepth 10000
set_option linter.unusedVariables false
set_option linter.unusedSimpArgs false

theorem rightC_0 {nl : Bool} {c : Cell} (h : c.null = false) : rightC 0 nl c = decide (c = ⟨false, c.int, ByteArray.empty, 0, 0⟩) := by
  unfold rightC
  rw [if_neg (by simp [h, known])]
  have : plainC 0 c = ⟨false, c.int, ByteArray.empty, 0, 0⟩ := rfl
  rw [this]
  by_cases e : c = ⟨false, c.int, ByteArray.empty, 0, 0⟩
  · rw [decide_eq_true e, e]; rfl
  · rw [decide_eq_false e]; rfl
theorem rightC_1 {nl : Bool} {c : Cell} (h : c.null = false) : rightC 1 nl c = (decide (c = ⟨false, c.int, ByteArray.empty, 0, 0⟩) && (decide (c.int.toInt = 0) || decide (c.int.toInt = 1))) := by
  unfold rightC
  rw [if_neg (by simp [h, known])]
  have : plainC 1 c = ⟨false, c.int, ByteArray.empty, 0, 0⟩ := rfl
  rw [this]
  by_cases e : c = ⟨false, c.int, ByteArray.empty, 0, 0⟩
  · rw [decide_eq_true e, e]; simp [ptRight]
  · rw [decide_eq_false e]; rfl
theorem rightC_2 {nl : Bool} {c : Cell} (h : c.null = false) : rightC 2 nl c = (decide (c = ⟨false, 0, c.text, 0, 0⟩) && decide (c.text.size ≤ 65536)) := by
  unfold rightC
  rw [if_neg (by simp [h, known])]
  have : plainC 2 c = ⟨false, 0, c.text, 0, 0⟩ := rfl
  rw [this]
  by_cases e : c = ⟨false, 0, c.text, 0, 0⟩
  · rw [decide_eq_true e, e]; simp [ptRight]
  · rw [decide_eq_false e]; rfl
theorem rightC_3 {nl : Bool} {c : Cell} (h : c.null = false) : rightC 3 nl c = (ptRight c.x.toInt c.y.toInt && decide (c = ⟨false, 0, ByteArray.empty, c.x, c.y⟩)) := by
  unfold rightC
  rw [if_neg (by simp [h, known])]
  have : plainC 3 c = ⟨false, 0, ByteArray.empty, c.x, c.y⟩ := rfl
  rw [this]
  by_cases e : c = ⟨false, 0, ByteArray.empty, c.x, c.y⟩
  · rw [decide_eq_true e, e]; simp
  · rw [decide_eq_false e]; simp
theorem rightC_x {typ : Int} {nl : Bool} {c : Cell} (h : c.null = false) (h0 : typ ≠ 0) (h1 : typ ≠ 1) (h2 : typ ≠ 2) (h3 : typ ≠ 3) : rightC typ nl c = false := by
  unfold rightC
  have hk : known typ = false := by unfold known; simp; omega
  rw [if_pos (.inl hk)]
  have : c ≠ Cell.nil := fun e => by rw [e] at h; exact absurd h (by decide)
  rw [decide_eq_false this]; rfl

theorem eql_int (c : Cell) (w : World) : (binOp .eql 50 (cellVal c) (.agg #[.bool false, .int .i64 c.int.toInt, .string { data := #[] }, .int .i64 0, .int .i64 0])).run Try.prog w = .ok (.bool (decide (c = ⟨false, c.int, ByteArray.empty, 0, 0⟩))) w := eql_cell c ⟨false, c.int, ByteArray.empty, 0, 0⟩ w
theorem eql_text (c : Cell) (w : World) : (binOp .eql 50 (cellVal c) (.agg #[.bool false, .int .i64 0, .string c.text, .int .i64 0, .int .i64 0])).run Try.prog w = .ok (.bool (decide (c = ⟨false, 0, c.text, 0, 0⟩))) w := eql_cell c ⟨false, 0, c.text, 0, 0⟩ w
theorem eql_at (c : Cell) (w : World) : (binOp .eql 50 (cellVal c) (.agg #[.bool false, .int .i64 0, .string { data := #[] }, .int .i64 c.x.toInt, .int .i64 c.y.toInt])).run Try.prog w = .ok (.bool (decide (c = ⟨false, 0, ByteArray.empty, c.x, c.y⟩))) w := eql_cell c ⟨false, 0, ByteArray.empty, c.x, c.y⟩ w

set_option maxHeartbeats 1000000 in
theorem cellRight_ref (c : Cell) (nm : ByteArray) (typ : Int) (nl : Bool) (W : World) : Calls Try.prog 69 #[cellVal c, colVal nm typ nl] W fun e W' => e = .returned (.bool (rightC typ nl c)) ∧ Keep [] W W' := by
  have hk0 : Keep [] W ((W.alloc (.cells #[.bool c.null, .int .i64 c.int.toInt, .string c.text, .int .i64 c.x.toInt, .int .i64 c.y.toInt] 50)).alloc (.cells #[.string nm, .int .i64 typ, .bool nl] 56)) := ((Keep.refl _ _).alloc _).alloc _
  cases hn : c.null with
  | true =>
    have hR : rightC typ nl c = (decide (c = Cell.nil) && nl) := by unfold rightC; rw [if_pos (.inr hn)]
    rw [hR]
    have e1 := eql_nil c
    rw [hn] at e1 hk0
    generalize decide (c = Cell.nil) = d at e1
    clear hR
    cases nl with
    | false =>
      rw [Bool.and_false]
      go_enter Try.func69, Try.ntmps69
      go_wp2
      go_ret
      exact ⟨rfl, hk0⟩
    | true =>
      rw [Bool.and_true]
      go_enter Try.func69, Try.ntmps69
      go_wp2
      go_ret
      exact ⟨rfl, hk0⟩
  | false =>
    have hcv : cellVal c = .agg #[.bool false, .int .i64 c.int.toInt, .string c.text, .int .i64 c.x.toInt, .int .i64 c.y.toInt] := by rw [cellVal, hn]
    rw [hn] at hk0
    by_cases h0 : typ = 0
    · subst h0
      rw [rightC_0 hn]
      have e1 := eql_int c
      simp only [hcv] at e1
      rw [hcv]
      clear hcv
      generalize decide (c = ⟨false, c.int, ByteArray.empty, 0, 0⟩) = d at *
      go_enter Try.func69, Try.ntmps69
      go_wp2
      go_ret
      exact ⟨rfl, hk0⟩
    by_cases h1 : typ = 1
    · subst h1
      rw [rightC_1 hn]
      have e1 := eql_int c
      simp only [hcv] at e1
      rw [hcv]
      clear hcv h0
      generalize decide (c = ⟨false, c.int, ByteArray.empty, 0, 0⟩) = d at *
      cases d with
      | false =>
        rw [Bool.false_and]
        go_enter Try.func69, Try.ntmps69
        go_wp2
        go_ret
        exact ⟨rfl, hk0⟩
      | true =>
        rw [Bool.true_and]
        obtain ⟨r, hr⟩ : ∃ r, Hid ((decide (c.int.toInt = 0) || decide (c.int.toInt = 1)) = r) := ⟨_, rfl⟩
        rw [hr.out]
        by_cases hz : c.int.toInt = 0
        · have r1 : Hid (r = true) := by rw [Hid, ← hr.out, decide_eq_true hz]; rfl
          have hz' : (c.int.toInt == 0) = true := by simp [hz]
          replace hz := Lib.hid hz
          clear hr
          go_enter Try.func69, Try.ntmps69
          go_wp2
          go_ret
          exact ⟨ret_b (by rw [r1.out]), hk0⟩
        · have r1 : Hid (r = (c.int.toInt == 1)) := by rw [Hid, ← hr.out, decide_eq_false hz, Bool.false_or]; rfl
          have hz' : (c.int.toInt == 0) = false := by simp [hz]
          replace hz := Lib.hid hz
          clear hr
          go_enter Try.func69, Try.ntmps69
          go_wp2
          go_ret
          exact ⟨ret_b (by rw [r1.out]), hk0⟩
    by_cases h2 : typ = 2
    · subst h2
      rw [rightC_2 hn]
      have e1 := eql_text c
      simp only [hcv] at e1
      rw [hcv]
      clear hcv h0 h1
      generalize decide (c = ⟨false, 0, c.text, 0, 0⟩) = d at *
      cases d with
      | false =>
        rw [Bool.false_and]
        go_enter Try.func69, Try.ntmps69
        go_wp2
        go_ret
        exact ⟨rfl, hk0⟩
      | true =>
        rw [Bool.true_and]
        obtain ⟨r, hr⟩ : ∃ r, Hid (decide (c.text.size ≤ 65536) = r) := ⟨_, rfl⟩
        rw [hr.out]
        by_cases hz : c.text.size ≤ 65536
        · have r1 : Hid (r = true) := by rw [Hid, ← hr.out, decide_eq_true hz]
          go_enter Try.func69, Try.ntmps69
          go_wp2
          go_ret
          exact ⟨ret_b (by rw [r1.out]; exact decide_eq_true (by omega)), hk0⟩
        · have r1 : Hid (r = false) := by rw [Hid, ← hr.out, decide_eq_false hz]
          go_enter Try.func69, Try.ntmps69
          go_wp2
          go_ret
          exact ⟨ret_b (by rw [r1.out]; exact decide_eq_false (by omega)), hk0⟩
    by_cases h3 : typ = 3
    · subst h3
      rw [rightC_3 hn]
      have e1 := eql_at c
      simp only [hcv] at e1
      rw [hcv]
      clear hcv h0 h1 h2
      generalize decide (c = ⟨false, 0, ByteArray.empty, c.x, c.y⟩) = d at *
      obtain ⟨W2, hW2⟩ : ∃ W2, ((W.alloc (.cells #[.bool false, .int .i64 c.int.toInt, .string c.text, .int .i64 c.x.toInt, .int .i64 c.y.toInt] 50)).alloc (.cells #[.string nm, .int .i64 3, .bool nl] 56)) = W2 := ⟨_, rfl⟩
      have hb1 : Blk W2 W.heap.size 50 [.bool false, .int .i64 c.int.toInt, .string c.text, .int .i64 c.x.toInt, .int .i64 c.y.toInt] := by rw [← hW2]; exact (Blk.new W 50 _).alloc _
      have hb2 : Blk W2 (W.heap.size + 1) 56 [.string nm, .int .i64 3, .bool nl] := by rw [← hW2]; exact blk_alloc2 _ _ _ _
      rw [hW2] at hk0
      have hl : ∀ w, Keep [] W2 w → (w.cell? ⟨W.heap.size, 0, none⟩ = some (.bool false) ∧ w.cell? ⟨W.heap.size, 1, none⟩ = some (.int .i64 c.int.toInt) ∧ w.cell? ⟨W.heap.size, 2, none⟩ = some (.string c.text) ∧ w.cell? ⟨W.heap.size, 3, none⟩ = some (.int .i64 c.x.toInt) ∧ w.cell? ⟨W.heap.size, 4, none⟩ = some (.int .i64 c.y.toInt)) ∧ w.cell? ⟨W.heap.size + 1, 1, none⟩ = some (.int .i64 3) := fun w hS =>
        have h := hb1.keep hS (by simp)
        ⟨⟨h.cell 0, h.cell 1, h.cell 2, h.cell 3, h.cell 4⟩, (hb2.keep hS (by simp)).cell 1⟩
      obtain ⟨⟨b1, b2, b3, b4, b5⟩, b6⟩ := hl W2 (Keep.refl _ _)
      have P := ptRight_ref c.x.toInt c.y.toInt W2
      generalize ptRight c.x.toInt c.y.toInt = pr at *
      cases pr with
      | false =>
        rw [Bool.false_and]
        go_enter Try.func69, Try.ntmps69
        go_wp2_with fail
        refine P.mono ?_
        rintro e w4 ⟨rfl, hk4⟩
        go_wp2
        go_ret
        exact ⟨rfl, hk0.trans hk4⟩
      | true =>
        rw [Bool.true_and]
        go_enter Try.func69, Try.ntmps69
        go_wp2_with fail
        refine P.mono ?_
        rintro e w4 ⟨rfl, hk4⟩
        obtain ⟨⟨d1, d2, d3, d4, d5⟩, d6⟩ := hl w4 hk4
        go_wp2
        go_ret
        exact ⟨rfl, hk0.trans hk4⟩
    · rw [rightC_x hn h0 h1 h2 h3]
      rw [hcv]
      clear hcv
      go_enter Try.func69, Try.ntmps69
      go_wp2
      go_ret
      exact ⟨rfl, hk0⟩
end Go.Proofs.Ytcpimhefclfbaaa

namespace Go.Proofs.Ytcpimhefclfbaaa
open Go Go.RowKit
set_option maxRecDepth 10000
set_option linter.unusedVariables false
set_option linter.unusedSimpArgs false

set_option maxHeartbeats 400000 in
theorem ints_ref (x y : Int) (W : World) : Calls Try.prog 91 #[.int .i64 x, .int .i64 y] W fun e W' => e = .returned (.int .i64 (cmpZ x y)) ∧ W = W' := by
  obtain ⟨v, hv⟩ : ∃ v, Hid (cmpZ x y = v) := ⟨_, rfl⟩
  rw [hv.out]
  rcases Int.lt_trichotomy x y with h | h | h
  · have hv' : Hid (v = -1) := by rw [Hid, ← hv.out]; unfold cmpZ; rw [if_pos h]
    go_enter Try.func91, Try.ntmps91
    go_wp2
    go_ret
    exact ⟨ret_i (by rw [hv'.out]), rfl⟩
  · have hv' : Hid (v = 0) := by rw [Hid, ← hv.out]; unfold cmpZ; rw [if_neg (by omega), if_neg (by omega)]
    subst h
    go_enter Try.func91, Try.ntmps91
    go_wp2
    go_ret
    exact ⟨ret_i (by rw [hv'.out]), rfl⟩
  · have hv' : Hid (v = 1) := by rw [Hid, ← hv.out]; unfold cmpZ; rw [if_neg (by omega), if_pos h]
    have h2 : ¬ x < y := by omega
    go_enter Try.func91, Try.ntmps91
    go_wp2
    go_ret
    exact ⟨ret_i (by rw [hv'.out]), rfl⟩

theorem text_eqb (a b : ByteArray) : (a.toList == b.toList) = decide (a = b) := by
  by_cases h : a = b
  · subst h; simp
  · rw [decide_eq_false h]
    rw [beq_eq_false_iff_ne]
    exact fun e => h ((text_eq a b).1 e)
theorem cmpS_cases (a b : ByteArray) : (cmpS a b = -1 ∧ Op.bytesLess a.toList b.toList = true) ∨ (cmpS a b = 0 ∧ Op.bytesLess a.toList b.toList = false ∧ (a.toList == b.toList) = true) ∨ (cmpS a b = 1 ∧ Op.bytesLess a.toList b.toList = false ∧ (a.toList == b.toList) = false) := by
  rw [cmpS_def, less_eq, text_eqb]
  by_cases h1 : a.data.toList < b.data.toList
  · left; simp [h1]
  · rw [if_neg h1, decide_eq_false h1]
    by_cases h2 : a = b
    · right; left; simp [h2]
    · right; right; simp [h2]

set_option maxHeartbeats 1000000 in
theorem cellCompare_ref (typ : Int) (a b : Cell) (W : World) (h : typ = 3 → a.near ∧ b.near) : Calls Try.prog 70 #[.int .i64 typ, cellVal a, cellVal b] W fun e W' => e = .returned (.int .i64 (cmpC typ a b)) ∧ Keep [] W W' := by
  have hk0 : Keep [] W ((W.alloc (.cells #[.bool a.null, .int .i64 a.int.toInt, .string a.text, .int .i64 a.x.toInt, .int .i64 a.y.toInt] 50)).alloc (.cells #[.bool b.null, .int .i64 b.int.toInt, .string b.text, .int .i64 b.x.toInt, .int .i64 b.y.toInt] 50)) := ((Keep.refl _ _).alloc _).alloc _
  obtain ⟨r, hr⟩ : ∃ r, Hid (cmpC typ a b = r) := ⟨_, rfl⟩
  rw [hr.out]
  cases ha : a.null with
  | true =>
    rw [ha] at hk0
    cases hb : b.null with
    | true =>
      have r1 : Hid (r = 0) := by rw [Hid, ← hr.out]; unfold cmpC; rw [if_pos ha, if_pos hb]
      rw [hb] at hk0
      go_enter Try.func70, Try.ntmps70
      go_wp2
      go_ret
      exact ⟨ret_i (by rw [r1.out]), hk0⟩
    | false =>
      have r1 : Hid (r = -1) := by rw [Hid, ← hr.out]; unfold cmpC; rw [if_pos ha, if_neg (by simp [hb])]
      rw [hb] at hk0
      go_enter Try.func70, Try.ntmps70
      go_wp2
      go_ret
      exact ⟨ret_i (by rw [r1.out]), hk0⟩
  | false =>
    rw [ha] at hk0
    cases hb : b.null with
    | true =>
      have r1 : Hid (r = 1) := by rw [Hid, ← hr.out]; unfold cmpC; rw [if_neg (by simp [ha]), if_pos hb]
      rw [hb] at hk0
      go_enter Try.func70, Try.ntmps70
      go_wp2
      go_ret
      exact ⟨ret_i (by rw [r1.out]), hk0⟩
    | false =>
      rw [hb] at hk0
      have hr' : r = (if typ = 0 ∨ typ = 1 then cmpZ a.int.toInt b.int.toInt else if typ = 2 then cmpS a.text b.text else if typ = 3 then cmpP a.x.toInt a.y.toInt b.x.toInt b.y.toInt else 0) := by
        rw [← hr.out]; unfold cmpC; rw [if_neg (by simp [ha]), if_neg (by simp [hb])]
      by_cases h0 : typ = 0
      · have r1 : Hid (r = cmpZ a.int.toInt b.int.toInt) := by rw [Hid, hr', if_pos (.inl h0)]
        clear hr' hr
        subst h0
        go_enter Try.func70, Try.ntmps70
        go_wp2_with fail
        refine (ints_ref _ _ _).mono ?_
        rintro e w1 ⟨rfl, rfl⟩
        go_wp2
        go_ret
        exact ⟨ret_i (by rw [r1.out]), hk0⟩
      by_cases h1 : typ = 1
      · have r1 : Hid (r = cmpZ a.int.toInt b.int.toInt) := by rw [Hid, hr', if_pos (.inr h1)]
        clear hr' hr
        subst h1
        go_enter Try.func70, Try.ntmps70
        go_wp2_with fail
        refine (ints_ref _ _ _).mono ?_
        rintro e w1 ⟨rfl, rfl⟩
        go_wp2
        go_ret
        exact ⟨ret_i (by rw [r1.out]), hk0⟩
      by_cases h2 : typ = 2
      · have r1 : Hid (r = cmpS a.text b.text) := by rw [Hid, hr', if_neg (by omega), if_pos h2]
        clear hr' hr
        subst h2
        rcases cmpS_cases a.text b.text with ⟨z, g1⟩ | ⟨z, g1, g2⟩ | ⟨z, g1, g2⟩
        all_goals
          rw [z] at r1
          clear z
          go_enter Try.func70, Try.ntmps70
          go_wp2
          go_ret
          exact ⟨ret_i (by rw [r1.out]), hk0⟩
      by_cases h3 : typ = 3
      · have r1 : Hid (r = cmpP a.x.toInt a.y.toInt b.x.toInt b.y.toInt) := by rw [Hid, hr', if_neg (by omega), if_neg h2, if_pos h3]
        clear hr' hr
        obtain ⟨⟨n1, n2⟩, n3, n4⟩ := h h3
        have P := fun w => ptCompare_ref a.x.toInt a.y.toInt b.x.toInt b.y.toInt w n1 n2 n3 n4
        clear n1 n2 n3 n4 h h0 h1 h2
        subst h3
        replace P := Lib.hid P
        go_enter Try.func70, Try.ntmps70
        go_wp2_with fail
        refine (P.out _).mono ?_
        rintro e w1 ⟨rfl, hk1⟩
        go_wp2
        go_ret
        exact ⟨ret_i (by rw [r1.out]), hk0.trans hk1⟩
      · have r1 : Hid (r = 0) := by rw [Hid, hr', if_neg (by omega), if_neg h2, if_neg h3]
        clear hr' hr h
        go_enter Try.func70, Try.ntmps70
        go_wp2
        go_ret
        exact ⟨ret_i (by rw [r1.out]), hk0⟩
end Go.Proofs.Ytcpimhefclfbaaa
