/-
  Cells of tables, as they lie in memory; slices of structs whose fields are of one cell each.
-/
import Derived.Test.YtcpimhefclfbaaaGreatDoorBase
namespace Go.Proofs.YtcpimhefclfbaaaGreatDoor
open Go Go.RowKit

/-- A table's cell. -/
structure Cell where
  null : Bool
  int : Int64
  text : ByteArray
  x : Int64
  y : Int64
  deriving DecidableEq, Inhabited

def vI (i : Int64) : Value := .int .i64 i.toInt
theorem i64_lo (i : Int64) : -9223372036854775808 ≤ i.toInt := Int64.minValue_le_toInt i
theorem i64_hi (i : Int64) : i.toInt ≤ 9223372036854775807 := Int64.toInt_le i
def Cell.cs (c : Cell) : List Value := [.bool c.null, vI c.int, .string c.text, vI c.x, vI c.y]
def Cell.val (c : Cell) : Value := .agg c.cs.toArray
/-- A cell as a value, written out. -/
abbrev cellVal (c : Cell) : Value := .agg #[.bool c.null, .int .i64 c.int.toInt, .string c.text, .int .i64 c.x.toInt, .int .i64 c.y.toInt]
theorem Cell.len (c : Cell) : c.cs.length = 5 := rfl
theorem Cell.one (c : Cell) : ∀ u ∈ c.cs, u.oneCell' = true := by simp [Cell.cs, vI, Value.oneCell']
theorem Cell.cs_inj {a b : Cell} (h : a.cs = b.cs) : a = b := by
  cases a; cases b
  simp only [Cell.cs, vI, List.cons.injEq, Value.bool.injEq, Value.int.injEq, Value.string.injEq, true_and, and_true] at h
  obtain ⟨rfl, h2, rfl, h4, h5⟩ := h
  rw [Int64.toInt_inj.1 h2, Int64.toInt_inj.1 h4, Int64.toInt_inj.1 h5]
/-- The cell that is null. -/
def Cell.nil : Cell := ⟨true, 0, ByteArray.empty, 0, 0⟩
/-- The zero cell. -/
def Cell.zero : Cell := ⟨false, 0, ByteArray.empty, 0, 0⟩

/-! ### elements of several cells, each -/
section
variable {α : Type} {enc : α → List Value} {n : Nat}
theorem flat_len (hl : ∀ a, (enc a).length = n) (l : List α) : (l.flatMap enc).length = l.length * n := by
  induction l with
  | nil => simp
  | cons a l ih => rw [List.flatMap_cons, List.length_append, ih, hl, List.length_cons, Nat.add_mul]; omega
theorem flat_get (hl : ∀ a, (enc a).length = n) : ∀ (l : List α) (k j : Nat) (hk : k < l.length), j < n → (l.flatMap enc)[k * n + j]? = (enc l[k])[j]?
  | [], _, _, hk, _ => absurd hk (by simp)
  | a :: l, 0, j, _, hj => by
    rw [List.flatMap_cons, List.getElem?_append_left (by rw [hl]; omega)]
    simp
  | a :: l, k + 1, j, hk, hj => by
    rw [List.flatMap_cons, List.getElem?_append_right (by rw [hl, Nat.add_mul]; omega), hl]
    have := flat_get hl l k j (by simpa using hk) hj
    rw [show (k + 1) * n + j - n = k * n + j from by rw [Nat.add_mul]; omega, this]
    rfl
theorem flat_one (h1 : ∀ a, ∀ u ∈ enc a, u.oneCell' = true) (l : List α) : ∀ u ∈ l.flatMap enc, u.oneCell' = true := by
  intro u hu
  obtain ⟨a, _, ha⟩ := List.mem_flatMap.1 hu
  exact h1 a u ha
theorem flat_take (hl : ∀ a, (enc a).length = n) : ∀ (l : List α) (k : Nat), (l.flatMap enc).take (k * n) = (l.take k).flatMap enc
  | [], _ => by simp
  | a :: l, 0 => by simp
  | a :: l, k + 1 => by
    rw [List.flatMap_cons, List.take_succ_cons, List.flatMap_cons, List.take_append, hl, List.take_of_length_le (by rw [hl, Nat.add_mul]; omega)]
    rw [show (k + 1) * n - n = k * n from by rw [Nat.add_mul]; omega, flat_take hl l k]
theorem flat_drop (hl : ∀ a, (enc a).length = n) : ∀ (l : List α) (k : Nat), (l.flatMap enc).drop (k * n) = (l.drop k).flatMap enc
  | [], _ => by simp
  | a :: l, 0 => by simp
  | a :: l, k + 1 => by
    rw [List.flatMap_cons, List.drop_succ_cons, List.drop_append, hl, List.drop_of_length_le (by rw [hl, Nat.add_mul]; omega)]
    rw [show (k + 1) * n - n = k * n from by rw [Nat.add_mul]; omega, flat_drop hl l k]
    rfl
theorem Rd.lenF {X : List Nat} {w : World} {A : Option Addr} {m c : Nat} {l : List α} (hl : ∀ a, (enc a).length = n) (h : Rd X w n A m c (l.flatMap enc)) (hn : 0 < n) : l.length = m := by
  have := h.1
  rw [flat_len hl] at this
  exact Nat.eq_of_mul_eq_mul_right hn this
theorem Rd.dropF {X : List Nat} {w : World} {A : Option Addr} {m c k d : Nat} {l : List α} (hl : ∀ a, (enc a).length = n) (h : Rd X w n A m c (l.flatMap enc)) (hk : k ≤ m) (hd : d = c - k) :
    Rd X w n (if c = k then A else A.map (·.add (k * n))) (m - k) d ((l.drop k).flatMap enc) := by
  have := Rd.cut_low h hk hd
  rwa [flat_drop hl] at this
theorem Rd.takeF {X : List Nat} {w : World} {A : Option Addr} {m c k : Nat} {l : List α} (hl : ∀ a, (enc a).length = n) (h : Rd X w n A m c (l.flatMap enc)) (hk : k ≤ m) : Rd X w n A k c ((l.take k).flatMap enc) := by
  have := Rd.cut_high h hk
  rwa [flat_take hl] at this
end

/-- What a slice of cells holds. -/
abbrev Cells (X : List Nat) (w : World) (A : Option Addr) (n c : Nat) (l : List Cell) : Prop := Rd X w 5 A n c (l.flatMap Cell.cs)

theorem Cells.len {X : List Nat} {w : World} {A : Option Addr} {n c : Nat} {l : List Cell} (h : Cells X w A n c l) : l.length = n := Rd.lenF Cell.len h (by omega)
theorem Cells.at5 {X : List Nat} {w : World} {A : Option Addr} {n c k : Nat} {l : List Cell} (h : Cells X w A n c l) (hk : k < l.length) :
    ∃ b off, A = some ⟨b, off, none⟩ ∧ b < w.heap.size ∧ b ∉ X ∧ w.cell? ⟨b, off + k * 5, none⟩ = some (.bool l[k].null) ∧ w.cell? ⟨b, off + k * 5 + 1, none⟩ = some (.int .i64 l[k].int.toInt) ∧
      w.cell? ⟨b, off + k * 5 + 2, none⟩ = some (.string l[k].text) ∧ w.cell? ⟨b, off + k * 5 + 3, none⟩ = some (.int .i64 l[k].x.toInt) ∧ w.cell? ⟨b, off + k * 5 + 4, none⟩ = some (.int .i64 l[k].y.toInt) := by
  obtain ⟨b, off, rfl, hlt, hb, hc⟩ := Rd.at_ h (k := k) (by have := h.len; omega)
  refine ⟨b, off, rfl, hlt, hb, ?_, ?_, ?_, ?_, ?_⟩
  · have := hc 0 (by omega)
    rw [flat_get Cell.len l k 0 hk (by omega)] at this
    exact this
  · have := hc 1 (by omega)
    rw [flat_get Cell.len l k 1 hk (by omega)] at this
    exact this
  · have := hc 2 (by omega)
    rw [flat_get Cell.len l k 2 hk (by omega)] at this
    exact this
  · have := hc 3 (by omega)
    rw [flat_get Cell.len l k 3 hk (by omega)] at this
    exact this
  · have := hc 4 (by omega)
    rw [flat_get Cell.len l k 4 hk (by omega)] at this
    exact this
end Go.Proofs.YtcpimhefclfbaaaGreatDoor
