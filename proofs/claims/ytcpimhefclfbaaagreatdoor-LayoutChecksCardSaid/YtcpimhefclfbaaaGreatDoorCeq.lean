/-
  Cells are compared.
-/
import Derived.Test.YtcpimhefclfbaaaGreatDoorCell
import Derived.Test.YtcpimhefclfbaaaGreatDoorProg
import Derived.Laws.StructEq
namespace Go.Proofs.YtcpimhefclfbaaaGreatDoor
open Go Go.RowKit
set_option maxRecDepth 10000
set_option linter.unusedVariables false
set_option linter.unusedSimpArgs false

theorem Cell.ext' {x y : Cell} (h0 : x.null = y.null) (h1 : x.int.toInt = y.int.toInt) (h2 : x.text = y.text) (h3 : x.x.toInt = y.x.toInt) (h4 : x.y.toInt = y.y.toInt) : x = y := by
  cases x; cases y
  simp only [Int64.toInt_inj] at h1 h3 h4
  simp_all
theorem text_eq (a b : ByteArray) : a.toList = b.toList ↔ a = b :=
  ⟨fun e => by
    cases a; cases b
    simp only [ByteArray.toList_eq, Array.toList_inj] at e
    exact congrArg _ e, fun e => by rw [e]⟩

theorem equal_cell (d : Nat) (a b : Bool) (i j : Int) (s t : ByteArray) (x y u v : Int) (w : World) : (Op.equalIn (d + 3) 64 (.agg #[.bool a, .int .i64 i, .string s, .int .i64 x, .int .i64 y]) (.agg #[.bool b, .int .i64 j, .string t, .int .i64 u, .int .i64 v])).run Tryz.prog w =
    .ok (a == b && (i == j && (decide (s = t) && (x == u && y == v)))) w := by
  have hu : Tryz.prog.underlying 64 = some (.struct (Tryz.prog.fieldsOf 64)) := by kernel_rfl
  rw [run_equalIn_agg w (d + 2) _ _ _ hu Tryz.stoodInHeld64]
  simp only [Program.fieldsOf, Tryz.underlying64]
  go_simp
  simp only [text_eq]
  by_cases h1 : a = b <;> by_cases h2 : i = j <;> by_cases h3 : s = t <;> by_cases h4 : x = u <;> by_cases h5 : y = v <;> simp [h1, h2, h3, h4, h5]
theorem neq_cell_raw (a b : Bool) (i j : Int) (s t : ByteArray) (x y u v : Int) (w : World) : (binOp .neq 64 (.agg #[.bool a, .int .i64 i, .string s, .int .i64 x, .int .i64 y]) (.agg #[.bool b, .int .i64 j, .string t, .int .i64 u, .int .i64 v])).run Tryz.prog w =
    .ok (.bool (!(a == b && (i == j && (decide (s = t) && (x == u && y == v)))))) w := by
  rw [run_neq_struct, show (10000 : Nat) = 9997 + 3 from rfl, equal_cell]
  rfl

theorem neq_cell (x y : Cell) (w : World) : (binOp .neq 64 (cellVal x) (cellVal y)).run Tryz.prog w = .ok (.bool (decide (x ≠ y))) w := by
  rw [cellVal, cellVal, neq_cell_raw]
  congr 2
  by_cases h : x = y
  · subst h; simp
  · rw [decide_eq_true h]
    apply Classical.byContradiction
    intro hc
    simp at hc
    exact h (Cell.ext' hc.1 hc.2.1 hc.2.2.1 hc.2.2.2.1 hc.2.2.2.2)

theorem same_cell (x y : Cell) : (x.null == y.null && (x.int.toInt == y.int.toInt && (decide (x.text = y.text) && (x.x.toInt == y.x.toInt && x.y.toInt == y.y.toInt)))) = decide (x = y) := by
  by_cases h : x = y
  · subst h; simp
  · rw [decide_eq_false h]
    apply Classical.byContradiction
    intro hc
    simp at hc
    exact h (Cell.ext' hc.1 hc.2.1 hc.2.2.1 hc.2.2.2.1 hc.2.2.2.2)
theorem eql_cell (x y : Cell) (w : World) : (binOp .eql 64 (cellVal x) (cellVal y)).run Tryz.prog w = .ok (.bool (decide (x = y))) w := by
  rw [cellVal, cellVal, run_eql_struct, show (10000 : Nat) = 9997 + 3 from rfl, equal_cell, same_cell]
  rfl

end Go.Proofs.YtcpimhefclfbaaaGreatDoor
