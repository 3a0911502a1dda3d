/-
  Columns in plain words, as cells: no program here.
-/
import Derived.Test.YtcpimhefclfbaaaGreatDoorCell
namespace Go.Proofs.YtcpimhefclfbaaaGreatDoor
open Go Go.RowKit
set_option maxRecDepth 10000
set_option linter.unusedVariables false
set_option linter.unusedSimpArgs false

/-- A column. -/
structure Col where
  name : ByteArray
  typ : Int64
  null : Bool
  deriving DecidableEq, Inhabited
def Col.cs (c : Col) : List Value := [.string c.name, vI c.typ, .bool c.null]
theorem Col.len (c : Col) : c.cs.length = 3 := rfl
theorem Col.one (c : Col) : ∀ u ∈ c.cs, u.oneCell' = true := by simp [Col.cs, vI, Value.oneCell']
abbrev colV3 (c : Col) : Value := .agg #[.string c.name, .int .i64 c.typ.toInt, .bool c.null]
abbrev Cols (X : List Nat) (w : World) (A : Option Addr) (n c : Nat) (l : List Col) : Prop := Rd X w 3 A n c (l.flatMap Col.cs)
theorem Cols.len {X : List Nat} {w : World} {A : Option Addr} {n c : Nat} {l : List Col} (h : Cols X w A n c l) : l.length = n := Rd.lenF Col.len h (by omega)
theorem Cols.at3 {X : List Nat} {w : World} {A : Option Addr} {n c k : Nat} {l : List Col} (h : Cols X w A n c l) (hk : k < l.length) :
    ∃ b off, A = some ⟨b, off, none⟩ ∧ b < w.heap.size ∧ b ∉ X ∧ w.cell? ⟨b, off + k * 3, none⟩ = some (.string l[k].name) ∧ w.cell? ⟨b, off + k * 3 + 1, none⟩ = some (.int .i64 l[k].typ.toInt) ∧ w.cell? ⟨b, off + k * 3 + 2, none⟩ = some (.bool l[k].null) := by
  have hlen : l.length = n := h.len
  obtain ⟨b, off, rfl, hlt, hb, hc⟩ := Rd.at_ h (k := k) (by omega)
  have hg := fun j hj => flat_get Col.len l k j hk hj
  refine ⟨b, off, rfl, hlt, hb, ?_, ?_, ?_⟩
  · have := hc 0 (by omega)
    rw [hg 0 (by omega)] at this
    simpa [Col.cs] using this
  · have := hc 1 (by omega)
    rw [hg 1 (by omega)] at this
    simpa [Col.cs, vI, Nat.add_assoc] using this
  · have := hc 2 (by omega)
    rw [hg 2 (by omega)] at this
    simpa [Col.cs, Nat.add_assoc] using this

end Go.Proofs.YtcpimhefclfbaaaGreatDoor
