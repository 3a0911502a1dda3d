/-
  A world in which the listed package-level variable reads as the program's text lays it (bytes.ErrTooLarge).
-/
import Derived.Test.YtcpimhefclfbaaaGreatDoorRow
import Derived.Test.YtcpimhefclfbaaaGreatDoorRows
import Derived.LaidLaws
import Derived.LaidHandle
import Derived.Handed
namespace Go.Proofs.YtcpimhefclfbaaaGreatDoor
open Go Go.RowKit
set_option linter.unusedVariables false

abbrev tooLarge : ByteArray := { data := #[98, 121, 116, 101, 115, 46, 66, 117, 102, 102, 101, 114, 58, 32, 116, 111, 111, 32, 108, 97, 114, 103, 101] }
noncomputable def lowZ : Nat := (World.holding Tryz.prog default ⟨#[], #[], []⟩).heap.size
noncomputable def laidWorld (os : Os) : World :=
  let w0 := World.holding Tryz.prog os ⟨#[.cells #[.string tooLarge] 207], #[], []⟩
  { w0 with heap := w0.heap.modify 0 fun
      | .cells _ t frozen => .cells #[.iface 192 (.pointer (some ⟨lowZ, 0, none⟩))] t frozen
      | o => o }
theorem laidWorld_met (os : Os) (args : Array Value) : laidMetH Tryz.prog [("bytes.ErrTooLarge", Rows.laid_bytes_ErrTooLarge)] ((laidWorld os).forCall (fun _ _ => 0) ⟨#[], args, []⟩).memory := by
  refine laidMetH_of_parts ?_ (by kernel_rfl)
  exact laidMet_of_run (ps := [.cell 0 0, .cell lowZ 0]) 8 (by kernel_rfl) (by kernel_rfl) (by kernel_rfl)
end Go.Proofs.YtcpimhefclfbaaaGreatDoor
