/-
  No cell of these rows narrows 'for every input' (looked for: loops, veiled, ifaces, maps, wideKeys, modest, calm, conditions, laid).
  DERIVED. THE GIVEN ROWS OF THIS SEAT. 7 by the template 'for every input the law returns true; each argument reads behind the call as it read before'; 0 by the template 'total and deterministic' (their statements: YtphgfhghbpndaaaTotals.lean).
  GIVEN WITH THE SEED: the statements are not yours to turn. If you find one false, say at which input.
  Laid BY PROGRAM, IN A SANDBOX (cutbox-rows.mjs): the forced cells as the released guide's own fill.sh prints them over the translation 1de14679b82ca4ab… (all of the seat's roots in one cut). By AI agents, Wed Nov 11 2026. No macro, syntax, notation, axiom, sorry.
-/
import Derived.Test.YtphgfhghbpndaaaChecked
import GoSem.Claim
import GoSem.ClaimJoined
import GoSem.ClaimMapViews
import Derived.JoinedTies
import Derived.KernelRfl
namespace Go.Proofs.Ytphgfhghbpndaaa
/- THE CELL 'sum', in the pinned program and in every row, IS THE sha256 OF THE DUMP (.gsa) THAT YtphgfhghbpndaaaProg.lean LOADS. Nothing in Lean hashes anything: it is a label: what it is worth is what the hold of that sum in a sandbox is worth. -/
noncomputable def Try.pinned : Pinned := { name := "ytphgfhghbpndaaa", sum := "1de14679b82ca4abae654044dce6a801a3dbc21f8a292d8ebc1065f82b5d171a", checked := Try.checked }
namespace Rows
def none {H : Type} : Left H := { results := [], args := [] }

/-- 'hypostylelaw10.RunsEncodes': WHATEVER THE INPUT: true; the input reads as it did. -/
def runsEncodesSpec : ChangeSpec := { name := "runsEncodes", fn := fun _ => fun
  | [d] => { results := [.lit (.bool true)], args := [d] }
  | _ => none }
def runsEncodesRow : OpenClaim := { program := "ytphgfhghbpndaaa", sum := "1de14679b82ca4abae654044dce6a801a3dbc21f8a292d8ebc1065f82b5d171a", func := "hypostyle/hypostylelaw10.RunsEncodes", spec := "runsEncodes", unfollowed := true, recurses := true, apart := false }
def RunsEncodesSaid : Prop := runsEncodesRow.holds Try.pinned (OpenSpec.ofChange runsEncodesSpec)

/-- ITS FALSE NEIGHBOUR: 'it returns false'. Refute it at one input. -/
def runsEncodesWrong : ChangeSpec := { name := "runsEncodes", fn := fun _ => fun
  | [d] => { results := [.lit (.bool false)], args := [d] }
  | _ => none }
def RunsEncodesWrongFalsely : Prop := runsEncodesRow.holds Try.pinned (OpenSpec.ofChange runsEncodesWrong)

/-- 'hypostylelaw10.RunsDecodes': WHATEVER THE INPUT: true; the input reads as it did. -/
def runsDecodesSpec : ChangeSpec := { name := "runsDecodes", fn := fun _ => fun
  | [d1, d2] => { results := [.lit (.bool true)], args := [d1, d2] }
  | _ => none }
def runsDecodesRow : OpenClaim := { program := "ytphgfhghbpndaaa", sum := "1de14679b82ca4abae654044dce6a801a3dbc21f8a292d8ebc1065f82b5d171a", func := "hypostyle/hypostylelaw10.RunsDecodes", spec := "runsDecodes", unfollowed := true, recurses := true, apart := false }
def RunsDecodesSaid : Prop := runsDecodesRow.holds Try.pinned (OpenSpec.ofChange runsDecodesSpec)

/-- ITS FALSE NEIGHBOUR: 'it returns false'. Refute it at one input. -/
def runsDecodesWrong : ChangeSpec := { name := "runsDecodes", fn := fun _ => fun
  | [d1, d2] => { results := [.lit (.bool false)], args := [d1, d2] }
  | _ => none }
def RunsDecodesWrongFalsely : Prop := runsDecodesRow.holds Try.pinned (OpenSpec.ofChange runsDecodesWrong)

/-- 'hypostylelaw10.RunsBack': WHATEVER THE INPUT: true; the input reads as it did. -/
def runsBackSpec : ChangeSpec := { name := "runsBack", fn := fun _ => fun
  | [d] => { results := [.lit (.bool true)], args := [d] }
  | _ => none }
def runsBackRow : OpenClaim := { program := "ytphgfhghbpndaaa", sum := "1de14679b82ca4abae654044dce6a801a3dbc21f8a292d8ebc1065f82b5d171a", func := "hypostyle/hypostylelaw10.RunsBack", spec := "runsBack", unfollowed := true, recurses := true, apart := false }
def RunsBackSaid : Prop := runsBackRow.holds Try.pinned (OpenSpec.ofChange runsBackSpec)

/-- ITS FALSE NEIGHBOUR: 'it returns false'. Refute it at one input. -/
def runsBackWrong : ChangeSpec := { name := "runsBack", fn := fun _ => fun
  | [d] => { results := [.lit (.bool false)], args := [d] }
  | _ => none }
def RunsBackWrongFalsely : Prop := runsBackRow.holds Try.pinned (OpenSpec.ofChange runsBackWrong)

/-- 'hypostylelaw10.RunsOnce': WHATEVER THE INPUT: true; the input reads as it did. -/
def runsOnceSpec : ChangeSpec := { name := "runsOnce", fn := fun _ => fun
  | [d1, d2] => { results := [.lit (.bool true)], args := [d1, d2] }
  | _ => none }
def runsOnceRow : OpenClaim := { program := "ytphgfhghbpndaaa", sum := "1de14679b82ca4abae654044dce6a801a3dbc21f8a292d8ebc1065f82b5d171a", func := "hypostyle/hypostylelaw10.RunsOnce", spec := "runsOnce", unfollowed := true, recurses := true, apart := false }
def RunsOnceSaid : Prop := runsOnceRow.holds Try.pinned (OpenSpec.ofChange runsOnceSpec)

/-- ITS FALSE NEIGHBOUR: 'it returns false'. Refute it at one input. -/
def runsOnceWrong : ChangeSpec := { name := "runsOnce", fn := fun _ => fun
  | [d1, d2] => { results := [.lit (.bool false)], args := [d1, d2] }
  | _ => none }
def RunsOnceWrongFalsely : Prop := runsOnceRow.holds Try.pinned (OpenSpec.ofChange runsOnceWrong)

/-- 'hypostylelaw10.RunsCuts': WHATEVER THE INPUT: true; the input reads as it did. -/
def runsCutsSpec : ChangeSpec := { name := "runsCuts", fn := fun _ => fun
  | [d] => { results := [.lit (.bool true)], args := [d] }
  | _ => none }
def runsCutsRow : OpenClaim := { program := "ytphgfhghbpndaaa", sum := "1de14679b82ca4abae654044dce6a801a3dbc21f8a292d8ebc1065f82b5d171a", func := "hypostyle/hypostylelaw10.RunsCuts", spec := "runsCuts", unfollowed := true, recurses := true, apart := false }
def RunsCutsSaid : Prop := runsCutsRow.holds Try.pinned (OpenSpec.ofChange runsCutsSpec)

/-- ITS FALSE NEIGHBOUR: 'it returns false'. Refute it at one input. -/
def runsCutsWrong : ChangeSpec := { name := "runsCuts", fn := fun _ => fun
  | [d] => { results := [.lit (.bool false)], args := [d] }
  | _ => none }
def RunsCutsWrongFalsely : Prop := runsCutsRow.holds Try.pinned (OpenSpec.ofChange runsCutsWrong)

/-- 'hypostylelaw10.RunsShort': WHATEVER THE INPUT: true; the input reads as it did. -/
def runsShortSpec : ChangeSpec := { name := "runsShort", fn := fun _ => fun
  | [d1, d2] => { results := [.lit (.bool true)], args := [d1, d2] }
  | _ => none }
def runsShortRow : OpenClaim := { program := "ytphgfhghbpndaaa", sum := "1de14679b82ca4abae654044dce6a801a3dbc21f8a292d8ebc1065f82b5d171a", func := "hypostyle/hypostylelaw10.RunsShort", spec := "runsShort", unfollowed := true, recurses := true, apart := false }
def RunsShortSaid : Prop := runsShortRow.holds Try.pinned (OpenSpec.ofChange runsShortSpec)

/-- ITS FALSE NEIGHBOUR: 'it returns false'. Refute it at one input. -/
def runsShortWrong : ChangeSpec := { name := "runsShort", fn := fun _ => fun
  | [d1, d2] => { results := [.lit (.bool false)], args := [d1, d2] }
  | _ => none }
def RunsShortWrongFalsely : Prop := runsShortRow.holds Try.pinned (OpenSpec.ofChange runsShortWrong)

/-- 'hypostylelaw10.RunsApart': WHATEVER THE INPUT: true; the input reads as it did. -/
def runsApartSpec : ChangeSpec := { name := "runsApart", fn := fun _ => fun
  | [d1, d2] => { results := [.lit (.bool true)], args := [d1, d2] }
  | _ => none }
def runsApartRow : OpenClaim := { program := "ytphgfhghbpndaaa", sum := "1de14679b82ca4abae654044dce6a801a3dbc21f8a292d8ebc1065f82b5d171a", func := "hypostyle/hypostylelaw10.RunsApart", spec := "runsApart", unfollowed := true, recurses := true, apart := false }
def RunsApartSaid : Prop := runsApartRow.holds Try.pinned (OpenSpec.ofChange runsApartSpec)

/-- ITS FALSE NEIGHBOUR: 'it returns false'. Refute it at one input. -/
def runsApartWrong : ChangeSpec := { name := "runsApart", fn := fun _ => fun
  | [d1, d2] => { results := [.lit (.bool false)], args := [d1, d2] }
  | _ => none }
def RunsApartWrongFalsely : Prop := runsApartRow.holds Try.pinned (OpenSpec.ofChange runsApartWrong)

/- THE SECOND FORM. 'bulk': how many values and letters a reading holds, each counted each time it is reached (what is shared counts as often as it is met; a slice's spare places count too). A statement '..UptoSaid' is the law's where the arguments, and the package variables that the reading takes, are together of bulk at most 1048576: NARROWER than '..Said'. Prove '..Said' where nothing that the law and all that it calls make is longer than what came in: it says more and counts as full. Else prove '..UptoSaid'. A law counts once. -/
mutual
def uptoBulk {H : Type} : DataW H → Nat
  | .lit (.string bytes) => bytes.length + 1
  | .lit _ => 1
  | .nil => 1
  | .ptr d => uptoBulk d + 1
  | .slice elems spare => uptoBulkAll elems + uptoBulkAll spare + 1
  | .agg parts => uptoBulkAll parts + 1
  | .iface _ d => uptoBulk d + 1
  | .map entries => uptoBulkEntries entries + 1
  | .held _ => 1
def uptoBulkAll {H : Type} : List (DataW H) → Nat
  | [] => 0
  | d :: r => uptoBulk d + uptoBulkAll r
def uptoBulkEntries {H : Type} : List (Lit × DataW H) → Nat
  | [] => 0
  | x :: r => uptoBulkEntry x + uptoBulkEntries r
def uptoBulkEntry {H : Type} : Lit × DataW H → Nat
  | (.string bytes, d) => bytes.length + uptoBulk d + 1
  | (_, d) => uptoBulk d + 1
 end
def uptoSmall : (H : Type) → List (DataW H) → Bool := fun _ ds => decide (uptoBulkAll ds ≤ 1048576)
def OpenSpec.upto (s : _root_.Go.ChangeSpec) : _root_.Go.OpenSpec := { _root_.Go.OpenSpec.ofChange s with cond := some uptoSmall }

/-- 'hypostylelaw10.RunsEncodes', WHERE WHAT IT READS IS OF BULK AT MOST 1048576: true; the input reads as it did. -/
def runsEncodesUptoRow : OpenClaim := { program := "ytphgfhghbpndaaa", sum := "1de14679b82ca4abae654044dce6a801a3dbc21f8a292d8ebc1065f82b5d171a", func := "hypostyle/hypostylelaw10.RunsEncodes", spec := "runsEncodes", unfollowed := true, recurses := true, apart := false, narrowed := true }
def RunsEncodesUptoSaid : Prop := runsEncodesUptoRow.holds Try.pinned (OpenSpec.upto runsEncodesSpec)

/-- 'hypostylelaw10.RunsDecodes', WHERE WHAT IT READS IS OF BULK AT MOST 1048576: true; the input reads as it did. -/
def runsDecodesUptoRow : OpenClaim := { program := "ytphgfhghbpndaaa", sum := "1de14679b82ca4abae654044dce6a801a3dbc21f8a292d8ebc1065f82b5d171a", func := "hypostyle/hypostylelaw10.RunsDecodes", spec := "runsDecodes", unfollowed := true, recurses := true, apart := false, narrowed := true }
def RunsDecodesUptoSaid : Prop := runsDecodesUptoRow.holds Try.pinned (OpenSpec.upto runsDecodesSpec)

/-- 'hypostylelaw10.RunsBack', WHERE WHAT IT READS IS OF BULK AT MOST 1048576: true; the input reads as it did. -/
def runsBackUptoRow : OpenClaim := { program := "ytphgfhghbpndaaa", sum := "1de14679b82ca4abae654044dce6a801a3dbc21f8a292d8ebc1065f82b5d171a", func := "hypostyle/hypostylelaw10.RunsBack", spec := "runsBack", unfollowed := true, recurses := true, apart := false, narrowed := true }
def RunsBackUptoSaid : Prop := runsBackUptoRow.holds Try.pinned (OpenSpec.upto runsBackSpec)

/-- 'hypostylelaw10.RunsOnce', WHERE WHAT IT READS IS OF BULK AT MOST 1048576: true; the input reads as it did. -/
def runsOnceUptoRow : OpenClaim := { program := "ytphgfhghbpndaaa", sum := "1de14679b82ca4abae654044dce6a801a3dbc21f8a292d8ebc1065f82b5d171a", func := "hypostyle/hypostylelaw10.RunsOnce", spec := "runsOnce", unfollowed := true, recurses := true, apart := false, narrowed := true }
def RunsOnceUptoSaid : Prop := runsOnceUptoRow.holds Try.pinned (OpenSpec.upto runsOnceSpec)

/-- 'hypostylelaw10.RunsCuts', WHERE WHAT IT READS IS OF BULK AT MOST 1048576: true; the input reads as it did. -/
def runsCutsUptoRow : OpenClaim := { program := "ytphgfhghbpndaaa", sum := "1de14679b82ca4abae654044dce6a801a3dbc21f8a292d8ebc1065f82b5d171a", func := "hypostyle/hypostylelaw10.RunsCuts", spec := "runsCuts", unfollowed := true, recurses := true, apart := false, narrowed := true }
def RunsCutsUptoSaid : Prop := runsCutsUptoRow.holds Try.pinned (OpenSpec.upto runsCutsSpec)

/-- 'hypostylelaw10.RunsShort', WHERE WHAT IT READS IS OF BULK AT MOST 1048576: true; the input reads as it did. -/
def runsShortUptoRow : OpenClaim := { program := "ytphgfhghbpndaaa", sum := "1de14679b82ca4abae654044dce6a801a3dbc21f8a292d8ebc1065f82b5d171a", func := "hypostyle/hypostylelaw10.RunsShort", spec := "runsShort", unfollowed := true, recurses := true, apart := false, narrowed := true }
def RunsShortUptoSaid : Prop := runsShortUptoRow.holds Try.pinned (OpenSpec.upto runsShortSpec)

/-- 'hypostylelaw10.RunsApart', WHERE WHAT IT READS IS OF BULK AT MOST 1048576: true; the input reads as it did. -/
def runsApartUptoRow : OpenClaim := { program := "ytphgfhghbpndaaa", sum := "1de14679b82ca4abae654044dce6a801a3dbc21f8a292d8ebc1065f82b5d171a", func := "hypostyle/hypostylelaw10.RunsApart", spec := "runsApart", unfollowed := true, recurses := true, apart := false, narrowed := true }
def RunsApartUptoSaid : Prop := runsApartUptoRow.holds Try.pinned (OpenSpec.upto runsApartSpec)

end Rows
end Go.Proofs.Ytphgfhghbpndaaa
