/-
  NARROWER THAN 'FOR EVERY INPUT', by the rows' own cells (each row's printed sentence says how): LayoutCuts: laid · LayoutChecks: laid · LayoutOver: laid · LayoutAll: laid · LayoutParts: laid.
  DERIVED. THE GIVEN ROWS OF THIS SEAT. 5 by the template 'for every input the law returns true; each argument reads behind the call as it read before'; 0 by the template 'total and deterministic' (their statements: YtcpimhefclfbaaaGreatDoorTotals.lean).
  GIVEN WITH THE SEED: the statements are not yours to turn. If you find one false, say at which input.
  Laid BY PROGRAM, IN A SANDBOX (cutbox-rows.mjs): the forced cells as the released guide's own fill.sh prints them over the translation 045f41e328f59bdf… (all of the seat's roots in one cut). By AI agents, Wed Nov 11 2026. No macro, syntax, notation, axiom, sorry.
-/
import Derived.Test.YtcpimhefclfbaaaGreatDoorChecked
import GoSem.Claim
import GoSem.ClaimJoined
import GoSem.ClaimMapViews
import Derived.JoinedTies
import Derived.KernelRfl
namespace Go.Proofs.YtcpimhefclfbaaaGreatDoor
/- THE CELL 'sum', in the pinned program and in every row, IS THE sha256 OF THE DUMP (.gsa) THAT YtcpimhefclfbaaaGreatDoorProg.lean LOADS. Nothing in Lean hashes anything: it is a label: what it is worth is what the hold of that sum in a sandbox is worth. -/
noncomputable def Tryz.pinned : Pinned := { name := "ytcpimhefclfbaaagreatdoor", sum := "045f41e328f59bdf949547be73e406e43569c487b3e8f1a1a2970fcf3d40153a", checked := Tryz.checked }
namespace Rows
def none {H : Type} : Left H := { results := [], args := [] }

/- WHAT THE LISTED PACKAGE-LEVEL VARIABLES READ AS WHEN THE CALL BEGINS. Each datum BY PROGRAM (the guide's laid-datum.mjs) off the statement by which the dump's own 'gosem.cut.vars' lays the variable. In a bare row this is a premise. The card (YtcpimhefclfbaaaGreatDoorCards.lean) ties it to the program's text. -/
def laid_bytes_ErrTooLarge {H : Type} : DataW H := .iface "*errors.errorString" (.ptr (.agg [.lit (.string [98, 121, 116, 101, 115, 46, 66, 117, 102, 102, 101, 114, 58, 32, 116, 111, 111, 32, 108, 97, 114, 103, 101])]))

/-- 'hypostylelaw18.LayoutCuts': WHATEVER THE INPUT: true; the input reads as it did. -/
def layoutCutsSpec : ChangeSpec := { name := "layoutCuts", fn := fun _ => fun
  | [d1, d2, d3, d4, d5] => { results := [.lit (.bool true)], args := [d1, d2, d3, d4, d5] }
  | _ => none }
def layoutCutsRow : OpenClaim := { program := "ytcpimhefclfbaaagreatdoor", sum := "045f41e328f59bdf949547be73e406e43569c487b3e8f1a1a2970fcf3d40153a", func := "hypostyle/hypostylelaw18.LayoutCuts", spec := "layoutCuts", unfollowed := true, recurses := true, named := ["bytes.ErrTooLarge"], plainKeys := false, apart := false, laid := [("bytes.ErrTooLarge", laid_bytes_ErrTooLarge)] }
def LayoutCutsSaid : Prop := layoutCutsRow.holds Tryz.pinned (OpenSpec.ofChange layoutCutsSpec)

/-- ITS FALSE NEIGHBOUR: 'it returns false'. Refute it at one input. -/
def layoutCutsWrong : ChangeSpec := { name := "layoutCuts", fn := fun _ => fun
  | [d1, d2, d3, d4, d5] => { results := [.lit (.bool false)], args := [d1, d2, d3, d4, d5] }
  | _ => none }
def LayoutCutsWrongFalsely : Prop := layoutCutsRow.holds Tryz.pinned (OpenSpec.ofChange layoutCutsWrong)

/-- 'hypostylelaw18.LayoutChecks': WHATEVER THE INPUT: true; the input reads as it did. -/
def layoutChecksSpec : ChangeSpec := { name := "layoutChecks", fn := fun _ => fun
  | [d1, d2] => { results := [.lit (.bool true)], args := [d1, d2] }
  | _ => none }
def layoutChecksRow : OpenClaim := { program := "ytcpimhefclfbaaagreatdoor", sum := "045f41e328f59bdf949547be73e406e43569c487b3e8f1a1a2970fcf3d40153a", func := "hypostyle/hypostylelaw18.LayoutChecks", spec := "layoutChecks", unfollowed := true, recurses := true, named := ["bytes.ErrTooLarge"], plainKeys := false, apart := false, laid := [("bytes.ErrTooLarge", laid_bytes_ErrTooLarge)] }
def LayoutChecksSaid : Prop := layoutChecksRow.holds Tryz.pinned (OpenSpec.ofChange layoutChecksSpec)

/-- ITS FALSE NEIGHBOUR: 'it returns false'. Refute it at one input. -/
def layoutChecksWrong : ChangeSpec := { name := "layoutChecks", fn := fun _ => fun
  | [d1, d2] => { results := [.lit (.bool false)], args := [d1, d2] }
  | _ => none }
def LayoutChecksWrongFalsely : Prop := layoutChecksRow.holds Tryz.pinned (OpenSpec.ofChange layoutChecksWrong)

/-- 'hypostylelaw18.LayoutOver': WHATEVER THE INPUT: true; the input reads as it did. -/
def layoutOverSpec : ChangeSpec := { name := "layoutOver", fn := fun _ => fun
  | [d1, d2, d3, d4] => { results := [.lit (.bool true)], args := [d1, d2, d3, d4] }
  | _ => none }
def layoutOverRow : OpenClaim := { program := "ytcpimhefclfbaaagreatdoor", sum := "045f41e328f59bdf949547be73e406e43569c487b3e8f1a1a2970fcf3d40153a", func := "hypostyle/hypostylelaw18.LayoutOver", spec := "layoutOver", unfollowed := true, recurses := true, named := ["bytes.ErrTooLarge"], plainKeys := false, apart := false, laid := [("bytes.ErrTooLarge", laid_bytes_ErrTooLarge)] }
def LayoutOverSaid : Prop := layoutOverRow.holds Tryz.pinned (OpenSpec.ofChange layoutOverSpec)

/-- ITS FALSE NEIGHBOUR: 'it returns false'. Refute it at one input. -/
def layoutOverWrong : ChangeSpec := { name := "layoutOver", fn := fun _ => fun
  | [d1, d2, d3, d4] => { results := [.lit (.bool false)], args := [d1, d2, d3, d4] }
  | _ => none }
def LayoutOverWrongFalsely : Prop := layoutOverRow.holds Tryz.pinned (OpenSpec.ofChange layoutOverWrong)

/-- 'hypostylelaw18.LayoutAll': WHATEVER THE INPUT: true; the input reads as it did. -/
def layoutAllSpec : ChangeSpec := { name := "layoutAll", fn := fun _ => fun
  | [d1, d2, d3] => { results := [.lit (.bool true)], args := [d1, d2, d3] }
  | _ => none }
def layoutAllRow : OpenClaim := { program := "ytcpimhefclfbaaagreatdoor", sum := "045f41e328f59bdf949547be73e406e43569c487b3e8f1a1a2970fcf3d40153a", func := "hypostyle/hypostylelaw18.LayoutAll", spec := "layoutAll", unfollowed := true, recurses := true, named := ["bytes.ErrTooLarge"], plainKeys := false, apart := false, laid := [("bytes.ErrTooLarge", laid_bytes_ErrTooLarge)] }
def LayoutAllSaid : Prop := layoutAllRow.holds Tryz.pinned (OpenSpec.ofChange layoutAllSpec)

/-- ITS FALSE NEIGHBOUR: 'it returns false'. Refute it at one input. -/
def layoutAllWrong : ChangeSpec := { name := "layoutAll", fn := fun _ => fun
  | [d1, d2, d3] => { results := [.lit (.bool false)], args := [d1, d2, d3] }
  | _ => none }
def LayoutAllWrongFalsely : Prop := layoutAllRow.holds Tryz.pinned (OpenSpec.ofChange layoutAllWrong)

/-- 'hypostylelaw18.LayoutParts': WHATEVER THE INPUT: true; the input reads as it did. -/
def layoutPartsSpec : ChangeSpec := { name := "layoutParts", fn := fun _ => fun
  | [d1, d2, d3, d4, d5] => { results := [.lit (.bool true)], args := [d1, d2, d3, d4, d5] }
  | _ => none }
def layoutPartsRow : OpenClaim := { program := "ytcpimhefclfbaaagreatdoor", sum := "045f41e328f59bdf949547be73e406e43569c487b3e8f1a1a2970fcf3d40153a", func := "hypostyle/hypostylelaw18.LayoutParts", spec := "layoutParts", unfollowed := true, recurses := true, named := ["bytes.ErrTooLarge"], plainKeys := false, apart := false, laid := [("bytes.ErrTooLarge", laid_bytes_ErrTooLarge)] }
def LayoutPartsSaid : Prop := layoutPartsRow.holds Tryz.pinned (OpenSpec.ofChange layoutPartsSpec)

/-- ITS FALSE NEIGHBOUR: 'it returns false'. Refute it at one input. -/
def layoutPartsWrong : ChangeSpec := { name := "layoutParts", fn := fun _ => fun
  | [d1, d2, d3, d4, d5] => { results := [.lit (.bool false)], args := [d1, d2, d3, d4, d5] }
  | _ => none }
def LayoutPartsWrongFalsely : Prop := layoutPartsRow.holds Tryz.pinned (OpenSpec.ofChange layoutPartsWrong)

/- THE SECOND FORM. 'bulk': how many values and letters a reading holds, each counted each time it is reached (what is shared counts as often as it is met; a slice's spare places count too). A statement '..UptoSaid' is the law's where the arguments, and the package variables that the reading takes, are together of bulk at most 1048576: NARROWER than '..Said'. Prove '..Said' where nothing that the law and all that it calls make is longer than what came in: it says more and counts as full. Else prove '..UptoSaid'. A law counts once. -/
mutual
def uptoBulk {H : Type} : DataW H → Nat
  | .lit (.string bytes) => bytes.length + 1
  | .lit _ => 1
  | .nil => 1
  | .ptr d => uptoBulk d + 1
  | .slice elems spare => uptoBulkAll elems + uptoBulkAll spare + 1
  | .agg parts => uptoBulkAll parts + 1
  | .iface _ d => uptoBulk d + 1
  | .map entries => uptoBulkEntries entries + 1
  | .held _ => 1
def uptoBulkAll {H : Type} : List (DataW H) → Nat
  | [] => 0
  | d :: r => uptoBulk d + uptoBulkAll r
def uptoBulkEntries {H : Type} : List (Lit × DataW H) → Nat
  | [] => 0
  | x :: r => uptoBulkEntry x + uptoBulkEntries r
def uptoBulkEntry {H : Type} : Lit × DataW H → Nat
  | (.string bytes, d) => bytes.length + uptoBulk d + 1
  | (_, d) => uptoBulk d + 1
 end
def uptoSmall : (H : Type) → List (DataW H) → Bool := fun _ ds => decide (uptoBulkAll ds ≤ 1048576)
def OpenSpec.upto (s : _root_.Go.ChangeSpec) : _root_.Go.OpenSpec := { _root_.Go.OpenSpec.ofChange s with cond := some uptoSmall }

/-- 'hypostylelaw18.LayoutCuts', WHERE WHAT IT READS IS OF BULK AT MOST 1048576: true; the input reads as it did. -/
def layoutCutsUptoRow : OpenClaim := { program := "ytcpimhefclfbaaagreatdoor", sum := "045f41e328f59bdf949547be73e406e43569c487b3e8f1a1a2970fcf3d40153a", func := "hypostyle/hypostylelaw18.LayoutCuts", spec := "layoutCuts", unfollowed := true, recurses := true, named := ["bytes.ErrTooLarge"], plainKeys := false, apart := false, laid := [("bytes.ErrTooLarge", laid_bytes_ErrTooLarge)], narrowed := true }
def LayoutCutsUptoSaid : Prop := layoutCutsUptoRow.holds Tryz.pinned (OpenSpec.upto layoutCutsSpec)

/-- 'hypostylelaw18.LayoutChecks', WHERE WHAT IT READS IS OF BULK AT MOST 1048576: true; the input reads as it did. -/
def layoutChecksUptoRow : OpenClaim := { program := "ytcpimhefclfbaaagreatdoor", sum := "045f41e328f59bdf949547be73e406e43569c487b3e8f1a1a2970fcf3d40153a", func := "hypostyle/hypostylelaw18.LayoutChecks", spec := "layoutChecks", unfollowed := true, recurses := true, named := ["bytes.ErrTooLarge"], plainKeys := false, apart := false, laid := [("bytes.ErrTooLarge", laid_bytes_ErrTooLarge)], narrowed := true }
def LayoutChecksUptoSaid : Prop := layoutChecksUptoRow.holds Tryz.pinned (OpenSpec.upto layoutChecksSpec)

/-- 'hypostylelaw18.LayoutOver', WHERE WHAT IT READS IS OF BULK AT MOST 1048576: true; the input reads as it did. -/
def layoutOverUptoRow : OpenClaim := { program := "ytcpimhefclfbaaagreatdoor", sum := "045f41e328f59bdf949547be73e406e43569c487b3e8f1a1a2970fcf3d40153a", func := "hypostyle/hypostylelaw18.LayoutOver", spec := "layoutOver", unfollowed := true, recurses := true, named := ["bytes.ErrTooLarge"], plainKeys := false, apart := false, laid := [("bytes.ErrTooLarge", laid_bytes_ErrTooLarge)], narrowed := true }
def LayoutOverUptoSaid : Prop := layoutOverUptoRow.holds Tryz.pinned (OpenSpec.upto layoutOverSpec)

/-- 'hypostylelaw18.LayoutAll', WHERE WHAT IT READS IS OF BULK AT MOST 1048576: true; the input reads as it did. -/
def layoutAllUptoRow : OpenClaim := { program := "ytcpimhefclfbaaagreatdoor", sum := "045f41e328f59bdf949547be73e406e43569c487b3e8f1a1a2970fcf3d40153a", func := "hypostyle/hypostylelaw18.LayoutAll", spec := "layoutAll", unfollowed := true, recurses := true, named := ["bytes.ErrTooLarge"], plainKeys := false, apart := false, laid := [("bytes.ErrTooLarge", laid_bytes_ErrTooLarge)], narrowed := true }
def LayoutAllUptoSaid : Prop := layoutAllUptoRow.holds Tryz.pinned (OpenSpec.upto layoutAllSpec)

/-- 'hypostylelaw18.LayoutParts', WHERE WHAT IT READS IS OF BULK AT MOST 1048576: true; the input reads as it did. -/
def layoutPartsUptoRow : OpenClaim := { program := "ytcpimhefclfbaaagreatdoor", sum := "045f41e328f59bdf949547be73e406e43569c487b3e8f1a1a2970fcf3d40153a", func := "hypostyle/hypostylelaw18.LayoutParts", spec := "layoutParts", unfollowed := true, recurses := true, named := ["bytes.ErrTooLarge"], plainKeys := false, apart := false, laid := [("bytes.ErrTooLarge", laid_bytes_ErrTooLarge)], narrowed := true }
def LayoutPartsUptoSaid : Prop := layoutPartsUptoRow.holds Tryz.pinned (OpenSpec.upto layoutPartsSpec)

end Rows
end Go.Proofs.YtcpimhefclfbaaaGreatDoor
