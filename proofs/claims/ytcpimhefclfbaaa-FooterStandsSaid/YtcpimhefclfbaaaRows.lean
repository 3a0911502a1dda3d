/-
  No cell of these rows narrows 'for every input' (looked for: loops, veiled, ifaces, maps, wideKeys, modest, calm, conditions, laid).
  DERIVED. THE GIVEN ROWS OF THIS SEAT. 5 by the template 'for every input the law returns true; each argument reads behind the call as it read before'; 0 by the template 'total and deterministic' (their statements: YtcpimhefclfbaaaTotals.lean).
  GIVEN WITH THE SEED: the statements are not yours to turn. If you find one false, say at which input.
  Laid BY PROGRAM, IN A SANDBOX (cutbox-rows.mjs): the forced cells as the released guide's own fill.sh prints them over the translation 98b012fdb79a2b16… (all of the seat's roots in one cut). By AI agents, Wed Nov 11 2026. No macro, syntax, notation, axiom, sorry.
-/
import Derived.Test.YtcpimhefclfbaaaChecked
import GoSem.Claim
import GoSem.ClaimJoined
import GoSem.ClaimMapViews
import Derived.JoinedTies
import Derived.KernelRfl
namespace Go.Proofs.Ytcpimhefclfbaaa
/- THE CELL 'sum', in the pinned program and in every row, IS THE sha256 OF THE DUMP (.gsa) THAT YtcpimhefclfbaaaProg.lean LOADS. Nothing in Lean hashes anything: it is a label: what it is worth is what the hold of that sum in a sandbox is worth. -/
noncomputable def Try.pinned : Pinned := { name := "ytcpimhefclfbaaa", sum := "98b012fdb79a2b162fec2a46229ba1f86ec7d9488d98a347e0a0e8ad0c70d0a2", checked := Try.checked }
namespace Rows
def none {H : Type} : Left H := { results := [], args := [] }

/-- 'hypostylelaw19.FooterEncodes': WHATEVER THE INPUT: true; the input reads as it did. -/
def footerEncodesSpec : ChangeSpec := { name := "footerEncodes", fn := fun _ => fun
  | [d] => { results := [.lit (.bool true)], args := [d] }
  | _ => none }
def footerEncodesRow : OpenClaim := { program := "ytcpimhefclfbaaa", sum := "98b012fdb79a2b162fec2a46229ba1f86ec7d9488d98a347e0a0e8ad0c70d0a2", func := "hypostyle/hypostylelaw19.FooterEncodes", spec := "footerEncodes", inPlace := ["internal/bytealg.abigen_runtime_cmpstring"], unfollowed := true, recurses := true, apart := false }
def FooterEncodesSaid : Prop := footerEncodesRow.holds Try.pinned (OpenSpec.ofChange footerEncodesSpec)

/-- ITS FALSE NEIGHBOUR: 'it returns false'. Refute it at one input. -/
def footerEncodesWrong : ChangeSpec := { name := "footerEncodes", fn := fun _ => fun
  | [d] => { results := [.lit (.bool false)], args := [d] }
  | _ => none }
def FooterEncodesWrongFalsely : Prop := footerEncodesRow.holds Try.pinned (OpenSpec.ofChange footerEncodesWrong)

/-- 'hypostylelaw19.FooterDecodes': WHATEVER THE INPUT: true; the input reads as it did. -/
def footerDecodesSpec : ChangeSpec := { name := "footerDecodes", fn := fun _ => fun
  | [d] => { results := [.lit (.bool true)], args := [d] }
  | _ => none }
def footerDecodesRow : OpenClaim := { program := "ytcpimhefclfbaaa", sum := "98b012fdb79a2b162fec2a46229ba1f86ec7d9488d98a347e0a0e8ad0c70d0a2", func := "hypostyle/hypostylelaw19.FooterDecodes", spec := "footerDecodes", inPlace := ["internal/bytealg.abigen_runtime_cmpstring"], unfollowed := true, recurses := true, apart := false }
def FooterDecodesSaid : Prop := footerDecodesRow.holds Try.pinned (OpenSpec.ofChange footerDecodesSpec)

/-- ITS FALSE NEIGHBOUR: 'it returns false'. Refute it at one input. -/
def footerDecodesWrong : ChangeSpec := { name := "footerDecodes", fn := fun _ => fun
  | [d] => { results := [.lit (.bool false)], args := [d] }
  | _ => none }
def FooterDecodesWrongFalsely : Prop := footerDecodesRow.holds Try.pinned (OpenSpec.ofChange footerDecodesWrong)

/-- 'hypostylelaw19.FooterPlaces': WHATEVER THE INPUT: true; the input reads as it did. -/
def footerPlacesSpec : ChangeSpec := { name := "footerPlaces", fn := fun _ => fun
  | [d1, d2, d3, d4] => { results := [.lit (.bool true)], args := [d1, d2, d3, d4] }
  | _ => none }
def footerPlacesRow : OpenClaim := { program := "ytcpimhefclfbaaa", sum := "98b012fdb79a2b162fec2a46229ba1f86ec7d9488d98a347e0a0e8ad0c70d0a2", func := "hypostyle/hypostylelaw19.FooterPlaces", spec := "footerPlaces", inPlace := ["internal/bytealg.abigen_runtime_cmpstring"], unfollowed := true, recurses := true, apart := false }
def FooterPlacesSaid : Prop := footerPlacesRow.holds Try.pinned (OpenSpec.ofChange footerPlacesSpec)

/-- ITS FALSE NEIGHBOUR: 'it returns false'. Refute it at one input. -/
def footerPlacesWrong : ChangeSpec := { name := "footerPlaces", fn := fun _ => fun
  | [d1, d2, d3, d4] => { results := [.lit (.bool false)], args := [d1, d2, d3, d4] }
  | _ => none }
def FooterPlacesWrongFalsely : Prop := footerPlacesRow.holds Try.pinned (OpenSpec.ofChange footerPlacesWrong)

/-- 'hypostylelaw19.FooterBack': WHATEVER THE INPUT: true; the input reads as it did. -/
def footerBackSpec : ChangeSpec := { name := "footerBack", fn := fun _ => fun
  | [d1, d2] => { results := [.lit (.bool true)], args := [d1, d2] }
  | _ => none }
def footerBackRow : OpenClaim := { program := "ytcpimhefclfbaaa", sum := "98b012fdb79a2b162fec2a46229ba1f86ec7d9488d98a347e0a0e8ad0c70d0a2", func := "hypostyle/hypostylelaw19.FooterBack", spec := "footerBack", inPlace := ["internal/bytealg.abigen_runtime_cmpstring"], unfollowed := true, recurses := true, apart := false }
def FooterBackSaid : Prop := footerBackRow.holds Try.pinned (OpenSpec.ofChange footerBackSpec)

/-- ITS FALSE NEIGHBOUR: 'it returns false'. Refute it at one input. -/
def footerBackWrong : ChangeSpec := { name := "footerBack", fn := fun _ => fun
  | [d1, d2] => { results := [.lit (.bool false)], args := [d1, d2] }
  | _ => none }
def FooterBackWrongFalsely : Prop := footerBackRow.holds Try.pinned (OpenSpec.ofChange footerBackWrong)

/-- 'hypostylelaw19.FooterStands': WHATEVER THE INPUT: true; the input reads as it did. -/
def footerStandsSpec : ChangeSpec := { name := "footerStands", fn := fun _ => fun
  | [d] => { results := [.lit (.bool true)], args := [d] }
  | _ => none }
def footerStandsRow : OpenClaim := { program := "ytcpimhefclfbaaa", sum := "98b012fdb79a2b162fec2a46229ba1f86ec7d9488d98a347e0a0e8ad0c70d0a2", func := "hypostyle/hypostylelaw19.FooterStands", spec := "footerStands", inPlace := ["internal/bytealg.abigen_runtime_cmpstring"], unfollowed := true, recurses := true, apart := false }
def FooterStandsSaid : Prop := footerStandsRow.holds Try.pinned (OpenSpec.ofChange footerStandsSpec)

/-- ITS FALSE NEIGHBOUR: 'it returns false'. Refute it at one input. -/
def footerStandsWrong : ChangeSpec := { name := "footerStands", fn := fun _ => fun
  | [d] => { results := [.lit (.bool false)], args := [d] }
  | _ => none }
def FooterStandsWrongFalsely : Prop := footerStandsRow.holds Try.pinned (OpenSpec.ofChange footerStandsWrong)

/- THE SECOND FORM. 'bulk': how many values and letters a reading holds, each counted each time it is reached (what is shared counts as often as it is met; a slice's spare places count too). A statement '..UptoSaid' is the law's where the arguments, and the package variables that the reading takes, are together of bulk at most 1048576: NARROWER than '..Said'. Prove '..Said' where nothing that the law and all that it calls make is longer than what came in: it says more and counts as full. Else prove '..UptoSaid'. A law counts once. -/
mutual
def uptoBulk {H : Type} : DataW H → Nat
  | .lit (.string bytes) => bytes.length + 1
  | .lit _ => 1
  | .nil => 1
  | .ptr d => uptoBulk d + 1
  | .slice elems spare => uptoBulkAll elems + uptoBulkAll spare + 1
  | .agg parts => uptoBulkAll parts + 1
  | .iface _ d => uptoBulk d + 1
  | .map entries => uptoBulkEntries entries + 1
  | .held _ => 1
def uptoBulkAll {H : Type} : List (DataW H) → Nat
  | [] => 0
  | d :: r => uptoBulk d + uptoBulkAll r
def uptoBulkEntries {H : Type} : List (Lit × DataW H) → Nat
  | [] => 0
  | x :: r => uptoBulkEntry x + uptoBulkEntries r
def uptoBulkEntry {H : Type} : Lit × DataW H → Nat
  | (.string bytes, d) => bytes.length + uptoBulk d + 1
  | (_, d) => uptoBulk d + 1
 end
def uptoSmall : (H : Type) → List (DataW H) → Bool := fun _ ds => decide (uptoBulkAll ds ≤ 1048576)
def OpenSpec.upto (s : _root_.Go.ChangeSpec) : _root_.Go.OpenSpec := { _root_.Go.OpenSpec.ofChange s with cond := some uptoSmall }

/-- 'hypostylelaw19.FooterEncodes', WHERE WHAT IT READS IS OF BULK AT MOST 1048576: true; the input reads as it did. -/
def footerEncodesUptoRow : OpenClaim := { program := "ytcpimhefclfbaaa", sum := "98b012fdb79a2b162fec2a46229ba1f86ec7d9488d98a347e0a0e8ad0c70d0a2", func := "hypostyle/hypostylelaw19.FooterEncodes", spec := "footerEncodes", inPlace := ["internal/bytealg.abigen_runtime_cmpstring"], unfollowed := true, recurses := true, apart := false, narrowed := true }
def FooterEncodesUptoSaid : Prop := footerEncodesUptoRow.holds Try.pinned (OpenSpec.upto footerEncodesSpec)

/-- 'hypostylelaw19.FooterDecodes', WHERE WHAT IT READS IS OF BULK AT MOST 1048576: true; the input reads as it did. -/
def footerDecodesUptoRow : OpenClaim := { program := "ytcpimhefclfbaaa", sum := "98b012fdb79a2b162fec2a46229ba1f86ec7d9488d98a347e0a0e8ad0c70d0a2", func := "hypostyle/hypostylelaw19.FooterDecodes", spec := "footerDecodes", inPlace := ["internal/bytealg.abigen_runtime_cmpstring"], unfollowed := true, recurses := true, apart := false, narrowed := true }
def FooterDecodesUptoSaid : Prop := footerDecodesUptoRow.holds Try.pinned (OpenSpec.upto footerDecodesSpec)

/-- 'hypostylelaw19.FooterPlaces', WHERE WHAT IT READS IS OF BULK AT MOST 1048576: true; the input reads as it did. -/
def footerPlacesUptoRow : OpenClaim := { program := "ytcpimhefclfbaaa", sum := "98b012fdb79a2b162fec2a46229ba1f86ec7d9488d98a347e0a0e8ad0c70d0a2", func := "hypostyle/hypostylelaw19.FooterPlaces", spec := "footerPlaces", inPlace := ["internal/bytealg.abigen_runtime_cmpstring"], unfollowed := true, recurses := true, apart := false, narrowed := true }
def FooterPlacesUptoSaid : Prop := footerPlacesUptoRow.holds Try.pinned (OpenSpec.upto footerPlacesSpec)

/-- 'hypostylelaw19.FooterBack', WHERE WHAT IT READS IS OF BULK AT MOST 1048576: true; the input reads as it did. -/
def footerBackUptoRow : OpenClaim := { program := "ytcpimhefclfbaaa", sum := "98b012fdb79a2b162fec2a46229ba1f86ec7d9488d98a347e0a0e8ad0c70d0a2", func := "hypostyle/hypostylelaw19.FooterBack", spec := "footerBack", inPlace := ["internal/bytealg.abigen_runtime_cmpstring"], unfollowed := true, recurses := true, apart := false, narrowed := true }
def FooterBackUptoSaid : Prop := footerBackUptoRow.holds Try.pinned (OpenSpec.upto footerBackSpec)

/-- 'hypostylelaw19.FooterStands', WHERE WHAT IT READS IS OF BULK AT MOST 1048576: true; the input reads as it did. -/
def footerStandsUptoRow : OpenClaim := { program := "ytcpimhefclfbaaa", sum := "98b012fdb79a2b162fec2a46229ba1f86ec7d9488d98a347e0a0e8ad0c70d0a2", func := "hypostyle/hypostylelaw19.FooterStands", spec := "footerStands", inPlace := ["internal/bytealg.abigen_runtime_cmpstring"], unfollowed := true, recurses := true, apart := false, narrowed := true }
def FooterStandsUptoSaid : Prop := footerStandsUptoRow.holds Try.pinned (OpenSpec.upto footerStandsSpec)

end Rows
end Go.Proofs.Ytcpimhefclfbaaa
