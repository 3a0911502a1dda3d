/-
  No cell of these rows narrows 'for every input' (looked for: loops, veiled, ifaces, maps, wideKeys, modest, calm, conditions, laid).
  DERIVED. THE GIVEN ROWS OF THIS SEAT. 9 by the template 'for every input the law returns true; each argument reads behind the call as it read before'; 0 by the template 'total and deterministic' (their statements: YtejbfknhnhhlfaaTotals.lean).
  GIVEN WITH THE SEED: the statements are not yours to turn. If you find one false, say at which input.
  Laid BY PROGRAM, IN A SANDBOX (cutbox-rows.mjs): the forced cells as the released guide's own fill.sh prints them over the translation 4f3a72ad31875eef… (all of the seat's roots in one cut). By AI agents, Wed Nov 11 2026. No macro, syntax, notation, axiom, sorry.
-/
import Derived.Test.YtejbfknhnhhlfaaChecked
import GoSem.Claim
import GoSem.ClaimJoined
import GoSem.ClaimMapViews
import Derived.JoinedTies
import Derived.KernelRfl
namespace Go.Proofs.Ytejbfknhnhhlfaa
/- THE CELL 'sum', in the pinned program and in every row, IS THE sha256 OF THE DUMP (.gsa) THAT YtejbfknhnhhlfaaProg.lean LOADS. Nothing in Lean hashes anything: it is a label: what it is worth is what the hold of that sum in a sandbox is worth. -/
noncomputable def Try.pinned : Pinned := { name := "ytejbfknhnhhlfaa", sum := "4f3a72ad31875eef510b6811b7ef1a277e9a813aa7a18e8dcaf631813b44ebab", checked := Try.checked }
namespace Rows
def none {H : Type} : Left H := { results := [], args := [] }

/-- 'hypostylelaw15.StatTells': WHATEVER THE INPUT: true; the input reads as it did. -/
def statTellsSpec : ChangeSpec := { name := "statTells", fn := fun _ => fun
  | [d1, d2, d3] => { results := [.lit (.bool true)], args := [d1, d2, d3] }
  | _ => none }
def statTellsRow : OpenClaim := { program := "ytejbfknhnhhlfaa", sum := "4f3a72ad31875eef510b6811b7ef1a277e9a813aa7a18e8dcaf631813b44ebab", func := "hypostyle/hypostylelaw15.StatTells", spec := "statTells", inPlace := ["internal/bytealg.abigen_runtime_cmpstring"], unfollowed := true, recurses := true, plainKeys := false, apart := false }
def StatTellsSaid : Prop := statTellsRow.holds Try.pinned (OpenSpec.ofChange statTellsSpec)

/-- ITS FALSE NEIGHBOUR: 'it returns false'. Refute it at one input. -/
def statTellsWrong : ChangeSpec := { name := "statTells", fn := fun _ => fun
  | [d1, d2, d3] => { results := [.lit (.bool false)], args := [d1, d2, d3] }
  | _ => none }
def StatTellsWrongFalsely : Prop := statTellsRow.holds Try.pinned (OpenSpec.ofChange statTellsWrong)

/-- 'hypostylelaw15.StatBounds': WHATEVER THE INPUT: true; the input reads as it did. -/
def statBoundsSpec : ChangeSpec := { name := "statBounds", fn := fun _ => fun
  | [d1, d2] => { results := [.lit (.bool true)], args := [d1, d2] }
  | _ => none }
def statBoundsRow : OpenClaim := { program := "ytejbfknhnhhlfaa", sum := "4f3a72ad31875eef510b6811b7ef1a277e9a813aa7a18e8dcaf631813b44ebab", func := "hypostyle/hypostylelaw15.StatBounds", spec := "statBounds", inPlace := ["internal/bytealg.abigen_runtime_cmpstring"], unfollowed := true, recurses := true, plainKeys := false, apart := false }
def StatBoundsSaid : Prop := statBoundsRow.holds Try.pinned (OpenSpec.ofChange statBoundsSpec)

/-- ITS FALSE NEIGHBOUR: 'it returns false'. Refute it at one input. -/
def statBoundsWrong : ChangeSpec := { name := "statBounds", fn := fun _ => fun
  | [d1, d2] => { results := [.lit (.bool false)], args := [d1, d2] }
  | _ => none }
def StatBoundsWrongFalsely : Prop := statBoundsRow.holds Try.pinned (OpenSpec.ofChange statBoundsWrong)

/-- 'hypostylelaw15.StatParts': WHATEVER THE INPUT: true; the input reads as it did. -/
def statPartsSpec : ChangeSpec := { name := "statParts", fn := fun _ => fun
  | [d1, d2, d3] => { results := [.lit (.bool true)], args := [d1, d2, d3] }
  | _ => none }
def statPartsRow : OpenClaim := { program := "ytejbfknhnhhlfaa", sum := "4f3a72ad31875eef510b6811b7ef1a277e9a813aa7a18e8dcaf631813b44ebab", func := "hypostyle/hypostylelaw15.StatParts", spec := "statParts", inPlace := ["internal/bytealg.abigen_runtime_cmpstring"], unfollowed := true, recurses := true, plainKeys := false, apart := false }
def StatPartsSaid : Prop := statPartsRow.holds Try.pinned (OpenSpec.ofChange statPartsSpec)

/-- ITS FALSE NEIGHBOUR: 'it returns false'. Refute it at one input. -/
def statPartsWrong : ChangeSpec := { name := "statParts", fn := fun _ => fun
  | [d1, d2, d3] => { results := [.lit (.bool false)], args := [d1, d2, d3] }
  | _ => none }
def StatPartsWrongFalsely : Prop := statPartsRow.holds Try.pinned (OpenSpec.ofChange statPartsWrong)

/-- 'hypostylelaw15.StatNulls': WHATEVER THE INPUT: true; the input reads as it did. -/
def statNullsSpec : ChangeSpec := { name := "statNulls", fn := fun _ => fun
  | [d1, d2, d3, d4] => { results := [.lit (.bool true)], args := [d1, d2, d3, d4] }
  | _ => none }
def statNullsRow : OpenClaim := { program := "ytejbfknhnhhlfaa", sum := "4f3a72ad31875eef510b6811b7ef1a277e9a813aa7a18e8dcaf631813b44ebab", func := "hypostyle/hypostylelaw15.StatNulls", spec := "statNulls", inPlace := ["internal/bytealg.abigen_runtime_cmpstring"], unfollowed := true, recurses := true, plainKeys := false, apart := false }
def StatNullsSaid : Prop := statNullsRow.holds Try.pinned (OpenSpec.ofChange statNullsSpec)

/-- ITS FALSE NEIGHBOUR: 'it returns false'. Refute it at one input. -/
def statNullsWrong : ChangeSpec := { name := "statNulls", fn := fun _ => fun
  | [d1, d2, d3, d4] => { results := [.lit (.bool false)], args := [d1, d2, d3, d4] }
  | _ => none }
def StatNullsWrongFalsely : Prop := statNullsRow.holds Try.pinned (OpenSpec.ofChange statNullsWrong)

/-- 'hypostylelaw15.StatPuts': WHATEVER THE INPUT: true; the input reads as it did. -/
def statPutsSpec : ChangeSpec := { name := "statPuts", fn := fun _ => fun
  | [d1, d2, d3, d4] => { results := [.lit (.bool true)], args := [d1, d2, d3, d4] }
  | _ => none }
def statPutsRow : OpenClaim := { program := "ytejbfknhnhhlfaa", sum := "4f3a72ad31875eef510b6811b7ef1a277e9a813aa7a18e8dcaf631813b44ebab", func := "hypostyle/hypostylelaw15.StatPuts", spec := "statPuts", inPlace := ["internal/bytealg.abigen_runtime_cmpstring"], unfollowed := true, recurses := true, plainKeys := false, apart := false }
def StatPutsSaid : Prop := statPutsRow.holds Try.pinned (OpenSpec.ofChange statPutsSpec)

/-- ITS FALSE NEIGHBOUR: 'it returns false'. Refute it at one input. -/
def statPutsWrong : ChangeSpec := { name := "statPuts", fn := fun _ => fun
  | [d1, d2, d3, d4] => { results := [.lit (.bool false)], args := [d1, d2, d3, d4] }
  | _ => none }
def StatPutsWrongFalsely : Prop := statPutsRow.holds Try.pinned (OpenSpec.ofChange statPutsWrong)

/-- 'hypostylelaw15.StatBack': WHATEVER THE INPUT: true; the input reads as it did. -/
def statBackSpec : ChangeSpec := { name := "statBack", fn := fun _ => fun
  | [d1, d2, d3] => { results := [.lit (.bool true)], args := [d1, d2, d3] }
  | _ => none }
def statBackRow : OpenClaim := { program := "ytejbfknhnhhlfaa", sum := "4f3a72ad31875eef510b6811b7ef1a277e9a813aa7a18e8dcaf631813b44ebab", func := "hypostyle/hypostylelaw15.StatBack", spec := "statBack", inPlace := ["internal/bytealg.abigen_runtime_cmpstring"], unfollowed := true, recurses := true, plainKeys := false, apart := false }
def StatBackSaid : Prop := statBackRow.holds Try.pinned (OpenSpec.ofChange statBackSpec)

/-- ITS FALSE NEIGHBOUR: 'it returns false'. Refute it at one input. -/
def statBackWrong : ChangeSpec := { name := "statBack", fn := fun _ => fun
  | [d1, d2, d3] => { results := [.lit (.bool false)], args := [d1, d2, d3] }
  | _ => none }
def StatBackWrongFalsely : Prop := statBackRow.holds Try.pinned (OpenSpec.ofChange statBackWrong)

/-- 'hypostylelaw11.DictBack': WHATEVER THE INPUT: true; the input reads as it did. -/
def dictBackSpec : ChangeSpec := { name := "dictBack", fn := fun _ => fun
  | [d1, d2] => { results := [.lit (.bool true)], args := [d1, d2] }
  | _ => none }
def dictBackRow : OpenClaim := { program := "ytejbfknhnhhlfaa", sum := "4f3a72ad31875eef510b6811b7ef1a277e9a813aa7a18e8dcaf631813b44ebab", func := "hypostyle/hypostylelaw11.DictBack", spec := "dictBack", unfollowed := true, recurses := true, plainKeys := false, apart := false }
def DictBackSaid : Prop := dictBackRow.holds Try.pinned (OpenSpec.ofChange dictBackSpec)

/-- ITS FALSE NEIGHBOUR: 'it returns false'. Refute it at one input. -/
def dictBackWrong : ChangeSpec := { name := "dictBack", fn := fun _ => fun
  | [d1, d2] => { results := [.lit (.bool false)], args := [d1, d2] }
  | _ => none }
def DictBackWrongFalsely : Prop := dictBackRow.holds Try.pinned (OpenSpec.ofChange dictBackWrong)

/-- 'hypostylelaw11.DictOnce': WHATEVER THE INPUT: true; the input reads as it did. -/
def dictOnceSpec : ChangeSpec := { name := "dictOnce", fn := fun _ => fun
  | [d1, d2, d3] => { results := [.lit (.bool true)], args := [d1, d2, d3] }
  | _ => none }
def dictOnceRow : OpenClaim := { program := "ytejbfknhnhhlfaa", sum := "4f3a72ad31875eef510b6811b7ef1a277e9a813aa7a18e8dcaf631813b44ebab", func := "hypostyle/hypostylelaw11.DictOnce", spec := "dictOnce", unfollowed := true, recurses := true, plainKeys := false, apart := false }
def DictOnceSaid : Prop := dictOnceRow.holds Try.pinned (OpenSpec.ofChange dictOnceSpec)

/-- ITS FALSE NEIGHBOUR: 'it returns false'. Refute it at one input. -/
def dictOnceWrong : ChangeSpec := { name := "dictOnce", fn := fun _ => fun
  | [d1, d2, d3] => { results := [.lit (.bool false)], args := [d1, d2, d3] }
  | _ => none }
def DictOnceWrongFalsely : Prop := dictOnceRow.holds Try.pinned (OpenSpec.ofChange dictOnceWrong)

/-- 'hypostylelaw11.DictLists': WHATEVER THE INPUT: true; the input reads as it did. -/
def dictListsSpec : ChangeSpec := { name := "dictLists", fn := fun _ => fun
  | [d] => { results := [.lit (.bool true)], args := [d] }
  | _ => none }
def dictListsRow : OpenClaim := { program := "ytejbfknhnhhlfaa", sum := "4f3a72ad31875eef510b6811b7ef1a277e9a813aa7a18e8dcaf631813b44ebab", func := "hypostyle/hypostylelaw11.DictLists", spec := "dictLists", unfollowed := true, recurses := true, plainKeys := false, apart := false }
def DictListsSaid : Prop := dictListsRow.holds Try.pinned (OpenSpec.ofChange dictListsSpec)

/-- ITS FALSE NEIGHBOUR: 'it returns false'. Refute it at one input. -/
def dictListsWrong : ChangeSpec := { name := "dictLists", fn := fun _ => fun
  | [d] => { results := [.lit (.bool false)], args := [d] }
  | _ => none }
def DictListsWrongFalsely : Prop := dictListsRow.holds Try.pinned (OpenSpec.ofChange dictListsWrong)

/- THE SECOND FORM. 'bulk': how many values and letters a reading holds, each counted each time it is reached (what is shared counts as often as it is met; a slice's spare places count too). A statement '..UptoSaid' is the law's where the arguments, and the package variables that the reading takes, are together of bulk at most 1048576: NARROWER than '..Said'. Prove '..Said' where nothing that the law and all that it calls make is longer than what came in: it says more and counts as full. Else prove '..UptoSaid'. A law counts once. -/
mutual
def uptoBulk {H : Type} : DataW H → Nat
  | .lit (.string bytes) => bytes.length + 1
  | .lit _ => 1
  | .nil => 1
  | .ptr d => uptoBulk d + 1
  | .slice elems spare => uptoBulkAll elems + uptoBulkAll spare + 1
  | .agg parts => uptoBulkAll parts + 1
  | .iface _ d => uptoBulk d + 1
  | .map entries => uptoBulkEntries entries + 1
  | .held _ => 1
def uptoBulkAll {H : Type} : List (DataW H) → Nat
  | [] => 0
  | d :: r => uptoBulk d + uptoBulkAll r
def uptoBulkEntries {H : Type} : List (Lit × DataW H) → Nat
  | [] => 0
  | x :: r => uptoBulkEntry x + uptoBulkEntries r
def uptoBulkEntry {H : Type} : Lit × DataW H → Nat
  | (.string bytes, d) => bytes.length + uptoBulk d + 1
  | (_, d) => uptoBulk d + 1
 end
def uptoSmall : (H : Type) → List (DataW H) → Bool := fun _ ds => decide (uptoBulkAll ds ≤ 1048576)
def OpenSpec.upto (s : _root_.Go.ChangeSpec) : _root_.Go.OpenSpec := { _root_.Go.OpenSpec.ofChange s with cond := some uptoSmall }

/-- 'hypostylelaw15.StatTells', WHERE WHAT IT READS IS OF BULK AT MOST 1048576: true; the input reads as it did. -/
def statTellsUptoRow : OpenClaim := { program := "ytejbfknhnhhlfaa", sum := "4f3a72ad31875eef510b6811b7ef1a277e9a813aa7a18e8dcaf631813b44ebab", func := "hypostyle/hypostylelaw15.StatTells", spec := "statTells", inPlace := ["internal/bytealg.abigen_runtime_cmpstring"], unfollowed := true, recurses := true, plainKeys := false, apart := false, narrowed := true }
def StatTellsUptoSaid : Prop := statTellsUptoRow.holds Try.pinned (OpenSpec.upto statTellsSpec)

/-- 'hypostylelaw15.StatBounds', WHERE WHAT IT READS IS OF BULK AT MOST 1048576: true; the input reads as it did. -/
def statBoundsUptoRow : OpenClaim := { program := "ytejbfknhnhhlfaa", sum := "4f3a72ad31875eef510b6811b7ef1a277e9a813aa7a18e8dcaf631813b44ebab", func := "hypostyle/hypostylelaw15.StatBounds", spec := "statBounds", inPlace := ["internal/bytealg.abigen_runtime_cmpstring"], unfollowed := true, recurses := true, plainKeys := false, apart := false, narrowed := true }
def StatBoundsUptoSaid : Prop := statBoundsUptoRow.holds Try.pinned (OpenSpec.upto statBoundsSpec)

/-- 'hypostylelaw15.StatParts', WHERE WHAT IT READS IS OF BULK AT MOST 1048576: true; the input reads as it did. -/
def statPartsUptoRow : OpenClaim := { program := "ytejbfknhnhhlfaa", sum := "4f3a72ad31875eef510b6811b7ef1a277e9a813aa7a18e8dcaf631813b44ebab", func := "hypostyle/hypostylelaw15.StatParts", spec := "statParts", inPlace := ["internal/bytealg.abigen_runtime_cmpstring"], unfollowed := true, recurses := true, plainKeys := false, apart := false, narrowed := true }
def StatPartsUptoSaid : Prop := statPartsUptoRow.holds Try.pinned (OpenSpec.upto statPartsSpec)

/-- 'hypostylelaw15.StatNulls', WHERE WHAT IT READS IS OF BULK AT MOST 1048576: true; the input reads as it did. -/
def statNullsUptoRow : OpenClaim := { program := "ytejbfknhnhhlfaa", sum := "4f3a72ad31875eef510b6811b7ef1a277e9a813aa7a18e8dcaf631813b44ebab", func := "hypostyle/hypostylelaw15.StatNulls", spec := "statNulls", inPlace := ["internal/bytealg.abigen_runtime_cmpstring"], unfollowed := true, recurses := true, plainKeys := false, apart := false, narrowed := true }
def StatNullsUptoSaid : Prop := statNullsUptoRow.holds Try.pinned (OpenSpec.upto statNullsSpec)

/-- 'hypostylelaw15.StatPuts', WHERE WHAT IT READS IS OF BULK AT MOST 1048576: true; the input reads as it did. -/
def statPutsUptoRow : OpenClaim := { program := "ytejbfknhnhhlfaa", sum := "4f3a72ad31875eef510b6811b7ef1a277e9a813aa7a18e8dcaf631813b44ebab", func := "hypostyle/hypostylelaw15.StatPuts", spec := "statPuts", inPlace := ["internal/bytealg.abigen_runtime_cmpstring"], unfollowed := true, recurses := true, plainKeys := false, apart := false, narrowed := true }
def StatPutsUptoSaid : Prop := statPutsUptoRow.holds Try.pinned (OpenSpec.upto statPutsSpec)

/-- 'hypostylelaw15.StatBack', WHERE WHAT IT READS IS OF BULK AT MOST 1048576: true; the input reads as it did. -/
def statBackUptoRow : OpenClaim := { program := "ytejbfknhnhhlfaa", sum := "4f3a72ad31875eef510b6811b7ef1a277e9a813aa7a18e8dcaf631813b44ebab", func := "hypostyle/hypostylelaw15.StatBack", spec := "statBack", inPlace := ["internal/bytealg.abigen_runtime_cmpstring"], unfollowed := true, recurses := true, plainKeys := false, apart := false, narrowed := true }
def StatBackUptoSaid : Prop := statBackUptoRow.holds Try.pinned (OpenSpec.upto statBackSpec)

/-- 'hypostylelaw11.DictBack', WHERE WHAT IT READS IS OF BULK AT MOST 1048576: true; the input reads as it did. -/
def dictBackUptoRow : OpenClaim := { program := "ytejbfknhnhhlfaa", sum := "4f3a72ad31875eef510b6811b7ef1a277e9a813aa7a18e8dcaf631813b44ebab", func := "hypostyle/hypostylelaw11.DictBack", spec := "dictBack", unfollowed := true, recurses := true, plainKeys := false, apart := false, narrowed := true }
def DictBackUptoSaid : Prop := dictBackUptoRow.holds Try.pinned (OpenSpec.upto dictBackSpec)

/-- 'hypostylelaw11.DictOnce', WHERE WHAT IT READS IS OF BULK AT MOST 1048576: true; the input reads as it did. -/
def dictOnceUptoRow : OpenClaim := { program := "ytejbfknhnhhlfaa", sum := "4f3a72ad31875eef510b6811b7ef1a277e9a813aa7a18e8dcaf631813b44ebab", func := "hypostyle/hypostylelaw11.DictOnce", spec := "dictOnce", unfollowed := true, recurses := true, plainKeys := false, apart := false, narrowed := true }
def DictOnceUptoSaid : Prop := dictOnceUptoRow.holds Try.pinned (OpenSpec.upto dictOnceSpec)

/-- 'hypostylelaw11.DictLists', WHERE WHAT IT READS IS OF BULK AT MOST 1048576: true; the input reads as it did. -/
def dictListsUptoRow : OpenClaim := { program := "ytejbfknhnhhlfaa", sum := "4f3a72ad31875eef510b6811b7ef1a277e9a813aa7a18e8dcaf631813b44ebab", func := "hypostyle/hypostylelaw11.DictLists", spec := "dictLists", unfollowed := true, recurses := true, plainKeys := false, apart := false, narrowed := true }
def DictListsUptoSaid : Prop := dictListsUptoRow.holds Try.pinned (OpenSpec.upto dictListsSpec)

end Rows
end Go.Proofs.Ytejbfknhnhhlfaa
