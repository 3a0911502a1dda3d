/-
  No cell of these rows narrows 'for every input' (looked for: loops, veiled, ifaces, maps, wideKeys, modest, calm, conditions, laid).
  DERIVED. THE GIVEN ROWS OF THIS SEAT. 10 by the template 'for every input the law returns true; each argument reads behind the call as it read before'; 0 by the template 'total and deterministic' (their statements: YtfhdiafgcfpdhaaTotals.lean).
  GIVEN WITH THE SEED: the statements are not yours to turn. If you find one false, say at which input.
  Laid BY PROGRAM, IN A SANDBOX (cutbox-rows.mjs): the forced cells as the released guide's own fill.sh prints them over the translation 54cab592c21e60a5… (all of the seat's roots in one cut). By AI agents, Wed Nov 11 2026. No macro, syntax, notation, axiom, sorry.
-/
import Derived.Test.YtfhdiafgcfpdhaaChecked
import GoSem.Claim
import GoSem.ClaimJoined
import GoSem.ClaimMapViews
import Derived.JoinedTies
import Derived.KernelRfl
namespace Go.Proofs.Ytfhdiafgcfpdhaa
/- THE CELL 'sum', in the pinned program and in every row, IS THE sha256 OF THE DUMP (.gsa) THAT YtfhdiafgcfpdhaaProg.lean LOADS. Nothing in Lean hashes anything: it is a label: what it is worth is what the hold of that sum in a sandbox is worth. -/
noncomputable def Try.pinned : Pinned := { name := "ytfhdiafgcfpdhaa", sum := "54cab592c21e60a571cb16f1f7e29de2072a18babd51c6fca6689651d6790599", checked := Try.checked }
namespace Rows
def none {H : Type} : Left H := { results := [], args := [] }

/-- 'hypostylelaw05.BitpackTells': WHATEVER THE INPUT: true; the input reads as it did. -/
def bitpackTellsSpec : ChangeSpec := { name := "bitpackTells", fn := fun _ => fun
  | [d1, d2, d3] => { results := [.lit (.bool true)], args := [d1, d2, d3] }
  | _ => none }
def bitpackTellsRow : OpenClaim := { program := "ytfhdiafgcfpdhaa", sum := "54cab592c21e60a571cb16f1f7e29de2072a18babd51c6fca6689651d6790599", func := "hypostyle/hypostylelaw05.BitpackTells", spec := "bitpackTells", unfollowed := true, recurses := true, apart := false }
def BitpackTellsSaid : Prop := bitpackTellsRow.holds Try.pinned (OpenSpec.ofChange bitpackTellsSpec)

/-- ITS FALSE NEIGHBOUR: 'it returns false'. Refute it at one input. -/
def bitpackTellsWrong : ChangeSpec := { name := "bitpackTells", fn := fun _ => fun
  | [d1, d2, d3] => { results := [.lit (.bool false)], args := [d1, d2, d3] }
  | _ => none }
def BitpackTellsWrongFalsely : Prop := bitpackTellsRow.holds Try.pinned (OpenSpec.ofChange bitpackTellsWrong)

/-- 'hypostylelaw05.BitpackPacks': WHATEVER THE INPUT: true; the input reads as it did. -/
def bitpackPacksSpec : ChangeSpec := { name := "bitpackPacks", fn := fun _ => fun
  | [d1, d2, d3, d4] => { results := [.lit (.bool true)], args := [d1, d2, d3, d4] }
  | _ => none }
def bitpackPacksRow : OpenClaim := { program := "ytfhdiafgcfpdhaa", sum := "54cab592c21e60a571cb16f1f7e29de2072a18babd51c6fca6689651d6790599", func := "hypostyle/hypostylelaw05.BitpackPacks", spec := "bitpackPacks", unfollowed := true, recurses := true, apart := false }
def BitpackPacksSaid : Prop := bitpackPacksRow.holds Try.pinned (OpenSpec.ofChange bitpackPacksSpec)

/-- ITS FALSE NEIGHBOUR: 'it returns false'. Refute it at one input. -/
def bitpackPacksWrong : ChangeSpec := { name := "bitpackPacks", fn := fun _ => fun
  | [d1, d2, d3, d4] => { results := [.lit (.bool false)], args := [d1, d2, d3, d4] }
  | _ => none }
def BitpackPacksWrongFalsely : Prop := bitpackPacksRow.holds Try.pinned (OpenSpec.ofChange bitpackPacksWrong)

/-- 'hypostylelaw05.BitpackBack': WHATEVER THE INPUT: true; the input reads as it did. -/
def bitpackBackSpec : ChangeSpec := { name := "bitpackBack", fn := fun _ => fun
  | [d1, d2] => { results := [.lit (.bool true)], args := [d1, d2] }
  | _ => none }
def bitpackBackRow : OpenClaim := { program := "ytfhdiafgcfpdhaa", sum := "54cab592c21e60a571cb16f1f7e29de2072a18babd51c6fca6689651d6790599", func := "hypostyle/hypostylelaw05.BitpackBack", spec := "bitpackBack", unfollowed := true, recurses := true, apart := false }
def BitpackBackSaid : Prop := bitpackBackRow.holds Try.pinned (OpenSpec.ofChange bitpackBackSpec)

/-- ITS FALSE NEIGHBOUR: 'it returns false'. Refute it at one input. -/
def bitpackBackWrong : ChangeSpec := { name := "bitpackBack", fn := fun _ => fun
  | [d1, d2] => { results := [.lit (.bool false)], args := [d1, d2] }
  | _ => none }
def BitpackBackWrongFalsely : Prop := bitpackBackRow.holds Try.pinned (OpenSpec.ofChange bitpackBackWrong)

/-- 'hypostylelaw05.BitpackOnce': WHATEVER THE INPUT: true; the input reads as it did. -/
def bitpackOnceSpec : ChangeSpec := { name := "bitpackOnce", fn := fun _ => fun
  | [d1, d2, d3] => { results := [.lit (.bool true)], args := [d1, d2, d3] }
  | _ => none }
def bitpackOnceRow : OpenClaim := { program := "ytfhdiafgcfpdhaa", sum := "54cab592c21e60a571cb16f1f7e29de2072a18babd51c6fca6689651d6790599", func := "hypostyle/hypostylelaw05.BitpackOnce", spec := "bitpackOnce", unfollowed := true, recurses := true, apart := false }
def BitpackOnceSaid : Prop := bitpackOnceRow.holds Try.pinned (OpenSpec.ofChange bitpackOnceSpec)

/-- ITS FALSE NEIGHBOUR: 'it returns false'. Refute it at one input. -/
def bitpackOnceWrong : ChangeSpec := { name := "bitpackOnce", fn := fun _ => fun
  | [d1, d2, d3] => { results := [.lit (.bool false)], args := [d1, d2, d3] }
  | _ => none }
def BitpackOnceWrongFalsely : Prop := bitpackOnceRow.holds Try.pinned (OpenSpec.ofChange bitpackOnceWrong)

/-- 'hypostylelaw05.BitpackNarrow': WHATEVER THE INPUT: true; the input reads as it did. -/
def bitpackNarrowSpec : ChangeSpec := { name := "bitpackNarrow", fn := fun _ => fun
  | [d] => { results := [.lit (.bool true)], args := [d] }
  | _ => none }
def bitpackNarrowRow : OpenClaim := { program := "ytfhdiafgcfpdhaa", sum := "54cab592c21e60a571cb16f1f7e29de2072a18babd51c6fca6689651d6790599", func := "hypostyle/hypostylelaw05.BitpackNarrow", spec := "bitpackNarrow", unfollowed := true, recurses := true, apart := false }
def BitpackNarrowSaid : Prop := bitpackNarrowRow.holds Try.pinned (OpenSpec.ofChange bitpackNarrowSpec)

/-- ITS FALSE NEIGHBOUR: 'it returns false'. Refute it at one input. -/
def bitpackNarrowWrong : ChangeSpec := { name := "bitpackNarrow", fn := fun _ => fun
  | [d] => { results := [.lit (.bool false)], args := [d] }
  | _ => none }
def BitpackNarrowWrongFalsely : Prop := bitpackNarrowRow.holds Try.pinned (OpenSpec.ofChange bitpackNarrowWrong)

/-- 'hypostylelaw08.NullsSplits': WHATEVER THE INPUT: true; the input reads as it did. -/
def nullsSplitsSpec : ChangeSpec := { name := "nullsSplits", fn := fun _ => fun
  | [d1, d2, d3] => { results := [.lit (.bool true)], args := [d1, d2, d3] }
  | _ => none }
def nullsSplitsRow : OpenClaim := { program := "ytfhdiafgcfpdhaa", sum := "54cab592c21e60a571cb16f1f7e29de2072a18babd51c6fca6689651d6790599", func := "hypostyle/hypostylelaw08.NullsSplits", spec := "nullsSplits", unfollowed := true, recurses := true, apart := false }
def NullsSplitsSaid : Prop := nullsSplitsRow.holds Try.pinned (OpenSpec.ofChange nullsSplitsSpec)

/-- ITS FALSE NEIGHBOUR: 'it returns false'. Refute it at one input. -/
def nullsSplitsWrong : ChangeSpec := { name := "nullsSplits", fn := fun _ => fun
  | [d1, d2, d3] => { results := [.lit (.bool false)], args := [d1, d2, d3] }
  | _ => none }
def NullsSplitsWrongFalsely : Prop := nullsSplitsRow.holds Try.pinned (OpenSpec.ofChange nullsSplitsWrong)

/-- 'hypostylelaw08.NullsBack': WHATEVER THE INPUT: true; the input reads as it did. -/
def nullsBackSpec : ChangeSpec := { name := "nullsBack", fn := fun _ => fun
  | [d] => { results := [.lit (.bool true)], args := [d] }
  | _ => none }
def nullsBackRow : OpenClaim := { program := "ytfhdiafgcfpdhaa", sum := "54cab592c21e60a571cb16f1f7e29de2072a18babd51c6fca6689651d6790599", func := "hypostyle/hypostylelaw08.NullsBack", spec := "nullsBack", unfollowed := true, recurses := true, apart := false }
def NullsBackSaid : Prop := nullsBackRow.holds Try.pinned (OpenSpec.ofChange nullsBackSpec)

/-- ITS FALSE NEIGHBOUR: 'it returns false'. Refute it at one input. -/
def nullsBackWrong : ChangeSpec := { name := "nullsBack", fn := fun _ => fun
  | [d] => { results := [.lit (.bool false)], args := [d] }
  | _ => none }
def NullsBackWrongFalsely : Prop := nullsBackRow.holds Try.pinned (OpenSpec.ofChange nullsBackWrong)

/-- 'hypostylelaw08.NullsOnce': WHATEVER THE INPUT: true; the input reads as it did. -/
def nullsOnceSpec : ChangeSpec := { name := "nullsOnce", fn := fun _ => fun
  | [d1, d2, d3] => { results := [.lit (.bool true)], args := [d1, d2, d3] }
  | _ => none }
def nullsOnceRow : OpenClaim := { program := "ytfhdiafgcfpdhaa", sum := "54cab592c21e60a571cb16f1f7e29de2072a18babd51c6fca6689651d6790599", func := "hypostyle/hypostylelaw08.NullsOnce", spec := "nullsOnce", unfollowed := true, recurses := true, apart := false }
def NullsOnceSaid : Prop := nullsOnceRow.holds Try.pinned (OpenSpec.ofChange nullsOnceSpec)

/-- ITS FALSE NEIGHBOUR: 'it returns false'. Refute it at one input. -/
def nullsOnceWrong : ChangeSpec := { name := "nullsOnce", fn := fun _ => fun
  | [d1, d2, d3] => { results := [.lit (.bool false)], args := [d1, d2, d3] }
  | _ => none }
def NullsOnceWrongFalsely : Prop := nullsOnceRow.holds Try.pinned (OpenSpec.ofChange nullsOnceWrong)

/-- 'hypostylelaw08.NullsCounts': WHATEVER THE INPUT: true; the input reads as it did. -/
def nullsCountsSpec : ChangeSpec := { name := "nullsCounts", fn := fun _ => fun
  | [d1, d2, d3] => { results := [.lit (.bool true)], args := [d1, d2, d3] }
  | _ => none }
def nullsCountsRow : OpenClaim := { program := "ytfhdiafgcfpdhaa", sum := "54cab592c21e60a571cb16f1f7e29de2072a18babd51c6fca6689651d6790599", func := "hypostyle/hypostylelaw08.NullsCounts", spec := "nullsCounts", unfollowed := true, recurses := true, apart := false }
def NullsCountsSaid : Prop := nullsCountsRow.holds Try.pinned (OpenSpec.ofChange nullsCountsSpec)

/-- ITS FALSE NEIGHBOUR: 'it returns false'. Refute it at one input. -/
def nullsCountsWrong : ChangeSpec := { name := "nullsCounts", fn := fun _ => fun
  | [d1, d2, d3] => { results := [.lit (.bool false)], args := [d1, d2, d3] }
  | _ => none }
def NullsCountsWrongFalsely : Prop := nullsCountsRow.holds Try.pinned (OpenSpec.ofChange nullsCountsWrong)

/-- 'hypostylelaw08.NullsParts': WHATEVER THE INPUT: true; the input reads as it did. -/
def nullsPartsSpec : ChangeSpec := { name := "nullsParts", fn := fun _ => fun
  | [d1, d2] => { results := [.lit (.bool true)], args := [d1, d2] }
  | _ => none }
def nullsPartsRow : OpenClaim := { program := "ytfhdiafgcfpdhaa", sum := "54cab592c21e60a571cb16f1f7e29de2072a18babd51c6fca6689651d6790599", func := "hypostyle/hypostylelaw08.NullsParts", spec := "nullsParts", unfollowed := true, recurses := true, apart := false }
def NullsPartsSaid : Prop := nullsPartsRow.holds Try.pinned (OpenSpec.ofChange nullsPartsSpec)

/-- ITS FALSE NEIGHBOUR: 'it returns false'. Refute it at one input. -/
def nullsPartsWrong : ChangeSpec := { name := "nullsParts", fn := fun _ => fun
  | [d1, d2] => { results := [.lit (.bool false)], args := [d1, d2] }
  | _ => none }
def NullsPartsWrongFalsely : Prop := nullsPartsRow.holds Try.pinned (OpenSpec.ofChange nullsPartsWrong)

/- THE SECOND FORM. 'bulk': how many values and letters a reading holds, each counted each time it is reached (what is shared counts as often as it is met; a slice's spare places count too). A statement '..UptoSaid' is the law's where the arguments, and the package variables that the reading takes, are together of bulk at most 1048576: NARROWER than '..Said'. Prove '..Said' where nothing that the law and all that it calls make is longer than what came in: it says more and counts as full. Else prove '..UptoSaid'. A law counts once. -/
mutual
def uptoBulk {H : Type} : DataW H → Nat
  | .lit (.string bytes) => bytes.length + 1
  | .lit _ => 1
  | .nil => 1
  | .ptr d => uptoBulk d + 1
  | .slice elems spare => uptoBulkAll elems + uptoBulkAll spare + 1
  | .agg parts => uptoBulkAll parts + 1
  | .iface _ d => uptoBulk d + 1
  | .map entries => uptoBulkEntries entries + 1
  | .held _ => 1
def uptoBulkAll {H : Type} : List (DataW H) → Nat
  | [] => 0
  | d :: r => uptoBulk d + uptoBulkAll r
def uptoBulkEntries {H : Type} : List (Lit × DataW H) → Nat
  | [] => 0
  | x :: r => uptoBulkEntry x + uptoBulkEntries r
def uptoBulkEntry {H : Type} : Lit × DataW H → Nat
  | (.string bytes, d) => bytes.length + uptoBulk d + 1
  | (_, d) => uptoBulk d + 1
 end
def uptoSmall : (H : Type) → List (DataW H) → Bool := fun _ ds => decide (uptoBulkAll ds ≤ 1048576)
def OpenSpec.upto (s : _root_.Go.ChangeSpec) : _root_.Go.OpenSpec := { _root_.Go.OpenSpec.ofChange s with cond := some uptoSmall }

/-- 'hypostylelaw05.BitpackTells', WHERE WHAT IT READS IS OF BULK AT MOST 1048576: true; the input reads as it did. -/
def bitpackTellsUptoRow : OpenClaim := { program := "ytfhdiafgcfpdhaa", sum := "54cab592c21e60a571cb16f1f7e29de2072a18babd51c6fca6689651d6790599", func := "hypostyle/hypostylelaw05.BitpackTells", spec := "bitpackTells", unfollowed := true, recurses := true, apart := false, narrowed := true }
def BitpackTellsUptoSaid : Prop := bitpackTellsUptoRow.holds Try.pinned (OpenSpec.upto bitpackTellsSpec)

/-- 'hypostylelaw05.BitpackPacks', WHERE WHAT IT READS IS OF BULK AT MOST 1048576: true; the input reads as it did. -/
def bitpackPacksUptoRow : OpenClaim := { program := "ytfhdiafgcfpdhaa", sum := "54cab592c21e60a571cb16f1f7e29de2072a18babd51c6fca6689651d6790599", func := "hypostyle/hypostylelaw05.BitpackPacks", spec := "bitpackPacks", unfollowed := true, recurses := true, apart := false, narrowed := true }
def BitpackPacksUptoSaid : Prop := bitpackPacksUptoRow.holds Try.pinned (OpenSpec.upto bitpackPacksSpec)

/-- 'hypostylelaw05.BitpackBack', WHERE WHAT IT READS IS OF BULK AT MOST 1048576: true; the input reads as it did. -/
def bitpackBackUptoRow : OpenClaim := { program := "ytfhdiafgcfpdhaa", sum := "54cab592c21e60a571cb16f1f7e29de2072a18babd51c6fca6689651d6790599", func := "hypostyle/hypostylelaw05.BitpackBack", spec := "bitpackBack", unfollowed := true, recurses := true, apart := false, narrowed := true }
def BitpackBackUptoSaid : Prop := bitpackBackUptoRow.holds Try.pinned (OpenSpec.upto bitpackBackSpec)

/-- 'hypostylelaw05.BitpackOnce', WHERE WHAT IT READS IS OF BULK AT MOST 1048576: true; the input reads as it did. -/
def bitpackOnceUptoRow : OpenClaim := { program := "ytfhdiafgcfpdhaa", sum := "54cab592c21e60a571cb16f1f7e29de2072a18babd51c6fca6689651d6790599", func := "hypostyle/hypostylelaw05.BitpackOnce", spec := "bitpackOnce", unfollowed := true, recurses := true, apart := false, narrowed := true }
def BitpackOnceUptoSaid : Prop := bitpackOnceUptoRow.holds Try.pinned (OpenSpec.upto bitpackOnceSpec)

/-- 'hypostylelaw05.BitpackNarrow', WHERE WHAT IT READS IS OF BULK AT MOST 1048576: true; the input reads as it did. -/
def bitpackNarrowUptoRow : OpenClaim := { program := "ytfhdiafgcfpdhaa", sum := "54cab592c21e60a571cb16f1f7e29de2072a18babd51c6fca6689651d6790599", func := "hypostyle/hypostylelaw05.BitpackNarrow", spec := "bitpackNarrow", unfollowed := true, recurses := true, apart := false, narrowed := true }
def BitpackNarrowUptoSaid : Prop := bitpackNarrowUptoRow.holds Try.pinned (OpenSpec.upto bitpackNarrowSpec)

/-- 'hypostylelaw08.NullsSplits', WHERE WHAT IT READS IS OF BULK AT MOST 1048576: true; the input reads as it did. -/
def nullsSplitsUptoRow : OpenClaim := { program := "ytfhdiafgcfpdhaa", sum := "54cab592c21e60a571cb16f1f7e29de2072a18babd51c6fca6689651d6790599", func := "hypostyle/hypostylelaw08.NullsSplits", spec := "nullsSplits", unfollowed := true, recurses := true, apart := false, narrowed := true }
def NullsSplitsUptoSaid : Prop := nullsSplitsUptoRow.holds Try.pinned (OpenSpec.upto nullsSplitsSpec)

/-- 'hypostylelaw08.NullsBack', WHERE WHAT IT READS IS OF BULK AT MOST 1048576: true; the input reads as it did. -/
def nullsBackUptoRow : OpenClaim := { program := "ytfhdiafgcfpdhaa", sum := "54cab592c21e60a571cb16f1f7e29de2072a18babd51c6fca6689651d6790599", func := "hypostyle/hypostylelaw08.NullsBack", spec := "nullsBack", unfollowed := true, recurses := true, apart := false, narrowed := true }
def NullsBackUptoSaid : Prop := nullsBackUptoRow.holds Try.pinned (OpenSpec.upto nullsBackSpec)

/-- 'hypostylelaw08.NullsOnce', WHERE WHAT IT READS IS OF BULK AT MOST 1048576: true; the input reads as it did. -/
def nullsOnceUptoRow : OpenClaim := { program := "ytfhdiafgcfpdhaa", sum := "54cab592c21e60a571cb16f1f7e29de2072a18babd51c6fca6689651d6790599", func := "hypostyle/hypostylelaw08.NullsOnce", spec := "nullsOnce", unfollowed := true, recurses := true, apart := false, narrowed := true }
def NullsOnceUptoSaid : Prop := nullsOnceUptoRow.holds Try.pinned (OpenSpec.upto nullsOnceSpec)

/-- 'hypostylelaw08.NullsCounts', WHERE WHAT IT READS IS OF BULK AT MOST 1048576: true; the input reads as it did. -/
def nullsCountsUptoRow : OpenClaim := { program := "ytfhdiafgcfpdhaa", sum := "54cab592c21e60a571cb16f1f7e29de2072a18babd51c6fca6689651d6790599", func := "hypostyle/hypostylelaw08.NullsCounts", spec := "nullsCounts", unfollowed := true, recurses := true, apart := false, narrowed := true }
def NullsCountsUptoSaid : Prop := nullsCountsUptoRow.holds Try.pinned (OpenSpec.upto nullsCountsSpec)

/-- 'hypostylelaw08.NullsParts', WHERE WHAT IT READS IS OF BULK AT MOST 1048576: true; the input reads as it did. -/
def nullsPartsUptoRow : OpenClaim := { program := "ytfhdiafgcfpdhaa", sum := "54cab592c21e60a571cb16f1f7e29de2072a18babd51c6fca6689651d6790599", func := "hypostyle/hypostylelaw08.NullsParts", spec := "nullsParts", unfollowed := true, recurses := true, apart := false, narrowed := true }
def NullsPartsUptoSaid : Prop := nullsPartsUptoRow.holds Try.pinned (OpenSpec.upto nullsPartsSpec)

end Rows
end Go.Proofs.Ytfhdiafgcfpdhaa
