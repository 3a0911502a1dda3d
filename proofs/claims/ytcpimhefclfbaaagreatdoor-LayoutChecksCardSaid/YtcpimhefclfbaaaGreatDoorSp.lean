/-
  Spans of rows, in memory.
-/
import Derived.Test.YtcpimhefclfbaaaGreatDoorCell
import Derived.Test.YtcpimhefclfbaaaGreatDoorProg
import Derived.OwnWalk
namespace Go.Proofs.YtcpimhefclfbaaaGreatDoor
open Go Go.RowKit
set_option maxRecDepth 10000
set_option linter.unusedVariables false
set_option linter.unusedSimpArgs false

def spC (x : Int × Int) : List Value := [.int .i64 x.1, .int .i64 x.2]
theorem spC_len (x : Int × Int) : (spC x).length = 2 := rfl
theorem spC_one (x : Int × Int) : ∀ u ∈ spC x, u.oneCell' = true := by simp [spC, Value.oneCell']
theorem Tryz.infoSp : (Tryz.prog.info? 38).map (fun i => (i.zero, i.size, i.bytes)) = some (some (.agg #[.int .i64 0, .int .i64 0]), 2, 16) := by kernel_rfl
abbrev Sps (X : List Nat) (w : World) (A : Option Addr) (n c : Nat) (l : List (Int × Int)) : Prop := Rd X w 2 A n c (l.flatMap spC)
theorem Sps.len {X : List Nat} {w : World} {A : Option Addr} {n c : Nat} {l : List (Int × Int)} (h : Sps X w A n c l) : l.length = n := Rd.lenF spC_len h (by omega)
theorem Sps.at2 {X : List Nat} {w : World} {A : Option Addr} {n c k : Nat} {l : List (Int × Int)} (h : Sps X w A n c l) (hk : k < l.length) :
    ∃ b off, A = some ⟨b, off, none⟩ ∧ b < w.heap.size ∧ b ∉ X ∧ w.cell? ⟨b, off + k * 2, none⟩ = some (.int .i64 l[k].1) ∧ w.cell? ⟨b, off + k * 2 + 1, none⟩ = some (.int .i64 l[k].2) := by
  have hlen : l.length = n := h.len
  obtain ⟨b, off, rfl, hlt, hb, hc⟩ := Rd.at_ h (k := k) (by omega)
  have hg := fun j hj => flat_get spC_len l k j hk hj
  refine ⟨b, off, rfl, hlt, hb, ?_, ?_⟩
  · have := hc 0 (by omega)
    rw [hg 0 (by omega)] at this
    simpa [spC] using this
  · have := hc 1 (by omega)
    rw [hg 1 (by omega)] at this
    simpa [spC, Nat.add_assoc] using this

def SpansPost (v : List (Int × Int)) (W : World) (e : Ending) (W' : World) : Prop := ∃ B k d, e = .returned (.slice B k d) ∧ Keep [] W W' ∧ ∀ Y : List Nat, (∀ b ∈ Y, b < W.heap.size) → Sps Y W' B k d v
theorem SpansPost.nil {v : List (Int × Int)} {W W' : World} (hv : v = []) (hk : Keep [] W W') : SpansPost v W (.returned (.slice none 0 0)) W' := by
  subst hv
  exact ⟨_, _, _, rfl, hk, fun Y _ => Rd.nil_ _ _ _⟩

end Go.Proofs.YtcpimhefclfbaaaGreatDoor
