/-
  The walk of layer 10's iterator: pieces.
-/
import Derived.RangeFuncNested
import Derived.RangeFuncBound
import Derived.RangeFuncCalls
import Derived.RangeFuncLeaves
import Derived.RangeFuncBox
import Derived.Shelf.Abstract
import Derived.Shelf.RegionOpen
import Derived.WalkKit
import Derived.OwnWalkIn
import Derived.TacticsInMore
import Derived.LoopNIn
import Derived.LoopIn
import Derived.Maps.AppendAt
import Derived.Test.YtphgfhghbpndaaaRn3
namespace Go.Proofs.Ytphgfhghbpndaaa
open Go Go.RowKit Go.Shelf
set_option linter.unusedVariables false
set_option linter.unusedSimpArgs false
attribute [local go_sem] Oper.semAt_some

/-- A run, or a rest, as a place of the row. -/
structure Spot (n : Nat) where
  from_ : Nat
  len : Nat
  run : Bool
  pos : 0 < len
  fits : from_ + len ≤ n
def Spot.piece {l : List UInt64} (s : Spot l.length) : Piece := ((l.drop s.from_).take s.len, s.run)
def Spot.val {n : Nat} (b off c : Nat) (s : Spot n) : Array Value := #[.agg #[.slice (some ⟨b, off + s.from_, none⟩) s.len (c - s.from_), .bool s.run]]

theorem Keep.grownBy {w w' : World} (h : Keep [] w w') : w.grownBy w' none := ⟨h.os, h.tape, h.output, h.size, fun k hk _ => h.block k hk (by simp)⟩
theorem rd_block {X : List Nat} {w w' : World} {b off size n c : Nat} {xs : List Value} (h : Rd X w size (some ⟨b, off, none⟩) n c xs) (hlt : b < w'.heap.size) (hb : w'.heap[b]? = w.heap[b]?) : Rd [] w' size (some ⟨b, off, none⟩) n c xs :=
  ⟨h.1, h.2.1, h.2.2.1, fun hn => by
    obtain ⟨b', off', e, _, _, hc⟩ := h.2.2.2.1 hn
    cases e
    exact ⟨b, off, rfl, hlt, by simp, fun j u hu => (World.cell?_of_block (w := w) (a := ⟨b, off + j, none⟩) hb).trans (hc j u hu)⟩, fun h => by cases h⟩

/-- What a round keeps: all below n₀, and the box Bs. -/
def KpB (n₀ Bs : Nat) (W W' : World) : Prop := Below n₀ W W' ∧ W'.heap[Bs]? = W.heap[Bs]?
theorem KpB.refl (n₀ Bs : Nat) (W : World) : KpB n₀ Bs W W := ⟨Below.refl _ _, rfl⟩
theorem KpB.trans {n₀ Bs : Nat} {A B C : World} (h : KpB n₀ Bs A B) (k : KpB n₀ Bs B C) : KpB n₀ Bs A C := ⟨h.1.trans k.1, k.2.trans h.2⟩
theorem take_more {α : Type} (l : List α) {fr at_ z : Nat} (h : fr ≤ at_) : (l.drop fr).take (at_ - fr) ++ (l.drop at_).take z = (l.drop fr).take (at_ + z - fr) := by
  rw [show at_ + z - fr = (at_ - fr) + z from by omega, List.take_add, List.drop_drop, show fr + (at_ - fr) = at_ from by omega]

set_option maxRecDepth 100000 in
set_option maxHeartbeats 4000000 in
theorem pieces1_in (n : Nat) (hn : 3 ≤ n) (y Bs n₀ b off c : Nat) (l : List UInt64) (hb : b < n₀) (J Jx : List (Spot l.length) → World → Prop)
    (hY : ∀ pre x W, J pre W → pre.length < l.length + 1 → YieldAt Fence.wide (n - 1) Try.prog y (x.val b off c) W fun e W' =>
      (e = .returned (.bool true) ∧ J (pre ++ [x]) W' ∧ KpB n₀ Bs W W') ∨ (e = .returned (.bool false) ∧ Jx (pre ++ [x]) W'))
    (W : World) (hBs : W.cell? ⟨Bs, 0, none⟩ = some (.slice (some ⟨b, off, none⟩) l.length c)) (hl : U64s [] W (some ⟨b, off, none⟩) l.length c l) (hBn : Bs < W.heap.size) (hn₀ : n₀ ≤ W.heap.size) (h0 : J [] W)
    (hJ : AbidesFrom W.heap.size J) (hJx : AbidesFrom W.heap.size Jx) :
    CallsIn Fence.wide n Try.prog 40 #[.func (.yield y) #[] #[], .pointer (some ⟨Bs, 0, none⟩)] W fun e W' => (∃ v, e = .returned v) ∧
      ((∃ xs, xs.map Spot.piece = cutP l ∧ J xs W') ∨ (∃ pre : List (Spot l.length), True ∧ Jx pre W')) := by
  have hc := hl.cap
  have hnc := hl.le
  refine callsIn_of_wp Try.func40 rfl trivial ?_ rfl
  simp only [Try.ntmps40, List.size_toArray, List.length_cons, List.length_nil, Nat.reduceAdd, Nat.reduceSub, Array.replicate_succ, Array.replicate_zero, List.push_toArray, List.append_toArray, List.nil_append, List.cons_append]
  gi_wp2
  gi_loopw [3, 4] (fun f a wr => ∃ (fr at_ : Nat) (xs : List (Spot l.length)), f = .int .i64 fr ∧ a = .int .i64 at_ ∧ fr ≤ at_ ∧ at_ ≤ l.length ∧ xs.length ≤ fr ∧ Hid (cutP l = xs.map Spot.piece ++ cutR ((l.drop fr).take (at_ - fr)) (l.drop at_)) ∧ J xs wr ∧ KpB n₀ Bs W wr)
    (fun _ a _ => l.length - (intOf a).toNat)
  case atStart => exact ⟨0, 0, [], rfl, rfl, by omega, by omega, by simp, by simp [Hid, cutP, cutR], h0, KpB.refl _ _ _⟩
  case round =>
    obtain ⟨fr, at_, xs, rfl, rfl, hfa, hal, hxl, HC, hJs, hnx⟩ := hrel
    have hBs' := (World.cell?_of_block (w := W) (a := ⟨Bs, 0, none⟩) hnx.2).trans hBs
    by_cases hlt : at_ < l.length
    · have hd0 : l.drop at_ ≠ [] := by
        intro he
        have := congrArg List.length he
        simp at this
        omega
      have hbW : b < W.heap.size := by
        obtain ⟨b', off', e, hlt2, _, _⟩ := hl.2.2.2.1 (by omega)
        cases e
        exact hlt2
      have hlr : U64s [] wr (some ⟨b, off, none⟩) l.length c l := rd_block hl (Nat.lt_of_lt_of_le hbW hnx.1.size) (hnx.1.block b hb)
      have hrd := hlr.drop1 (k := at_) (by omega) rfl
      rw [if_neg (by omega), Option.map_some, addr_add] at hrd
      have hS := Lib.hid (stretch_prog wr hrd)
      have hsp := stretch_pos hd0
      have hsl := stretch_le (l.drop at_)
      rw [List.length_drop] at hsl
      have hsz := hnx.1.size
      gi_wp2
      refine ⟨trivial, fun _ => by omega, (callsIn_wide.2 hS.out).mono ?_⟩
      rintro e w1 ⟨rfl, hk1⟩
      have hJ1 : J xs w1 := hJ xs wr w1 none hJs hk1.grownBy (fun r e => by cases e)
      have hn1 : KpB n₀ Bs W w1 := hnx.trans ⟨⟨hk1.os, hk1.tape, hk1.output, hk1.size, fun k hk => by
        exact hk1.block k (by omega) (by simp)⟩, hk1.block Bs (by omega) (by simp)⟩
      have hBs1 := (World.cell?_of_block (w := W) (a := ⟨Bs, 0, none⟩) hn1.2).trans hBs
      by_cases hfew : stretch (l.drop at_) < 4
      · have HC2 : Hid (cutP l = xs.map Spot.piece ++ cutR ((l.drop fr).take (at_ + stretch (l.drop at_) - fr)) (l.drop (at_ + stretch (l.drop at_)))) := by
          rw [Hid, HC.out, cutR_few hd0 hfew, List.drop_drop]
          rw [take_more l hfa]
        generalize stretch (l.drop at_) = z at *
        clear hd0 HC hS hrd hlr
        gi_wp2
        go_roundw
        case rel => exact ⟨fr, at_ + z, xs, rfl, by go_num, by omega, by omega, hxl, HC2, hJ1, hn1⟩
        case measure => simp [intOf]; omega
      · have hz4 : 4 ≤ stretch (l.drop at_) := by omega
        have hdd : (l.drop at_).drop (stretch (l.drop at_)) = l.drop (at_ + stretch (l.drop at_)) := List.drop_drop
        have hrun := cutR_run (pend := (l.drop fr).take (at_ - fr)) hz4
        rw [hdd] at hrun
        replace hrun := Lib.hid hrun
        generalize hz : stretch (l.drop at_) = z at *
        clear hd0 hS hrd hlr hfew hdd
        by_cases hfa2 : fr < at_
        · have hpl : (l.drop fr).take (at_ - fr) ≠ [] := by
            intro he
            have := congrArg List.length he
            simp at this
            omega
          obtain ⟨fn, tmps, assign, body, hy, hR⟩ := hY xs ⟨fr, at_ - fr, false, by omega, by omega⟩ w1 hJ1 (by omega)
          dsimp only [Spot.val] at hy
          have HC3 : Hid (cutP l = (xs ++ [(⟨fr, at_ - fr, false, by omega, by omega⟩ : Spot l.length)] ++ [(⟨at_, z, true, by omega, by omega⟩ : Spot l.length)]).map Spot.piece ++ cutR ((l.drop (at_ + z)).take (at_ + z - (at_ + z))) (l.drop (at_ + z))) := by
            rw [Hid, HC.out, hrun.out, if_neg hpl]
            simp [Spot.piece]
          clear HC hrun hpl
          gi_wp2
          refine ⟨fun _ => by omega, hR.mono ?_⟩
          rintro e W3 (⟨rfl, hJ3, hk3⟩ | ⟨rfl, hJx3⟩)
          · have hn3 := hn1.trans hk3
            have hBs3 := (World.cell?_of_block (w := W) (a := ⟨Bs, 0, none⟩) hn3.2).trans hBs
            obtain ⟨fn2, tmps2, assign2, body2, hy2, hR2⟩ := hY (xs ++ [⟨fr, at_ - fr, false, by omega, by omega⟩]) ⟨at_, z, true, by omega, by omega⟩ W3 hJ3 (by simp; omega)
            dsimp only [Spot.val] at hy2
            gi_wp2
            refine ⟨fun _ => by omega, hR2.mono ?_⟩
            rintro e W4 (⟨rfl, hJ4, hk4⟩ | ⟨rfl, hJx4⟩)
            · gi_wp2
              go_roundw
              case rel => exact ⟨at_ + z, at_ + z, _, by go_num, by go_num, by omega, by omega, by simp; omega, HC3, hJ4, hn3.trans hk4⟩
              case measure => simp [intOf]; omega
            · gi_wp2
              refine bodyPost_ret (results_none rfl _ _ _) rfl ?_
              exact ⟨⟨_, rfl⟩, .inr ⟨_, trivial, hJx4⟩⟩
          · gi_wp2
            refine ⟨fun _ h => (by cases h), ?_⟩
            gi_wp2
            refine bodyPost_ret (results_none rfl _ _ _) rfl ?_
            exact ⟨⟨_, rfl⟩, .inr ⟨_, trivial, hJx3⟩⟩
        · obtain rfl : fr = at_ := by omega
          have HC3 : Hid (cutP l = (xs ++ [(⟨fr, z, true, by omega, by omega⟩ : Spot l.length)]).map Spot.piece ++ cutR ((l.drop (fr + z)).take (fr + z - (fr + z))) (l.drop (fr + z))) := by
            rw [Hid, HC.out, hrun.out, if_pos (by simp)]
            simp [Spot.piece]
          clear HC hrun
          obtain ⟨fn2, tmps2, assign2, body2, hy2, hR2⟩ := hY xs ⟨fr, z, true, by omega, by omega⟩ w1 hJ1 (by omega)
          dsimp only [Spot.val] at hy2
          gi_wp2
          refine ⟨fun _ h => (by cases h), ?_⟩
          gi_wp2
          refine ⟨fun _ => by omega, hR2.mono ?_⟩
          rintro e W4 (⟨rfl, hJ4, hk4⟩ | ⟨rfl, hJx4⟩)
          · gi_wp2
            go_roundw
            case rel => exact ⟨fr + z, fr + z, _, by go_num, by go_num, by omega, by omega, by simp; omega, HC3, hJ4, hn1.trans hk4⟩
            case measure => simp [intOf]; omega
          · gi_wp2
            refine bodyPost_ret (results_none rfl _ _ _) rfl ?_
            exact ⟨⟨_, rfl⟩, .inr ⟨_, trivial, hJx4⟩⟩
    · obtain rfl : at_ = l.length := by omega
      have hdl : (l.drop l.length) = [] := by simp
      by_cases hfl : fr < l.length
      · have hpl : (l.drop fr).take (l.length - fr) ≠ [] := by
          intro he
          have := congrArg List.length he
          simp at this
          omega
        have hxs : Hid ((xs ++ [(⟨fr, l.length - fr, false, by omega, by omega⟩ : Spot l.length)]).map Spot.piece = cutP l) := by
          rw [Hid, HC.out, hdl, cutR_nil, if_neg hpl]
          simp [Spot.piece]
        obtain ⟨fn, tmps, assign, body, hy, hR⟩ := hY xs ⟨fr, l.length - fr, false, by omega, by omega⟩ wr hJs (by omega)
        dsimp only [Spot.val] at hy
        clear HC hdl hpl
        gi_wp2
        refine ⟨fun _ => by omega, hR.mono ?_⟩
        rintro e W3 (⟨rfl, hJ3, hk3⟩ | ⟨rfl, hJx3⟩)
        · gi_wp2
          go_end0
          exact ⟨⟨_, rfl⟩, .inl ⟨_, hxs.out, hJ3⟩⟩
        · gi_wp2
          go_end0
          exact ⟨⟨_, rfl⟩, .inr ⟨_, trivial, hJx3⟩⟩
      · obtain rfl : fr = l.length := by omega
        have hxs : Hid (xs.map Spot.piece = cutP l) := by
          rw [Hid, HC.out, hdl, cutR_nil, if_pos (by simp)]
          simp
        clear HC hdl
        gi_wp2
        go_end0
        exact ⟨⟨_, rfl⟩, .inl ⟨_, hxs.out, hJs⟩⟩
end Go.Proofs.Ytphgfhghbpndaaa
