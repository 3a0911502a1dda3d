/-
  The walk of layer 10's stretch, the program's.
  The walk of layer 10's iterator: pieces.
  Layer 10's pieces, as a sequence.
  What abides a loop over a sequence: blocks and rows of cells.
  Layer 10's pieces, of whatever row.
  The walk of layer 10's Cut, the program's.
  Regions whose order is open, within a round of a loop over a sequence, by the laws for those outside of it.
  The walk of layer 10's Encode, the program's.
-/
import Derived.RangeFuncNested
import Derived.RangeFuncBound
import Derived.RangeFuncCalls
import Derived.RangeFuncLeaves
import Derived.RangeFuncBox
import Derived.Shelf.Abstract
import Derived.Shelf.RegionOpen
import Derived.WalkKit
import Derived.OwnWalkIn
import Derived.TacticsInMore
import Derived.LoopNIn
import Derived.LoopIn
import Derived.Maps.AppendAt
import Derived.OrdersHeld
import Derived.Deep.RegionHeld
import Derived.Test.YtejbfknhnhhlfaaFRa
namespace Go.Proofs.Ytejbfknhnhhlfaa
open Go Go.RowKit
set_option maxRecDepth 10000
set_option linter.unusedVariables false
set_option linter.unusedSimpArgs false

set_option maxHeartbeats 400000 in
theorem other_prog {X : List Nat} {A : Option Addr} {n c B : Nat} {l : List UInt64} (x : UInt64) (W : World) (h : U64s X W A n c l) (hB : W.cell? ⟨B, 0, none⟩ = some (.slice A n c)) (h0 : 0 < l.length) :
    Calls Try.prog 119 #[.int .u64 (x.toNat : Nat), .pointer (some ⟨B, 0, none⟩)] W fun e W' => e = .returned (.bool (decide (x ≠ l[0]))) ∧ W = W' := by
  have hc := h.cap
  have hnc := h.le
  obtain rfl := h.len1
  obtain ⟨b, off, rfl, _, _, hcell⟩ := h.one h0
  unfold vU64 at hcell
  rw [Nat.add_zero] at hcell
  generalize l[0] = y at *
  have hv : Hid (decide (x ≠ y) = ((x.toNat : Int) != (y.toNat : Int))) := by
    unfold Hid
    by_cases hxy : x = y
    · subst hxy; simp
    · rw [decide_eq_true hxy]
      symm
      rw [bne_iff_ne]
      intro hh
      exact hxy (UInt64.toNat_inj.1 (by omega))
  rw [hv.out]
  go_enter Try.func119, Try.ntmps119
  go_wp2
  go_ret
  exact ⟨rfl, rfl⟩

/-- The place of the first other number, or -1. -/
def firstOther (l : List UInt64) : Int := if stretch l = l.length then -1 else stretch l

set_option maxHeartbeats 1000000 in
theorem indexOther_prog {X : List Nat} {A : Option Addr} {n c B : Nat} {l : List UInt64} (W : World) (h : U64s X W A n c l) (hB : W.cell? ⟨B, 0, none⟩ = some (.slice A n c)) :
    Calls Try.prog 118 #[.slice A n c, .func (.func 119) #[] #[.pointer (some ⟨B, 0, none⟩)]] W fun e W' => e = .returned (.int .i64 (firstOther l)) ∧ W = W' := by
  have hc := h.cap
  have hnc := h.le
  obtain rfl := h.len1
  go_enter Try.func118, Try.ntmps118
  go_wp2
  go_loop [8] (fun i => ∃ k : Nat, k ≤ l.length ∧ i = .int .i64 k ∧ Hid (∀ j (h : j < l.length), j < k → l[j] = l[0]'(by omega))) (fun i => l.length - (intOf i).toNat)
  case atStart => exact ⟨0, by omega, rfl, fun j h h0 => absurd h0 (by omega)⟩
  case round =>
    obtain ⟨k, hk, rfl, HE⟩ := hrel
    by_cases hlt : k < l.length
    · have ho := Lib.hid (other_prog l[k] W h hB (by omega))
      obtain ⟨b, off, rfl, _, _, hcell⟩ := h.one hlt
      unfold vU64 at hcell
      go_wp2_with fail
      refine ho.out.mono ?_
      rintro e w1 ⟨rfl, rfl⟩
      by_cases heq : l[k] = l[0]
      · have hv : decide (l[k] ≠ l[0]) = false := by simp [heq]
        have HE2 : Hid (∀ j (h : j < l.length), j < k + 1 → l[j] = l[0]'(by omega)) := by
          intro j hj hj1
          rcases Nat.lt_or_ge j k with h3 | h3
          · exact HE.out j hj h3
          · obtain rfl : j = k := by omega
            exact heq
        rw [hv]
        clear heq hv ho
        go_wp2
        go_round
        case rel => exact ⟨k + 1, by omega, by go_num, HE2⟩
        case measure => simp [intOf]; omega
      · have hv : decide (l[k] ≠ l[0]) = true := by simp [heq]
        have hk0 : 0 < k := by
          rcases Nat.eq_zero_or_pos k with rfl | h0
          · exact absurd rfl heq
          · exact h0
        have hs : Hid (firstOther l = k) := by
          have := stretch_is hk0 hk HE.out (fun _ => heq)
          unfold Hid firstOther
          rw [this, if_neg (by omega)]
        rw [hv]
        clear heq hv ho
        go_wp2
        go_ret
        exact ⟨ret_i (by rw [hs.out]), rfl⟩
    · obtain rfl : k = l.length := by omega
      have hs : Hid (firstOther l = -1) := by
        unfold Hid firstOther
        rw [if_pos]
        rcases Nat.eq_zero_or_pos l.length with h0 | h0
        · rw [List.eq_nil_of_length_eq_zero h0]; rfl
        · exact stretch_is h0 (Nat.le_refl _) HE.out (fun h => absurd h (by omega))
      go_wp2
      go_ret
      exact ⟨ret_i (by rw [hs.out]), rfl⟩

set_option maxHeartbeats 1000000 in
theorem stretch_prog {X : List Nat} {A : Option Addr} {n c : Nat} {l : List UInt64} (W : World) (h : U64s X W A n c l) :
    Calls Try.prog 108 #[.slice A n c] W fun e W' => e = .returned (.int .i64 (stretch l : Nat)) ∧ Keep [] W W' := by
  have hc := h.cap
  have hnc := h.le
  obtain rfl := h.len1
  have hsl := stretch_le l
  have hk1 : Keep [] W (W.alloc (.cells #[.slice A l.length c] 57)) := (Keep.refl _ _).alloc _
  have hbx : Blk (W.alloc (.cells #[.slice A l.length c] 57)) W.heap.size 57 [.slice A l.length c] := Blk.new W _ _
  have hcb := hbx.cell 0
  simp only [List.getElem?_cons_zero] at hcb
  have C := Lib.hid (indexOther_prog _ (h.pure hk1) hcb)
  go_enter Try.func108, Try.ntmps108
  go_wp2_with fail
  refine C.out.mono ?_
  rintro e w1 ⟨rfl, rfl⟩
  by_cases hall : stretch l = l.length
  · have hf : firstOther l = -1 := by unfold firstOther; rw [if_pos hall]
    rw [hf]
    have hall' := Lib.hid hall
    clear hf hall C
    go_wp2
    go_ret
    exact ⟨ret_i (by rw [hall'.out]), hk1⟩
  · have hf : firstOther l = stretch l := by unfold firstOther; rw [if_neg hall]
    rw [hf]
    clear hf hall C
    go_wp2
    go_ret
    exact ⟨rfl, hk1⟩
end Go.Proofs.Ytejbfknhnhhlfaa

namespace Go.Proofs.Ytejbfknhnhhlfaa
open Go Go.RowKit Go.Shelf
set_option linter.unusedVariables false
set_option linter.unusedSimpArgs false
attribute [local go_sem] Oper.semAt_some

/-- A run, or a rest, as a place of the row. -/
structure Spot (n : Nat) where
  from_ : Nat
  len : Nat
  run : Bool
  pos : 0 < len
  fits : from_ + len ≤ n
def Spot.piece {l : List UInt64} (s : Spot l.length) : Piece := ((l.drop s.from_).take s.len, s.run)
def Spot.val {n : Nat} (b off c : Nat) (s : Spot n) : Array Value := #[.agg #[.slice (some ⟨b, off + s.from_, none⟩) s.len (c - s.from_), .bool s.run]]

theorem Keep.grownBy {w w' : World} (h : Keep [] w w') : w.grownBy w' none := ⟨h.os, h.tape, h.output, h.size, fun k hk _ => h.block k hk (by simp)⟩
theorem rd_block {X : List Nat} {w w' : World} {b off size n c : Nat} {xs : List Value} (h : Rd X w size (some ⟨b, off, none⟩) n c xs) (hlt : b < w'.heap.size) (hb : w'.heap[b]? = w.heap[b]?) : Rd [] w' size (some ⟨b, off, none⟩) n c xs :=
  ⟨h.1, h.2.1, h.2.2.1, fun hn => by
    obtain ⟨b', off', e, _, _, hc⟩ := h.2.2.2.1 hn
    cases e
    exact ⟨b, off, rfl, hlt, by simp, fun j u hu => (World.cell?_of_block (w := w) (a := ⟨b, off + j, none⟩) hb).trans (hc j u hu)⟩, fun h => by cases h⟩

/-- What a round keeps: all below n₀, and the box Bs. -/
def KpB (n₀ Bs : Nat) (W W' : World) : Prop := Below n₀ W W' ∧ W'.heap[Bs]? = W.heap[Bs]?
theorem KpB.refl (n₀ Bs : Nat) (W : World) : KpB n₀ Bs W W := ⟨Below.refl _ _, rfl⟩
theorem KpB.trans {n₀ Bs : Nat} {A B C : World} (h : KpB n₀ Bs A B) (k : KpB n₀ Bs B C) : KpB n₀ Bs A C := ⟨h.1.trans k.1, k.2.trans h.2⟩
theorem take_more {α : Type} (l : List α) {fr at_ z : Nat} (h : fr ≤ at_) : (l.drop fr).take (at_ - fr) ++ (l.drop at_).take z = (l.drop fr).take (at_ + z - fr) := by
  rw [show at_ + z - fr = (at_ - fr) + z from by omega, List.take_add, List.drop_drop, show fr + (at_ - fr) = at_ from by omega]

set_option maxRecDepth 100000 in
set_option maxHeartbeats 4000000 in
theorem pieces1_in (n : Nat) (hn : 3 ≤ n) (y Bs n₀ b off c : Nat) (l : List UInt64) (hb : b < n₀) (J Jx : List (Spot l.length) → World → Prop)
    (hY : ∀ pre x W, J pre W → pre.length < l.length + 1 → YieldAt Fence.wide (n - 1) Try.prog y (x.val b off c) W fun e W' =>
      (e = .returned (.bool true) ∧ J (pre ++ [x]) W' ∧ KpB n₀ Bs W W') ∨ (e = .returned (.bool false) ∧ Jx (pre ++ [x]) W'))
    (W : World) (hBs : W.cell? ⟨Bs, 0, none⟩ = some (.slice (some ⟨b, off, none⟩) l.length c)) (hl : U64s [] W (some ⟨b, off, none⟩) l.length c l) (hBn : Bs < W.heap.size) (hn₀ : n₀ ≤ W.heap.size) (h0 : J [] W)
    (hJ : AbidesFrom W.heap.size J) (hJx : AbidesFrom W.heap.size Jx) :
    CallsIn Fence.wide n Try.prog 107 #[.func (.yield y) #[] #[], .pointer (some ⟨Bs, 0, none⟩)] W fun e W' => (∃ v, e = .returned v) ∧
      ((∃ xs, xs.map Spot.piece = cutP l ∧ J xs W') ∨ (∃ pre : List (Spot l.length), True ∧ Jx pre W')) := by
  have hc := hl.cap
  have hnc := hl.le
  refine callsIn_of_wp Try.func107 rfl trivial ?_ rfl
  simp only [Try.ntmps107, List.size_toArray, List.length_cons, List.length_nil, Nat.reduceAdd, Nat.reduceSub, Array.replicate_succ, Array.replicate_zero, List.push_toArray, List.append_toArray, List.nil_append, List.cons_append]
  gi_wp2
  gi_loopw [3, 4] (fun f a wr => ∃ (fr at_ : Nat) (xs : List (Spot l.length)), f = .int .i64 fr ∧ a = .int .i64 at_ ∧ fr ≤ at_ ∧ at_ ≤ l.length ∧ xs.length ≤ fr ∧ Hid (cutP l = xs.map Spot.piece ++ cutR ((l.drop fr).take (at_ - fr)) (l.drop at_)) ∧ J xs wr ∧ KpB n₀ Bs W wr)
    (fun _ a _ => l.length - (intOf a).toNat)
  case atStart => exact ⟨0, 0, [], rfl, rfl, by omega, by omega, by simp, by simp [Hid, cutP, cutR], h0, KpB.refl _ _ _⟩
  case round =>
    obtain ⟨fr, at_, xs, rfl, rfl, hfa, hal, hxl, HC, hJs, hnx⟩ := hrel
    have hBs' := (World.cell?_of_block (w := W) (a := ⟨Bs, 0, none⟩) hnx.2).trans hBs
    by_cases hlt : at_ < l.length
    · have hd0 : l.drop at_ ≠ [] := by
        intro he
        have := congrArg List.length he
        simp at this
        omega
      have hbW : b < W.heap.size := by
        obtain ⟨b', off', e, hlt2, _, _⟩ := hl.2.2.2.1 (by omega)
        cases e
        exact hlt2
      have hlr : U64s [] wr (some ⟨b, off, none⟩) l.length c l := rd_block hl (Nat.lt_of_lt_of_le hbW hnx.1.size) (hnx.1.block b hb)
      have hrd := hlr.drop1 (k := at_) (by omega) rfl
      rw [if_neg (by omega), Option.map_some, addr_add] at hrd
      have hS := Lib.hid (stretch_prog wr hrd)
      have hsp := stretch_pos hd0
      have hsl := stretch_le (l.drop at_)
      rw [List.length_drop] at hsl
      have hsz := hnx.1.size
      gi_wp2
      refine ⟨trivial, fun _ => by omega, (callsIn_wide.2 hS.out).mono ?_⟩
      rintro e w1 ⟨rfl, hk1⟩
      have hJ1 : J xs w1 := hJ xs wr w1 none hJs hk1.grownBy (fun r e => by cases e)
      have hn1 : KpB n₀ Bs W w1 := hnx.trans ⟨⟨hk1.os, hk1.tape, hk1.output, hk1.size, fun k hk => by
        exact hk1.block k (by omega) (by simp)⟩, hk1.block Bs (by omega) (by simp)⟩
      have hBs1 := (World.cell?_of_block (w := W) (a := ⟨Bs, 0, none⟩) hn1.2).trans hBs
      by_cases hfew : stretch (l.drop at_) < 4
      · have HC2 : Hid (cutP l = xs.map Spot.piece ++ cutR ((l.drop fr).take (at_ + stretch (l.drop at_) - fr)) (l.drop (at_ + stretch (l.drop at_)))) := by
          rw [Hid, HC.out, cutR_few hd0 hfew, List.drop_drop]
          rw [take_more l hfa]
        generalize stretch (l.drop at_) = z at *
        clear hd0 HC hS hrd hlr
        gi_wp2
        go_roundw
        case rel => exact ⟨fr, at_ + z, xs, rfl, by go_num, by omega, by omega, hxl, HC2, hJ1, hn1⟩
        case measure => simp [intOf]; omega
      · have hz4 : 4 ≤ stretch (l.drop at_) := by omega
        have hdd : (l.drop at_).drop (stretch (l.drop at_)) = l.drop (at_ + stretch (l.drop at_)) := List.drop_drop
        have hrun := cutR_run (pend := (l.drop fr).take (at_ - fr)) hz4
        rw [hdd] at hrun
        replace hrun := Lib.hid hrun
        generalize hz : stretch (l.drop at_) = z at *
        clear hd0 hS hrd hlr hfew hdd
        by_cases hfa2 : fr < at_
        · have hpl : (l.drop fr).take (at_ - fr) ≠ [] := by
            intro he
            have := congrArg List.length he
            simp at this
            omega
          obtain ⟨fn, tmps, assign, body, hy, hR⟩ := hY xs ⟨fr, at_ - fr, false, by omega, by omega⟩ w1 hJ1 (by omega)
          dsimp only [Spot.val] at hy
          have HC3 : Hid (cutP l = (xs ++ [(⟨fr, at_ - fr, false, by omega, by omega⟩ : Spot l.length)] ++ [(⟨at_, z, true, by omega, by omega⟩ : Spot l.length)]).map Spot.piece ++ cutR ((l.drop (at_ + z)).take (at_ + z - (at_ + z))) (l.drop (at_ + z))) := by
            rw [Hid, HC.out, hrun.out, if_neg hpl]
            simp [Spot.piece]
          clear HC hrun hpl
          gi_wp2
          refine ⟨fun _ => by omega, hR.mono ?_⟩
          rintro e W3 (⟨rfl, hJ3, hk3⟩ | ⟨rfl, hJx3⟩)
          · have hn3 := hn1.trans hk3
            have hBs3 := (World.cell?_of_block (w := W) (a := ⟨Bs, 0, none⟩) hn3.2).trans hBs
            obtain ⟨fn2, tmps2, assign2, body2, hy2, hR2⟩ := hY (xs ++ [⟨fr, at_ - fr, false, by omega, by omega⟩]) ⟨at_, z, true, by omega, by omega⟩ W3 hJ3 (by simp; omega)
            dsimp only [Spot.val] at hy2
            gi_wp2
            refine ⟨fun _ => by omega, hR2.mono ?_⟩
            rintro e W4 (⟨rfl, hJ4, hk4⟩ | ⟨rfl, hJx4⟩)
            · gi_wp2
              go_roundw
              case rel => exact ⟨at_ + z, at_ + z, _, by go_num, by go_num, by omega, by omega, by simp; omega, HC3, hJ4, hn3.trans hk4⟩
              case measure => simp [intOf]; omega
            · gi_wp2
              refine bodyPost_ret (results_none rfl _ _ _) rfl ?_
              exact ⟨⟨_, rfl⟩, .inr ⟨_, trivial, hJx4⟩⟩
          · gi_wp2
            refine ⟨fun _ h => (by cases h), ?_⟩
            gi_wp2
            refine bodyPost_ret (results_none rfl _ _ _) rfl ?_
            exact ⟨⟨_, rfl⟩, .inr ⟨_, trivial, hJx3⟩⟩
        · obtain rfl : fr = at_ := by omega
          have HC3 : Hid (cutP l = (xs ++ [(⟨fr, z, true, by omega, by omega⟩ : Spot l.length)]).map Spot.piece ++ cutR ((l.drop (fr + z)).take (fr + z - (fr + z))) (l.drop (fr + z))) := by
            rw [Hid, HC.out, hrun.out, if_pos (by simp)]
            simp [Spot.piece]
          clear HC hrun
          obtain ⟨fn2, tmps2, assign2, body2, hy2, hR2⟩ := hY xs ⟨fr, z, true, by omega, by omega⟩ w1 hJ1 (by omega)
          dsimp only [Spot.val] at hy2
          gi_wp2
          refine ⟨fun _ h => (by cases h), ?_⟩
          gi_wp2
          refine ⟨fun _ => by omega, hR2.mono ?_⟩
          rintro e W4 (⟨rfl, hJ4, hk4⟩ | ⟨rfl, hJx4⟩)
          · gi_wp2
            go_roundw
            case rel => exact ⟨fr + z, fr + z, _, by go_num, by go_num, by omega, by omega, by simp; omega, HC3, hJ4, hn1.trans hk4⟩
            case measure => simp [intOf]; omega
          · gi_wp2
            refine bodyPost_ret (results_none rfl _ _ _) rfl ?_
            exact ⟨⟨_, rfl⟩, .inr ⟨_, trivial, hJx4⟩⟩
    · obtain rfl : at_ = l.length := by omega
      have hdl : (l.drop l.length) = [] := by simp
      by_cases hfl : fr < l.length
      · have hpl : (l.drop fr).take (l.length - fr) ≠ [] := by
          intro he
          have := congrArg List.length he
          simp at this
          omega
        have hxs : Hid ((xs ++ [(⟨fr, l.length - fr, false, by omega, by omega⟩ : Spot l.length)]).map Spot.piece = cutP l) := by
          rw [Hid, HC.out, hdl, cutR_nil, if_neg hpl]
          simp [Spot.piece]
        obtain ⟨fn, tmps, assign, body, hy, hR⟩ := hY xs ⟨fr, l.length - fr, false, by omega, by omega⟩ wr hJs (by omega)
        dsimp only [Spot.val] at hy
        clear HC hdl hpl
        gi_wp2
        refine ⟨fun _ => by omega, hR.mono ?_⟩
        rintro e W3 (⟨rfl, hJ3, hk3⟩ | ⟨rfl, hJx3⟩)
        · gi_wp2
          go_end0
          exact ⟨⟨_, rfl⟩, .inl ⟨_, hxs.out, hJ3⟩⟩
        · gi_wp2
          go_end0
          exact ⟨⟨_, rfl⟩, .inr ⟨_, trivial, hJx3⟩⟩
      · obtain rfl : fr = l.length := by omega
        have hxs : Hid (xs.map Spot.piece = cutP l) := by
          rw [Hid, HC.out, hdl, cutR_nil, if_pos (by simp)]
          simp
        clear HC hdl
        gi_wp2
        go_end0
        exact ⟨⟨_, rfl⟩, .inl ⟨_, hxs.out, hJs⟩⟩
end Go.Proofs.Ytejbfknhnhhlfaa

namespace Go.Proofs.Ytejbfknhnhhlfaa
open Go Go.RowKit Go.Shelf
set_option maxRecDepth 10000
set_option linter.unusedVariables false
set_option linter.unusedSimpArgs false

set_option maxHeartbeats 400000 in
theorem pieces_prog (A : Option Addr) (n c : Nat) (W : World) :
    Calls Try.prog 85 #[.slice A n c] W fun e W' => e = .returned (.func (.func 107) #[] #[.pointer (some ⟨W.heap.size, 0, none⟩)]) ∧ W' = W.alloc (.cells #[.slice A n c] 57) := by
  go_enter Try.func85, Try.ntmps85
  go_wp2
  go_ret
  exact ⟨rfl, rfl⟩

theorem pieces_stops (n : Nat) (hn : 3 ≤ n) (Bs n₀ b off c : Nat) (l : List UInt64) (w : World) (hb : b < n₀) (hBs : w.cell? ⟨Bs, 0, none⟩ = some (.slice (some ⟨b, off, none⟩) l.length c)) (hl : U64s [] w (some ⟨b, off, none⟩) l.length c l) (hBn : Bs < w.heap.size) (hn₀ : n₀ ≤ w.heap.size) :
    SeqStopsK Fence.wide n Try.prog 107 #[.pointer (some ⟨Bs, 0, none⟩)] (fun x : Spot l.length => x.val b off c) (KpB n₀ Bs) (fun xs => xs.map Spot.piece = cutP l) (fun _ => True) (l.length + 1) w := fun y J Jx W hW hJ hJx hY h0 =>
  pieces1_in n hn y Bs n₀ b off c l hb J Jx hY W ((hW.cell (p := ⟨Bs, 0, none⟩) hBn).trans hBs) (rd_block hl (by have := hW.size; omega) (hW.block b (by omega))) (by have := hW.size; omega) (by have := hW.size; omega) h0 hJ hJx

set_option maxRecDepth 100000 in
set_option maxHeartbeats 1000000 in
theorem pieces1_nil (A : Option Addr) (c n : Nat) (y Bs n₀ : Nat) (J : List (Spot ([] : List UInt64).length) → World → Prop) (W : World) (hBs : W.cell? ⟨Bs, 0, none⟩ = some (.slice A 0 c)) (h0 : J [] W) :
    CallsIn Fence.wide n Try.prog 107 #[.func (.yield y) #[] #[], .pointer (some ⟨Bs, 0, none⟩)] W fun e W' => (∃ v, e = .returned v) ∧ J [] W' := by
  refine callsIn_of_wp Try.func107 rfl trivial ?_ rfl
  simp only [Try.ntmps107, List.size_toArray, List.length_cons, List.length_nil, Nat.reduceAdd, Nat.reduceSub, Array.replicate_succ, Array.replicate_zero, List.push_toArray, List.append_toArray, List.nil_append, List.cons_append]
  gi_wp2
  gi_loopw [3, 4] (fun f a wr => f = .int .i64 0 ∧ a = .int .i64 0 ∧ wr = W) (fun _ _ _ => 0)
  case atStart => exact ⟨rfl, rfl, rfl⟩
  case round =>
    obtain ⟨rfl, rfl, rfl⟩ := hrel
    gi_wp2
    go_end0
    exact ⟨⟨_, rfl⟩, h0⟩
end Go.Proofs.Ytejbfknhnhhlfaa

namespace Go.Proofs.Ytejbfknhnhhlfaa
open Go Go.RowKit Go.Shelf
set_option linter.unusedVariables false
set_option linter.unusedSimpArgs false

theorem blk_abides {W W' : World} {row : Option Nat} {g : Nat} {t : TypeId} {cs : List Value} (h : Blk W g t cs) (hg : W.grownBy W' row) (hr : ∀ r, row = some r → ∃ o : Obj, W.heap[r]? = some o ∧ o.isCells = false) : Blk W' g t cs := by
  refine (hg.block g h.lt (fun e => ?_)).trans h
  obtain ⟨o, ho, hc⟩ := hr g e.symm
  unfold Blk at h
  rw [h] at ho
  injection ho with ho
  subst ho
  simp [Obj.isCells] at hc
theorem own_abides {W W' : World} {row : Option Nat} {base size n : Nat} {e : TypeId} {v : Value} {xs : List Value} (h : W.ownsRow base e size v n xs) (hg : W.grownBy W' row) (hr : ∀ r, row = some r → ∃ o : Obj, W.heap[r]? = some o ∧ o.isCells = false) : W'.ownsRow base e size v n xs := by
  refine ⟨h.1, ?_⟩
  rcases h.2 with h2 | ⟨g, cap, cur, hv, hb, hh, r⟩
  · exact .inl h2
  · refine .inr ⟨g, cap, cur, hv, hb, (hg.block g (Array.getElem?_eq_some_iff.1 hh).1 (fun e => ?_)).trans hh, r⟩
    obtain ⟨o, ho, hc⟩ := hr g e.symm
    rw [hh] at ho
    injection ho with ho
    subst ho
    simp [Obj.isCells] at hc
theorem KpB.t {n₀ Bs : Nat} {A B C : World} (h : KpB n₀ Bs A B) (k : KpB n₀ Bs B C) : KpB n₀ Bs A C := h.trans k
theorem KpB.b {n₀ Bs : Nat} {w : World} (hn : n₀ ≤ w.heap.size) (hB : Bs < w.heap.size) (W : World) (l : Nat) (o o' : Obj) (hl : w.heap.size ≤ l) (h : W.heap[l]? = some o) (h1 : o.isCells = false) (h2 : o.isWalk = false) : KpB n₀ Bs W (W.putObj l o') :=
  ⟨belowK_b hn W l o o' hl h h1 h2, World.putObj_heap_other (by omega)⟩
theorem KpB.keep {n₀ Bs : Nat} {W W' : World} {M : List Nat} (h : Keep M W W') (hM : ∀ b ∈ M, n₀ ≤ b ∧ b ≠ Bs) (hn : n₀ ≤ W.heap.size) (hB : Bs < W.heap.size) : KpB n₀ Bs W W' :=
  ⟨⟨h.os, h.tape, h.output, h.size, fun k hk => h.block k (by omega) (fun hm => by have := (hM k hm).1; omega)⟩, h.block Bs hB (fun hm => (hM Bs hm).2 rfl)⟩

theorem own_cells {w : World} {base size n : Nat} {e : TypeId} {v : Value} {xs : List Value} (h : w.ownsRow base e size v n xs) : ∀ k ∈ v.ownBlock.toList, base ≤ k ∧ ∃ o : Obj, w.heap[k]? = some o ∧ o.isCells = true := by
  rcases h.2 with ⟨rfl, _⟩ | ⟨g, cap, cur, rfl, hb, hg, _⟩
  · intro k hk; simp [Value.ownBlock] at hk
  · intro k hk
    obtain rfl : k = g := by simpa [Value.ownBlock] using hk
    exact ⟨hb, _, hg, rfl⟩
theorem Blk.cells {w : World} {g : Nat} {t : TypeId} {cs : List Value} (h : Blk w g t cs) : ∃ o : Obj, w.heap[g]? = some o ∧ o.isCells = true := ⟨_, h, rfl⟩
theorem keepsFrom_of_keep {M : List Nat} {B : Nat} {W W' : World} (h : Keep M W W') (hM : ∀ b ∈ M, b < B ∨ ∃ o : Obj, W.heap[b]? = some o ∧ o.isCells = true) : KeepsFrom B W W' :=
  ⟨h.size, fun k o hB hk ho => by
    refine (h.block k (Array.getElem?_eq_some_iff.1 hk).1 (fun hm => ?_)).trans hk
    rcases hM k hm with h1 | ⟨o', h1, h2⟩
    · omega
    · rw [hk] at h1
      injection h1 with h1
      subst h1
      rw [ho] at h2
      cases h2⟩
/-- 'append(v, x...)' within a fence: v the call's own, x whatever slice is read. -/
theorem wpListIn_append_rd {F : Fence} {n : Nat} {P : Program} {w : World} {ops : Array Oper} {rest : List Oper} {o : Oper} {a : Act} {Q : Exit → Act → World → Prop} (hgd : o.guard = none) (s x : Operand) (t : TypeId)
    (ho : o.op = .call { callee := .builtin .append, args := #[s, x], argTypes := #[t, t] })
    (base : Nat) (e : TypeId) (i : TypeInfo) (z : Value) (size bytes : Nat) (ht : P.underlying t = some (.slice e)) (hi : P.info? e = some i) (hz : i.zero = some z)
    (hsize : i.size = size) (hby : i.bytes = bytes) (hzs : z.cells.size = size) (hsz : 0 < size)
    (v : Value) (k : Nat) (xs : List Value) (hs : a.eval s = v) (hown : w.ownsRow base e size v k xs)
    {X : List Nat} {A : Option Addr} {m c : Nat} {news : List Value} (hx : a.eval x = .slice A m c) (hr : Rd X w size A m c news) (h1 : ∀ u ∈ news, u.oneCell' = true)
    (h63 : k + m ≤ maxLen) (hbytes : (k + m) * bytes ≤ 140737488355328) (hbase : base ≤ w.heap.size)
    (h : ∀ v' w', w'.ownsRow base e size v' (k + m) (xs ++ news) → w.grownBy w' v.ownBlock → wpListIn F n P ops Q rest (a.put o.dst v') w') : wpListIn F n P ops Q (o :: rest) a w := by
  cases A with
  | none =>
    obtain ⟨rfl, rfl⟩ := hr.none_nil
    obtain rfl := hr.2.2.2.2 rfl
    have hrun := run_append_owned_none (P := P) (w := w) base t o.type e i size ht hi v k xs hown
    refine wpListIn_plain hgd fun K hK' => ?_
    unfold Oper.wpIn
    refine ⟨?_, ?_⟩
    · simp [Oper.about, ho, resolve, Target.leads, Sem.run_pure]
    · rw [Oper.semAt_plain F _ _ (by rw [ho]; intro c hc'; cases hc')]
      simp [execOp, ho, resolve, invoke, builtin, hs, hx, hrun, Result.andThen]
      exact hK' _ _ (h v w (by simpa using hown) ⟨rfl, rfl, rfl, Nat.le_refl _, fun _ _ _ => rfl⟩)
  | some ad =>
    refine wpListIn_append_own w hgd s x t ho base e i z size bytes ht hi hz hsize hby hzs hsz v k xs hs hown ad m c news hx hr.1 ?_ h1 h63 hbytes hbase (fun v' w' h2 h3 _ => h v' w' h2 h3)
    intro j u hu
    rcases Nat.eq_zero_or_pos m with h0 | h0
    · subst h0
      have : news = [] := List.eq_nil_of_length_eq_zero (by simpa using hr.1)
      subst this
      simp at hu
    · obtain ⟨b, off, e', _, _, hc⟩ := hr.2.2.2.1 h0
      cases e'
      have := hc j u hu
      unfold Addr.add
      split
      · rename_i h0; subst h0; exact this
      · exact this
end Go.Proofs.Ytejbfknhnhhlfaa

namespace Go.Proofs.Ytejbfknhnhhlfaa
open Go Go.RowKit Go.Shelf
set_option linter.unusedVariables false
set_option linter.unusedSimpArgs false

theorem pieces_seq (n : Nat) (hn : 3 ≤ n) (Bs n₀ c : Nat) (A : Option Addr) (l : List UInt64) (w : World) (hBs : w.cell? ⟨Bs, 0, none⟩ = some (.slice A l.length c)) (hl : U64s [] w A l.length c l) (hb : ∀ b off, A = some ⟨b, off, none⟩ → l ≠ [] → b < n₀) (hBn : Bs < w.heap.size) (hn₀ : n₀ ≤ w.heap.size) :
    ∃ b off, (l ≠ [] → A = some ⟨b, off, none⟩) ∧ SeqStopsK Fence.wide n Try.prog 107 #[.pointer (some ⟨Bs, 0, none⟩)] (fun x : Spot l.length => x.val b off c) (KpB n₀ Bs) (fun xs => xs.map Spot.piece = cutP l) (fun _ => True) (l.length + 1) w := by
  by_cases h0 : l = []
  · subst h0
    refine ⟨0, 0, fun h => absurd rfl h, fun y J Jx W hW hJ hJx hY h0 => ?_⟩
    exact (pieces1_nil A c n y Bs n₀ J W ((hW.cell (p := ⟨Bs, 0, none⟩) hBn).trans hBs) h0).mono fun e W' ⟨he, hj⟩ => ⟨he, .inl ⟨[], by simp [cutP, cutF], hj⟩⟩
  · obtain ⟨b, off, rfl, _, _, _⟩ := hl.2.2.2.1 (List.length_pos_iff.2 h0)
    exact ⟨b, off, fun _ => rfl, pieces_stops n hn Bs n₀ b off c l w (hb b off rfl h0) hBs hl hBn hn₀⟩
end Go.Proofs.Ytejbfknhnhhlfaa

namespace Go.Proofs.Ytejbfknhnhhlfaa
open Go Go.RowKit Go.Shelf
set_option linter.unusedVariables false
set_option linter.unusedSimpArgs false
attribute [local go_sem] Oper.semAt_some

theorem Spot.piece_len {l : List UInt64} (s : Spot l.length) : s.piece.1.length = s.len := by
  have := s.fits
  simp [Spot.piece]
  omega
theorem sizes_spots {l : List UInt64} (xs : List (Spot l.length)) : sizes (xs.map Spot.piece) = xs.map fun s => (s.len : Int) := by
  rw [sizes, List.map_map]
  refine List.map_congr_left fun s _ => ?_
  simp [s.piece_len]
end Go.Proofs.Ytejbfknhnhhlfaa

namespace Go.Proofs.Ytejbfknhnhhlfaa
open Go Go.RowKit Go.Shelf
set_option linter.unusedVariables false
set_option linter.unusedSimpArgs false

/-- No operation is deferred. -/
def noDefer (ops : Array Oper) : Bool := ops.all fun o => match o.op with | .defer _ => false | _ => true
theorem noDefer_spec {ops : Array Oper} (h : noDefer ops = true) {i : Nat} {o : Oper} (hi : ops[i]? = some o) : ∀ c, o.op ≠ .defer c := by
  intro c hc
  obtain ⟨hlt, rfl⟩ := Array.getElem?_eq_some_iff.1 hi
  have := (Array.all_eq_true.1 h) i hlt
  rw [hc] at this
  cases this
theorem rowsIn_wide {n l : Nat} {P : Program} {row : String} {args : Array Value} {w : World} {R : Value → World → Prop} (h : Rows P row args w R) : RowsIn (Fence.wide.inRound l) n P row args w R :=
  fun c cs _ => let ⟨v, w', r, s⟩ := h c cs; ⟨v, w', r, stepsIn_wide.2 s⟩

section
variable {P : Program} {ops : Array Oper} {Q : Exit → Act → World → Prop} {md : Region.Mode} {l n : Nat}

theorem oper_in {o : Oper} {a : Act} {w : World} {K : Act → World → Prop} (hd : ∀ c, o.op ≠ .defer c) (h : o.wp P a w K Q) : o.wpIn (Fence.wide.inRound l) n P a w K Q := by
  refine ⟨fun _ _ => trivial, ?_⟩
  rw [Oper.semAt_plain _ _ _ hd]
  unfold Oper.wp at h
  generalize (execOp a.eval o).run P w = r at *
  cases r with
  | ok x w' =>
    cases x <;> simp only [Oper.upon, Oper.uponIn] at h ⊢
    case value => exact h
    case skip => exact h
    case defer => exact h
    case enter f args => exact ⟨fun hs => (by cases hs), CallsIn.inRound l (callsIn_wide.2 h)⟩
    case row row args => exact ⟨fun hs => (by cases hs), rowsIn_wide h⟩
  | halt x w' => cases x <;> simp only [Oper.upon, Oper.uponIn] at h ⊢ <;> exact h
theorem wpOpIn_of {i : Nat} {a : Act} {w : World} {K : Act → World → Prop} (hd : noDefer ops = true) (hL : ¬ LetsOut Q) (h : wpOp P ops Q i K a w) : wpOpIn (Fence.wide.inRound l) n P ops Q i K a w := by
  unfold wpOp at h
  unfold wpOpIn
  cases ho : ops[i]? with
  | none => rw [ho] at h; exact h
  | some o =>
    rw [ho] at h
    simp only [] at h ⊢
    split
    · rename_i hw
      rw [if_pos hw] at h
      rcases h with h | ⟨_, h⟩
      · exact oper_in (noDefer_spec hd ho) h
      · exact absurd h hL
    · rename_i hw
      rw [if_neg hw] at h
      exact ⟨fun _ _ => trivial, h⟩
theorem wpAnyIn_of (hd : noDefer ops = true) (hL : ¬ LetsOut Q) : ∀ (fuel : Nat) (listed : Array Bool) (a : Act) (w : World), wpAny P md ops Q fuel listed a w → wpAnyIn (Fence.wide.inRound l) n P md ops Q fuel listed a w
  | 0, _, _, _, h => h
  | fuel + 1, _, _, _, h => ⟨h.1, fun i hi => wpOpIn_of hd hL (wpOp_mono (fun a' w' h' => wpAnyIn_of hd hL fuel _ a' w' h') (h.2 i hi))⟩
/-- A region within a round: S holds behind each operation. -/
theorem wpIn_region_held {S : World → Prop} {id : Nat} {a : Act} {w : World} (hm : P.follows .mixedOrders = true) (hd : noDefer ops = true) (hL : ¬ LetsOut Q) (hS : S w.drew)
    (h : S w.drew → wpAnyH P .any ops Q S ops.size (Array.replicate ops.size false) a w.drew) : (Code.region id ops true).wpIn (Fence.wide.inRound l) n P Q a w :=
  wpIn_region_any hm (wpAnyIn_of hd hL _ _ _ _ (wpAny_of_held _ _ _ _ (h hS)))
end
end Go.Proofs.Ytejbfknhnhhlfaa

namespace Go.Proofs.Ytejbfknhnhhlfaa
open Go Go.RowKit Go.Shelf
set_option maxRecDepth 10000
set_option linter.unusedVariables false
set_option linter.unusedSimpArgs false
attribute [local go_sem] Oper.semAt_some

theorem encs_len {l : List UInt64} (pre : List (Spot l.length)) (hl : l.length ≤ 65536) : ((pre.map Spot.piece).flatMap encP).length ≤ pre.length * 1900544 := by
  induction pre with
  | nil => simp
  | cons s pre ih =>
    have h1 := encP_len s.piece (by
      intro h0
      have h1 := s.piece_len
      have h2 := s.pos
      rw [h0] at h1
      simp at h1
      omega) (by rw [s.piece_len]; have := s.fits; omega)
    rw [s.piece_len] at h1
    have := s.fits
    rw [List.map_cons, List.flatMap_cons, List.length_append, List.length_cons]
    omega

set_option maxRecDepth 100000 in
set_option maxHeartbeats 8000000 in
theorem encodeR_prog {X : List Nat} {A : Option Addr} {n c : Nat} {l : List UInt64} (W : World) (h : U64s X W A n c l) :
    Calls Try.prog 57 #[.slice A n c] W fun e W' => ∃ B k d, e = .returned (.tuple #[.slice B k d, .bool (decide (l.length ≤ 65536))]) ∧ Keep [] W W' ∧ W'.ownsRow W.heap.size 5 1 (.slice B k d) k ((enc l).map vU8) := by
  have hc := h.cap
  have hnc := h.le
  obtain rfl := h.len1
  obtain ⟨i0, hi, hz0, hz1, hz2⟩ := info_parts Try.infoU8
  by_cases hbig : 65536 < l.length
  · have hv : decide (l.length ≤ 65536) = false := decide_eq_false (by omega)
    have he : Hid (enc l = []) := by unfold Hid enc; rw [if_neg (by omega)]
    rw [hv]
    go_enter Try.func57, Try.ntmps57
    go_wp2
    go_ret2
    exact ⟨none, 0, 0, rfl, Keep.refl _ _, by rw [he.out]; exact World.ownsRow_nil _ _ _ _⟩
  · have hv : decide (l.length ≤ 65536) = true := decide_eq_true (by omega)
    have he : Hid (enc l = (cutP l).flatMap encP) := by unfold Hid enc; rw [if_pos (by omega)]; rfl
    rw [hv]
    refine (callsIn_wide (n := 8)).1 ?_
    refine callsIn_of_wp_marks Try.func57 rfl trivial ?_ rfl
    simp only [Try.ntmps57, List.size_toArray, List.length_cons, List.length_nil, Nat.reduceAdd, Nat.reduceSub, Array.replicate_succ, Array.replicate_zero, List.push_toArray, List.append_toArray, List.nil_append, List.cons_append]
    gi_wp2
    refine ⟨trivial, (callsIn_wide.2 (pieces_prog A l.length c _)).mono ?_⟩
    rintro e w1 ⟨rfl, rfl⟩
    gi_wp2
    obtain ⟨W2, hW2⟩ : ∃ W2, (W.alloc (.cells #[.slice none 0 0] 39)).alloc (.cells #[.slice A l.length c] 57) = W2 := ⟨_, rfl⟩
    have hk2 : Keep [] W W2 := by rw [← hW2]; exact ((Keep.refl _ _).alloc _).alloc _
    have hsz : W2.heap.size = W.heap.size + 2 := by rw [← hW2]; simp
    have hout : Blk W2 W.heap.size 39 [.slice none 0 0] := by rw [← hW2]; exact (Blk.new W _ _).alloc _
    have hbox : Blk W2 (W.heap.size + 1) 57 [.slice A l.length c] := by
      rw [← hW2]
      have := Blk.new (W.alloc (.cells #[.slice none 0 0] 39)) 57 [.slice A l.length c]
      rwa [World.size_alloc] at this
    have hl2 := h.pure hk2
    obtain ⟨b, off, hA, hseq⟩ := pieces_seq 7 (by omega) (W.heap.size + 1) W.heap.size c A l W2 (hbox.cell 0) (hl2.weaken (Y := []) (by simp)) (fun b off e h0 => by
      subst e
      obtain ⟨b', off', e, hlt, _, _⟩ := h.2.2.2.1 (List.length_pos_iff.2 h0)
      cases e
      exact hlt) (by omega) (by omega)
    rw [hW2]
    refine wpIn_rangeFunc_ownH rfl (by omega) (gf := 107) (lb := #[.pointer (some ⟨W.heap.size + 1, 0, none⟩)]) rfl trivial (enters_of Try.func107 (by kernel_rfl) rfl)
      hseq KpB.t (KpB.b (by omega) (by omega)) (Below.refl _ _) (fun _ => rfl)
      (fun pre W' => ∃ v q, Blk W' W.heap.size 39 [v] ∧ W'.ownsRow W2.heap.size 5 1 v q.length (q.map vU8) ∧ Hid (q = (pre.map Spot.piece).flatMap encP) ∧ Keep [W.heap.size] W2 W')
      (fun _ _ _ => False)
      (fun s A B row hs hg hr => by
        obtain ⟨v, q, h1, h2, h0, h3⟩ := hs
        exact ⟨v, q, blk_abides h1 hg (fun r e => (hr r e).2), own_abides h2 hg (fun r e => (hr r e).2), h0, h3.grown hg (fun k e => .inr (hr k e).1)⟩)
      (fun _ _ _ _ _ hs _ _ => hs)
      ⟨_, [], hout, World.ownsRow_nil _ _ _ _, rfl, Keep.refl _ _⟩
      (fun x a' W' => ∃ Bx, W2.heap.size ≤ Bx ∧ Blk W' Bx 106 [.slice (some ⟨b, off + x.from_, none⟩) x.len (c - x.from_), .bool x.run] ∧
        a' = { tmps := #[.slice A l.length c, undef, .slice none 0 0, .bool false, .pointer (some ⟨W.heap.size, 0, none⟩), .pointer (some ⟨Bx, 0, none⟩), undef, undef, undef, undef, .slice A l.length c, .int .i64 l.length, .bool (decide (65536 < (l.length : Int))), .slice A l.length c, .func (.func 107) #[] #[.pointer (some ⟨W.heap.size + 1, 0, none⟩)], .agg #[.slice (some ⟨b, off + x.from_, none⟩) x.len (c - x.from_), .bool x.run], undef, undef, undef, undef, undef, undef, undef, undef, undef, undef, undef, undef, undef, undef, undef, undef, undef, undef, undef, undef, undef, undef, undef, undef, undef, undef, undef, undef, undef, undef, undef, undef, undef, undef, undef, undef, undef], defers := [] })
      (fun x a' _ X Y row hs hg hr => by obtain ⟨Bx, h1, h2, h3⟩ := hs; exact ⟨Bx, h1, blk_abides h2 hg (fun r e => (hr r e).2), h3⟩)
      ?assign ?body ?done ?stop
    case assign =>
      rintro y pre x W' K ⟨v, q, h1, h2, h0, h3⟩ hK
      have hw' := h3.size
      simp only [Spot.val]
      gi_wp2
      have hka : Keep [] W' (W'.alloc (.cells #[.slice (some ⟨b, off + x.from_, none⟩) x.len (c - x.from_), .bool x.run] 106)) := (Keep.refl _ _).alloc _
      exact hK _ _ ((KeepsOthers.alloc _ _).from _) (KpB.keep hka (by simp) (by omega) (by omega)) ⟨v, q, h1.alloc _, h2.alloc _, h0, h3.trans hka.nil⟩ ⟨W'.heap.size, hw', Blk.new W' _ [.slice (some ⟨b, off + x.from_, none⟩) x.len (c - x.from_), .bool x.run], rfl⟩
    case body =>
      rintro y pre x a' W' hy ⟨r, hr⟩ ⟨v, q, h1, h2, h0, h3⟩ ⟨Bx, hBx, bX, rfl⟩ hlt
      have hw' := h3.size
      have hc1 := h1.cell 0
      have hf1 := h1.frozen 0
      have hcx0 := bX.cell 0
      have hcx1 := bX.cell 1
      simp only [List.getElem?_cons_zero, List.getElem?_cons_succ] at hc1 hcx0 hcx1
      obtain ⟨B0, d0, rfl⟩ := own_form h2
      have hqq := Lib.hid (encs_len pre (by omega))
      obtain ⟨fr, ln, run, pos, fits⟩ := x
      simp only [] at hcx0 hcx1 bX
      have hlY := ((h.weaken (Y := [W.heap.size]) (by simp)).pure hk2).keep h3 (by simp)
      have hsub := (hlY.drop1 (k := fr) (by omega) rfl).take1 (k := ln) (by omega)
      rw [hA (by rintro rfl; simp at fits; omega), if_neg (by omega), Option.map_some, addr_add] at hsub
      cases run with
      | true =>
        obtain ⟨b9, off9, he9, hb9, _, hc9⟩ := hsub.one (k := 0) (by simp; omega)
        cases he9
        obtain ⟨x0, hx0⟩ : ∃ x, x = ((l.drop fr).take ln).headD 0 := ⟨_, rfl⟩
        have hhd : ((l.drop fr).take ln)[0]'(by simp; omega) = x0 := by
          rw [hx0]
          rw [List.headD_eq_head?_getD, List.head?_eq_getElem?, List.getElem?_eq_getElem (by simp; omega)]
          rfl
        rw [hhd, Nat.add_zero] at hc9
        unfold vU64 at hc9
        have hxl := x0.toNat_lt
        have hencl : Hid (encP (Spot.piece (l := l) ⟨fr, ln, true, pos, fits⟩) = putB (2 * ln) ++ putB x0.toNat) := by
          have h7 := (Spot.piece_len (l := l) ⟨fr, ln, true, pos, fits⟩)
          simp only [] at h7
          unfold Hid encP
          rw [h7]
          simp only [Spot.piece, if_true]
          rw [hx0]
        clear hhd hx0
        gi_wp2
        have hl27 : ∀ w, Keep [W.heap.size] W' w → w.cell? ⟨Bx, 0, none⟩ = some (.slice (some ⟨b, off + fr, none⟩) ln (c - fr)) := fun w hk => (World.cell?_of_block (w := W') (a := ⟨Bx, 0, none⟩) (hk.block Bx bX.lt (by simp; omega))).trans hcx0
        have hl29 : ∀ w, Keep [W.heap.size] W' w → w.cell? ⟨b, off + fr, none⟩ = some (.int .u64 (x0.toNat : Int)) := fun w hk => by
          obtain ⟨b8, off8, he8, hb8, hb8', _⟩ := hsub.one (k := 0) (by simp; omega)
          cases he8
          exact (World.cell?_of_block (w := W') (a := ⟨b, off + fr, none⟩) (hk.block b hb9 hb8')).trans hc9
        refine wpIn_region_held (S := fun w => Keep [W.heap.size] W' w) (by kernel_rfl) (by kernel_rfl) (by rintro ⟨a, w, hh⟩; exact hh) ((Keep.refl _ _).drew) (fun hS => ?_)
        refine wpAnyH_take (i := 1) (v := .int .u64 ((ln : Int) * 2)) rfl (by kernel_rfl) (by kernel_rfl) (by kernel_rfl) (fun _ _ _ h => h) (Or.inl ⟨by rfl, ?_⟩) hS ?_
        · intro w hSw; go_simp
        simp only [Act.put, List.setIfInBounds_toArray, List.set_cons_zero, List.set_cons_succ]
        refine wpAnyH_take (i := 3) (v := .pointer (some ⟨Bx, 0, none⟩)) rfl (by kernel_rfl) (by kernel_rfl) (by kernel_rfl) (fun _ _ _ h => h) (Or.inl ⟨by rfl, ?_⟩) hS ?_
        · intro w hSw; go_simp
        simp only [Act.put, List.setIfInBounds_toArray, List.set_cons_zero, List.set_cons_succ]
        refine wpAnyH_take (i := 4) (v := .slice (some ⟨b, off + fr, none⟩) ln (c - fr)) rfl (by kernel_rfl) (by kernel_rfl) (by kernel_rfl) (fun _ _ _ h => h) (Or.inl ⟨by rfl, ?_⟩) hS ?_
        · intro w hSw
          have := hl27 w hSw
          go_simp
        simp only [Act.put, List.setIfInBounds_toArray, List.set_cons_zero, List.set_cons_succ]
        refine wpAnyH_take (i := 5) (v := .pointer (some ⟨b, off + fr, none⟩)) rfl (by kernel_rfl) (by kernel_rfl) (by kernel_rfl) (fun _ _ _ h => h) (Or.inl ⟨by rfl, ?_⟩) hS ?_
        · intro w hSw; go_simp
        simp only [Act.put, List.setIfInBounds_toArray, List.set_cons_zero, List.set_cons_succ]
        refine wpAnyH_take (i := 6) (v := .int .u64 (x0.toNat : Int)) rfl (by kernel_rfl) (by kernel_rfl) (by kernel_rfl) (fun _ _ _ h => h) (Or.inl ⟨by rfl, ?_⟩) hS ?_
        · intro w hSw
          have := hl29 w hSw
          go_simp
        simp only [Act.put, List.setIfInBounds_toArray, List.set_cons_zero, List.set_cons_succ]
        refine wpAnyH_ready (rs := [0]) (by kernel_rfl) (by simp) ?_
        refine AllReadyH.cons rfl (fun K hK => ?_) AllReadyH.nil
        go_simp
        refine hK _ _ hS (fun _ => ?_)
        clear hK K
        have hql : q.length ≤ 130000000000 := by rw [h0.out]; have := hqq.out; omega
        have hqB : Bys [] W'.drew B0 q.length d0 q := (rd_of_own h2 (by simp)).drew
        have hP1 := put_prog (2 * ln) W'.drew hqB (by omega) (by omega)
        rw [show ((2 * ln : Nat) : Int) = (ln : Int) * 2 from by omega] at hP1
        replace hP1 := Lib.hid hP1
        refine wpAnyH_ready (rs := [2]) (by kernel_rfl) (by simp) ?_
        refine AllReadyH.cons rfl (fun K hK => ?_) AllReadyH.nil
        go_simp
        refine hP1.out.mono ?_
        rintro e w4 ⟨B4, k4, d4, rfl, hk4, hown4⟩
        have hS4 : Keep [W.heap.size] W' w4 := hS.trans hk4.nil
        refine hK _ _ hS4 (fun _ => ?_)
        clear hK K
        have hr4 : Bys [] w4 B4 k4 d4 (q ++ putB (2 * ln)) := rd_of_own hown4 (by simp)
        have hk4l : k4 = q.length + (putB (2 * ln)).length := by have := hr4.len1; rw [List.length_append] at this; omega
        have hb2N := putB_len (2 * ln)
        have hP2 := Lib.hid (put_prog x0.toNat w4 hr4 (by omega) (by omega))
        clear hown4
        replace hk4l := Lib.hid hk4l
        refine wpAnyH_ready (rs := [7]) (by kernel_rfl) (by simp) ?_
        refine AllReadyH.cons rfl (fun K hK => ?_) AllReadyH.nil
        go_simp
        refine hP2.out.mono ?_
        rintro e w5 ⟨B5, k5, d5, rfl, hk5, hown5⟩
        have hS5 : Keep [W.heap.size] W' w5 := hS4.trans hk5.nil
        refine hK _ _ hS5 (fun _ => ?_)
        clear hK K
        have hk15 : Keep [] W' w5 := (((Keep.refl _ _).drew).trans hk4).trans hk5
        have h15 := h1.keep hk15 (by simp)
        have hf5 := h15.frozen 0
        have hc5 := h15.cell 0
        simp only [List.getElem?_cons_zero] at hc5
        refine wpAnyH_ready (rs := [8]) (by kernel_rfl) (by simp) ?_
        refine AllReadyH.cons rfl (fun K hK => ?_) AllReadyH.nil
        go_simp
        have hk6 : Keep [W.heap.size] w5 (w5.setCell ⟨W.heap.size, 0, none⟩ (.slice B5 k5 d5)) := (Keep.refl _ _).setCell (by simp) _
        refine hK _ _ (hS5.trans hk6) (fun _ => ?_)
        clear hK K
        refine wpAnyH_done (by kernel_rfl) ?_ _
        have hk16 := hk15.cat hk6
        rw [List.nil_append] at hk16
        have hk5l : k5 = (q ++ encP (Spot.piece (l := l) ⟨fr, ln, true, pos, fits⟩)).length := by
          rw [hencl.out, ← List.append_assoc]
          exact (rd_of_own (X := []) hown5 (by simp) : Bys [] w5 B5 k5 d5 _).len1.symm
        have hw24 : W2.heap.size ≤ w4.heap.size := by have := hk4.size; have h9 : W'.drew.heap.size = W'.heap.size := rfl; omega
        have hq5 : Hid ((w5.setCell ⟨W.heap.size, 0, none⟩ (.slice B5 k5 d5)).ownsRow W2.heap.size 5 1 (.slice B5 k5 d5) k5 ((q ++ encP (Spot.piece (l := l) ⟨fr, ln, true, pos, fits⟩)).map vU8)) := by
          have := own_keep (own_lower hown5 hw24) hk6 (by simp; omega)
          rw [hencl.out, ← List.append_assoc]
          exact this
        have h16 := h15.set_ 0 (.slice B5 k5 d5)
        clear hown5 hP1 hP2
        subst hk5l
        have hh0 : Hid (q ++ encP (Spot.piece (l := l) ⟨fr, ln, true, pos, fits⟩) = ((pre ++ [(⟨fr, ln, true, pos, fits⟩ : Spot l.length)]).map Spot.piece).flatMap encP) := by rw [Hid, h0.out]; simp
        gi_wp2
        exact ⟨keepsFrom_of_keep hk16 (by simp; omega), KpB.keep hk16 (by simp) (by omega) (by omega), _, _, h16, hq5.out, hh0, h3.trans hk16⟩
      | false =>
        have hnl : ((l.drop fr).take ln).length = ln := by simp; omega
        have hencl : Hid (encP (Spot.piece (l := l) ⟨fr, ln, false, pos, fits⟩) = putB (2 * ln + 1) ++ [UInt8.ofNat (width ((l.drop fr).take ln))] ++ packB ((l.drop fr).take ln) (width ((l.drop fr).take ln))) := by
          unfold Hid encP
          simp only [Spot.piece, Bool.false_eq_true, if_false]
          rw [hnl]
        have hpl := encP_len (Spot.piece (l := l) ⟨fr, ln, false, pos, fits⟩) (by
          intro h0
          have h1 := Spot.piece_len (l := l) ⟨fr, ln, false, pos, fits⟩
          rw [h0] at h1
          simp at h1
          omega) (by rw [Spot.piece_len]; show ln ≤ _; omega)
        rw [Spot.piece_len, hencl.out] at hpl
        simp only [List.length_append, List.length_cons, List.length_nil] at hpl
        have hpok := pack_width ((l.drop fr).take ln) (by omega)
        have hh0 : Hid (q ++ encP (Spot.piece (l := l) ⟨fr, ln, false, pos, fits⟩) = ((pre ++ [(⟨fr, ln, false, pos, fits⟩ : Spot l.length)]).map Spot.piece).flatMap encP) := by rw [Hid, h0.out]; simp
        have hw64 := width_le64 ((l.drop fr).take ln)
        generalize (l.drop fr).take ln = ns at *
        obtain ⟨wd, hwd⟩ : ∃ wd, width ns = wd := ⟨_, rfl⟩
        rw [hwd] at hencl hw64 hpok hpl
        replace hwd := Lib.hid hwd
        replace hnl := Lib.hid hnl
        replace hpok := Lib.hid hpok
        have hwB8 : Hid ((UInt8.ofNat wd).toNat = wd) := by unfold Hid; rw [UInt8.toNat_ofNat']; omega
        have hmod : (wd : Int) % 256 = (wd : Int) := by omega
        have hql : q.length ≤ 130000000000 := by rw [h0.out]; have := hqq.out; omega
        have hor : bits .or .u64 ((ln : Int) * 2) 1 = (ln : Int) * 2 + 1 := by
          have h1 := bits_or_u64 (2 * ln) 1 (by omega) (by decide)
          have h2 : 2 * ln ||| 1 = 2 * ln + 1 := by
            have h3 := Nat.two_pow_add_eq_or_of_lt (i := 1) (b := 1) (by decide) ln
            rw [Nat.pow_one] at h3
            exact h3.symm
          rw [h2] at h1
          rw [show (ln : Int) * 2 = ((2 * ln : Nat) : Int) from by omega]
          exact h1.trans (by omega)
        gi_wp2
        refine ⟨trivial, (CallsIn.inRound y (callsIn_wide.2 (width_prog W' hsub))).mono ?_⟩
        rintro e w3 ⟨rfl, rfl⟩
        rw [hwd.out]
        gi_wp2
        refine ⟨trivial, (CallsIn.inRound y (callsIn_wide.2 (pack_prog_ok (wd : Int) W' hsub hpok.out))).mono ?_⟩
        rintro e w4 ⟨B6, m6, d6, rfl, hk4, hb6⟩
        have h14 := h1.keep hk4 (by simp)
        have hf4 := h14.frozen 0
        have hc4 := h14.cell 0
        simp only [List.getElem?_cons_zero] at hc4
        have hq4 := own_keep h2 hk4 (by simp)
        have hqB : Bys [] w4 B0 q.length d0 q := rd_of_own hq4 (by simp)
        have hP := put_prog (2 * ln + 1) w4 hqB (by omega) (by omega)
        rw [show ((2 * ln + 1 : Nat) : Int) = (ln : Int) * 2 + 1 from by omega] at hP
        replace hP := Lib.hid hP
        gi_wp2
        refine ⟨trivial, (CallsIn.inRound y (callsIn_wide.2 hP.out)).mono ?_⟩
        rintro e w5 ⟨B7, m7, d7, rfl, hk5, hown7⟩
        have hw45 := hk5.size
        have hk15 := hk4.trans hk5
        have hw5 := hk15.size
        have hw4 := hk4.size
        have hr7 : Bys [] w5 B7 m7 d7 (q ++ putB (2 * ln + 1)) := rd_of_own hown7 (by simp)
        have hm7 : m7 = q.length + (putB (2 * ln + 1)).length := by have := hr7.len1; rw [List.length_append] at this; omega
        have hb2N := putB_len (2 * ln + 1)
        have hm6 : m6 = (packB ns wd).length := ((hb6 [] (by simp))).len1.symm
        have h15 := h1.keep hk15 (by simp)
        have hbk : Bys [] (w5.alloc (.cells #[.int .u8 (wd : Int)] 5)) (some ⟨w5.heap.size, 0, none⟩) 1 1 [UInt8.ofNat wd] := by
          refine (Blk.new w5 5 [.int .u8 (wd : Int)]).rd (by simp) rfl (by omega) (by simp [maxLen]) ?_
          simp [vU8, hwB8.out]
        have hm7b : m7 ≤ 130000000010 := by omega
        have hm6b : m6 ≤ 3000000 := by omega
        replace hm7 := Lib.hid hm7
        replace hm6 := Lib.hid hm6
        gi_wp2_with (gi_at_builtin; refine wpListIn_append_rd (o := ⟨some 48, _, _, _, _, _⟩) rfl _ _ 39 rfl w4.heap.size 5 i0 (.int .u8 0) 1 1 Try.underlying39 hi hz0 hz1 hz2 rfl (by omega) _ m7 _ rfl (hown7.alloc (.cells #[.int .u8 (wd : Int)] 5)) rfl hbk (vU8_one [UInt8.ofNat wd]) (by unfold maxLen; omega) (by omega) (by simp; omega) ?_)
        intro v8 w8 hown8 hgr
        have hkA : Keep [] w5 (w5.alloc (.cells #[.int .u8 (wd : Int)] 5)) := (Keep.refl _ _).alloc _
        have hk48 : Keep [] w4 w8 := (hk5.trans hkA).grown hgr (fun g hg => .inr (own_ge hown7 g hg))
        clear hgr hbk
        have hk18 := hk4.trans hk48
        have h18 := h1.keep hk18 (by simp)
        have hf8 := h18.frozen 0
        have hc8 := h18.cell 0
        simp only [List.getElem?_cons_zero] at hc8
        obtain ⟨B8, d8, rfl⟩ := own_form hown8
        have hkS : Keep [W.heap.size] w8 (w8.setCell ⟨W.heap.size, 0, none⟩ (.slice B8 (m7 + 1) d8)) := (Keep.refl _ _).setCell (by simp) _
        have hw8 := hkS.size
        have hw48 := hk48.size
        have hown8' := own_keep hown8 hkS (by simp; omega)
        have hpk8 : Bys [W.heap.size] (w8.setCell ⟨W.heap.size, 0, none⟩ (.slice B8 (m7 + 1) d8)) B6 m6 d6 (packB ns wd) := ((hb6 [W.heap.size] (by simp; omega)).pure hk48).keep hkS (by simp)
        have h18' := h18.set_ 0 (.slice B8 (m7 + 1) d8)
        gi_wp2_with (gi_at_builtin; refine wpListIn_append_rd (o := ⟨some 51, _, _, _, _, _⟩) rfl _ _ 39 rfl w4.heap.size 5 i0 (.int .u8 0) 1 1 Try.underlying39 hi hz0 hz1 hz2 rfl (by omega) _ (m7 + 1) _ rfl hown8' rfl hpk8 (vU8_one (packB ns wd)) (by unfold maxLen; omega) (by omega) (by omega) ?_)
        intro v9 w9 hown9 hgr
        have hk9 := keep_of_grown hgr
        have hoc9 := own_cells hown8'
        have h19 := h18'.keep hk9 (fun hm => by have := (hoc9 _ hm).1; omega)
        have hf9 := h19.frozen 0
        have hc9 := h19.cell 0
        simp only [List.set_cons_zero, List.getElem?_cons_zero] at hc9
        have hm9 : Hid (m7 + 1 + m6 = (q ++ encP (Spot.piece (l := l) ⟨fr, ln, false, pos, fits⟩)).length) := by rw [Hid, hm7.out, hm6.out, hencl.out]; simp; omega
        obtain ⟨B9, d9, rfl⟩ := own_form hown9
        have hkE : Keep [W.heap.size] w9 (w9.setCell ⟨W.heap.size, 0, none⟩ (.slice B9 (m7 + 1 + m6) d9)) := (Keep.refl _ _).setCell (by simp) _
        have hkAll : Keep [W.heap.size] W' (w9.setCell ⟨W.heap.size, 0, none⟩ (.slice B9 (m7 + 1 + m6) d9)) :=
          ((hk18.nil.trans hkS).after hk9 (fun g hg => .inr (by have := (hoc9 g hg).1; omega))).trans hkE
        have hown10 : Hid ((w9.setCell ⟨W.heap.size, 0, none⟩ (.slice B9 (m7 + 1 + m6) d9)).ownsRow W2.heap.size 5 1 (.slice B9 (m7 + 1 + m6) d9) (m7 + 1 + m6) ((q ++ encP (Spot.piece (l := l) ⟨fr, ln, false, pos, fits⟩)).map vU8)) := by
          rw [Hid, hencl.out]
          have := own_keep (own_lower hown9 (show W2.heap.size ≤ w4.heap.size by omega)) hkE (by simp; omega)
          simpa [List.map_append] using this
        have h20 := h19.set_ 0 (.slice B9 (m7 + 1 + m6) d9)
        simp only [List.set_cons_zero] at h20
        clear hown9 hgr hown8' hown8 hpk8 hown7
        rw [hm9.out] at hown10 h20 hkAll
        gi_wp2
        rw [hm9.out]
        exact ⟨keepsFrom_of_keep hkAll (by simp; omega), KpB.keep hkAll (by simp) (by omega) (by omega), _, _, h20, hown10.out, hh0, h3.trans hkAll⟩
    case done =>
      rintro D xs W' hD hxs ⟨v, q, h1, h2, h0, h3⟩ hK
      have hc1 := h1.cell 0
      simp only [List.getElem?_cons_zero] at hc1
      obtain ⟨B0, d0, rfl⟩ := own_form h2
      gi_wp2
      refine ⟨by simp, .inl ⟨_, _, rfl, run_takeDeferred hK, ?_⟩⟩
      have hkD : Keep [D] W' (W'.putObj D (.deferred none)) := keep_of_grown (grownBy_putObj' W' D _)
      refine ⟨_, results_tmp2 rfl _ _ _, B0, _, d0, rfl, hk2.after (h3.after hkD (by simp; omega)) (by simp), ?_⟩
      have h4 := ownsRow_putObj h2 (.deferred none) hK rfl
      have h5 := own_lower h4 (by omega : W.heap.size ≤ W2.heap.size)
      have h6 : Hid (enc l = q) := by rw [Hid, he.out, h0.out, hxs]
      rw [h6.out]
      exact h5
    case stop =>
      rintro D cc pre W' _ _ h _
      exact h.elim
end Go.Proofs.Ytejbfknhnhhlfaa
