/-
  The walks of layer 8's functions, part 3: Split, the program's and the reference's.
-/
import Derived.Test.YtfhdiafgcfpdhaaNl2
namespace Go.Proofs.Ytfhdiafgcfpdhaa
open Go Go.RowKit
set_option linter.unusedVariables false
set_option linter.unusedSimpArgs false

def bitOf (c : Cell) : UInt64 := if c.null then 0 else 1
def splitBits (l : List Cell) : List UInt8 := if l.length ≤ 65536 then packB (l.map bitOf) 1 else []
def splitRest (l : List Cell) : List Cell := if l.length ≤ 65536 then there l else []
abbrev NewCells (W W' : World) (B : Option Addr) (k d : Nat) (l : List Cell) : Prop := ∀ Y : List Nat, (∀ b ∈ Y, b < W.heap.size) → Cells Y W' B k d l

theorem marks_step (l : List Cell) (k : Nat) (hk : k < l.length) :
    ((l.take (k + 1)).map bitOf ++ List.replicate (l.length - (k + 1)) 0) = ((l.take k).map bitOf ++ List.replicate (l.length - k) (0 : UInt64)).set k (bitOf l[k]) := by
  rw [List.take_succ_eq_append_getElem hk, List.map_append, List.set_append]
  have : ((l.take k).map bitOf).length = k := by simp; omega
  rw [this, if_neg (by omega), Nat.sub_self, show l.length - k = (l.length - (k + 1)) + 1 from by omega, List.replicate_succ, List.set_cons_zero]
  simp
theorem marks_same (l : List Cell) (k : Nat) (hk : k < l.length) (h : l[k].null = true) :
    ((l.take (k + 1)).map bitOf ++ List.replicate (l.length - (k + 1)) 0) = ((l.take k).map bitOf ++ List.replicate (l.length - k) (0 : UInt64)) := by
  rw [List.take_succ_eq_append_getElem hk, List.map_append, show l.length - k = (l.length - (k + 1)) + 1 from by omega, List.replicate_succ]
  simp [bitOf, h]

set_option maxHeartbeats 1000000 in
theorem split_ref {X : List Nat} {A : Option Addr} {n c : Nat} {l : List Cell} (W : World) (h : Cells X W A n c l) :
    Calls Try.prog 26 #[.slice A n c] W fun e W' => ∃ B k d B' k' d', e = .returned (.tuple #[.slice B k d, .slice B' k' d']) ∧ Keep [] W W' ∧ NewBys W W' B k d (splitBits l) ∧ NewCells W W' B' k' d' (splitRest l) := by
  have hc := h.cap
  have hnc := h.le
  obtain rfl := h.len
  by_cases hbig : 65536 < l.length
  · have hs : Hid (splitBits l = [] ∧ splitRest l = []) := by unfold splitBits splitRest; rw [if_neg (by omega), if_neg (by omega)]; exact ⟨rfl, rfl⟩
    go_enter Try.func26, Try.ntmps26
    go_wp2
    go_ret2
    exact ⟨none, 0, 0, none, 0, 0, rfl, Keep.refl _ _, fun Y _ => by rw [hs.out.1]; exact Rd.nil_ _ _ _, fun Y _ => by rw [hs.out.2]; exact Rd.nil_ _ _ _⟩
  · obtain ⟨i0, hi, hz0, hz1, hz2⟩ := info_parts Try.infoCell
    obtain ⟨j0, gi, gz0, gz1, gz2⟩ := info_parts Try.infoU64
    go_enter Try.func26, Try.ntmps26
    go_wp2
    go_loopw [4, 5, 6] (fun a b i wr => ∃ k : Nat, k ≤ l.length ∧ i = .int .i64 k ∧ wr.ownsRow W.heap.size 51 1 a k (((l.take k).map bitOf).map vU64) ∧
      wr.ownsRow W.heap.size 47 5 b (there (l.take k)).length ((there (l.take k)).flatMap Cell.cs) ∧ Keep [] W wr) (fun _ _ i _ => l.length - (intOf i).toNat)
    case atStart => exact ⟨0, by omega, rfl, World.ownsRow_nil _ _ _ _, World.ownsRow_nil _ _ _ _, Keep.refl _ _⟩
    case round =>
      obtain ⟨k, hk, rfl, hown, hown2, hkeep⟩ := hrel
      by_cases hlt : k < l.length
      · obtain ⟨b, off, rfl, _, _, hc0, hc1, hc2, hc3, hc4⟩ := Cells.at5 (h.pure hkeep) hlt
        cases hx : l[k].null with
        | true =>
          have hth := Lib.hid (there_take_null hlt hx)
          have hbt : Hid ((l.take (k + 1)).map bitOf = (l.take k).map bitOf ++ [0]) := by
            unfold Hid
            rw [List.take_succ_eq_append_getElem hlt, List.map_append]
            simp [bitOf, hx]
          rw [hx] at hc0
          clear hx
          have hbk : U64s [] (wr.alloc (.cells #[.int .u64 0] 51)) (some ⟨wr.heap.size, 0, none⟩) 1 1 [0] := (Blk.new wr 51 [vU64 0]).rd (by simp) rfl (by omega) (by simp [maxLen]) rfl
          have hsz := hkeep.size
          go_wp2_with (at_builtin; refine wpList_append_rd rfl _ _ 22 rfl W.heap.size 51 j0 (.int .u64 0) 1 8 Try.underlying22 gi gz0 gz1 gz2 rfl (by omega) u4 k _ rfl (hown.alloc _) rfl hbk (vU64_one [0]) (by unfold maxLen; omega) (by omega) (by simp; omega) ?_)
          intro v' w2 hown' hgr
          have hkeep2 : Keep [] W w2 := (hkeep.alloc _).grown hgr (fun g hg => .inr (own_ge hown g hg))
          have hown2' := (hown2.alloc (.cells #[.int .u64 0] 51)).kept hgr (own_apart hown2 hown (by decide))
          clear hgr hown hown2 hbk
          go_wp2
          go_roundw
          case rel =>
            refine ⟨k + 1, by omega, by go_num, ?_, ?_, hkeep2⟩
            · rw [hbt.out]; simpa using hown'
            · rw [hth.out]; exact hown2'
          case measure => simp [intOf]; omega
        | false =>
          have hth := Lib.hid (there_take_some hlt hx)
          have hbt : Hid ((l.take (k + 1)).map bitOf = (l.take k).map bitOf ++ [1]) := by
            unfold Hid
            rw [List.take_succ_eq_append_getElem hlt, List.map_append]
            simp [bitOf, hx]
          have hthl : (there (l.take k)).length ≤ k := by
            have := List.length_filter_le (fun c : Cell => !c.null) (l.take k)
            unfold there
            simp at this ⊢
            omega
          rw [hx] at hc0
          have hxf := Lib.hid hx
          clear hx
          have hbk : U64s [] (wr.alloc (.cells #[.int .u64 1] 51)) (some ⟨wr.heap.size, 0, none⟩) 1 1 [1] := (Blk.new wr 51 [vU64 1]).rd (by simp) rfl (by omega) (by simp [maxLen]) rfl
          have hsz := hkeep.size
          go_wp2_with (at_builtin; refine wpList_append_rd (o := ⟨some 28, _, _, _, _, _⟩) rfl _ _ 22 rfl W.heap.size 51 j0 (.int .u64 0) 1 8 Try.underlying22 gi gz0 gz1 gz2 rfl (by omega) u4 k _ rfl (hown.alloc _) rfl hbk (vU64_one [1]) (by unfold maxLen; omega) (by omega) (by simp; omega) ?_)
          intro v' w2 hown' hgr
          have hkeep2 : Keep [] W w2 := (hkeep.alloc _).grown hgr (fun g hg => .inr (own_ge hown g hg))
          have hkr : Keep [] W w2 := hkeep2
          have hown2' := (hown2.alloc (.cells #[.int .u64 1] 51)).kept hgr (own_apart hown2 hown (by decide))
          obtain ⟨b1, off1, hb1, _, _, hd0, hd1, hd2, hd3, hd4⟩ := Cells.at5 (h.pure hkeep2) hlt
          injection hb1 with hb1
          injection hb1 with hb1 hoff1
          subst hb1 hoff1
          rw [hxf.out] at hd0
          clear hgr hown hown2 hbk hc0 hc1 hc2 hc3 hc4
          generalize l[k] = x at *
          have hck : Cells [] (w2.alloc (.cells #[.bool false, .int .i64 x.int.toInt, .string x.text, .int .i64 x.x.toInt, .int .i64 x.y.toInt] 47)) (some ⟨w2.heap.size, 0, none⟩) 1 1 [x] := by
            refine (Blk.new w2 47 [.bool false, .int .i64 x.int.toInt, .string x.text, .int .i64 x.x.toInt, .int .i64 x.y.toInt]).rd (by simp) rfl (by omega) (by simp [maxLen]) ?_
            simp [Cell.cs, vI, hxf.out]
          have hsz2 := hkeep2.size
          go_wp2_with (at_builtin; refine wpList_append_rd (o := ⟨some 35, _, _, _, _, _⟩) rfl _ _ 37 rfl W.heap.size 47 i0 (cellVal Cell.zero) 5 48 Try.underlying37 hi hz0 hz1 hz2 rfl (by omega) u5 _ _ rfl (hown2'.alloc _) rfl hck (flat_one Cell.one [x]) (by unfold maxLen; omega) (by omega) (by simp; omega) ?_)
          intro v3 w3 hown3 hgr
          have hkeep3 : Keep [] W w3 := (hkeep2.alloc _).grown hgr (fun g hg => .inr (own_ge hown2' g hg))
          have hown4 := (hown'.alloc (.cells #[.bool false, .int .i64 x.int.toInt, .string x.text, .int .i64 x.x.toInt, .int .i64 x.y.toInt] 47)).kept hgr (own_apart hown' hown2' (by decide))
          clear hgr hown' hown2' hck
          go_wp2
          go_roundw
          case rel =>
            refine ⟨k + 1, by omega, by go_num, ?_, ?_, hkeep3⟩
            · rw [hbt.out]; simpa using hown4
            · rw [hth.out, List.flatMap_append, List.length_append]; exact hown3
          case measure => simp [intOf]; omega
      · obtain rfl : k = l.length := by omega
        rw [List.take_length] at hown hown2
        obtain ⟨B1, d1, rfl⟩ := own_form hown
        obtain ⟨B2, d2, rfl⟩ := own_form hown2
        have hu : U64s [] wr B1 l.length d1 (l.map bitOf) := rd_of_own hown (by simp)
        have hs : Hid (splitBits l = packB (l.map bitOf) 1 ∧ splitRest l = there l) := by unfold splitBits splitRest; rw [if_pos (by omega), if_pos (by omega)]; exact ⟨rfl, rfl⟩
        go_wp2_with fail
        refine (pack_ref 1 wr hu (by omega)).mono ?_
        rintro e w2 ⟨B3, m3, d3, rfl, hk3, hb3⟩
        have hsz := hkeep.size
        go_wp2
        go_ret2
        refine ⟨_, _, _, _, _, _, rfl, hkeep.trans hk3, fun Y hY => ?_, fun Y hY => ?_⟩
        · rw [hs.out.1]
          exact hb3 Y (fun b hb => by have := hY b hb; omega)
        · rw [hs.out.2]
          exact rd_of_own (own_keep hown2 hk3 (by simp)) hY
end Go.Proofs.Ytfhdiafgcfpdhaa
