/-
  The walks of layer 8's functions, part 5: Join.
-/
import Derived.Test.YtfhdiafgcfpdhaaNl4
import Derived.Deep.RegionHeld3
import Derived.Deep.AppendLies
namespace Go.Proofs.Ytfhdiafgcfpdhaa
open Go Go.RowKit
set_option linter.unusedVariables false
set_option linter.unusedSimpArgs false

def joinL : List UInt64 → List Cell → Option (List Cell)
  | [], r => if r.length = 0 then some [] else none
  | x :: l, r => if x = 0 then (joinL l r).map (Cell.nil :: ·) else match r with
    | [] => none
    | c :: r => if c.null then none else (joinL l r).map (c :: ·)
def join (b : List UInt8) (rest : List Cell) (n : Int) : Option (List Cell) := if unpackOk b 1 n then joinL (unpackL b 1 n) rest else none

theorem joinL_cons (x : UInt64) (l : List UInt64) (r : List Cell) : joinL (x :: l) r = (if x = 0 then (joinL l r).map (Cell.nil :: ·) else match r with | [] => none | c :: r => if c.null then none else (joinL l r).map (c :: ·)) := by
  cases r <;> rfl
theorem joinL_zero {l : List UInt64} {r : List Cell} {k : Nat} (hk : k < l.length) (h : l[k] = 0) : joinL (l.drop k) r = (joinL (l.drop (k + 1)) r).map (Cell.nil :: ·) := by
  rw [List.drop_eq_getElem_cons hk, joinL_cons, if_pos h]
theorem joinL_empty {l : List UInt64} {k : Nat} (hk : k < l.length) (h : l[k] ≠ 0) : joinL (l.drop k) [] = none := by
  rw [List.drop_eq_getElem_cons hk, joinL_cons, if_neg h]
theorem joinL_null {l : List UInt64} {r : List Cell} {c : Cell} {k : Nat} (hk : k < l.length) (h : l[k] ≠ 0) (hc : c.null = true) : joinL (l.drop k) (c :: r) = none := by
  rw [List.drop_eq_getElem_cons hk, joinL_cons, if_neg h]
  simp [hc]
theorem joinL_some {l : List UInt64} {r : List Cell} {c : Cell} {k : Nat} (hk : k < l.length) (h : l[k] ≠ 0) (hc : c.null = false) : joinL (l.drop k) (c :: r) = (joinL (l.drop (k + 1)) r).map (c :: ·) := by
  rw [List.drop_eq_getElem_cons hk, joinL_cons, if_neg h]
  simp [hc]

theorem Cells.tail {X : List Nat} {w : World} {b off n c : Nat} {x : Cell} {r : List Cell} (h : Cells X w (some ⟨b, off, none⟩) n c (x :: r)) :
    Cells X w (if c = 1 then some ⟨b, off, none⟩ else some ⟨b, off + 5, none⟩) (n - 1) (c - 1) r := by
  have := Rd.dropF (k := 1) (d := c - 1) Cell.len h (by have := h.len; simp at this; omega) rfl
  simpa [Addr.add] using this

set_option maxHeartbeats 4000000 in
theorem join_prog {X : List Nat} {A A2 : Option Addr} {m c n2 c2 : Nat} {b : List UInt8} {rest : List Cell} (n : Int) (W : World) (h : Bys X W A m c b) (h2 : Cells X W A2 n2 c2 rest) (hn : -9223372036854775808 ≤ n ∧ n ≤ 9223372036854775807) :
    Calls Try.prog 27 #[.slice A m c, .slice A2 n2 c2, .int .i64 n] W fun e W' => ∃ B k d, e = .returned (.tuple #[.slice B k d, .bool (join b rest n).isSome]) ∧ Keep [] W W' ∧ NewCells W W' B k d ((join b rest n).getD []) := by
  have hc := h.cap
  have hnc := h.le
  obtain rfl := h.len1
  have hc' := h2.cap
  have hnc' := h2.le
  obtain ⟨i0, hi, hz0, hz1, hz2⟩ := info_parts Try.infoCell
  have HP : ∃ v : Bool, Hid (v = (join b rest n).isSome) := ⟨_, rfl⟩
  obtain ⟨v, HP⟩ := HP
  rw [← HP.out]
  go_enter Try.func27, Try.ntmps27
  go_wp2_with fail
  refine (unpack_prog_any 1 n W h (by omega) hn).mono ?_
  rintro e w1 ⟨B, k1, d, rfl, hk1, hb⟩
  cases hok : unpackOk b 1 n with
  | false =>
    have hj : join b rest n = none := by rw [join, if_neg (by simp [hok])]
    have hv : Hid (v = false) := by rw [Hid, HP.out, hj]; rfl
    replace hj := Lib.hid hj
    clear hok hb
    go_wp2
    go_ret2
    exact ⟨none, 0, 0, by rw [hv.out]; rfl, hk1, fun Y _ => by rw [hj.out]; exact Rd.nil_ _ _ _⟩
  | true =>
    have hj : join b rest n = joinL (unpackL b 1 n) rest := by rw [join, if_pos hok]
    obtain ⟨hl1, hl2, hl3⟩ := unpack_one hok
    have hu := hb [] (by simp)
    generalize unpackL b 1 n = l at *
    obtain rfl := hu.len1
    have hkd := hu.cap
    have hle := hu.le
    have hlen : l.length ≤ 65536 := by omega
    clear hok hb hl1
    replace hj := Lib.hid hj
    replace hl3 := Lib.hid hl3
    go_wp2
    go_loopw [1, 10, 23] (fun s a i wr => ∃ (k n3 c3 : Nat) (A3 : Option Addr) (r o : List Cell), k ≤ l.length ∧ i = .int .i64 k ∧ s = .slice A3 n3 c3 ∧ Cells X W A3 n3 c3 r ∧
      wr.ownsRow w1.heap.size 47 5 a k (o.flatMap Cell.cs) ∧ Hid (joinL l rest = (joinL (l.drop k) r).map (o ++ ·)) ∧ Keep [] w1 wr) (fun _ _ i _ => l.length - (intOf i).toNat)
    case atStart => exact ⟨0, n2, c2, A2, rest, [], by omega, rfl, rfl, h2, World.ownsRow_nil _ _ _ _, by simp [Hid], Keep.refl _ _⟩
    case round =>
      obtain ⟨k, n3, c3, A3, r, o, hk, rfl, rfl, hr, hown, HJ, hkeep1⟩ := hrel
      have hrc := hr.cap
      have hrn := hr.le
      obtain rfl := hr.len
      by_cases hlt : k < l.length
      · obtain ⟨bb, off, rfl, _, _, hcell⟩ := (hu.pure hkeep1).one hlt
        unfold vU64 at hcell
        have hsz := hkeep1.size
        rcases hl3.out l[k] (List.getElem_mem hlt) with hz | hone
        · have hjz := Lib.hid (joinL_zero (r := r) hlt hz)
          rw [hz] at hcell
          have hcell0 : wr.cell? ⟨bb, off + k, none⟩ = some (.int .u64 0) := hcell
          clear hcell hz
          have hck : Cells [] (wr.alloc (.cells #[.bool true, .int .i64 0, .string ByteArray.empty, .int .i64 0, .int .i64 0] 47)) (some ⟨wr.heap.size, 0, none⟩) 1 1 [Cell.nil] :=
            (Blk.new wr 47 [.bool true, .int .i64 0, .string ByteArray.empty, .int .i64 0, .int .i64 0]).rd (by simp) rfl (by omega) (by simp [maxLen]) rfl
          go_wp2_with (at_builtin; refine wpList_append_rd rfl _ _ 37 rfl w1.heap.size 47 i0 (cellVal Cell.zero) 5 48 Try.underlying37 hi hz0 hz1 hz2 rfl (by omega) u10 k _ rfl (hown.alloc _) rfl hck (flat_one Cell.one [Cell.nil]) (by unfold maxLen; omega) (by omega) (by simp; omega) ?_)
          intro v' w2 hown' hgr
          have hk2 : Keep [] w1 w2 := (hkeep1.alloc (.cells #[.bool true, .int .i64 0, .string ByteArray.empty, .int .i64 0, .int .i64 0] 47)).grown hgr (fun g hg => .inr (own_ge hown g hg))
          clear hgr hown hck
          go_wp2
          go_roundw
          case rel =>
            refine ⟨k + 1, r.length, c3, A3, r, o ++ [Cell.nil], by omega, by go_num, rfl, hr, ?_, ?_, hk2⟩
            · rw [List.flatMap_append]; exact hown'
            · unfold Hid
              rw [HJ.out, hjz.out, Option.map_map]
              congr 1
              funext z
              simp
          case measure => simp [intOf]; omega
        · have hne : l[k] ≠ 0 := by rw [hone]; decide
          rw [hone] at hcell
          have hcell1 : wr.cell? ⟨bb, off + k, none⟩ = some (.int .u64 1) := hcell
          clear hcell
          match r, hr, hrn, HJ with
          | [], hr, hrn, HJ =>
            have hjn : join b rest n = none := by rw [hj.out, HJ.out, joinL_empty hlt hne]; rfl
            have hv : Hid (v = false) := by rw [Hid, HP.out, hjn]; rfl
            replace hjn := Lib.hid hjn
            clear hne hone
            go_wp2
            go_ret2
            exact ⟨none, 0, 0, by rw [hv.out]; rfl, hk1.trans hkeep1, fun Y _ => by rw [hjn.out]; exact Rd.nil_ _ _ _⟩
          | x :: r, hr, hrn, HJ =>
            have hpos : 0 < (x :: r).length := by simp
            have hlenr : ((x :: r).length : Int) = (r.length : Int) + 1 := by simp
            obtain ⟨b2, off2, rfl, hb2, _, hc0, hc1, hc2, hc3, hc4⟩ := Cells.at5 hr hpos
            simp only [Nat.zero_mul, Nat.add_zero, List.getElem_cons_zero] at hc0 hc1 hc2 hc3 hc4
            have hkW := hk1.trans hkeep1
            have hcar : ∀ w' : World, Keep [] W w' → w'.cell? ⟨b2, off2, none⟩ = some (.bool x.null) ∧ w'.cell? ⟨b2, off2 + 1, none⟩ = some (.int .i64 x.int.toInt) ∧ w'.cell? ⟨b2, off2 + 2, none⟩ = some (.string x.text) ∧
                w'.cell? ⟨b2, off2 + 3, none⟩ = some (.int .i64 x.x.toInt) ∧ w'.cell? ⟨b2, off2 + 4, none⟩ = some (.int .i64 x.y.toInt) := fun w' hk' => by
              have hb' := hk'.block b2 hb2 (by simp)
              exact ⟨(World.cell?_of_block (w := W) (a := ⟨b2, off2, none⟩) hb').trans hc0, (World.cell?_of_block (w := W) (a := ⟨b2, off2 + 1, none⟩) hb').trans hc1, (World.cell?_of_block (w := W) (a := ⟨b2, off2 + 2, none⟩) hb').trans hc2,
                (World.cell?_of_block (w := W) (a := ⟨b2, off2 + 3, none⟩) hb').trans hc3, (World.cell?_of_block (w := W) (a := ⟨b2, off2 + 4, none⟩) hb').trans hc4⟩
            obtain ⟨hd0, hd1, hd2, hd3, hd4⟩ := hcar wr hkW
            have hb0 : ((x :: r).length : Int) ≠ 0 := by simp; omega
            have hb1 : (((x :: r).length : Int) == 0) = false := by rw [beq_eq_false_iff_ne]; exact hb0
            have hb2' : (1 : Int) ≤ ((x :: r).length : Int) := by omega
            have hb3 : (0 : Int) < ((x :: r).length : Int) := by omega
            have hb4 : (1 : Int) ≤ (c3 : Int) := by omega
            generalize hN : (x :: r).length = N at *
            replace hlenr := Lib.hid hlenr
            cases hx : x.null with
            | true =>
              have hjn : join b rest n = none := by rw [hj.out, HJ.out, joinL_null hlt hne hx]; rfl
              have hv : Hid (v = false) := by rw [Hid, HP.out, hjn]; rfl
              replace hjn := Lib.hid hjn
              rw [hx] at hd0
              clear hne hone hx hcar hc0 hc1 hc2 hc3 hc4 hb0
              go_wp2
              go_ret2
              exact ⟨none, 0, 0, by rw [hv.out]; rfl, hkW, fun Y _ => by rw [hjn.out]; exact Rd.nil_ _ _ _⟩
            | false =>
              have hjs := Lib.hid (joinL_some (r := r) hlt hne hx)
              rw [hx] at hd0
              have hxf := Lib.hid hx
              replace hcar := Lib.hid hcar
              replace hN := Lib.hid hN
              clear hne hone hx hc0 hc1 hc2 hc3 hc4 hb0
              have hSW : Hid (∀ w' : World, Keep [] W w' → w'.cell? ⟨b2, off2, none⟩ = some (.bool false) ∧ w'.cell? ⟨b2, off2 + 1, none⟩ = some (.int .i64 x.int.toInt) ∧ w'.cell? ⟨b2, off2 + 2, none⟩ = some (.string x.text) ∧
                w'.cell? ⟨b2, off2 + 3, none⟩ = some (.int .i64 x.x.toInt) ∧ w'.cell? ⟨b2, off2 + 4, none⟩ = some (.int .i64 x.y.toInt)) := fun w' hk' => by
                have := hcar.out w' hk'
                rw [hxf.out] at this
                exact this
              have hck : Cells [] (wr.alloc (.cells #[.bool false, .int .i64 x.int.toInt, .string x.text, .int .i64 x.x.toInt, .int .i64 x.y.toInt] 47)) (some ⟨wr.heap.size, 0, none⟩) 1 1 [x] := by
                refine (Blk.new wr 47 [.bool false, .int .i64 x.int.toInt, .string x.text, .int .i64 x.x.toInt, .int .i64 x.y.toInt]).rd (by simp) rfl (by omega) (by simp [maxLen]) ?_
                simp [Cell.cs, vI, hxf.out]
              go_wp2
              go_region_held3 (fun w' => w'.cell? ⟨b2, off2, none⟩ = some (.bool false) ∧ w'.cell? ⟨b2, off2 + 1, none⟩ = some (.int .i64 x.int.toInt) ∧ w'.cell? ⟨b2, off2 + 2, none⟩ = some (.string x.text) ∧
                w'.cell? ⟨b2, off2 + 3, none⟩ = some (.int .i64 x.x.toInt) ∧ w'.cell? ⟨b2, off2 + 4, none⟩ = some (.int .i64 x.y.toInt))
                (first | exact hSW.out _ (hkW.drew) | exact hSW.out _ ((hkW.alloc _).drew) | exact hSW.out _ ((hkW.alloc (.cells #[.bool false, .int .i64 x.int.toInt, .string x.text, .int .i64 x.x.toInt, .int .i64 x.y.toInt] 47)).drew.grown hgr (fun g hg => .inr (by have := own_ge hown g hg; have := hk1.size; omega))))
                ((refine step_append_rd (by rfl) _ _ 37 (by rfl) w1.heap.size 47 i0 (cellVal Cell.zero) 5 48 Try.underlying37 hi hz0 hz1 hz2 rfl (by omega) u10 k _ (by rfl) ((hown.alloc _).drew) (by rfl) (Rd.drew hck) (flat_one Cell.one [x]) (by unfold maxLen; omega) (by omega) (by simp; omega) ?_
                  intro v' w2 hown' hgr))
              go_wp2
              go_roundw
              case rel =>
                refine ⟨k + 1, N - 1, c3 - 1, _, r, o ++ [x], by omega, by go_num, rfl, hr.tail, ?_, ?_, ((hkeep1.alloc (.cells #[.bool false, .int .i64 x.int.toInt, .string x.text, .int .i64 x.x.toInt, .int .i64 x.y.toInt] 47)).drew).grown hgr (fun g hg => .inr (own_ge hown g hg))⟩
                · rw [List.flatMap_append]; exact hown'
                · unfold Hid
                  rw [HJ.out, hjs.out, Option.map_map]
                  congr 1
                  funext z
                  simp
              case measure => simp [intOf]; omega
      · obtain rfl : k = l.length := by omega
        have hdr : l.drop l.length = [] := by simp
        have hsz := hkeep1.size
        by_cases h0 : r.length = 0
        · obtain rfl : r = [] := List.eq_nil_of_length_eq_zero h0
          have hjn : join b rest n = some o := by
            rw [hj.out, HJ.out, hdr]
            simp [joinL]
          have hv : Hid (v = true) := by rw [Hid, HP.out, hjn]; rfl
          replace hjn := Lib.hid hjn
          obtain ⟨B2, d2, rfl⟩ := own_form hown
          clear h0 hdr
          go_wp2
          go_ret2
          refine ⟨B2, _, d2, by rw [hv.out]; rfl, hk1.trans hkeep1, fun Y hY => ?_⟩
          rw [hjn.out]
          have hsz1 := hk1.size
          exact rd_of_own hown (fun b hb => by have := hY b hb; omega)
        · have hjn : join b rest n = none := by
            rw [hj.out, HJ.out, hdr, joinL, if_neg h0]; rfl
          have hv : Hid (v = false) := by rw [Hid, HP.out, hjn]; rfl
          replace hjn := Lib.hid hjn
          have hpos : (0 : Int) < (r.length : Int) := by omega
          clear hdr
          go_wp2
          go_ret2
          exact ⟨none, 0, 0, by rw [hv.out]; rfl, hk1.trans hkeep1, fun Y _ => by rw [hjn.out]; exact Rd.nil_ _ _ _⟩
end Go.Proofs.Ytfhdiafgcfpdhaa
