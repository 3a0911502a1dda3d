/-
  The walk of the reference's Join.
-/
import Derived.Test.YtfhdiafgcfpdhaaNl6
namespace Go.Proofs.Ytfhdiafgcfpdhaa
open Go Go.RowKit
set_option linter.unusedVariables false
set_option linter.unusedSimpArgs false

theorem joinL_count : ∀ (l : List UInt64) (r : List Cell), (∀ x ∈ l, x = 0 ∨ x = 1) → (joinL l r).isSome → ones l = r.length
  | [], r, _, h => by
    unfold joinL at h
    split at h
    · simp_all [ones]
    · simp at h
  | x :: l, r, hl, h => by
    rw [joinL_cons] at h
    have hl' : ∀ y ∈ l, y = 0 ∨ y = 1 := fun y hy => hl y (by simp [hy])
    rcases hl x (by simp) with rfl | rfl
    · rw [if_pos rfl, Option.isSome_map] at h
      have := joinL_count l r hl' h
      simpa [ones] using this
    · rw [if_neg (by decide)] at h
      cases r with
      | nil => simp at h
      | cons c r =>
        simp only at h
        split at h
        · simp at h
        · rw [Option.isSome_map] at h
          have := joinL_count l r hl' h
          simp [ones] at this ⊢
          omega

theorem ones_append (a b : List UInt64) : ones (a ++ b) = ones a + ones b := by simp [ones]

set_option maxHeartbeats 4000000 in
theorem join_ref {X : List Nat} {A A2 : Option Addr} {m c n2 c2 : Nat} {b : List UInt8} {rest : List Cell} (n : Int) (W : World) (h : Bys X W A m c b) (h2 : Cells X W A2 n2 c2 rest) (hn : -9223372036854775808 ≤ n ∧ n ≤ 9223372036854775807) :
    Calls Try.prog 28 #[.slice A m c, .slice A2 n2 c2, .int .i64 n] W fun e W' => ∃ B k d, e = .returned (.tuple #[.slice B k d, .bool (join b rest n).isSome]) ∧ Keep [] W W' ∧ NewCells W W' B k d ((join b rest n).getD []) := by
  have hc := h.cap
  have hnc := h.le
  obtain rfl := h.len1
  have hc' := h2.cap
  have hnc' := h2.le
  obtain rfl := h2.len
  obtain ⟨i0, hi, hz0, hz1, hz2⟩ := info_parts Try.infoCell
  have HP : ∃ v : Bool, Hid (v = (join b rest n).isSome) := ⟨_, rfl⟩
  obtain ⟨v, HP⟩ := HP
  rw [← HP.out]
  go_enter Try.func28, Try.ntmps28
  go_wp2_with fail
  refine (unpack_ref_any 1 n W h (by omega) hn).mono ?_
  rintro e w1 ⟨B, k1, d, rfl, hk1, hb⟩
  cases hok : unpackOk b 1 n with
  | false =>
    have hj : join b rest n = none := by rw [join, if_neg (by simp [hok])]
    have hv : Hid (v = false) := by rw [Hid, HP.out, hj]; rfl
    replace hj := Lib.hid hj
    clear hok hb
    go_wp2
    go_ret2
    exact ⟨none, 0, 0, by rw [hv.out]; rfl, hk1, fun Y _ => by rw [hj.out]; exact Rd.nil_ _ _ _⟩
  | true =>
    have hj : join b rest n = joinL (unpackL b 1 n) rest := by rw [join, if_pos hok]
    have hcn : Hid (countN b n = ones (unpackL b 1 n)) := by unfold countN Hid; rw [if_pos hok]
    obtain ⟨hl1, hl2, hl3⟩ := unpack_one hok
    have hu := hb [] (by simp)
    generalize unpackL b 1 n = l at *
    obtain rfl := hu.len1
    have hkd := hu.cap
    have hle := hu.le
    have hlen : l.length ≤ 65536 := by omega
    have hol := ones_le l hl3
    obtain rfl := hl1.symm
    clear hok hb
    replace hj := Lib.hid hj
    replace hl3 := Lib.hid hl3
    go_wp2_with fail
    refine (count_ref l.length w1 (h.pure hk1) hn).mono ?_
    rintro e w2 ⟨rfl, hk2⟩
    rw [hcn.out]
    by_cases hcr : ones l = rest.length
    · have hb1 : ((ones l : Int) != (rest.length : Int)) = false := by rw [bne_eq_false_iff_eq]; omega
      have hcr2 : ones l ≤ rest.length ∧ rest.length ≤ ones l := by omega
      replace hcr := Lib.hid hcr
      have hu2 := hu.pure hk2
      have hw2 := (hk1.trans hk2).size
      go_wp2
      go_loopw [10, 11, 12] (fun a s i wr => ∃ (k p : Nat) (o : List Cell), k ≤ l.length ∧ i = .int .i64 k ∧ s = .int .i64 p ∧ p ≤ rest.length ∧ Hid (p = ones (l.take k)) ∧
        wr.ownsRow w2.heap.size 47 5 a k (o.flatMap Cell.cs) ∧ Hid (joinL l rest = (joinL (l.drop k) (rest.drop p)).map (o ++ ·)) ∧ Keep [] w2 wr) (fun _ _ i _ => l.length - (intOf i).toNat)
      case atStart => exact ⟨0, 0, [], by omega, rfl, rfl, by omega, by simp [Hid, ones], World.ownsRow_nil _ _ _ _, by simp [Hid], Keep.refl _ _⟩
      case round =>
        obtain ⟨k, p, o, hk, rfl, rfl, hp, HQ, hown, HJ, hkeep1⟩ := hrel
        have hsz := hkeep1.size
        by_cases hlt : k < l.length
        · obtain ⟨bb, off, rfl, _, _, hcell⟩ := (hu2.pure hkeep1).one hlt
          unfold vU64 at hcell
          rcases hl3.out l[k] (List.getElem_mem hlt) with hz | hone
          · have hjz := Lib.hid (joinL_zero (r := rest.drop p) hlt hz)
            have hpz : Hid (p = ones (l.take (k + 1))) := by unfold Hid; rw [ones_take l k hlt, hz, ← HQ.out]; rfl
            rw [hz] at hcell
            have hcell0 : wr.cell? ⟨bb, off + k, none⟩ = some (.int .u64 0) := hcell
            clear hcell hz
            have hck : Cells [] (wr.alloc (.cells #[.bool true, .int .i64 0, .string ByteArray.empty, .int .i64 0, .int .i64 0] 47)) (some ⟨wr.heap.size, 0, none⟩) 1 1 [Cell.nil] :=
              (Blk.new wr 47 [.bool true, .int .i64 0, .string ByteArray.empty, .int .i64 0, .int .i64 0]).rd (by simp) rfl (by omega) (by simp [maxLen]) rfl
            go_wp2_with (at_builtin; refine wpList_append_rd rfl _ _ 37 rfl w2.heap.size 47 i0 (cellVal Cell.zero) 5 48 Try.underlying37 hi hz0 hz1 hz2 rfl (by omega) u10 k _ rfl (hown.alloc _) rfl hck (flat_one Cell.one [Cell.nil]) (by unfold maxLen; omega) (by omega) (by simp; omega) ?_)
            intro v' w3 hown' hgr
            have hk3 : Keep [] w2 w3 := (hkeep1.alloc (.cells #[.bool true, .int .i64 0, .string ByteArray.empty, .int .i64 0, .int .i64 0] 47)).grown hgr (fun g hg => .inr (own_ge hown g hg))
            clear hgr hown hck
            go_wp2
            go_roundw
            case rel =>
              refine ⟨k + 1, p, o ++ [Cell.nil], by omega, by go_num, rfl, hp, hpz, ?_, ?_, hk3⟩
              · rw [List.flatMap_append]; exact hown'
              · unfold Hid
                rw [HJ.out, hjz.out, Option.map_map]
                congr 1
                funext z
                simp
            case measure => simp [intOf]; omega
          · have hne : l[k] ≠ 0 := by rw [hone]; decide
            rw [hone] at hcell
            have hcell1 : wr.cell? ⟨bb, off + k, none⟩ = some (.int .u64 1) := hcell
            clear hcell
            have hpz : p + 1 = ones (l.take (k + 1)) := by rw [ones_take l k hlt, hone, ← HQ.out]; rfl
            have hplt : p < rest.length := by
              have h1 := ones_append (l.take (k + 1)) (l.drop (k + 1))
              rw [List.take_append_drop] at h1
              omega
            replace hpz := Lib.hid hpz
            have hdr : rest.drop p = rest[p] :: rest.drop (p + 1) := List.drop_eq_getElem_cons hplt
            have hkW := (hk1.trans hk2).trans hkeep1
            obtain ⟨b2, off2, rfl, hb2, _, hc0, hc1, hc2, hc3, hc4⟩ := Cells.at5 h2 hplt
            have hcar : ∀ w' : World, Keep [] W w' → w'.cell? ⟨b2, off2 + p * 5, none⟩ = some (.bool rest[p].null) ∧ w'.cell? ⟨b2, off2 + p * 5 + 1, none⟩ = some (.int .i64 rest[p].int.toInt) ∧ w'.cell? ⟨b2, off2 + p * 5 + 2, none⟩ = some (.string rest[p].text) ∧
                w'.cell? ⟨b2, off2 + p * 5 + 3, none⟩ = some (.int .i64 rest[p].x.toInt) ∧ w'.cell? ⟨b2, off2 + p * 5 + 4, none⟩ = some (.int .i64 rest[p].y.toInt) := fun w' hk' => by
              have hb' := hk'.block b2 hb2 (by simp)
              exact ⟨(World.cell?_of_block (w := W) (a := ⟨b2, off2 + p * 5, none⟩) hb').trans hc0, (World.cell?_of_block (w := W) (a := ⟨b2, off2 + p * 5 + 1, none⟩) hb').trans hc1, (World.cell?_of_block (w := W) (a := ⟨b2, off2 + p * 5 + 2, none⟩) hb').trans hc2,
                (World.cell?_of_block (w := W) (a := ⟨b2, off2 + p * 5 + 3, none⟩) hb').trans hc3, (World.cell?_of_block (w := W) (a := ⟨b2, off2 + p * 5 + 4, none⟩) hb').trans hc4⟩
            obtain ⟨hd0, hd1, hd2, hd3, hd4⟩ := hcar wr hkW
            generalize rest[p] = x at *
            cases hx : x.null with
            | true =>
              have hjn : join b rest l.length = none := by rw [hj.out, HJ.out, hdr, joinL_null hlt hne hx]; rfl
              have hv : Hid (v = false) := by rw [Hid, HP.out, hjn]; rfl
              replace hjn := Lib.hid hjn
              rw [hx] at hd0
              clear hne hone hx hcar hc0 hc1 hc2 hc3 hc4 hdr
              go_wp2
              go_ret2
              exact ⟨none, 0, 0, by rw [hv.out]; rfl, hkW, fun Y _ => by rw [hjn.out]; exact Rd.nil_ _ _ _⟩
            | false =>
              have hjs := Lib.hid (joinL_some (r := rest.drop (p + 1)) hlt hne hx)
              rw [hx] at hd0
              have hxf := Lib.hid hx
              replace hcar := Lib.hid hcar
              replace hdr := Lib.hid hdr
              clear hne hone hx hc0 hc1 hc2 hc3 hc4
              have hSW : Hid (∀ w' : World, Keep [] W w' → w'.cell? ⟨b2, off2 + p * 5, none⟩ = some (.bool false) ∧ w'.cell? ⟨b2, off2 + p * 5 + 1, none⟩ = some (.int .i64 x.int.toInt) ∧ w'.cell? ⟨b2, off2 + p * 5 + 2, none⟩ = some (.string x.text) ∧
                w'.cell? ⟨b2, off2 + p * 5 + 3, none⟩ = some (.int .i64 x.x.toInt) ∧ w'.cell? ⟨b2, off2 + p * 5 + 4, none⟩ = some (.int .i64 x.y.toInt)) := fun w' hk' => by
                have := hcar.out w' hk'
                rw [hxf.out] at this
                exact this
              have hck : Cells [] (wr.alloc (.cells #[.bool false, .int .i64 x.int.toInt, .string x.text, .int .i64 x.x.toInt, .int .i64 x.y.toInt] 47)) (some ⟨wr.heap.size, 0, none⟩) 1 1 [x] := by
                refine (Blk.new wr 47 [.bool false, .int .i64 x.int.toInt, .string x.text, .int .i64 x.x.toInt, .int .i64 x.y.toInt]).rd (by simp) rfl (by omega) (by simp [maxLen]) ?_
                simp [Cell.cs, vI, hxf.out]
              go_wp2_with (at_builtin; refine wpList_append_rd (o := ⟨some 54, _, _, _, _, _⟩) rfl _ _ 37 rfl w2.heap.size 47 i0 (cellVal Cell.zero) 5 48 Try.underlying37 hi hz0 hz1 hz2 rfl (by omega) u10 k _ rfl (hown.alloc _) rfl hck (flat_one Cell.one [x]) (by unfold maxLen; omega) (by omega) (by simp; omega) ?_)
              intro v' w3 hown' hgr
              have hk3 : Keep [] w2 w3 := (hkeep1.alloc (.cells #[.bool false, .int .i64 x.int.toInt, .string x.text, .int .i64 x.x.toInt, .int .i64 x.y.toInt] 47)).grown hgr (fun g hg => .inr (own_ge hown g hg))
              clear hgr hown hck
              go_wp2
              go_roundw
              case rel =>
                refine ⟨k + 1, p + 1, o ++ [x], by omega, by go_num, by go_num, by omega, hpz, ?_, ?_, hk3⟩
                · rw [List.flatMap_append]; exact hown'
                · unfold Hid
                  rw [HJ.out, hdr.out, hjs.out, Option.map_map]
                  congr 1
                  funext z
                  simp
              case measure => simp [intOf]; omega
        · obtain rfl : k = l.length := by omega
          have hp2 : p = rest.length := by have := HQ.out; rw [List.take_length] at this; omega
          have hjn : join b rest l.length = some o := by
            rw [hj.out, HJ.out, hp2, List.drop_length, List.drop_length]
            simp [joinL]
          have hv : Hid (v = true) := by rw [Hid, HP.out, hjn]; rfl
          replace hjn := Lib.hid hjn
          obtain ⟨B2, d2, rfl⟩ := own_form hown
          clear hp2
          go_wp2
          go_ret2
          refine ⟨B2, _, d2, by rw [hv.out]; rfl, (hk1.trans hk2).trans hkeep1, fun Y hY => ?_⟩
          rw [hjn.out]
          exact rd_of_own hown (fun b hb => by have := hY b hb; omega)
    · have hb1 : ((ones l : Int) != (rest.length : Int)) = true := by rw [bne_iff_ne]; omega
      have hjn : join b rest l.length = none := by
        rw [hj.out]
        cases hjl : joinL l rest with
        | none => rfl
        | some o => exact absurd (joinL_count l rest hl3.out (by rw [hjl]; rfl)) hcr
      have hv : Hid (v = false) := by rw [Hid, HP.out, hjn]; rfl
      replace hjn := Lib.hid hjn
      clear hcr
      go_wp2
      go_ret2
      exact ⟨none, 0, 0, by rw [hv.out]; rfl, hk1.trans hk2, fun Y _ => by rw [hjn.out]; exact Rd.nil_ _ _ _⟩
end Go.Proofs.Ytfhdiafgcfpdhaa
