/-
  The walks of bitpack's and its reference's functions, part 1: Bytes, need, Width, Same.
  The walks of bitpack's and its reference's functions, part 2: Width, Same.
  The walks of bitpack's and its reference's functions, part 3: Pack.
  The walks of bitpack's and its reference's functions, part 4: Pack where there is none; the reference's Pack.
  The walks of bitpack's and its reference's functions, part 5: Unpack.
  The walks of bitpack's and its reference's functions, part 6: the reference's Unpack; contracts for every input.
-/
import Derived.Test.YtcpimhefclfbaaaFA
namespace Go.Proofs.Ytcpimhefclfbaaa
open Go Go.RowKit
set_option maxRecDepth 10000
set_option linter.unusedVariables false
set_option linter.unusedSimpArgs false

set_option maxHeartbeats 400000 in
theorem bytes_prog (w n : Int) (W : World) (hw : -9223372036854775808 ≤ w ∧ w ≤ 9223372036854775807) (hn : -9223372036854775808 ≤ n ∧ n ≤ 9223372036854775807) :
    Calls Try.prog 86 #[.int .i64 w, .int .i64 n] W fun e W' => e = .returned (.int .i64 (bytesLen w n)) ∧ W = W' := by
  by_cases hc : 0 ≤ w ∧ w ≤ 64 ∧ 0 ≤ n ∧ n ≤ 65536
  · have hm : 0 ≤ w * n := Int.mul_nonneg (by omega) (by omega)
    have hm2 : w * n ≤ 64 * 65536 := Int.mul_le_mul (by omega) (by omega) (by omega) (by omega)
    obtain ⟨h1, h2, h3, h4⟩ := hc
    go_enter Try.func86, Try.ntmps86
    go_wp2
    go_ret
    exact ⟨ret_i (by unfold bytesLen; rw [if_neg (by omega)] <;> omega), rfl⟩
  · have hb : Hid (bytesLen w n = -1) := by unfold bytesLen Hid; rw [if_pos (by omega)]
    go_enter Try.func86, Try.ntmps86
    go_wp2
    all_goals (go_ret; exact ⟨ret_i hb.out.symm, rfl⟩)

set_option maxHeartbeats 400000 in
theorem bytes_ref (w n : Int) (W : World) (hw : -9223372036854775808 ≤ w ∧ w ≤ 9223372036854775807) (hn : -9223372036854775808 ≤ n ∧ n ≤ 9223372036854775807) :
    Calls Try.prog 93 #[.int .i64 w, .int .i64 n] W fun e W' => e = .returned (.int .i64 (bytesLen w n)) ∧ W = W' := by
  by_cases hc : 0 ≤ w ∧ w ≤ 64 ∧ 0 ≤ n ∧ n ≤ 65536
  · have hm : 0 ≤ w * n := Int.mul_nonneg (by omega) (by omega)
    have hm2 : w * n ≤ 64 * 65536 := Int.mul_le_mul (by omega) (by omega) (by omega) (by omega)
    obtain ⟨h1, h2, h3, h4⟩ := hc
    go_enter Try.func93, Try.ntmps93
    go_wp2
    go_ret
    exact ⟨ret_i (by unfold bytesLen; rw [if_neg (by omega)] <;> omega), rfl⟩
  · have hb : Hid (bytesLen w n = -1) := by unfold bytesLen Hid; rw [if_pos (by omega)]
    go_enter Try.func93, Try.ntmps93
    go_wp2
    all_goals (go_ret; exact ⟨ret_i hb.out.symm, rfl⟩)

set_option maxHeartbeats 400000 in
theorem need_ref (x : UInt64) (W : World) :
    Calls Try.prog 109 #[.int .u64 (x.toNat : Int)] W fun e W' => e = .returned (.int .i64 (Lib.bitLen x.toNat)) ∧ W = W' := by
  have hx := x.toNat_lt
  have hb64 : Lib.bitLen x.toNat ≤ 64 := (bitLen_le hx 64).2 hx
  go_enter Try.func109, Try.ntmps109
  go_wp2
  go_loop [0, 3] (fun n k => ∃ (y j : Nat), y < 18446744073709551616 ∧ n = .int .u64 (y : Int) ∧ k = .int .i64 (j : Int) ∧ Hid (j + Lib.bitLen y = Lib.bitLen x.toNat)) (fun n _ => (intOf n).toNat)
  case atStart => exact ⟨x.toNat, 0, by omega, rfl, rfl, by unfold Hid; omega⟩
  case round =>
    obtain ⟨y, j, hy, rfl, rfl, HB⟩ := hrel
    have hj : j ≤ 64 := by have := HB.out; omega
    by_cases hy0 : 0 < y
    · have HB2 : Hid (j + 1 + Lib.bitLen (y / 2) = Lib.bitLen x.toNat) := by
        have := HB.out
        have h2 := Lib.bitLen_half y (by omega) hy
        unfold Hid; omega
      go_wp2
      go_round
      case rel => exact ⟨y / 2, j + 1, by omega, by go_num, by go_num, HB2⟩
      case measure => simp [intOf]; omega
    · obtain rfl : y = 0 := by omega
      go_wp2
      go_ret
      exact ⟨ret_i (by have := HB.out; simp [Lib.bitLen, Lib.bitLenAux] at this ⊢; omega), rfl⟩
end Go.Proofs.Ytcpimhefclfbaaa

namespace Go.Proofs.Ytcpimhefclfbaaa
open Go Go.RowKit
set_option maxRecDepth 10000
set_option linter.unusedVariables false
set_option linter.unusedSimpArgs false

theorem bits_or_u64 (a b : Nat) (ha : a < 2 ^ 64) (hb : b < 2 ^ 64) : bits .or .u64 (a : Int) (b : Int) = ((a ||| b : Nat) : Int) := by
  have hx : a ||| b < 2 ^ 64 := Nat.or_lt_two_pow ha hb
  show IntKind.u64.wrap ((BitVec.ofInt 64 (a : Int) ||| BitVec.ofInt 64 (b : Int)).toNat : Int) = _
  rw [BitVec.toNat_or, BitVec.ofInt_natCast, BitVec.ofInt_natCast, BitVec.toNat_ofNat, BitVec.toNat_ofNat, Nat.mod_eq_of_lt ha, Nat.mod_eq_of_lt hb, IntWalk.u64_in _ (by omega)]

theorem bits_or_u8 (a b : Nat) (ha : a < 256) (hb : b < 256) : bits .or .u8 (a : Int) (b : Int) = ((a ||| b : Nat) : Int) := by
  have hx : a ||| b < 2 ^ 8 := Nat.or_lt_two_pow ha hb
  show IntKind.u8.wrap ((BitVec.ofInt 8 (a : Int) ||| BitVec.ofInt 8 (b : Int)).toNat : Int) = _
  rw [BitVec.toNat_or, BitVec.ofInt_natCast, BitVec.ofInt_natCast, BitVec.toNat_ofNat, BitVec.toNat_ofNat, Nat.mod_eq_of_lt ha, Nat.mod_eq_of_lt hb, IntWalk.u8_in _ (by omega)]
theorem bits_and_u8 (a b : Nat) (ha : a < 256) (hb : b < 256) : bits .and .u8 (a : Int) (b : Int) = ((a &&& b : Nat) : Int) := by
  have hx : a &&& b < 2 ^ 8 := Nat.and_lt_two_pow a hb
  show IntKind.u8.wrap ((BitVec.ofInt 8 (a : Int) &&& BitVec.ofInt 8 (b : Int)).toNat : Int) = _
  rw [BitVec.toNat_and, BitVec.ofInt_natCast, BitVec.ofInt_natCast, BitVec.toNat_ofNat, BitVec.toNat_ofNat, Nat.mod_eq_of_lt ha, Nat.mod_eq_of_lt hb, IntWalk.u8_in _ (by omega)]
theorem bits_and_u64 (a b : Nat) (ha : a < 2 ^ 64) (hb : b < 2 ^ 64) : bits .and .u64 (a : Int) (b : Int) = ((a &&& b : Nat) : Int) := by
  have hx : a &&& b < 2 ^ 64 := Nat.and_lt_two_pow a hb
  show IntKind.u64.wrap ((BitVec.ofInt 64 (a : Int) &&& BitVec.ofInt 64 (b : Int)).toNat : Int) = _
  rw [BitVec.toNat_and, BitVec.ofInt_natCast, BitVec.ofInt_natCast, BitVec.toNat_ofNat, BitVec.toNat_ofNat, Nat.mod_eq_of_lt ha, Nat.mod_eq_of_lt hb, IntWalk.u64_in _ (by omega)]
theorem wrap_u64_nat (a : Nat) : IntKind.u64.wrap (a : Int) = ((a % 2 ^ 64 : Nat) : Int) := by
  simp [IntKind.wrap, IntKind.bits, IntKind.signed]

set_option maxHeartbeats 400000 in
theorem width_prog {X : List Nat} {A : Option Addr} {n c : Nat} {l : List UInt64} (W : World) (h : U64s X W A n c l) :
    Calls Try.prog 87 #[.slice A n c] W fun e W' => e = .returned (.int .i64 (width l)) ∧ W = W' := by
  have hn := h.len1
  have hc := h.cap
  have hnc := h.le
  obtain rfl := hn
  go_enter Try.func87, Try.ntmps87
  go_wp2
  go_loop [3, 8] (fun t i => ∃ k : Nat, k ≤ l.length ∧ i = .int .i64 k ∧ t = .int .u64 (orAll (l.take k) : Nat)) (fun _ i => l.length - (intOf i).toNat)
  case atStart => exact ⟨0, by omega, rfl, rfl⟩
  case round =>
    obtain ⟨k, hk, rfl, rfl⟩ := hrel
    by_cases hlt : k < l.length
    · obtain ⟨b, off, rfl, _, _, hcell⟩ := h.one hlt
      have hs : Hid (bits .or .u64 (orAll (l.take k) : Nat) (l[k].toNat : Nat) = (orAll (l.take (k + 1)) : Nat)) := by
        unfold Hid
        rw [bits_or_u64 _ _ (orAll_lt _) l[k].toNat_lt, orAll, orAll, foldl_snoc _ _ _ _ hlt]
      unfold vU64 at hcell
      go_wp2
      go_round
      case rel => exact ⟨k + 1, by omega, by go_num, by rw [← hs.out]⟩
      case measure => simp [intOf]; omega
    · obtain rfl : k = l.length := by omega
      have h0 := orAll_lt l
      have h1 := orAll_lt (l.take l.length)
      go_wp2_with fail
      refine (Try.bits_Len64 _ _ (by omega) (by omega)).mono ?_
      rintro e w' ⟨rfl, rfl⟩
      go_wp2
      go_ret
      exact ⟨ret_i (by simp [width_or]), rfl⟩

set_option maxHeartbeats 400000 in
theorem width_ref {X : List Nat} {A : Option Addr} {n c : Nat} {l : List UInt64} (W : World) (h : U64s X W A n c l) :
    Calls Try.prog 94 #[.slice A n c] W fun e W' => e = .returned (.int .i64 (width l)) ∧ W = W' := by
  have hn := h.len1
  have hc := h.cap
  have hnc := h.le
  obtain rfl := hn
  go_enter Try.func94, Try.ntmps94
  go_wp2
  go_loop [3, 4] (fun t i => ∃ k : Nat, k ≤ l.length ∧ i = .int .i64 k ∧ t = .int .i64 (width (l.take k) : Nat)) (fun _ i => l.length - (intOf i).toNat)
  case atStart => exact ⟨0, by omega, rfl, rfl⟩
  case round =>
    obtain ⟨k, hk, rfl, rfl⟩ := hrel
    by_cases hlt : k < l.length
    · obtain ⟨b, off, rfl, _, _, hcell⟩ := h.one hlt
      have hs : Hid (width (l.take (k + 1)) = max (width (l.take k)) (Lib.bitLen l[k].toNat)) := by
        unfold Hid width
        rw [foldl_snoc _ _ _ _ hlt]
      unfold vU64 at hcell
      go_wp2_with fail
      refine (need_ref _ _).mono ?_
      rintro e w' ⟨rfl, rfl⟩
      go_wp2
      all_goals
        go_round
        case rel => exact ⟨k + 1, by omega, by go_num, by rw [hs.out]; first | rfl | (congr 1; omega)⟩
        case measure => simp [intOf]; omega
    · obtain rfl : k = l.length := by omega
      go_wp2
      go_ret
      exact ⟨ret_i (by simp), rfl⟩

end Go.Proofs.Ytcpimhefclfbaaa

namespace Go.Proofs.Ytcpimhefclfbaaa
open Go Go.RowKit
set_option maxRecDepth 10000
set_option linter.unusedVariables false
set_option linter.unusedSimpArgs false

theorem Try.infoU8 : (Try.prog.info? 5).map (fun i => (i.zero, i.size, i.bytes)) = some (some (.int .u8 0), 1, 1) := by kernel_rfl
theorem Try.infoU64 : (Try.prog.info? 59).map (fun i => (i.zero, i.size, i.bytes)) = some (some (.int .u64 0), 1, 8) := by kernel_rfl

set_option maxHeartbeats 1000000 in
theorem pack_prog_ok {X : List Nat} {A : Option Addr} {n c : Nat} {l : List UInt64} (w : Int) (W : World) (h : U64s X W A n c l) (hok : packOk l w = true) :
    Calls Try.prog 67 #[.slice A n c, .int .i64 w] W fun e W' => ∃ B m d, e = .returned (.tuple #[.slice B m d, .bool true]) ∧ Keep [] W W' ∧ (∀ Y : List Nat, (∀ b ∈ Y, b < W.heap.size) → Bys Y W' B m d (packB l w)) := by
  have hn := h.len1
  have hc := h.cap
  have hnc := h.le
  obtain rfl := hn
  obtain ⟨h0, h1, h2, h3⟩ := packOk_iff.1 hok
  obtain ⟨w, rfl⟩ : ∃ k : Nat, w = k := ⟨w.toNat, by omega⟩
  have hfit := Lib.hid ((width_le_iff l w).1 (by omega))
  have hbl := Lib.hid (bytesLen_nat (w := (w : Int)) (n := (l.length : Int)) ⟨by omega, by omega, by omega, by omega⟩)
  simp only [Int.toNat_natCast] at hbl
  have hsz := size_mul w l.length
  have hwn : w * l.length ≤ 64 * 65536 := Nat.mul_le_mul (by omega) h2
  obtain ⟨S, hS⟩ : ∃ S, Hid (sizeOf' w l.length = S) := ⟨_, rfl⟩
  rw [hS.out] at hbl hsz
  obtain ⟨i0, hi, hz0, hz1, hz2⟩ := info_parts Try.infoU8
  go_enter Try.func67, Try.ntmps67
  go_wp2_with fail
  refine (bytes_prog _ _ _ (by omega) (by omega)).mono ?_
  rintro e w' ⟨rfl, rfl⟩
  rw [hbl.out]
  go_wp2_with fail
  refine (width_prog _ h).mono ?_
  rintro e w' ⟨rfl, rfl⟩
  go_wp2_with (first | (at_make; refine wpList_make_full _ rfl _ _ 28 rfl W.heap.size 5 i0 (.int .u8 0) 1 Try.underlying28 hi hz0 hz1 _ _ _ _ S rfl rfl rfl rfl (by rw [hz2]; omega) (by unfold maxLen; omega) (Nat.le_refl _) ?_))
  intro w1 hown hgr
  have hk1 : Keep [] W w1 := (Keep.refl [] W).grown hgr (by simp)
  have hb1 : Blk w1 W.heap.size 5 ((toBytes (packN l w % 2 ^ (w * 0)) S).map vU8) := by
    have := blk_of_own hown
    rw [Nat.mul_zero, bytes_zero, List.map_replicate]
    simpa [toList_madeCells_one, vU8] using this
  clear hown hgr
  go_wp2
  go_loopw [8, 29] (fun a i wr => ∃ k p : Nat, k ≤ l.length ∧ p ≤ 8 * S ∧ i = .int .i64 k ∧ a = .int .i64 (p : Nat) ∧ Hid (p = w * k) ∧ Blk wr W.heap.size 5 ((toBytes (packN l w % 2 ^ p) S).map vU8) ∧ Keep [] W wr) (fun _ i _ => l.length - (intOf i).toNat)
  case atStart => exact ⟨0, 0, by omega, by omega, rfl, rfl, by simp [Hid], by simpa using hb1, hk1⟩
  case round =>
    obtain ⟨k, p, hk, hp8, rfl, rfl, HP, hb, hkeep⟩ := hrel
    by_cases hlt : k < l.length
    · obtain ⟨b, off, rfl, _, _, hcell⟩ := (h.pure hkeep).one hlt
      unfold vU64 at hcell
      have HM : Hid (w * k + w ≤ w * l.length) := by
        have : w * (k + 1) ≤ w * l.length := Nat.mul_le_mul_left _ hlt
        rw [Nat.mul_add] at this
        unfold Hid; omega
      go_wp2
      obtain ⟨wo, rfl⟩ : ∃ wo : World, wo = wr := ⟨_, rfl⟩
      go_loopw [8, 10, 11] (fun a m t wr => ∃ j p x : Nat, j ≤ w ∧ p ≤ 8 * S ∧ x < 18446744073709551616 ∧ t = .int .i64 j ∧ a = .int .i64 (p : Nat) ∧ m = .int .u64 (x : Nat) ∧ Hid (p = w * k + (w - j) ∧ x = l[k].toNat / 2 ^ (w - j)) ∧
        Blk wr W.heap.size 5 ((toBytes (packN l w % 2 ^ p) S).map vU8) ∧ Keep [] W wr) (fun _ _ t _ => (intOf t).toNat)
      case atStart => exact ⟨w, p, l[k].toNat, by omega, hp8, l[k].toNat_lt, by go_num, rfl, rfl, by have := HP.out; simp [Hid, this], hb, hkeep⟩
      case round =>
        obtain ⟨j, q, x, hj, hq8, hx, rfl, rfl, rfl, HQ, hb', hkeep'⟩ := hrel
        by_cases hj0 : 0 < j
        · have hqS : q / 8 < S := by have := HM.out; have := HQ.out.1; omega
          obtain ⟨s, hs⟩ : ∃ s : Nat, Hid (min (j : Int) (8 - (q : Int) % 8) = (s : Int)) := ⟨min j (8 - q % 8), by unfold Hid; omega⟩
          have hs1 : 0 < s ∧ s ≤ j ∧ s + q % 8 ≤ 8 := by have := hs.out; omega
          have hget : q / 8 < (toBytes (packN l w % 2 ^ q) S).length := by simpa using hqS
          have hout := hb'.cell (q / 8)
          rw [List.getElem?_map, List.getElem?_eq_getElem hget, Option.map_some, vU8] at hout
          have hfr := hb'.frozen (q / 8)
          go_wp2
          rw [hs.out]
          refine wp_region_still_tail 19 (by kernel_rfl) (by kernel_rfl) ?_
          simp only [List.take_succ_cons, List.take_zero, List.drop_succ_cons, List.drop_zero]
          repeat (refine still_plain rfl rfl ?_; intro K hK; go_wp2)
          refine wpStill_nil ?_
          go_wp2
          go_roundw
          case rel =>
            have hold : (toBytes (packN l w % 2 ^ q) S)[q / 8]? = some (toBytes (packN l w % 2 ^ q) S)[q / 8] := List.getElem?_eq_getElem hget
            have hst := pack_step hfit.out hlt hj HQ.out.1 HQ.out.2 hs1 hqS _ hold
            generalize (toBytes (packN l w % 2 ^ q) S)[q / 8] = old at *
            have hbyte : bits BinOp.or IntKind.u8 (old.toNat : Int) (bits BinOp.and IntKind.u8 (IntKind.u64.wrap ((x : Int) * 2 ^ (q % 8)) % 256) (255 / 2 ^ (8 - s - q % 8))) =
                ((UInt8.ofNat (old.toNat ||| ((x * 2 ^ (q % 8) % 2 ^ 64 % 256) &&& (255 / 2 ^ (8 - s - q % 8))))).toNat : Int) := by
              have e1 : ((x : Int) * 2 ^ (q % 8)) = ((x * 2 ^ (q % 8) : Nat) : Int) := by simp
              have e2 : (255 / 2 ^ (8 - s - q % 8) : Int) = ((255 / 2 ^ (8 - s - q % 8) : Nat) : Int) := by simp
              have l2 : 255 / 2 ^ (8 - s - q % 8) < 256 := Nat.lt_of_le_of_lt (Nat.div_le_self _ _) (by omega)
              have l3 : (x * 2 ^ (q % 8) % 2 ^ 64 % 256) &&& (255 / 2 ^ (8 - s - q % 8)) < 256 := Nat.and_lt_two_pow (n := 8) _ l2
              rw [e1, wrap_u64_nat, e2, show ((x * 2 ^ (q % 8) % 2 ^ 64 : Nat) : Int) % 256 = ((x * 2 ^ (q % 8) % 2 ^ 64 % 256 : Nat) : Int) from by omega, bits_and_u8 _ _ (by omega) l2, bits_or_u8 _ _ old.toNat_lt l3,
                UInt8.toNat_ofNat', Nat.mod_eq_of_lt (Nat.or_lt_two_pow (n := 8) old.toNat_lt l3)]
            rw [hbyte]
            refine ⟨j - s, q + s, x / 2 ^ s, by omega, by have := HM.out; have := HQ.out.1; omega, Nat.lt_of_le_of_lt (Nat.div_le_self _ _) hx, by go_num, by go_num, by simp, ⟨by have := HQ.out.1; omega, ?_⟩, ?_, (hkeep'.setCell (.inr (Nat.le_refl _)) _).drew⟩
            · rw [HQ.out.2, Nat.div_div_eq_div_mul, ← Nat.pow_add]
              congr 2
              omega
            · have := (hb'.set_ (q / 8) (vU8 (UInt8.ofNat (old.toNat ||| ((x * 2 ^ (q % 8) % 2 ^ 64 % 256) &&& (255 / 2 ^ (8 - s - q % 8))))))).drew
              rw [hst, List.map_set]
              exact this
          case measure => simp [intOf]; omega
        · obtain rfl : j = 0 := by omega
          go_wp2
          go_roundw
          case rel => exact ⟨k + 1, q, by omega, by omega, by go_num, by go_num, by have := HQ.out.1; unfold Hid; rw [Nat.mul_add]; omega, hb', hkeep'⟩
          case measure => simp [intOf]; omega
    · obtain rfl : k = l.length := by omega
      have hlt : packN l w < 2 ^ p := by rw [HP.out]; exact packN_lt hfit.out
      rw [Nat.mod_eq_of_lt hlt] at hb
      have hfin : packB l (w : Int) = toBytes (packN l w) S := by rw [packB, if_pos hok]; simp [hS.out]
      go_wp2
      go_ret2
      refine ⟨_, _, _, rfl, hkeep, fun Y hY => ?_⟩
      rw [hfin]
      exact hb.rd (fun hm => by have := hY _ hm; omega) (by simp) (Nat.le_refl _) (by unfold maxLen; omega) (by rw [List.take_of_length_le (by simp)])
end Go.Proofs.Ytcpimhefclfbaaa

namespace Go.Proofs.Ytcpimhefclfbaaa
open Go Go.RowKit
set_option maxRecDepth 10000
set_option linter.unusedVariables false
set_option linter.unusedSimpArgs false

set_option maxHeartbeats 1000000 in
theorem pack_prog_no {X : List Nat} {A : Option Addr} {n c : Nat} {l : List UInt64} (w : Int) (W : World) (h : U64s X W A n c l) (hw : -9223372036854775808 ≤ w ∧ w ≤ 9223372036854775807) (hok : packOk l w = false) :
    Calls Try.prog 67 #[.slice A n c, .int .i64 w] W fun e W' => e = .returned (.tuple #[.slice none 0 0, .bool false]) ∧ W = W' := by
  have hn := h.len1
  have hc := h.cap
  have hnc := h.le
  obtain rfl := hn
  by_cases hb : 0 ≤ w ∧ w ≤ 64 ∧ l.length ≤ 65536
  · have hbl := Lib.hid (bytesLen_nat (w := (w : Int)) (n := (l.length : Int)) ⟨by omega, by omega, by omega, by omega⟩)
    have hlt : w < width l := by simp [packOk] at hok; omega
    generalize (sizeOf' w.toNat ((l.length : Int).toNat)) = S at hbl
    go_enter Try.func67, Try.ntmps67
    go_wp2_with fail
    refine (bytes_prog _ _ _ (by omega) (by omega)).mono ?_
    rintro e w' ⟨rfl, rfl⟩
    rw [hbl.out]
    go_wp2_with fail
    refine (width_prog _ h).mono ?_
    rintro e w' ⟨rfl, rfl⟩
    go_wp2
    go_ret2
    exact ⟨rfl, rfl⟩
  · have hbl : Hid (bytesLen w l.length = -1) := by unfold bytesLen Hid; rw [if_pos (by omega)]
    go_enter Try.func67, Try.ntmps67
    go_wp2_with fail
    refine (bytes_prog _ _ _ (by omega) (by omega)).mono ?_
    rintro e w' ⟨rfl, rfl⟩
    rw [hbl.out]
    go_wp2
    go_ret2
    exact ⟨rfl, rfl⟩

set_option maxHeartbeats 1000000 in
theorem pack_ref_no {X : List Nat} {A : Option Addr} {n c : Nat} {l : List UInt64} (w : Int) (W : World) (h : U64s X W A n c l) (hw : -9223372036854775808 ≤ w ∧ w ≤ 9223372036854775807) (hok : packOk l w = false) :
    Calls Try.prog 74 #[.slice A n c, .int .i64 w] W fun e W' => e = .returned (.tuple #[.slice none 0 0, .bool false]) ∧ W = W' := by
  have hn := h.len1
  have hc := h.cap
  have hnc := h.le
  obtain rfl := hn
  by_cases hb : 0 ≤ w ∧ w ≤ 64 ∧ l.length ≤ 65536
  · have hbl := Lib.hid (bytesLen_nat (w := (w : Int)) (n := (l.length : Int)) ⟨by omega, by omega, by omega, by omega⟩)
    have hlt : w < width l := by simp [packOk] at hok; omega
    generalize (sizeOf' w.toNat ((l.length : Int).toNat)) = S at hbl
    go_enter Try.func74, Try.ntmps74
    go_wp2_with fail
    refine (bytes_ref _ _ _ (by omega) (by omega)).mono ?_
    rintro e w' ⟨rfl, rfl⟩
    rw [hbl.out]
    go_wp2_with fail
    refine (width_ref _ h).mono ?_
    rintro e w' ⟨rfl, rfl⟩
    go_wp2
    go_ret2
    exact ⟨rfl, rfl⟩
  · have hbl : Hid (bytesLen w l.length = -1) := by unfold bytesLen Hid; rw [if_pos (by omega)]
    go_enter Try.func74, Try.ntmps74
    go_wp2_with fail
    refine (bytes_ref _ _ _ (by omega) (by omega)).mono ?_
    rintro e w' ⟨rfl, rfl⟩
    rw [hbl.out]
    go_wp2
    go_ret2
    exact ⟨rfl, rfl⟩

set_option maxHeartbeats 1000000 in
theorem pack_ref_ok {X : List Nat} {A : Option Addr} {n c : Nat} {l : List UInt64} (w : Int) (W : World) (h : U64s X W A n c l) (hok : packOk l w = true) :
    Calls Try.prog 74 #[.slice A n c, .int .i64 w] W fun e W' => ∃ B m d, e = .returned (.tuple #[.slice B m d, .bool true]) ∧ Keep [] W W' ∧ (∀ Y : List Nat, (∀ b ∈ Y, b < W.heap.size) → Bys Y W' B m d (packB l w)) := by
  have hn := h.len1
  have hc := h.cap
  have hnc := h.le
  obtain rfl := hn
  obtain ⟨h0, h1, h2, h3⟩ := packOk_iff.1 hok
  obtain ⟨w, rfl⟩ : ∃ k : Nat, w = k := ⟨w.toNat, by omega⟩
  have hfit := Lib.hid ((width_le_iff l w).1 (by omega))
  have hbl := Lib.hid (bytesLen_nat (w := (w : Int)) (n := (l.length : Int)) ⟨by omega, by omega, by omega, by omega⟩)
  simp only [Int.toNat_natCast] at hbl
  have hsz := size_mul w l.length
  have hwn : w * l.length ≤ 64 * 65536 := Nat.mul_le_mul (by omega) h2
  obtain ⟨S, hS⟩ : ∃ S, Hid (sizeOf' w l.length = S) := ⟨_, rfl⟩
  rw [hS.out] at hbl hsz
  obtain ⟨i0, hi, hz0, hz1, hz2⟩ := info_parts Try.infoU8
  go_enter Try.func74, Try.ntmps74
  go_wp2_with fail
  refine (bytes_ref _ _ _ (by omega) (by omega)).mono ?_
  rintro e w' ⟨rfl, rfl⟩
  rw [hbl.out]
  go_wp2_with fail
  refine (width_ref _ h).mono ?_
  rintro e w' ⟨rfl, rfl⟩
  go_wp2_with (first | (at_make; refine wpList_make_full _ rfl _ _ 28 rfl W.heap.size 5 i0 (.int .u8 0) 1 Try.underlying28 hi hz0 hz1 _ _ _ _ S rfl rfl rfl rfl (by rw [hz2]; omega) (by unfold maxLen; omega) (Nat.le_refl _) ?_))
  intro w1 hown hgr
  have hk1 : Keep [] W w1 := (Keep.refl [] W).grown hgr (by simp)
  have hb1 : Blk w1 W.heap.size 5 ((toBytes (packN l w % 2 ^ (w * 0)) S).map vU8) := by
    have := blk_of_own hown
    rw [Nat.mul_zero, bytes_zero, List.map_replicate]
    simpa [toList_madeCells_one, vU8] using this
  clear hown hgr
  go_wp2
  go_loopw [8, 9, 10] (fun i j a wr => ∃ k : Nat, k ≤ l.length ∧ i = .int .i64 k ∧ Blk wr W.heap.size 5 ((toBytes (packN l w % 2 ^ (w * k)) S).map vU8) ∧ Keep [] W wr) (fun i _ _ _ => l.length - (intOf i).toNat)
  case atStart => exact ⟨0, by omega, rfl, by simpa using hb1, hk1⟩
  case round =>
    obtain ⟨k, hk, rfl, hb, hkeep⟩ := hrel
    by_cases hlt : k < l.length
    · have HM : Hid (w * k + w ≤ w * l.length) := by
        have : w * (k + 1) ≤ w * l.length := Nat.mul_le_mul_left _ hlt
        rw [Nat.mul_add] at this
        unfold Hid; omega
      have hwk : w * k ≤ 64 * 65536 := by have := HM.out; omega
      go_wp2
      obtain ⟨wo, rfl⟩ : ∃ wo : World, wo = wr := ⟨_, rfl⟩
      go_loopw [9, 10] (fun j a wr => ∃ t : Nat, t ≤ w ∧ j = .int .i64 t ∧ Blk wr W.heap.size 5 ((toBytes (packN l w % 2 ^ (w * k + t)) S).map vU8) ∧ Keep [] W wr) (fun j _ _ => w - (intOf j).toNat)
      case atStart => exact ⟨0, by omega, rfl, hb, hkeep⟩
      case round =>
        obtain ⟨t, ht, rfl, hb', hkeep'⟩ := hrel
        by_cases htw : t < w
        · obtain ⟨b, off, rfl, _, _, hcell⟩ := (h.pure hkeep').one hlt
          unfold vU64 at hcell
          obtain ⟨q, hq⟩ : ∃ q : Nat, (w : Int) * (k : Int) + (t : Int) = (q : Int) := ⟨w * k + t, by push_cast; rfl⟩
          have hq' : Hid (q = w * k + t) := by
            have : (w : Int) * (k : Int) = ((w * k : Nat) : Int) := by push_cast; rfl
            unfold Hid; omega
          have hm1 : 0 ≤ (w : Int) * (k : Int) := by have : (w : Int) * (k : Int) = ((w * k : Nat) : Int) := by push_cast; rfl
                                                     omega
          have hm2 : (w : Int) * (k : Int) ≤ 64 * 65536 := by have : (w : Int) * (k : Int) = ((w * k : Nat) : Int) := by push_cast; rfl
                                                              omega
          have hqS : q / 8 < S := by have := HM.out; have := hq'.out; omega
          rw [← hq'.out] at hb'
          have hget : q / 8 < (toBytes (packN l w % 2 ^ q) S).length := by simpa using hqS
          obtain ⟨old, hold⟩ : ∃ old, Hid ((toBytes (packN l w % 2 ^ q) S)[q / 8]? = some old) := ⟨_, List.getElem?_eq_getElem hget⟩
          have hout := hb'.cell (q / 8)
          rw [List.getElem?_map, hold.out, Option.map_some, vU8] at hout
          have hfr := hb'.frozen (q / 8)
          go_wp2
          · rename_i hbit
            go_roundw
            case rel =>
              rw [test_bit, ← packN_bit hfit.out htw hlt, ← hq'.out] at hbit
              have hst := bit_step hqS _ hold.out hbit
              have hbyte : bits BinOp.or IntKind.u8 (old.toNat : Int) (2 ^ (q % 8) % 256) = ((UInt8.ofNat (old.toNat ||| (2 ^ (q % 8) % 256))).toNat : Int) := by
                have e2 : (2 ^ (q % 8) % 256 : Int) = ((2 ^ (q % 8) % 256 : Nat) : Int) := by simp
                have l2 : 2 ^ (q % 8) % 256 < 256 := Nat.mod_lt _ (by omega)
                rw [e2, bits_or_u8 _ _ old.toNat_lt l2, UInt8.toNat_ofNat', Nat.mod_eq_of_lt (Nat.or_lt_two_pow (n := 8) old.toNat_lt l2)]
              rw [hbyte]
              refine ⟨t + 1, by omega, by go_num, ?_, hkeep'.setCell (.inr (Nat.le_refl _)) _⟩
              have := hb'.set_ (q / 8) (vU8 (UInt8.ofNat (old.toNat ||| (2 ^ (q % 8) % 256))))
              rw [← Nat.add_assoc, ← hq'.out, hst, List.map_set]
              exact this
            case measure => simp [intOf]; omega
          · rename_i hbit
            go_roundw
            case rel =>
              rw [test_bit, ← packN_bit hfit.out htw hlt] at hbit
              exact ⟨t + 1, by omega, by go_num, by rw [← Nat.add_assoc, bytes_same hbit, ← hq'.out]; exact hb', hkeep'⟩
            case measure => simp [intOf]; omega
        · obtain rfl : t = w := by omega
          go_wp2
          go_roundw
          case rel => exact ⟨k + 1, by omega, by go_num, by rw [Nat.mul_add, Nat.mul_one]; exact hb', hkeep'⟩
          case measure => simp [intOf]; omega
    · obtain rfl : k = l.length := by omega
      have hlt : packN l w < 2 ^ (w * l.length) := packN_lt hfit.out
      rw [Nat.mod_eq_of_lt hlt] at hb
      have hfin : packB l (w : Int) = toBytes (packN l w) S := by rw [packB, if_pos hok]; simp [hS.out]
      go_wp2
      go_ret2
      refine ⟨_, _, _, rfl, hkeep, fun Y hY => ?_⟩
      rw [hfin]
      exact hb.rd (fun hm => by have := hY _ hm; omega) (by simp) (Nat.le_refl _) (by unfold maxLen; omega) (by rw [List.take_of_length_le (by simp)])
end Go.Proofs.Ytcpimhefclfbaaa

namespace Go.Proofs.Ytcpimhefclfbaaa
open Go Go.RowKit
set_option maxRecDepth 10000
set_option linter.unusedVariables false
set_option linter.unusedSimpArgs false

theorem bit_val (x i : Nat) : (((x : Int) / 2 ^ i) % 2 : Int) = ((x.testBit i).toNat : Int) := by
  have e : ((x : Int) / 2 ^ i) = ((x / 2 ^ i : Nat) : Int) := by simp
  rw [e, Nat.testBit_eq_decide_div_mod_eq]
  generalize x / 2 ^ i = m
  by_cases h : m % 2 = 1
  · simp [h]; omega
  · simp [h]; omega
theorem and_one_u8 (x : Nat) (h : x < 256) : bits .and .u8 (x : Int) 1 = ((x % 2 : Nat) : Int) := by
  have := bits_and_u8 x 1 h (by omega)
  rw [Nat.and_one_is_mod] at this
  exact this

set_option maxHeartbeats 400000 in
theorem bit_prog {X : List Nat} {A : Option Addr} {n c : Nat} {b : List UInt8} (q : Nat) (g : Nat) (W : World) (h : Bys X W A n c b) (hg : W.cell? ⟨g, 0, none⟩ = some (.slice A n c)) (hq : q < 8 * b.length) (hq2 : q ≤ 9223372036854775807) :
    Calls Try.prog 110 #[.int .i64 q, .pointer (some ⟨g, 0, none⟩)] W fun e W' => e = .returned (.int .u64 (((num b).testBit q).toNat : Int)) ∧ W = W' := by
  have hn := h.len1
  have hc := h.cap
  have hnc := h.le
  obtain rfl := hn
  obtain ⟨bb, off, rfl, _, _, hcell⟩ := h.one (k := q / 8) (by omega)
  have hfin := Lib.hid (num_at b q hq)
  generalize b[q / 8] = y at hcell hfin
  unfold vU8 at hcell
  have hy := y.toNat_lt
  have hfin2 : Hid (IntKind.u64.wrap (bits BinOp.and IntKind.u8 ((y.toNat : Int) / 2 ^ (q % 8)) 1) = (((num b).testBit q).toNat : Int)) := by
    have e : ((y.toNat : Int) / 2 ^ (q % 8)) = ((y.toNat / 2 ^ (q % 8) : Nat) : Int) := by simp
    have hle := Nat.div_le_self y.toNat (2 ^ (q % 8))
    unfold Hid
    rw [e, and_one_u8 _ (by omega), IntWalk.u64_in _ (by omega), hfin.out, Nat.testBit_eq_decide_div_mod_eq]
    generalize y.toNat / 2 ^ (q % 8) = m
    by_cases h : m % 2 = 1
    · simp [h]
    · simp [h]; omega
  go_enter Try.func110, Try.ntmps110
  go_wp2
  go_ret
  exact ⟨ret_i hfin2.out, rfl⟩

theorem unpackOk_iff {b : List UInt8} {w n : Int} : unpackOk b w n = true ↔ 0 ≤ w ∧ w ≤ 64 ∧ 0 ≤ n ∧ n ≤ 65536 ∧ b.length = sizeOf' w.toNat n.toNat ∧ num b < 2 ^ (w.toNat * n.toNat) := by simp [unpackOk]

/-- bits of value 0 from w * n on -/
theorem bits_tail {b : List UInt8} {m q : Nat} (hq : m ≤ q) (h : num b % 2 ^ q < 2 ^ m) (hb : (num b).testBit q = false) : num b % 2 ^ (q + 1) < 2 ^ m := by
  have : num b % 2 ^ (q + 1) = num b % 2 ^ q := by
    refine Nat.eq_of_testBit_eq fun i => ?_
    rw [Nat.testBit_mod_two_pow, Nat.testBit_mod_two_pow]
    by_cases hi : i = q
    · subst hi; rw [hb]; simp
    · congr 1
      simp only [decide_eq_decide]
      omega
  rw [this]; exact h

set_option maxHeartbeats 2000000 in
theorem unpack_prog {X : List Nat} {A : Option Addr} {m c : Nat} {b : List UInt8} (w n : Int) (W : World) (h : Bys X W A m c b) (hw : -9223372036854775808 ≤ w ∧ w ≤ 9223372036854775807) (hn' : -9223372036854775808 ≤ n ∧ n ≤ 9223372036854775807)
    (hsz : 0 ≤ w ∧ w ≤ 64 ∧ 0 ≤ n ∧ n ≤ 65536 ∧ b.length = sizeOf' w.toNat n.toNat) :
    Calls Try.prog 95 #[.slice A m c, .int .i64 w, .int .i64 n] W fun e W' => ∃ B k d, e = .returned (.tuple #[.slice B k d, .bool (unpackOk b w n)]) ∧ Keep [] W W' ∧ (∀ Y : List Nat, (∀ b ∈ Y, b < W.heap.size) → U64s Y W' B k d (unpackL b w n)) := by
  have hn := h.len1
  have hc := h.cap
  have hnc := h.le
  obtain rfl := hn
  obtain ⟨h0, h1, h2, h3, h4⟩ := hsz
  obtain ⟨w, rfl⟩ : ∃ k : Nat, w = k := ⟨w.toNat, by omega⟩
  obtain ⟨n, rfl⟩ : ∃ k : Nat, n = k := ⟨n.toNat, by omega⟩
  simp only [Int.toNat_natCast] at h4
  have hbl := Lib.hid (bytesLen_nat (w := (w : Int)) (n := (n : Int)) ⟨by omega, by omega, by omega, by omega⟩)
  simp only [Int.toNat_natCast] at hbl
  rw [← h4] at hbl
  have hsz := size_mul w n
  rw [← h4] at hsz
  replace h4 : Hid _ := Lib.hid h4
  have hwn : w * n ≤ 64 * 65536 := Nat.mul_le_mul (by omega) (by omega)
  obtain ⟨M, hM⟩ : ∃ M : Nat, (w : Int) * (n : Int) = (M : Int) := ⟨w * n, by push_cast; rfl⟩
  have hM' : M = w * n := by have : (w : Int) * (n : Int) = ((w * n : Nat) : Int) := by push_cast; rfl
                             omega
  rw [← hM'] at hsz hwn
  replace hM' : Hid _ := Lib.hid hM'
  obtain ⟨i0, hi, hz0, hz1, hz2⟩ := info_parts Try.infoU64
  have HP : ∃ v : Bool, Hid (v = unpackOk b w n) := ⟨_, rfl⟩
  obtain ⟨v, HP⟩ := HP
  rw [← HP.out]
  go_enter Try.func95, Try.ntmps95
  go_wp2_with fail
  refine (bytes_prog _ _ _ (by omega) (by omega)).mono ?_
  rintro e w' ⟨rfl, rfl⟩
  rw [hbl.out]
  have hne : ((b.length : Int) != (b.length : Int)) = false := by simp
  go_wp2_with (first | (at_make; refine wpList_make_full _ rfl _ _ 101 rfl (W.heap.size + 1) 59 i0 (.int .u64 0) 1 Try.underlying101 hi hz0 hz1 _ _ _ _ n rfl rfl rfl rfl (by rw [hz2]; omega) (by unfold maxLen; omega) (by simp) ?_))
  intro w1 hown hgr
  have hk0 : Keep [] (W.alloc (.cells #[.slice A b.length c] 28)) w1 := (Keep.refl [] _).grown hgr (by simp)
  have hk1 : Keep [] W w1 := ((Keep.refl [] W).alloc _).trans hk0
  have hbox1 : Blk w1 W.heap.size 28 [.slice A b.length c] := (Blk.new W _ [.slice A b.length c]).keep hk0 (by simp)
  have hb1 : Blk w1 (W.heap.size + 1) 59 ((unpP (num b) w n (w * 0)).map vU64) := by
    have := blk_of_own (w := W.alloc (.cells #[.slice A b.length c] 28)) (by simpa using hown)
    rw [Nat.mul_zero, unpP_zero, List.map_replicate]
    simpa [toList_madeCells_one, vU64] using this
  clear hown hgr hk0
  obtain ⟨G, hG⟩ : ∃ G, Hid (G = W.heap.size + 1) := ⟨_, rfl⟩
  rw [← hG.out] at hb1 ⊢
  go_wp2
  go_loopw [29] (fun i wr => ∃ k : Nat, k ≤ n ∧ i = .int .i64 k ∧ Blk wr G 59 ((unpP (num b) w n (w * k)).map vU64) ∧ Blk wr W.heap.size 28 [.slice A b.length c] ∧ Keep [] W wr) (fun i _ => n - (intOf i).toNat)
  case atStart => exact ⟨0, by omega, rfl, hb1, hbox1, hk1⟩
  case round =>
    obtain ⟨k, hk, rfl, hb, hbox, hkeep⟩ := hrel
    by_cases hlt : k < n
    · have HM : Hid (w * k + w ≤ M) := by
        have : w * (k + 1) ≤ w * n := Nat.mul_le_mul_left _ hlt
        rw [Nat.mul_add] at this
        have := hM'.out
        unfold Hid; omega
      go_wp2
      obtain ⟨wo, rfl⟩ : ∃ wo : World, wo = wr := ⟨_, rfl⟩
      go_loopw [33] (fun i wr => ∃ t : Nat, t ≤ w ∧ i = .int .i64 t ∧ Blk wr G 59 ((unpP (num b) w n (w * k + t)).map vU64) ∧ Blk wr W.heap.size 28 [.slice A b.length c] ∧ Keep [] W wr) (fun i _ => w - (intOf i).toNat)
      case atStart => exact ⟨0, by omega, rfl, hb, hbox, hkeep⟩
      case round =>
        obtain ⟨t, ht, rfl, hb', hbox', hkeep'⟩ := hrel
        by_cases htw : t < w
        · obtain ⟨q, hq⟩ : ∃ q : Nat, (k : Int) * (w : Int) + (t : Int) = (q : Int) := ⟨k * w + t, by push_cast; rfl⟩
          have hkw : (k : Int) * (w : Int) = ((w * k : Nat) : Int) := by rw [Nat.mul_comm]; push_cast; rfl
          have hq' : Hid (q = w * k + t) := by unfold Hid; omega
          have hm1 : 0 ≤ (k : Int) * (w : Int) ∧ (k : Int) * (w : Int) ≤ 64 * 65536 := by have := HM.out; omega
          clear hkw
          have hqM : q < M := by have := HM.out; have := hq'.out; omega
          have hqk : Hid (q / w = k ∧ q % w = t) := by
            rw [hq'.out]
            exact ⟨by rw [Nat.mul_add_div (by omega), Nat.div_eq_of_lt htw]; rfl, by rw [Nat.mul_add_mod, Nat.mod_eq_of_lt htw]⟩
          rw [← hq'.out] at hb'
          obtain ⟨old, hold⟩ : ∃ old, Hid ((unpP (num b) w n q)[q / w]? = some old) := ⟨_, List.getElem?_eq_getElem (by rw [hqk.out.1]; simpa using hlt)⟩
          have hout := hb'.cell k
          rw [List.getElem?_map, ← hqk.out.1, hold.out, Option.map_some, vU64, hqk.out.1] at hout
          have hfr := hb'.frozen k
          have hwr1 : IntKind.i64.wrap ((k : Int) * (w : Int)) = (k : Int) * (w : Int) := IntWalk.i64_in _ (by omega)
          go_wp2
          refine wp_region_still_tail 15 (by kernel_rfl) (by kernel_rfl) ?_
          simp only [List.take_succ_cons, List.take_zero, List.drop_succ_cons, List.drop_zero]
          repeat (refine still_plain rfl rfl ?_; intro K hK; go_wp2)
          have hkd : Keep [] W wr.drew := hkeep'.drew
          refine still_call (f := 110) (args := #[.int .i64 (q : Int), .pointer (some ⟨W.heap.size, 0, none⟩)]) (v := .int .u64 (((num b).testBit q).toNat : Int)) rfl (by go_simp) (bit_prog q W.heap.size _ (h.pure hkd) (hbox'.drew.cell 0) (by omega) (by omega)) ?_
          simp only [Act.put, List.setIfInBounds_toArray, List.set_cons_succ, List.set_cons_zero]
          repeat (refine still_plain rfl rfl ?_; intro K hK; go_wp2)
          refine wpStill_nil ?_
          go_wp2
          go_roundw
          case rel =>
            have hw64 : w ≤ 64 := by omega
            have hbit := Bool.toNat_le ((num b).testBit q)
            have hst := unpP_step (N := num b) (w := w) (n := n) hw64 (by have := hM'.out; omega) (UInt64.ofNat (old.toNat ||| (((num b).testBit q).toNat <<< t))) old hold.out
            rw [hqk.out.1, hqk.out.2] at hst
            generalize ((num b).testBit q).toNat = bit at *
            have hlt64 : bit * 2 ^ t < 2 ^ 64 := by
              have : bit * 2 ^ t ≤ 1 * 2 ^ t := Nat.mul_le_mul_right _ hbit
              have : 2 ^ t < 2 ^ 64 := Nat.pow_lt_pow_right (by omega) (by omega)
              omega
            have hval : bits BinOp.or IntKind.u64 (old.toNat : Int) (IntKind.u64.wrap ((bit : Int) * 2 ^ t)) = ((UInt64.ofNat (old.toNat ||| (bit <<< t))).toNat : Int) := by
              have e1 : ((bit : Int) * 2 ^ t) = ((bit * 2 ^ t : Nat) : Int) := by simp
              rw [e1, wrap_u64_nat, Nat.mod_eq_of_lt hlt64, bits_or_u64 _ _ old.toNat_lt hlt64, UInt64.toNat_ofNat', Nat.shiftLeft_eq, Nat.mod_eq_of_lt (Nat.or_lt_two_pow old.toNat_lt hlt64)]
            have hval2 : (UInt64.ofNat (old.toNat ||| (bit <<< t))).toNat = old.toNat ||| (bit <<< t) := by
              rw [UInt64.toNat_ofNat', Nat.mod_eq_of_lt]
              rw [Nat.shiftLeft_eq]
              exact Nat.or_lt_two_pow old.toNat_lt hlt64
            rw [hval]
            refine ⟨t + 1, by omega, by go_num, ?_, (hbox'.far (by have := hG.out; simp; omega) _).drew, (hkeep'.setCell (.inr (by have := hG.out; simp; omega)) _).drew⟩
            rw [← Nat.add_assoc, ← hq'.out, hst hval2, List.map_set]
            exact (hb'.set_ k _).drew
          case measure => simp [intOf]; omega
        · obtain rfl : t = w := by omega
          go_wp2
          go_roundw
          case rel => exact ⟨k + 1, by omega, by go_num, by rw [Nat.mul_add, Nat.mul_one]; exact hb', hbox', hkeep'⟩
          case measure => simp [intOf]; omega
    · obtain rfl : n = k := by omega
      rw [← hM'.out] at hb
      have hM64 : M ≤ 4194304 := by omega
      clear hlt hk
      go_wp2
      go_loop [13] (fun i => ∃ q : Nat, M ≤ q ∧ q ≤ 8 * b.length ∧ i = .int .i64 q ∧ Hid (num b % 2 ^ q < 2 ^ M)) (fun i => 8 * b.length - (intOf i).toNat)
      case atStart => exact ⟨M, by omega, by omega, rfl, Nat.mod_lt _ (Nat.pow_pos (by omega))⟩
      case round =>
        obtain ⟨q, hq1, hq2, rfl, HQ⟩ := hrel
        have hq4 : q ≤ 9223372036854775807 := by omega
        by_cases hq3 : q < 8 * b.length
        · have hc34 := bit_prog q W.heap.size wr (h.pure hkeep) (hbox.cell 0) hq3 hq4
          cases hbit : (num b).testBit q with
          | true =>
            have hv : Hid (v = false) := by
              rw [Hid, HP.out]
              refine Bool.eq_false_iff.2 fun hok => ?_
              have hlt := (unpackOk_iff.1 hok).2.2.2.2.2
              simp only [Int.toNat_natCast] at hlt
              rw [← hM'.out] at hlt
              have := Nat.testBit_lt_two_pow (Nat.lt_of_lt_of_le hlt (Nat.pow_le_pow_right (by omega) hq1))
              rw [this] at hbit
              cases hbit
            have hul : Hid (unpackL b w n = []) := by
              rw [Hid, unpackL_no]
              rw [← HP.out]
              exact hv.out
            rw [hbit] at hc34
            replace hc34 : Hid _ := Lib.hid hc34
            clear hbit
            go_wp2_with fail
            refine hc34.out.mono ?_
            rintro e w' ⟨rfl, rfl⟩
            go_wp2
            go_ret2
            refine ⟨none, 0, 0, by rw [hv.out]; rfl, hkeep, fun Y _ => ?_⟩
            rw [hul.out]
            exact Rd.nil_ Y wr 1
          | false =>
            have HQ2 : Hid (num b % 2 ^ (q + 1) < 2 ^ M) := bits_tail hq1 HQ.out hbit
            rw [hbit] at hc34
            replace hc34 : Hid _ := Lib.hid hc34
            clear hbit
            go_wp2_with fail
            refine hc34.out.mono ?_
            rintro e w' ⟨rfl, rfl⟩
            go_wp2
            go_round
            case rel => exact ⟨q + 1, by omega, by omega, by go_num, HQ2⟩
            case measure => simp [intOf]; omega
        · obtain rfl : q = 8 * b.length := by omega
          have hok : unpackOk b w n = true := by
            refine unpackOk_iff.2 ⟨by omega, by omega, by omega, by omega, by simpa using h4.out, ?_⟩
            have := HQ.out
            rw [Nat.mod_eq_of_lt (num_lt b)] at this
            simp only [Int.toNat_natCast]
            rw [← hM'.out]
            exact this
          have hv : Hid (v = true) := by rw [Hid, HP.out]; exact hok
          have hul : Hid (unpackL b w n = unpP (num b) w n M) := by
            rw [Hid, unpackL, if_pos hok]
            simp only [Int.toNat_natCast]
            rw [← hM'.out]
          clear hok
          go_wp2
          go_ret2
          refine ⟨some ⟨G, 0, none⟩, n, n, by rw [hv.out]; rfl, hkeep, fun Y hY => ?_⟩
          rw [hul.out]
          exact hb.rd (fun hm => by have := hY _ hm; have := hG.out; omega) (by simp) (Nat.le_refl _) (by unfold maxLen; omega) (by rw [List.take_of_length_le (by simp)])

/-- where the size does not fit -/
theorem unpack_no_size {b : List UInt8} {w n : Int} (h : ¬ (0 ≤ w ∧ w ≤ 64 ∧ 0 ≤ n ∧ n ≤ 65536 ∧ b.length = sizeOf' w.toNat n.toNat)) : unpackOk b w n = false ∧ (bytesLen w n < 0 ∨ bytesLen w n ≠ b.length) := by
  refine ⟨Bool.eq_false_iff.2 fun hok => h ?_, ?_⟩
  · obtain ⟨h0, h1, h2, h3, h4, _⟩ := unpackOk_iff.1 hok
    exact ⟨h0, h1, h2, h3, h4⟩
  · by_cases hb : 0 ≤ w ∧ w ≤ 64 ∧ 0 ≤ n ∧ n ≤ 65536
    · rw [bytesLen_nat hb]
      exact .inr fun e => h ⟨hb.1, hb.2.1, hb.2.2.1, hb.2.2.2, by omega⟩
    · left
      unfold bytesLen
      rw [if_pos (by omega)]
      omega
theorem bytesLen_range (w n : Int) : -1 ≤ bytesLen w n ∧ bytesLen w n ≤ 9223372036854775807 := by
  by_cases hb : 0 ≤ w ∧ w ≤ 64 ∧ 0 ≤ n ∧ n ≤ 65536
  · rw [bytesLen_nat hb]
    have : w.toNat * n.toNat ≤ 64 * 65536 := Nat.mul_le_mul (by omega) (by omega)
    unfold sizeOf'
    omega
  · unfold bytesLen
    rw [if_pos (by omega)]
    omega

set_option maxHeartbeats 1000000 in
theorem unpack_prog_no {X : List Nat} {A : Option Addr} {m c : Nat} {b : List UInt8} (w n : Int) (W : World) (h : Bys X W A m c b) (hw : -9223372036854775808 ≤ w ∧ w ≤ 9223372036854775807) (hn' : -9223372036854775808 ≤ n ∧ n ≤ 9223372036854775807)
    (hsz : ¬ (0 ≤ w ∧ w ≤ 64 ∧ 0 ≤ n ∧ n ≤ 65536 ∧ b.length = sizeOf' w.toNat n.toNat)) :
    Calls Try.prog 95 #[.slice A m c, .int .i64 w, .int .i64 n] W fun e W' => e = .returned (.tuple #[.slice none 0 0, .bool false]) ∧ Keep [] W W' := by
  have hn := h.len1
  have hc := h.cap
  have hnc := h.le
  obtain rfl := hn
  have hbl := (unpack_no_size hsz).2
  have hbr := bytesLen_range w n
  obtain ⟨S, hS⟩ : ∃ S, Hid (bytesLen w n = S) := ⟨_, rfl⟩
  rw [hS.out] at hbl hbr
  clear hsz
  by_cases h0 : S < 0
  · clear hbl
    go_enter Try.func95, Try.ntmps95
    go_wp2_with fail
    refine (bytes_prog _ _ _ (by omega) (by omega)).mono ?_
    rintro e w' ⟨rfl, rfl⟩
    rw [hS.out]
    go_wp2
    go_ret2
    exact ⟨rfl, (Keep.refl _ _).alloc _⟩
  · have hne : (S != (b.length : Int)) = true := by rw [bne_iff_ne]; omega
    clear hbl
    go_enter Try.func95, Try.ntmps95
    go_wp2_with fail
    refine (bytes_prog _ _ _ (by omega) (by omega)).mono ?_
    rintro e w' ⟨rfl, rfl⟩
    rw [hS.out]
    go_wp2
    go_ret2
    exact ⟨rfl, (Keep.refl _ _).alloc _⟩
end Go.Proofs.Ytcpimhefclfbaaa

namespace Go.Proofs.Ytcpimhefclfbaaa
open Go Go.RowKit
set_option maxRecDepth 10000
set_option linter.unusedVariables false
set_option linter.unusedSimpArgs false

set_option maxHeartbeats 1000000 in
theorem unpack_ref_no {X : List Nat} {A : Option Addr} {m c : Nat} {b : List UInt8} (w n : Int) (W : World) (h : Bys X W A m c b) (hw : -9223372036854775808 ≤ w ∧ w ≤ 9223372036854775807) (hn' : -9223372036854775808 ≤ n ∧ n ≤ 9223372036854775807)
    (hsz : ¬ (0 ≤ w ∧ w ≤ 64 ∧ 0 ≤ n ∧ n ≤ 65536 ∧ b.length = sizeOf' w.toNat n.toNat)) :
    Calls Try.prog 98 #[.slice A m c, .int .i64 w, .int .i64 n] W fun e W' => e = .returned (.tuple #[.slice none 0 0, .bool false]) ∧ Keep [] W W' := by
  have hn := h.len1
  have hc := h.cap
  have hnc := h.le
  obtain rfl := hn
  have hbl := (unpack_no_size hsz).2
  have hbr := bytesLen_range w n
  obtain ⟨S, hS⟩ : ∃ S, Hid (bytesLen w n = S) := ⟨_, rfl⟩
  rw [hS.out] at hbl hbr
  clear hsz
  by_cases h0 : S < 0
  · clear hbl
    go_enter Try.func98, Try.ntmps98
    go_wp2_with fail
    refine (bytes_ref _ _ _ (by omega) (by omega)).mono ?_
    rintro e w' ⟨rfl, rfl⟩
    rw [hS.out]
    go_wp2
    go_ret2
    exact ⟨rfl, Keep.refl _ _⟩
  · have hne : (S != (b.length : Int)) = true := by rw [bne_iff_ne]; omega
    clear hbl
    go_enter Try.func98, Try.ntmps98
    go_wp2_with fail
    refine (bytes_ref _ _ _ (by omega) (by omega)).mono ?_
    rintro e w' ⟨rfl, rfl⟩
    rw [hS.out]
    go_wp2
    go_ret2
    exact ⟨rfl, Keep.refl _ _⟩

set_option maxHeartbeats 2000000 in
theorem unpack_ref {X : List Nat} {A : Option Addr} {m c : Nat} {b : List UInt8} (w n : Int) (W : World) (h : Bys X W A m c b) (hw : -9223372036854775808 ≤ w ∧ w ≤ 9223372036854775807) (hn' : -9223372036854775808 ≤ n ∧ n ≤ 9223372036854775807)
    (hsz : 0 ≤ w ∧ w ≤ 64 ∧ 0 ≤ n ∧ n ≤ 65536 ∧ b.length = sizeOf' w.toNat n.toNat) :
    Calls Try.prog 98 #[.slice A m c, .int .i64 w, .int .i64 n] W fun e W' => ∃ B k d, e = .returned (.tuple #[.slice B k d, .bool (unpackOk b w n)]) ∧ Keep [] W W' ∧ (∀ Y : List Nat, (∀ b ∈ Y, b < W.heap.size) → U64s Y W' B k d (unpackL b w n)) := by
  have hn := h.len1
  have hc := h.cap
  have hnc := h.le
  obtain rfl := hn
  obtain ⟨h0, h1, h2, h3, h4⟩ := hsz
  obtain ⟨w, rfl⟩ : ∃ k : Nat, w = k := ⟨w.toNat, by omega⟩
  obtain ⟨n, rfl⟩ : ∃ k : Nat, n = k := ⟨n.toNat, by omega⟩
  simp only [Int.toNat_natCast] at h4
  have hbl := Lib.hid (bytesLen_nat (w := (w : Int)) (n := (n : Int)) ⟨by omega, by omega, by omega, by omega⟩)
  simp only [Int.toNat_natCast] at hbl
  rw [← h4] at hbl
  have hsz := size_mul w n
  rw [← h4] at hsz
  replace h4 : Hid _ := Lib.hid h4
  have hwn : w * n ≤ 64 * 65536 := Nat.mul_le_mul (by omega) (by omega)
  obtain ⟨M, hM⟩ : ∃ M : Nat, (w : Int) * (n : Int) = (M : Int) := ⟨w * n, by push_cast; rfl⟩
  have hM' : M = w * n := by have : (w : Int) * (n : Int) = ((w * n : Nat) : Int) := by push_cast; rfl
                             omega
  rw [← hM'] at hsz hwn
  replace hM' : Hid _ := Lib.hid hM'
  obtain ⟨i0, hi, hz0, hz1, hz2⟩ := info_parts Try.infoU64
  have HP : ∃ v : Bool, Hid (v = unpackOk b w n) := ⟨_, rfl⟩
  obtain ⟨v, HP⟩ := HP
  rw [← HP.out]
  go_enter Try.func98, Try.ntmps98
  go_wp2_with fail
  refine (bytes_ref _ _ _ (by omega) (by omega)).mono ?_
  rintro e w' ⟨rfl, rfl⟩
  rw [hbl.out]
  have hne : ((b.length : Int) != (b.length : Int)) = false := by simp
  go_wp2_with (first | (at_make; refine wpList_make_full _ rfl _ _ 101 rfl W.heap.size 59 i0 (.int .u64 0) 1 Try.underlying101 hi hz0 hz1 _ _ _ _ n rfl rfl rfl rfl (by rw [hz2]; omega) (by unfold maxLen; omega) (by simp) ?_))
  intro w1 hown hgr
  have hk1 : Keep [] W w1 := (Keep.refl [] W).grown hgr (by simp)
  have hb1 : Blk w1 W.heap.size 59 ((unpP (num b) w n 0).map vU64) := by
    have := blk_of_own hown
    rw [unpP_zero, List.map_replicate]
    simpa [toList_madeCells_one, vU64] using this
  clear hown hgr
  go_wp2
  go_loopw [10] (fun i wr => ∃ q : Nat, q ≤ 8 * b.length ∧ i = .int .i64 q ∧ Hid (num b % 2 ^ q < 2 ^ M) ∧ Blk wr W.heap.size 59 ((unpP (num b) w n q).map vU64) ∧ Keep [] W wr) (fun i _ => 8 * b.length - (intOf i).toNat)
  case atStart => exact ⟨0, by omega, rfl, by simp [Hid, Nat.mod_one, Nat.pow_pos], hb1, hk1⟩
  case round =>
    obtain ⟨q, hq, rfl, HQ, hb, hkeep⟩ := hrel
    by_cases hlt : q < 8 * b.length
    · obtain ⟨bb, off, rfl, _, _, hcell⟩ := (h.pure hkeep).one (k := q / 8) (by omega)
      have hnb := Lib.hid (num_at b q hlt)
      generalize b[q / 8] = y at hcell hnb
      unfold vU8 at hcell
      have hy := y.toNat_lt
      have hdv : Hid (∃ d : Nat, d ≤ 255 ∧ (y.toNat : Int) / 2 ^ (q % 8) = (d : Int) ∧ d % 2 = ((num b).testBit q).toNat) := by
        refine ⟨y.toNat / 2 ^ (q % 8), by have := Nat.div_le_self y.toNat (2 ^ (q % 8)); omega, by simp, ?_⟩
        rw [hnb.out, Nat.testBit_eq_decide_div_mod_eq]
        generalize y.toNat / 2 ^ (q % 8) = m
        by_cases h : m % 2 = 1
        · simp [h]
        · simp [h]; omega
      obtain ⟨d, hd1, hd2, hd3⟩ := hdv.out
      by_cases hbt : (num b).testBit q = true
      · have hd4 : ((d : Int) % 2 == 1) = true := by rw [hbt] at hd3; simp at hd3 ⊢; omega
        by_cases hqM : q < M
        · have hw1 : 1 ≤ w := by
            rcases Nat.eq_zero_or_pos w with h | h
            · subst h; have := hM'.out; omega
            · exact h
          have hqn : q / w < n := by rw [Nat.div_lt_iff_lt_mul (by omega), Nat.mul_comm, ← hM'.out]; exact hqM
          have hqw : q % w < w := Nat.mod_lt _ (by omega)
          obtain ⟨old, hold⟩ : ∃ old, Hid ((unpP (num b) w n q)[q / w]? = some old) := ⟨_, List.getElem?_eq_getElem (by simpa using hqn)⟩
          have hst := Lib.hid (unpP_step (N := num b) (w := w) (n := n) (by omega) (by have := hM'.out; omega) (UInt64.ofNat (old.toNat ||| (((num b).testBit q).toNat <<< (q % w)))) old hold.out)
          have hr1 : wrap64 ((q : Int) / (w : Int)) = ((q / w : Nat) : Int) := by
            rw [← Int.natCast_ediv]
            exact IntWalk.wrap64_in _ (by have h1 := Nat.div_le_self q w; generalize q / w = z at h1 ⊢; omega)
          have hr2 : (q : Int) % (w : Int) = ((q % w : Nat) : Int) := by simp
          have hout := hb.cell (q / w)
          rw [List.getElem?_map, hold.out, Option.map_some, vU64] at hout
          have hfr := hb.frozen (q / w)
          generalize q / w = e at *
          generalize q % w = f at *
          clear hdv hd3
          rw [hbt] at hst
          clear hold
          replace hbt : Hid _ := Lib.hid hbt
          go_wp2
          refine wp_region_still_tail 17 (by kernel_rfl) (by kernel_rfl) ?_
          simp only [List.take_succ_cons, List.take_zero, List.drop_succ_cons, List.drop_zero]
          repeat (refine still_plain rfl rfl ?_; intro K hK; go_wp2)
          refine wpStill_nil ?_
          go_wp2
          go_roundw
          case rel =>
            have hlt64 : 1 <<< f < 2 ^ 64 := by
              rw [Nat.shiftLeft_eq, Nat.one_mul]
              exact Nat.pow_lt_pow_right (by omega) (by omega)
            have hval2 : (UInt64.ofNat (old.toNat ||| (true.toNat <<< f))).toNat = old.toNat ||| (true.toNat <<< f) := by
              rw [UInt64.toNat_ofNat', Nat.mod_eq_of_lt]
              exact Nat.or_lt_two_pow old.toNat_lt hlt64
            have hval : bits BinOp.or IntKind.u64 (old.toNat : Int) (IntKind.u64.wrap (2 ^ f)) = ((UInt64.ofNat (old.toNat ||| (true.toNat <<< f))).toNat : Int) := by
              have e1 : ((2 : Int) ^ f) = ((1 <<< f : Nat) : Int) := by simp [Nat.shiftLeft_eq]
              rw [e1, wrap_u64_nat, Nat.mod_eq_of_lt hlt64, bits_or_u64 _ _ old.toNat_lt hlt64, hval2]
              rfl
            rw [hval]
            refine ⟨q + 1, by omega, by go_num, ?_, ?_, (hkeep.setCell (.inr (Nat.le_refl _)) _).drew⟩
            · exact Nat.lt_of_lt_of_le (Nat.mod_lt _ (Nat.pow_pos (by omega))) (Nat.pow_le_pow_right (by omega) hqM)
            · rw [hst.out hval2, List.map_set]
              exact (hb.set_ e _).drew
          case measure => simp [intOf]; omega
        · have hv : Hid (v = false) := by
            rw [Hid, HP.out]
            refine Bool.eq_false_iff.2 fun hok => ?_
            have hlt := (unpackOk_iff.1 hok).2.2.2.2.2
            simp only [Int.toNat_natCast] at hlt
            rw [← hM'.out] at hlt
            have := Nat.testBit_lt_two_pow (Nat.lt_of_lt_of_le hlt (Nat.pow_le_pow_right (by omega) (show M ≤ q by omega)))
            rw [this] at hbt
            cases hbt
          have hul : Hid (unpackL b w n = []) := by
            rw [Hid, unpackL_no]
            rw [← HP.out]
            exact hv.out
          clear hdv hd3
          replace hbt : Hid _ := Lib.hid hbt
          go_wp2
          go_ret2
          refine ⟨none, 0, 0, by rw [hv.out]; rfl, hkeep, fun Y _ => ?_⟩
          rw [hul.out]
          exact Rd.nil_ Y wr 1
      · have hbf : (num b).testBit q = false := by simpa using hbt
        have hd4 : ((d : Int) % 2 == 1) = false := by rw [hbf] at hd3; simp at hd3 ⊢; omega
        have hsame := Lib.hid (unpP_same (w := w) (n := n) hbf)
        have HQ2 : Hid (num b % 2 ^ (q + 1) < 2 ^ M) := by
          have e : num b % 2 ^ (q + 1) = num b % 2 ^ q := by
            refine Nat.eq_of_testBit_eq fun i => ?_
            rw [Nat.testBit_mod_two_pow, Nat.testBit_mod_two_pow]
            by_cases hi : i = q
            · subst hi; rw [hbf]; simp
            · congr 1
              simp only [decide_eq_decide]
              omega
          unfold Hid
          rw [e]
          exact HQ.out
        clear hdv hd3 hbt hbf
        go_wp2
        go_roundw
        case rel => exact ⟨q + 1, by omega, by go_num, HQ2, by rw [hsame.out]; exact hb, hkeep⟩
        case measure => simp [intOf]; omega
    · obtain rfl : q = 8 * b.length := by omega
      have hok : unpackOk b w n = true := by
        refine unpackOk_iff.2 ⟨by omega, by omega, by omega, by omega, by simpa using h4.out, ?_⟩
        have := HQ.out
        rw [Nat.mod_eq_of_lt (num_lt b)] at this
        simp only [Int.toNat_natCast]
        rw [← hM'.out]
        exact this
      have hv : Hid (v = true) := by rw [Hid, HP.out]; exact hok
      have hul : Hid (unpackL b w n = unpP (num b) w n (8 * b.length)) := by
        rw [Hid, unpackL, if_pos hok]
        simp only [Int.toNat_natCast]
        rw [unpP_beyond (at_ := 8 * b.length)]
        have := hM'.out
        omega
      clear hok
      go_wp2
      go_ret2
      refine ⟨_, n, n, by rw [hv.out]; rfl, hkeep, fun Y hY => ?_⟩
      rw [hul.out]
      exact hb.rd (fun hm => by have := hY _ hm; omega) (by simp) (Nat.le_refl _) (by unfold maxLen; omega) (by rw [List.take_of_length_le (by simp)])

/-! ### for every input -/
/-- What a slice of new memory holds, whatever blocks the caller wants to be left out. -/
abbrev NewU64s (W W' : World) (B : Option Addr) (k d : Nat) (l : List UInt64) : Prop := ∀ Y : List Nat, (∀ b ∈ Y, b < W.heap.size) → U64s Y W' B k d l
abbrev NewBys (W W' : World) (B : Option Addr) (k d : Nat) (l : List UInt8) : Prop := ∀ Y : List Nat, (∀ b ∈ Y, b < W.heap.size) → Bys Y W' B k d l

theorem pack_prog {X : List Nat} {A : Option Addr} {n c : Nat} {l : List UInt64} (w : Int) (W : World) (h : U64s X W A n c l) (hw : -9223372036854775808 ≤ w ∧ w ≤ 9223372036854775807) :
    Calls Try.prog 67 #[.slice A n c, .int .i64 w] W fun e W' => ∃ B m d, e = .returned (.tuple #[.slice B m d, .bool (packOk l w)]) ∧ Keep [] W W' ∧ NewBys W W' B m d (packB l w) := by
  cases hok : packOk l w with
  | true => exact pack_prog_ok w W h hok
  | false => exact (pack_prog_no w W h hw hok).mono fun e W' ⟨he, hW⟩ => ⟨none, 0, 0, he, hW ▸ Keep.refl _ _, fun Y _ => by rw [packB_no hok]; exact Rd.nil_ Y W' 1⟩
theorem pack_ref {X : List Nat} {A : Option Addr} {n c : Nat} {l : List UInt64} (w : Int) (W : World) (h : U64s X W A n c l) (hw : -9223372036854775808 ≤ w ∧ w ≤ 9223372036854775807) :
    Calls Try.prog 74 #[.slice A n c, .int .i64 w] W fun e W' => ∃ B m d, e = .returned (.tuple #[.slice B m d, .bool (packOk l w)]) ∧ Keep [] W W' ∧ NewBys W W' B m d (packB l w) := by
  cases hok : packOk l w with
  | true => exact pack_ref_ok w W h hok
  | false => exact (pack_ref_no w W h hw hok).mono fun e W' ⟨he, hW⟩ => ⟨none, 0, 0, he, hW ▸ Keep.refl _ _, fun Y _ => by rw [packB_no hok]; exact Rd.nil_ Y W' 1⟩
theorem unpack_prog_any {X : List Nat} {A : Option Addr} {m c : Nat} {b : List UInt8} (w n : Int) (W : World) (h : Bys X W A m c b) (hw : -9223372036854775808 ≤ w ∧ w ≤ 9223372036854775807) (hn : -9223372036854775808 ≤ n ∧ n ≤ 9223372036854775807) :
    Calls Try.prog 95 #[.slice A m c, .int .i64 w, .int .i64 n] W fun e W' => ∃ B k d, e = .returned (.tuple #[.slice B k d, .bool (unpackOk b w n)]) ∧ Keep [] W W' ∧ NewU64s W W' B k d (unpackL b w n) := by
  by_cases hsz : 0 ≤ w ∧ w ≤ 64 ∧ 0 ≤ n ∧ n ≤ 65536 ∧ b.length = sizeOf' w.toNat n.toNat
  · exact unpack_prog w n W h hw hn hsz
  · have hno := (unpack_no_size hsz).1
    exact (unpack_prog_no w n W h hw hn hsz).mono fun e W' ⟨he, hk⟩ => ⟨none, 0, 0, by rw [hno]; exact he, hk, fun Y _ => by rw [unpackL_no hno]; exact Rd.nil_ Y W' 1⟩
theorem unpack_ref_any {X : List Nat} {A : Option Addr} {m c : Nat} {b : List UInt8} (w n : Int) (W : World) (h : Bys X W A m c b) (hw : -9223372036854775808 ≤ w ∧ w ≤ 9223372036854775807) (hn : -9223372036854775808 ≤ n ∧ n ≤ 9223372036854775807) :
    Calls Try.prog 98 #[.slice A m c, .int .i64 w, .int .i64 n] W fun e W' => ∃ B k d, e = .returned (.tuple #[.slice B k d, .bool (unpackOk b w n)]) ∧ Keep [] W W' ∧ NewU64s W W' B k d (unpackL b w n) := by
  by_cases hsz : 0 ≤ w ∧ w ≤ 64 ∧ 0 ≤ n ∧ n ≤ 65536 ∧ b.length = sizeOf' w.toNat n.toNat
  · exact unpack_ref w n W h hw hn hsz
  · have hno := (unpack_no_size hsz).1
    exact (unpack_ref_no w n W h hw hn hsz).mono fun e W' ⟨he, hk⟩ => ⟨none, 0, 0, by rw [hno]; exact he, hk, fun Y _ => by rw [unpackL_no hno]; exact Rd.nil_ Y W' 1⟩
/-- 'string(b)', by the program's types. -/
theorem str_run {X : List Nat} {w : World} {A : Option Addr} {n c : Nat} {l : List UInt8} (h : Bys X w A n c l) : (convert 28 9 (.slice A n c)).run Try.prog w = .ok (.string ⟨l.toArray⟩) w :=
  run_str h 28 9 5 Try.underlying28 Try.underlying5 Try.underlying9
end Go.Proofs.Ytcpimhefclfbaaa
