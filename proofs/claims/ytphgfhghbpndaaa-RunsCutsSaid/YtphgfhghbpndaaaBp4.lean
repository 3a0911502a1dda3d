/-
  The walks of bitpack's and its reference's functions, part 4: Pack where there is none; the reference's Pack.
-/
import Derived.Test.YtphgfhghbpndaaaBp3
namespace Go.Proofs.Ytphgfhghbpndaaa
open Go Go.RowKit
set_option linter.unusedVariables false
set_option linter.unusedSimpArgs false

set_option maxHeartbeats 1000000 in
theorem pack_prog_no {X : List Nat} {A : Option Addr} {n c : Nat} {l : List UInt64} (w : Int) (W : World) (h : U64s X W A n c l) (hw : -9223372036854775808 ≤ w ∧ w ≤ 9223372036854775807) (hok : packOk l w = false) :
    Calls Try.prog 21 #[.slice A n c, .int .i64 w] W fun e W' => e = .returned (.tuple #[.slice none 0 0, .bool false]) ∧ W = W' := by
  have hn := h.len1
  have hc := h.cap
  have hnc := h.le
  obtain rfl := hn
  by_cases hb : 0 ≤ w ∧ w ≤ 64 ∧ l.length ≤ 65536
  · have hbl := Lib.hid (bytesLen_nat (w := (w : Int)) (n := (l.length : Int)) ⟨by omega, by omega, by omega, by omega⟩)
    have hlt : w < width l := by simp [packOk] at hok; omega
    generalize (sizeOf' w.toNat ((l.length : Int).toNat)) = S at hbl
    go_enter Try.func21, Try.ntmps21
    go_wp2_with fail
    refine (bytes_prog _ _ _ (by omega) (by omega)).mono ?_
    rintro e w' ⟨rfl, rfl⟩
    rw [hbl.out]
    go_wp2_with fail
    refine (width_prog _ h).mono ?_
    rintro e w' ⟨rfl, rfl⟩
    go_wp2
    go_ret2
    exact ⟨rfl, rfl⟩
  · have hbl : Hid (bytesLen w l.length = -1) := by unfold bytesLen Hid; rw [if_pos (by omega)]
    go_enter Try.func21, Try.ntmps21
    go_wp2_with fail
    refine (bytes_prog _ _ _ (by omega) (by omega)).mono ?_
    rintro e w' ⟨rfl, rfl⟩
    rw [hbl.out]
    go_wp2
    go_ret2
    exact ⟨rfl, rfl⟩

set_option maxHeartbeats 1000000 in
theorem pack_ref_no {X : List Nat} {A : Option Addr} {n c : Nat} {l : List UInt64} (w : Int) (W : World) (h : U64s X W A n c l) (hw : -9223372036854775808 ≤ w ∧ w ≤ 9223372036854775807) (hok : packOk l w = false) :
    Calls Try.prog 25 #[.slice A n c, .int .i64 w] W fun e W' => e = .returned (.tuple #[.slice none 0 0, .bool false]) ∧ W = W' := by
  have hn := h.len1
  have hc := h.cap
  have hnc := h.le
  obtain rfl := hn
  by_cases hb : 0 ≤ w ∧ w ≤ 64 ∧ l.length ≤ 65536
  · have hbl := Lib.hid (bytesLen_nat (w := (w : Int)) (n := (l.length : Int)) ⟨by omega, by omega, by omega, by omega⟩)
    have hlt : w < width l := by simp [packOk] at hok; omega
    generalize (sizeOf' w.toNat ((l.length : Int).toNat)) = S at hbl
    go_enter Try.func25, Try.ntmps25
    go_wp2_with fail
    refine (bytes_ref _ _ _ (by omega) (by omega)).mono ?_
    rintro e w' ⟨rfl, rfl⟩
    rw [hbl.out]
    go_wp2_with fail
    refine (width_ref _ h).mono ?_
    rintro e w' ⟨rfl, rfl⟩
    go_wp2
    go_ret2
    exact ⟨rfl, rfl⟩
  · have hbl : Hid (bytesLen w l.length = -1) := by unfold bytesLen Hid; rw [if_pos (by omega)]
    go_enter Try.func25, Try.ntmps25
    go_wp2_with fail
    refine (bytes_ref _ _ _ (by omega) (by omega)).mono ?_
    rintro e w' ⟨rfl, rfl⟩
    rw [hbl.out]
    go_wp2
    go_ret2
    exact ⟨rfl, rfl⟩

set_option maxHeartbeats 1000000 in
theorem pack_ref_ok {X : List Nat} {A : Option Addr} {n c : Nat} {l : List UInt64} (w : Int) (W : World) (h : U64s X W A n c l) (hok : packOk l w = true) :
    Calls Try.prog 25 #[.slice A n c, .int .i64 w] W fun e W' => ∃ B m d, e = .returned (.tuple #[.slice B m d, .bool true]) ∧ Keep [] W W' ∧ (∀ Y : List Nat, (∀ b ∈ Y, b < W.heap.size) → Bys Y W' B m d (packB l w)) := by
  have hn := h.len1
  have hc := h.cap
  have hnc := h.le
  obtain rfl := hn
  obtain ⟨h0, h1, h2, h3⟩ := packOk_iff.1 hok
  obtain ⟨w, rfl⟩ : ∃ k : Nat, w = k := ⟨w.toNat, by omega⟩
  have hfit := Lib.hid ((width_le_iff l w).1 (by omega))
  have hbl := Lib.hid (bytesLen_nat (w := (w : Int)) (n := (l.length : Int)) ⟨by omega, by omega, by omega, by omega⟩)
  simp only [Int.toNat_natCast] at hbl
  have hsz := size_mul w l.length
  have hwn : w * l.length ≤ 64 * 65536 := Nat.mul_le_mul (by omega) h2
  obtain ⟨S, hS⟩ : ∃ S, Hid (sizeOf' w l.length = S) := ⟨_, rfl⟩
  rw [hS.out] at hbl hsz
  obtain ⟨i0, hi, hz0, hz1, hz2⟩ := info_parts Try.infoU8
  go_enter Try.func25, Try.ntmps25
  go_wp2_with fail
  refine (bytes_ref _ _ _ (by omega) (by omega)).mono ?_
  rintro e w' ⟨rfl, rfl⟩
  rw [hbl.out]
  go_wp2_with fail
  refine (width_ref _ h).mono ?_
  rintro e w' ⟨rfl, rfl⟩
  go_wp2_with (first | (at_make; refine wpList_make_full _ rfl _ _ 24 rfl W.heap.size 5 i0 (.int .u8 0) 1 Try.underlying24 hi hz0 hz1 _ _ _ _ S rfl rfl rfl rfl (by rw [hz2]; omega) (by unfold maxLen; omega) (Nat.le_refl _) ?_))
  intro w1 hown hgr
  have hk1 : Keep [] W w1 := (Keep.refl [] W).grown hgr (by simp)
  have hb1 : Blk w1 W.heap.size 5 ((toBytes (packN l w % 2 ^ (w * 0)) S).map vU8) := by
    have := blk_of_own hown
    rw [Nat.mul_zero, bytes_zero, List.map_replicate]
    simpa [toList_madeCells_one, vU8] using this
  clear hown hgr
  go_wp2
  go_loopw [8, 9, 10] (fun i j a wr => ∃ k : Nat, k ≤ l.length ∧ i = .int .i64 k ∧ Blk wr W.heap.size 5 ((toBytes (packN l w % 2 ^ (w * k)) S).map vU8) ∧ Keep [] W wr) (fun i _ _ _ => l.length - (intOf i).toNat)
  case atStart => exact ⟨0, by omega, rfl, by simpa using hb1, hk1⟩
  case round =>
    obtain ⟨k, hk, rfl, hb, hkeep⟩ := hrel
    by_cases hlt : k < l.length
    · have HM : Hid (w * k + w ≤ w * l.length) := by
        have : w * (k + 1) ≤ w * l.length := Nat.mul_le_mul_left _ hlt
        rw [Nat.mul_add] at this
        unfold Hid; omega
      have hwk : w * k ≤ 64 * 65536 := by have := HM.out; omega
      go_wp2
      obtain ⟨wo, rfl⟩ : ∃ wo : World, wo = wr := ⟨_, rfl⟩
      go_loopw [9, 10] (fun j a wr => ∃ t : Nat, t ≤ w ∧ j = .int .i64 t ∧ Blk wr W.heap.size 5 ((toBytes (packN l w % 2 ^ (w * k + t)) S).map vU8) ∧ Keep [] W wr) (fun j _ _ => w - (intOf j).toNat)
      case atStart => exact ⟨0, by omega, rfl, hb, hkeep⟩
      case round =>
        obtain ⟨t, ht, rfl, hb', hkeep'⟩ := hrel
        by_cases htw : t < w
        · obtain ⟨b, off, rfl, _, _, hcell⟩ := (h.pure hkeep').one hlt
          unfold vU64 at hcell
          obtain ⟨q, hq⟩ : ∃ q : Nat, (w : Int) * (k : Int) + (t : Int) = (q : Int) := ⟨w * k + t, by push_cast; rfl⟩
          have hq' : Hid (q = w * k + t) := by
            have : (w : Int) * (k : Int) = ((w * k : Nat) : Int) := by push_cast; rfl
            unfold Hid; omega
          have hm1 : 0 ≤ (w : Int) * (k : Int) := by have : (w : Int) * (k : Int) = ((w * k : Nat) : Int) := by push_cast; rfl
                                                     omega
          have hm2 : (w : Int) * (k : Int) ≤ 64 * 65536 := by have : (w : Int) * (k : Int) = ((w * k : Nat) : Int) := by push_cast; rfl
                                                              omega
          have hqS : q / 8 < S := by have := HM.out; have := hq'.out; omega
          rw [← hq'.out] at hb'
          have hget : q / 8 < (toBytes (packN l w % 2 ^ q) S).length := by simpa using hqS
          obtain ⟨old, hold⟩ : ∃ old, Hid ((toBytes (packN l w % 2 ^ q) S)[q / 8]? = some old) := ⟨_, List.getElem?_eq_getElem hget⟩
          have hout := hb'.cell (q / 8)
          rw [List.getElem?_map, hold.out, Option.map_some, vU8] at hout
          have hfr := hb'.frozen (q / 8)
          go_wp2
          · rename_i hbit
            go_roundw
            case rel =>
              rw [test_bit, ← packN_bit hfit.out htw hlt, ← hq'.out] at hbit
              have hst := bit_step hqS _ hold.out hbit
              have hbyte : bits BinOp.or IntKind.u8 (old.toNat : Int) (2 ^ (q % 8) % 256) = ((UInt8.ofNat (old.toNat ||| (2 ^ (q % 8) % 256))).toNat : Int) := by
                have e2 : (2 ^ (q % 8) % 256 : Int) = ((2 ^ (q % 8) % 256 : Nat) : Int) := by simp
                have l2 : 2 ^ (q % 8) % 256 < 256 := Nat.mod_lt _ (by omega)
                rw [e2, bits_or_u8 _ _ old.toNat_lt l2, UInt8.toNat_ofNat', Nat.mod_eq_of_lt (Nat.or_lt_two_pow (n := 8) old.toNat_lt l2)]
              rw [hbyte]
              refine ⟨t + 1, by omega, by go_num, ?_, hkeep'.setCell (.inr (Nat.le_refl _)) _⟩
              have := hb'.set_ (q / 8) (vU8 (UInt8.ofNat (old.toNat ||| (2 ^ (q % 8) % 256))))
              rw [← Nat.add_assoc, ← hq'.out, hst, List.map_set]
              exact this
            case measure => simp [intOf]; omega
          · rename_i hbit
            go_roundw
            case rel =>
              rw [test_bit, ← packN_bit hfit.out htw hlt] at hbit
              exact ⟨t + 1, by omega, by go_num, by rw [← Nat.add_assoc, bytes_same hbit, ← hq'.out]; exact hb', hkeep'⟩
            case measure => simp [intOf]; omega
        · obtain rfl : t = w := by omega
          go_wp2
          go_roundw
          case rel => exact ⟨k + 1, by omega, by go_num, by rw [Nat.mul_add, Nat.mul_one]; exact hb', hkeep'⟩
          case measure => simp [intOf]; omega
    · obtain rfl : k = l.length := by omega
      have hlt : packN l w < 2 ^ (w * l.length) := packN_lt hfit.out
      rw [Nat.mod_eq_of_lt hlt] at hb
      have hfin : packB l (w : Int) = toBytes (packN l w) S := by rw [packB, if_pos hok]; simp [hS.out]
      go_wp2
      go_ret2
      refine ⟨_, _, _, rfl, hkeep, fun Y hY => ?_⟩
      rw [hfin]
      exact hb.rd (fun hm => by have := hY _ hm; omega) (by simp) (Nat.le_refl _) (by unfold maxLen; omega) (by rw [List.take_of_length_le (by simp)])
end Go.Proofs.Ytphgfhghbpndaaa
