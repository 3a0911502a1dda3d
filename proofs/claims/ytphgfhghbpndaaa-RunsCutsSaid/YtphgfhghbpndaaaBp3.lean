/-
  The walks of bitpack's and its reference's functions, part 3: Pack.
-/
import Derived.Test.YtphgfhghbpndaaaBp2
import Derived.Test.YtphgfhghbpndaaaStep
namespace Go.Proofs.Ytphgfhghbpndaaa
open Go Go.RowKit
set_option linter.unusedVariables false
set_option linter.unusedSimpArgs false

theorem Try.infoU8 : (Try.prog.info? 5).map (fun i => (i.zero, i.size, i.bytes)) = some (some (.int .u8 0), 1, 1) := by kernel_rfl
theorem Try.infoU64 : (Try.prog.info? 34).map (fun i => (i.zero, i.size, i.bytes)) = some (some (.int .u64 0), 1, 8) := by kernel_rfl

set_option maxHeartbeats 1000000 in
theorem pack_prog_ok {X : List Nat} {A : Option Addr} {n c : Nat} {l : List UInt64} (w : Int) (W : World) (h : U64s X W A n c l) (hok : packOk l w = true) :
    Calls Try.prog 21 #[.slice A n c, .int .i64 w] W fun e W' => ∃ B m d, e = .returned (.tuple #[.slice B m d, .bool true]) ∧ Keep [] W W' ∧ (∀ Y : List Nat, (∀ b ∈ Y, b < W.heap.size) → Bys Y W' B m d (packB l w)) := by
  have hn := h.len1
  have hc := h.cap
  have hnc := h.le
  obtain rfl := hn
  obtain ⟨h0, h1, h2, h3⟩ := packOk_iff.1 hok
  obtain ⟨w, rfl⟩ : ∃ k : Nat, w = k := ⟨w.toNat, by omega⟩
  have hfit := Lib.hid ((width_le_iff l w).1 (by omega))
  have hbl := Lib.hid (bytesLen_nat (w := (w : Int)) (n := (l.length : Int)) ⟨by omega, by omega, by omega, by omega⟩)
  simp only [Int.toNat_natCast] at hbl
  have hsz := size_mul w l.length
  have hwn : w * l.length ≤ 64 * 65536 := Nat.mul_le_mul (by omega) h2
  obtain ⟨S, hS⟩ : ∃ S, Hid (sizeOf' w l.length = S) := ⟨_, rfl⟩
  rw [hS.out] at hbl hsz
  obtain ⟨i0, hi, hz0, hz1, hz2⟩ := info_parts Try.infoU8
  go_enter Try.func21, Try.ntmps21
  go_wp2_with fail
  refine (bytes_prog _ _ _ (by omega) (by omega)).mono ?_
  rintro e w' ⟨rfl, rfl⟩
  rw [hbl.out]
  go_wp2_with fail
  refine (width_prog _ h).mono ?_
  rintro e w' ⟨rfl, rfl⟩
  go_wp2_with (first | (at_make; refine wpList_make_full _ rfl _ _ 24 rfl W.heap.size 5 i0 (.int .u8 0) 1 Try.underlying24 hi hz0 hz1 _ _ _ _ S rfl rfl rfl rfl (by rw [hz2]; omega) (by unfold maxLen; omega) (Nat.le_refl _) ?_))
  intro w1 hown hgr
  have hk1 : Keep [] W w1 := (Keep.refl [] W).grown hgr (by simp)
  have hb1 : Blk w1 W.heap.size 5 ((toBytes (packN l w % 2 ^ (w * 0)) S).map vU8) := by
    have := blk_of_own hown
    rw [Nat.mul_zero, bytes_zero, List.map_replicate]
    simpa [toList_madeCells_one, vU8] using this
  clear hown hgr
  go_wp2
  go_loopw [8, 29] (fun a i wr => ∃ k p : Nat, k ≤ l.length ∧ p ≤ 8 * S ∧ i = .int .i64 k ∧ a = .int .i64 (p : Nat) ∧ Hid (p = w * k) ∧ Blk wr W.heap.size 5 ((toBytes (packN l w % 2 ^ p) S).map vU8) ∧ Keep [] W wr) (fun _ i _ => l.length - (intOf i).toNat)
  case atStart => exact ⟨0, 0, by omega, by omega, rfl, rfl, by simp [Hid], by simpa using hb1, hk1⟩
  case round =>
    obtain ⟨k, p, hk, hp8, rfl, rfl, HP, hb, hkeep⟩ := hrel
    by_cases hlt : k < l.length
    · obtain ⟨b, off, rfl, _, _, hcell⟩ := (h.pure hkeep).one hlt
      unfold vU64 at hcell
      have HM : Hid (w * k + w ≤ w * l.length) := by
        have : w * (k + 1) ≤ w * l.length := Nat.mul_le_mul_left _ hlt
        rw [Nat.mul_add] at this
        unfold Hid; omega
      go_wp2
      obtain ⟨wo, rfl⟩ : ∃ wo : World, wo = wr := ⟨_, rfl⟩
      go_loopw [8, 10, 11] (fun a m t wr => ∃ j p x : Nat, j ≤ w ∧ p ≤ 8 * S ∧ x < 18446744073709551616 ∧ t = .int .i64 j ∧ a = .int .i64 (p : Nat) ∧ m = .int .u64 (x : Nat) ∧ Hid (p = w * k + (w - j) ∧ x = l[k].toNat / 2 ^ (w - j)) ∧
        Blk wr W.heap.size 5 ((toBytes (packN l w % 2 ^ p) S).map vU8) ∧ Keep [] W wr) (fun _ _ t _ => (intOf t).toNat)
      case atStart => exact ⟨w, p, l[k].toNat, by omega, hp8, l[k].toNat_lt, by go_num, rfl, rfl, by have := HP.out; simp [Hid, this], hb, hkeep⟩
      case round =>
        obtain ⟨j, q, x, hj, hq8, hx, rfl, rfl, rfl, HQ, hb', hkeep'⟩ := hrel
        by_cases hj0 : 0 < j
        · have hqS : q / 8 < S := by have := HM.out; have := HQ.out.1; omega
          obtain ⟨s, hs⟩ : ∃ s : Nat, Hid (min (j : Int) (8 - (q : Int) % 8) = (s : Int)) := ⟨min j (8 - q % 8), by unfold Hid; omega⟩
          have hs1 : 0 < s ∧ s ≤ j ∧ s + q % 8 ≤ 8 := by have := hs.out; omega
          have hget : q / 8 < (toBytes (packN l w % 2 ^ q) S).length := by simpa using hqS
          have hout := hb'.cell (q / 8)
          rw [List.getElem?_map, List.getElem?_eq_getElem hget, Option.map_some, vU8] at hout
          have hfr := hb'.frozen (q / 8)
          go_wp2
          rw [hs.out]
          refine wp_region_still_tail 19 (by kernel_rfl) (by kernel_rfl) ?_
          simp only [List.take_succ_cons, List.take_zero, List.drop_succ_cons, List.drop_zero]
          repeat (refine still_plain rfl rfl ?_; intro K hK; go_wp2)
          refine wpStill_nil ?_
          go_wp2
          go_roundw
          case rel =>
            have hold : (toBytes (packN l w % 2 ^ q) S)[q / 8]? = some (toBytes (packN l w % 2 ^ q) S)[q / 8] := List.getElem?_eq_getElem hget
            have hst := pack_step hfit.out hlt hj HQ.out.1 HQ.out.2 hs1 hqS _ hold
            generalize (toBytes (packN l w % 2 ^ q) S)[q / 8] = old at *
            have hbyte : bits BinOp.or IntKind.u8 (old.toNat : Int) (bits BinOp.and IntKind.u8 (IntKind.u64.wrap ((x : Int) * 2 ^ (q % 8)) % 256) (255 / 2 ^ (8 - s - q % 8))) =
                ((UInt8.ofNat (old.toNat ||| ((x * 2 ^ (q % 8) % 2 ^ 64 % 256) &&& (255 / 2 ^ (8 - s - q % 8))))).toNat : Int) := by
              have e1 : ((x : Int) * 2 ^ (q % 8)) = ((x * 2 ^ (q % 8) : Nat) : Int) := by simp
              have e2 : (255 / 2 ^ (8 - s - q % 8) : Int) = ((255 / 2 ^ (8 - s - q % 8) : Nat) : Int) := by simp
              have l2 : 255 / 2 ^ (8 - s - q % 8) < 256 := Nat.lt_of_le_of_lt (Nat.div_le_self _ _) (by omega)
              have l3 : (x * 2 ^ (q % 8) % 2 ^ 64 % 256) &&& (255 / 2 ^ (8 - s - q % 8)) < 256 := Nat.and_lt_two_pow (n := 8) _ l2
              rw [e1, wrap_u64_nat, e2, show ((x * 2 ^ (q % 8) % 2 ^ 64 : Nat) : Int) % 256 = ((x * 2 ^ (q % 8) % 2 ^ 64 % 256 : Nat) : Int) from by omega, bits_and_u8 _ _ (by omega) l2, bits_or_u8 _ _ old.toNat_lt l3,
                UInt8.toNat_ofNat', Nat.mod_eq_of_lt (Nat.or_lt_two_pow (n := 8) old.toNat_lt l3)]
            rw [hbyte]
            refine ⟨j - s, q + s, x / 2 ^ s, by omega, by have := HM.out; have := HQ.out.1; omega, Nat.lt_of_le_of_lt (Nat.div_le_self _ _) hx, by go_num, by go_num, by simp, ⟨by have := HQ.out.1; omega, ?_⟩, ?_, (hkeep'.setCell (.inr (Nat.le_refl _)) _).drew⟩
            · rw [HQ.out.2, Nat.div_div_eq_div_mul, ← Nat.pow_add]
              congr 2
              omega
            · have := (hb'.set_ (q / 8) (vU8 (UInt8.ofNat (old.toNat ||| ((x * 2 ^ (q % 8) % 2 ^ 64 % 256) &&& (255 / 2 ^ (8 - s - q % 8))))))).drew
              rw [hst, List.map_set]
              exact this
          case measure => simp [intOf]; omega
        · obtain rfl : j = 0 := by omega
          go_wp2
          go_roundw
          case rel => exact ⟨k + 1, q, by omega, by omega, by go_num, by go_num, by have := HQ.out.1; unfold Hid; rw [Nat.mul_add]; omega, hb', hkeep'⟩
          case measure => simp [intOf]; omega
    · obtain rfl : k = l.length := by omega
      have hlt : packN l w < 2 ^ p := by rw [HP.out]; exact packN_lt hfit.out
      rw [Nat.mod_eq_of_lt hlt] at hb
      have hfin : packB l (w : Int) = toBytes (packN l w) S := by rw [packB, if_pos hok]; simp [hS.out]
      go_wp2
      go_ret2
      refine ⟨_, _, _, rfl, hkeep, fun Y hY => ?_⟩
      rw [hfin]
      exact hb.rd (fun hm => by have := hY _ hm; omega) (by simp) (Nat.le_refl _) (by unfold maxLen; omega) (by rw [List.take_of_length_le (by simp)])
end Go.Proofs.Ytphgfhghbpndaaa
