/-
  The walks of bitpack's and its reference's functions, part 5: Unpack.
-/
import Derived.Test.YtphgfhghbpndaaaBp4
namespace Go.Proofs.Ytphgfhghbpndaaa
open Go Go.RowKit
set_option linter.unusedVariables false
set_option linter.unusedSimpArgs false

theorem bit_val (x i : Nat) : (((x : Int) / 2 ^ i) % 2 : Int) = ((x.testBit i).toNat : Int) := by
  have e : ((x : Int) / 2 ^ i) = ((x / 2 ^ i : Nat) : Int) := by simp
  rw [e, Nat.testBit_eq_decide_div_mod_eq]
  generalize x / 2 ^ i = m
  by_cases h : m % 2 = 1
  · simp [h]; omega
  · simp [h]; omega
theorem and_one_u8 (x : Nat) (h : x < 256) : bits .and .u8 (x : Int) 1 = ((x % 2 : Nat) : Int) := by
  have := bits_and_u8 x 1 h (by omega)
  rw [Nat.and_one_is_mod] at this
  exact this

set_option maxHeartbeats 400000 in
theorem bit_prog {X : List Nat} {A : Option Addr} {n c : Nat} {b : List UInt8} (q : Nat) (g : Nat) (W : World) (h : Bys X W A n c b) (hg : W.cell? ⟨g, 0, none⟩ = some (.slice A n c)) (hq : q < 8 * b.length) (hq2 : q ≤ 9223372036854775807) :
    Calls Try.prog 58 #[.int .i64 q, .pointer (some ⟨g, 0, none⟩)] W fun e W' => e = .returned (.int .u64 (((num b).testBit q).toNat : Int)) ∧ W = W' := by
  have hn := h.len1
  have hc := h.cap
  have hnc := h.le
  obtain rfl := hn
  obtain ⟨bb, off, rfl, _, _, hcell⟩ := h.one (k := q / 8) (by omega)
  have hfin := Lib.hid (num_at b q hq)
  generalize b[q / 8] = y at hcell hfin
  unfold vU8 at hcell
  have hy := y.toNat_lt
  have hfin2 : Hid (IntKind.u64.wrap (bits BinOp.and IntKind.u8 ((y.toNat : Int) / 2 ^ (q % 8)) 1) = (((num b).testBit q).toNat : Int)) := by
    have e : ((y.toNat : Int) / 2 ^ (q % 8)) = ((y.toNat / 2 ^ (q % 8) : Nat) : Int) := by simp
    have hle := Nat.div_le_self y.toNat (2 ^ (q % 8))
    unfold Hid
    rw [e, and_one_u8 _ (by omega), IntWalk.u64_in _ (by omega), hfin.out, Nat.testBit_eq_decide_div_mod_eq]
    generalize y.toNat / 2 ^ (q % 8) = m
    by_cases h : m % 2 = 1
    · simp [h]
    · simp [h]; omega
  go_enter Try.func58, Try.ntmps58
  go_wp2
  go_ret
  exact ⟨ret_i hfin2.out, rfl⟩

theorem unpackOk_iff {b : List UInt8} {w n : Int} : unpackOk b w n = true ↔ 0 ≤ w ∧ w ≤ 64 ∧ 0 ≤ n ∧ n ≤ 65536 ∧ b.length = sizeOf' w.toNat n.toNat ∧ num b < 2 ^ (w.toNat * n.toNat) := by simp [unpackOk]

/-- bits of value 0 from w * n on -/
theorem bits_tail {b : List UInt8} {m q : Nat} (hq : m ≤ q) (h : num b % 2 ^ q < 2 ^ m) (hb : (num b).testBit q = false) : num b % 2 ^ (q + 1) < 2 ^ m := by
  have : num b % 2 ^ (q + 1) = num b % 2 ^ q := by
    refine Nat.eq_of_testBit_eq fun i => ?_
    rw [Nat.testBit_mod_two_pow, Nat.testBit_mod_two_pow]
    by_cases hi : i = q
    · subst hi; rw [hb]; simp
    · congr 1
      simp only [decide_eq_decide]
      omega
  rw [this]; exact h

set_option maxHeartbeats 2000000 in
theorem unpack_prog {X : List Nat} {A : Option Addr} {m c : Nat} {b : List UInt8} (w n : Int) (W : World) (h : Bys X W A m c b) (hw : -9223372036854775808 ≤ w ∧ w ≤ 9223372036854775807) (hn' : -9223372036854775808 ≤ n ∧ n ≤ 9223372036854775807)
    (hsz : 0 ≤ w ∧ w ≤ 64 ∧ 0 ≤ n ∧ n ≤ 65536 ∧ b.length = sizeOf' w.toNat n.toNat) :
    Calls Try.prog 51 #[.slice A m c, .int .i64 w, .int .i64 n] W fun e W' => ∃ B k d, e = .returned (.tuple #[.slice B k d, .bool (unpackOk b w n)]) ∧ Keep [] W W' ∧ (∀ Y : List Nat, (∀ b ∈ Y, b < W.heap.size) → U64s Y W' B k d (unpackL b w n)) := by
  have hn := h.len1
  have hc := h.cap
  have hnc := h.le
  obtain rfl := hn
  obtain ⟨h0, h1, h2, h3, h4⟩ := hsz
  obtain ⟨w, rfl⟩ : ∃ k : Nat, w = k := ⟨w.toNat, by omega⟩
  obtain ⟨n, rfl⟩ : ∃ k : Nat, n = k := ⟨n.toNat, by omega⟩
  simp only [Int.toNat_natCast] at h4
  have hbl := Lib.hid (bytesLen_nat (w := (w : Int)) (n := (n : Int)) ⟨by omega, by omega, by omega, by omega⟩)
  simp only [Int.toNat_natCast] at hbl
  rw [← h4] at hbl
  have hsz := size_mul w n
  rw [← h4] at hsz
  replace h4 : Hid _ := Lib.hid h4
  have hwn : w * n ≤ 64 * 65536 := Nat.mul_le_mul (by omega) (by omega)
  obtain ⟨M, hM⟩ : ∃ M : Nat, (w : Int) * (n : Int) = (M : Int) := ⟨w * n, by push_cast; rfl⟩
  have hM' : M = w * n := by have : (w : Int) * (n : Int) = ((w * n : Nat) : Int) := by push_cast; rfl
                             omega
  rw [← hM'] at hsz hwn
  replace hM' : Hid _ := Lib.hid hM'
  obtain ⟨i0, hi, hz0, hz1, hz2⟩ := info_parts Try.infoU64
  have HP : ∃ v : Bool, Hid (v = unpackOk b w n) := ⟨_, rfl⟩
  obtain ⟨v, HP⟩ := HP
  rw [← HP.out]
  go_enter Try.func51, Try.ntmps51
  go_wp2_with fail
  refine (bytes_prog _ _ _ (by omega) (by omega)).mono ?_
  rintro e w' ⟨rfl, rfl⟩
  rw [hbl.out]
  have hne : ((b.length : Int) != (b.length : Int)) = false := by simp
  go_wp2_with (first | (at_make; refine wpList_make_full _ rfl _ _ 22 rfl (W.heap.size + 1) 34 i0 (.int .u64 0) 1 Try.underlying22 hi hz0 hz1 _ _ _ _ n rfl rfl rfl rfl (by rw [hz2]; omega) (by unfold maxLen; omega) (by simp) ?_))
  intro w1 hown hgr
  have hk0 : Keep [] (W.alloc (.cells #[.slice A b.length c] 24)) w1 := (Keep.refl [] _).grown hgr (by simp)
  have hk1 : Keep [] W w1 := ((Keep.refl [] W).alloc _).trans hk0
  have hbox1 : Blk w1 W.heap.size 24 [.slice A b.length c] := (Blk.new W _ [.slice A b.length c]).keep hk0 (by simp)
  have hb1 : Blk w1 (W.heap.size + 1) 34 ((unpP (num b) w n (w * 0)).map vU64) := by
    have := blk_of_own (w := W.alloc (.cells #[.slice A b.length c] 24)) (by simpa using hown)
    rw [Nat.mul_zero, unpP_zero, List.map_replicate]
    simpa [toList_madeCells_one, vU64] using this
  clear hown hgr hk0
  obtain ⟨G, hG⟩ : ∃ G, Hid (G = W.heap.size + 1) := ⟨_, rfl⟩
  rw [← hG.out] at hb1 ⊢
  go_wp2
  go_loopw [29] (fun i wr => ∃ k : Nat, k ≤ n ∧ i = .int .i64 k ∧ Blk wr G 34 ((unpP (num b) w n (w * k)).map vU64) ∧ Blk wr W.heap.size 24 [.slice A b.length c] ∧ Keep [] W wr) (fun i _ => n - (intOf i).toNat)
  case atStart => exact ⟨0, by omega, rfl, hb1, hbox1, hk1⟩
  case round =>
    obtain ⟨k, hk, rfl, hb, hbox, hkeep⟩ := hrel
    by_cases hlt : k < n
    · have HM : Hid (w * k + w ≤ M) := by
        have : w * (k + 1) ≤ w * n := Nat.mul_le_mul_left _ hlt
        rw [Nat.mul_add] at this
        have := hM'.out
        unfold Hid; omega
      go_wp2
      obtain ⟨wo, rfl⟩ : ∃ wo : World, wo = wr := ⟨_, rfl⟩
      go_loopw [33] (fun i wr => ∃ t : Nat, t ≤ w ∧ i = .int .i64 t ∧ Blk wr G 34 ((unpP (num b) w n (w * k + t)).map vU64) ∧ Blk wr W.heap.size 24 [.slice A b.length c] ∧ Keep [] W wr) (fun i _ => w - (intOf i).toNat)
      case atStart => exact ⟨0, by omega, rfl, hb, hbox, hkeep⟩
      case round =>
        obtain ⟨t, ht, rfl, hb', hbox', hkeep'⟩ := hrel
        by_cases htw : t < w
        · obtain ⟨q, hq⟩ : ∃ q : Nat, (k : Int) * (w : Int) + (t : Int) = (q : Int) := ⟨k * w + t, by push_cast; rfl⟩
          have hkw : (k : Int) * (w : Int) = ((w * k : Nat) : Int) := by rw [Nat.mul_comm]; push_cast; rfl
          have hq' : Hid (q = w * k + t) := by unfold Hid; omega
          have hm1 : 0 ≤ (k : Int) * (w : Int) ∧ (k : Int) * (w : Int) ≤ 64 * 65536 := by have := HM.out; omega
          clear hkw
          have hqM : q < M := by have := HM.out; have := hq'.out; omega
          have hqk : Hid (q / w = k ∧ q % w = t) := by
            rw [hq'.out]
            exact ⟨by rw [Nat.mul_add_div (by omega), Nat.div_eq_of_lt htw]; rfl, by rw [Nat.mul_add_mod, Nat.mod_eq_of_lt htw]⟩
          rw [← hq'.out] at hb'
          obtain ⟨old, hold⟩ : ∃ old, Hid ((unpP (num b) w n q)[q / w]? = some old) := ⟨_, List.getElem?_eq_getElem (by rw [hqk.out.1]; simpa using hlt)⟩
          have hout := hb'.cell k
          rw [List.getElem?_map, ← hqk.out.1, hold.out, Option.map_some, vU64, hqk.out.1] at hout
          have hfr := hb'.frozen k
          have hwr1 : IntKind.i64.wrap ((k : Int) * (w : Int)) = (k : Int) * (w : Int) := IntWalk.i64_in _ (by omega)
          go_wp2
          refine wp_region_still_tail 15 (by kernel_rfl) (by kernel_rfl) ?_
          simp only [List.take_succ_cons, List.take_zero, List.drop_succ_cons, List.drop_zero]
          repeat (refine still_plain rfl rfl ?_; intro K hK; go_wp2)
          have hkd : Keep [] W wr.drew := hkeep'.drew
          refine still_call (f := 58) (args := #[.int .i64 (q : Int), .pointer (some ⟨W.heap.size, 0, none⟩)]) (v := .int .u64 (((num b).testBit q).toNat : Int)) rfl (by go_simp) (bit_prog q W.heap.size _ (h.pure hkd) (hbox'.drew.cell 0) (by omega) (by omega)) ?_
          simp only [Act.put, List.setIfInBounds_toArray, List.set_cons_succ, List.set_cons_zero]
          repeat (refine still_plain rfl rfl ?_; intro K hK; go_wp2)
          refine wpStill_nil ?_
          go_wp2
          go_roundw
          case rel =>
            have hw64 : w ≤ 64 := by omega
            have hbit := Bool.toNat_le ((num b).testBit q)
            have hst := unpP_step (N := num b) (w := w) (n := n) hw64 (by have := hM'.out; omega) (UInt64.ofNat (old.toNat ||| (((num b).testBit q).toNat <<< t))) old hold.out
            rw [hqk.out.1, hqk.out.2] at hst
            generalize ((num b).testBit q).toNat = bit at *
            have hlt64 : bit * 2 ^ t < 2 ^ 64 := by
              have : bit * 2 ^ t ≤ 1 * 2 ^ t := Nat.mul_le_mul_right _ hbit
              have : 2 ^ t < 2 ^ 64 := Nat.pow_lt_pow_right (by omega) (by omega)
              omega
            have hval : bits BinOp.or IntKind.u64 (old.toNat : Int) (IntKind.u64.wrap ((bit : Int) * 2 ^ t)) = ((UInt64.ofNat (old.toNat ||| (bit <<< t))).toNat : Int) := by
              have e1 : ((bit : Int) * 2 ^ t) = ((bit * 2 ^ t : Nat) : Int) := by simp
              rw [e1, wrap_u64_nat, Nat.mod_eq_of_lt hlt64, bits_or_u64 _ _ old.toNat_lt hlt64, UInt64.toNat_ofNat', Nat.shiftLeft_eq, Nat.mod_eq_of_lt (Nat.or_lt_two_pow old.toNat_lt hlt64)]
            have hval2 : (UInt64.ofNat (old.toNat ||| (bit <<< t))).toNat = old.toNat ||| (bit <<< t) := by
              rw [UInt64.toNat_ofNat', Nat.mod_eq_of_lt]
              rw [Nat.shiftLeft_eq]
              exact Nat.or_lt_two_pow old.toNat_lt hlt64
            rw [hval]
            refine ⟨t + 1, by omega, by go_num, ?_, (hbox'.far (by have := hG.out; simp; omega) _).drew, (hkeep'.setCell (.inr (by have := hG.out; simp; omega)) _).drew⟩
            rw [← Nat.add_assoc, ← hq'.out, hst hval2, List.map_set]
            exact (hb'.set_ k _).drew
          case measure => simp [intOf]; omega
        · obtain rfl : t = w := by omega
          go_wp2
          go_roundw
          case rel => exact ⟨k + 1, by omega, by go_num, by rw [Nat.mul_add, Nat.mul_one]; exact hb', hbox', hkeep'⟩
          case measure => simp [intOf]; omega
    · obtain rfl : n = k := by omega
      rw [← hM'.out] at hb
      have hM64 : M ≤ 4194304 := by omega
      clear hlt hk
      go_wp2
      go_loop [13] (fun i => ∃ q : Nat, M ≤ q ∧ q ≤ 8 * b.length ∧ i = .int .i64 q ∧ Hid (num b % 2 ^ q < 2 ^ M)) (fun i => 8 * b.length - (intOf i).toNat)
      case atStart => exact ⟨M, by omega, by omega, rfl, Nat.mod_lt _ (Nat.pow_pos (by omega))⟩
      case round =>
        obtain ⟨q, hq1, hq2, rfl, HQ⟩ := hrel
        have hq4 : q ≤ 9223372036854775807 := by omega
        by_cases hq3 : q < 8 * b.length
        · have hc34 := bit_prog q W.heap.size wr (h.pure hkeep) (hbox.cell 0) hq3 hq4
          cases hbit : (num b).testBit q with
          | true =>
            have hv : Hid (v = false) := by
              rw [Hid, HP.out]
              refine Bool.eq_false_iff.2 fun hok => ?_
              have hlt := (unpackOk_iff.1 hok).2.2.2.2.2
              simp only [Int.toNat_natCast] at hlt
              rw [← hM'.out] at hlt
              have := Nat.testBit_lt_two_pow (Nat.lt_of_lt_of_le hlt (Nat.pow_le_pow_right (by omega) hq1))
              rw [this] at hbit
              cases hbit
            have hul : Hid (unpackL b w n = []) := by
              rw [Hid, unpackL_no]
              rw [← HP.out]
              exact hv.out
            rw [hbit] at hc34
            replace hc34 : Hid _ := Lib.hid hc34
            clear hbit
            go_wp2_with fail
            refine hc34.out.mono ?_
            rintro e w' ⟨rfl, rfl⟩
            go_wp2
            go_ret2
            refine ⟨none, 0, 0, by rw [hv.out]; rfl, hkeep, fun Y _ => ?_⟩
            rw [hul.out]
            exact Rd.nil_ Y wr 1
          | false =>
            have HQ2 : Hid (num b % 2 ^ (q + 1) < 2 ^ M) := bits_tail hq1 HQ.out hbit
            rw [hbit] at hc34
            replace hc34 : Hid _ := Lib.hid hc34
            clear hbit
            go_wp2_with fail
            refine hc34.out.mono ?_
            rintro e w' ⟨rfl, rfl⟩
            go_wp2
            go_round
            case rel => exact ⟨q + 1, by omega, by omega, by go_num, HQ2⟩
            case measure => simp [intOf]; omega
        · obtain rfl : q = 8 * b.length := by omega
          have hok : unpackOk b w n = true := by
            refine unpackOk_iff.2 ⟨by omega, by omega, by omega, by omega, by simpa using h4.out, ?_⟩
            have := HQ.out
            rw [Nat.mod_eq_of_lt (num_lt b)] at this
            simp only [Int.toNat_natCast]
            rw [← hM'.out]
            exact this
          have hv : Hid (v = true) := by rw [Hid, HP.out]; exact hok
          have hul : Hid (unpackL b w n = unpP (num b) w n M) := by
            rw [Hid, unpackL, if_pos hok]
            simp only [Int.toNat_natCast]
            rw [← hM'.out]
          clear hok
          go_wp2
          go_ret2
          refine ⟨some ⟨G, 0, none⟩, n, n, by rw [hv.out]; rfl, hkeep, fun Y hY => ?_⟩
          rw [hul.out]
          exact hb.rd (fun hm => by have := hY _ hm; have := hG.out; omega) (by simp) (Nat.le_refl _) (by unfold maxLen; omega) (by rw [List.take_of_length_le (by simp)])

/-- where the size does not fit -/
theorem unpack_no_size {b : List UInt8} {w n : Int} (h : ¬ (0 ≤ w ∧ w ≤ 64 ∧ 0 ≤ n ∧ n ≤ 65536 ∧ b.length = sizeOf' w.toNat n.toNat)) : unpackOk b w n = false ∧ (bytesLen w n < 0 ∨ bytesLen w n ≠ b.length) := by
  refine ⟨Bool.eq_false_iff.2 fun hok => h ?_, ?_⟩
  · obtain ⟨h0, h1, h2, h3, h4, _⟩ := unpackOk_iff.1 hok
    exact ⟨h0, h1, h2, h3, h4⟩
  · by_cases hb : 0 ≤ w ∧ w ≤ 64 ∧ 0 ≤ n ∧ n ≤ 65536
    · rw [bytesLen_nat hb]
      exact .inr fun e => h ⟨hb.1, hb.2.1, hb.2.2.1, hb.2.2.2, by omega⟩
    · left
      unfold bytesLen
      rw [if_pos (by omega)]
      omega
theorem bytesLen_range (w n : Int) : -1 ≤ bytesLen w n ∧ bytesLen w n ≤ 9223372036854775807 := by
  by_cases hb : 0 ≤ w ∧ w ≤ 64 ∧ 0 ≤ n ∧ n ≤ 65536
  · rw [bytesLen_nat hb]
    have : w.toNat * n.toNat ≤ 64 * 65536 := Nat.mul_le_mul (by omega) (by omega)
    unfold sizeOf'
    omega
  · unfold bytesLen
    rw [if_pos (by omega)]
    omega

set_option maxHeartbeats 1000000 in
theorem unpack_prog_no {X : List Nat} {A : Option Addr} {m c : Nat} {b : List UInt8} (w n : Int) (W : World) (h : Bys X W A m c b) (hw : -9223372036854775808 ≤ w ∧ w ≤ 9223372036854775807) (hn' : -9223372036854775808 ≤ n ∧ n ≤ 9223372036854775807)
    (hsz : ¬ (0 ≤ w ∧ w ≤ 64 ∧ 0 ≤ n ∧ n ≤ 65536 ∧ b.length = sizeOf' w.toNat n.toNat)) :
    Calls Try.prog 51 #[.slice A m c, .int .i64 w, .int .i64 n] W fun e W' => e = .returned (.tuple #[.slice none 0 0, .bool false]) ∧ Keep [] W W' := by
  have hn := h.len1
  have hc := h.cap
  have hnc := h.le
  obtain rfl := hn
  have hbl := (unpack_no_size hsz).2
  have hbr := bytesLen_range w n
  obtain ⟨S, hS⟩ : ∃ S, Hid (bytesLen w n = S) := ⟨_, rfl⟩
  rw [hS.out] at hbl hbr
  clear hsz
  by_cases h0 : S < 0
  · clear hbl
    go_enter Try.func51, Try.ntmps51
    go_wp2_with fail
    refine (bytes_prog _ _ _ (by omega) (by omega)).mono ?_
    rintro e w' ⟨rfl, rfl⟩
    rw [hS.out]
    go_wp2
    go_ret2
    exact ⟨rfl, (Keep.refl _ _).alloc _⟩
  · have hne : (S != (b.length : Int)) = true := by rw [bne_iff_ne]; omega
    clear hbl
    go_enter Try.func51, Try.ntmps51
    go_wp2_with fail
    refine (bytes_prog _ _ _ (by omega) (by omega)).mono ?_
    rintro e w' ⟨rfl, rfl⟩
    rw [hS.out]
    go_wp2
    go_ret2
    exact ⟨rfl, (Keep.refl _ _).alloc _⟩
end Go.Proofs.Ytphgfhghbpndaaa
