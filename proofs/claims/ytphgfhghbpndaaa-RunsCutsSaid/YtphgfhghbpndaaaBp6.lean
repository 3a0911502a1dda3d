/-
  The walks of bitpack's and its reference's functions, part 6: the reference's Unpack; contracts for every input.
-/
import Derived.Test.YtphgfhghbpndaaaBp5
namespace Go.Proofs.Ytphgfhghbpndaaa
open Go Go.RowKit
set_option linter.unusedVariables false
set_option linter.unusedSimpArgs false

set_option maxHeartbeats 1000000 in
theorem unpack_ref_no {X : List Nat} {A : Option Addr} {m c : Nat} {b : List UInt8} (w n : Int) (W : World) (h : Bys X W A m c b) (hw : -9223372036854775808 ≤ w ∧ w ≤ 9223372036854775807) (hn' : -9223372036854775808 ≤ n ∧ n ≤ 9223372036854775807)
    (hsz : ¬ (0 ≤ w ∧ w ≤ 64 ∧ 0 ≤ n ∧ n ≤ 65536 ∧ b.length = sizeOf' w.toNat n.toNat)) :
    Calls Try.prog 39 #[.slice A m c, .int .i64 w, .int .i64 n] W fun e W' => e = .returned (.tuple #[.slice none 0 0, .bool false]) ∧ Keep [] W W' := by
  have hn := h.len1
  have hc := h.cap
  have hnc := h.le
  obtain rfl := hn
  have hbl := (unpack_no_size hsz).2
  have hbr := bytesLen_range w n
  obtain ⟨S, hS⟩ : ∃ S, Hid (bytesLen w n = S) := ⟨_, rfl⟩
  rw [hS.out] at hbl hbr
  clear hsz
  by_cases h0 : S < 0
  · clear hbl
    go_enter Try.func39, Try.ntmps39
    go_wp2_with fail
    refine (bytes_ref _ _ _ (by omega) (by omega)).mono ?_
    rintro e w' ⟨rfl, rfl⟩
    rw [hS.out]
    go_wp2
    go_ret2
    exact ⟨rfl, Keep.refl _ _⟩
  · have hne : (S != (b.length : Int)) = true := by rw [bne_iff_ne]; omega
    clear hbl
    go_enter Try.func39, Try.ntmps39
    go_wp2_with fail
    refine (bytes_ref _ _ _ (by omega) (by omega)).mono ?_
    rintro e w' ⟨rfl, rfl⟩
    rw [hS.out]
    go_wp2
    go_ret2
    exact ⟨rfl, Keep.refl _ _⟩

set_option maxHeartbeats 2000000 in
theorem unpack_ref {X : List Nat} {A : Option Addr} {m c : Nat} {b : List UInt8} (w n : Int) (W : World) (h : Bys X W A m c b) (hw : -9223372036854775808 ≤ w ∧ w ≤ 9223372036854775807) (hn' : -9223372036854775808 ≤ n ∧ n ≤ 9223372036854775807)
    (hsz : 0 ≤ w ∧ w ≤ 64 ∧ 0 ≤ n ∧ n ≤ 65536 ∧ b.length = sizeOf' w.toNat n.toNat) :
    Calls Try.prog 39 #[.slice A m c, .int .i64 w, .int .i64 n] W fun e W' => ∃ B k d, e = .returned (.tuple #[.slice B k d, .bool (unpackOk b w n)]) ∧ Keep [] W W' ∧ (∀ Y : List Nat, (∀ b ∈ Y, b < W.heap.size) → U64s Y W' B k d (unpackL b w n)) := by
  have hn := h.len1
  have hc := h.cap
  have hnc := h.le
  obtain rfl := hn
  obtain ⟨h0, h1, h2, h3, h4⟩ := hsz
  obtain ⟨w, rfl⟩ : ∃ k : Nat, w = k := ⟨w.toNat, by omega⟩
  obtain ⟨n, rfl⟩ : ∃ k : Nat, n = k := ⟨n.toNat, by omega⟩
  simp only [Int.toNat_natCast] at h4
  have hbl := Lib.hid (bytesLen_nat (w := (w : Int)) (n := (n : Int)) ⟨by omega, by omega, by omega, by omega⟩)
  simp only [Int.toNat_natCast] at hbl
  rw [← h4] at hbl
  have hsz := size_mul w n
  rw [← h4] at hsz
  replace h4 : Hid _ := Lib.hid h4
  have hwn : w * n ≤ 64 * 65536 := Nat.mul_le_mul (by omega) (by omega)
  obtain ⟨M, hM⟩ : ∃ M : Nat, (w : Int) * (n : Int) = (M : Int) := ⟨w * n, by push_cast; rfl⟩
  have hM' : M = w * n := by have : (w : Int) * (n : Int) = ((w * n : Nat) : Int) := by push_cast; rfl
                             omega
  rw [← hM'] at hsz hwn
  replace hM' : Hid _ := Lib.hid hM'
  obtain ⟨i0, hi, hz0, hz1, hz2⟩ := info_parts Try.infoU64
  have HP : ∃ v : Bool, Hid (v = unpackOk b w n) := ⟨_, rfl⟩
  obtain ⟨v, HP⟩ := HP
  rw [← HP.out]
  go_enter Try.func39, Try.ntmps39
  go_wp2_with fail
  refine (bytes_ref _ _ _ (by omega) (by omega)).mono ?_
  rintro e w' ⟨rfl, rfl⟩
  rw [hbl.out]
  have hne : ((b.length : Int) != (b.length : Int)) = false := by simp
  go_wp2_with (first | (at_make; refine wpList_make_full _ rfl _ _ 22 rfl W.heap.size 34 i0 (.int .u64 0) 1 Try.underlying22 hi hz0 hz1 _ _ _ _ n rfl rfl rfl rfl (by rw [hz2]; omega) (by unfold maxLen; omega) (by simp) ?_))
  intro w1 hown hgr
  have hk1 : Keep [] W w1 := (Keep.refl [] W).grown hgr (by simp)
  have hb1 : Blk w1 W.heap.size 34 ((unpP (num b) w n 0).map vU64) := by
    have := blk_of_own hown
    rw [unpP_zero, List.map_replicate]
    simpa [toList_madeCells_one, vU64] using this
  clear hown hgr
  go_wp2
  go_loopw [10] (fun i wr => ∃ q : Nat, q ≤ 8 * b.length ∧ i = .int .i64 q ∧ Hid (num b % 2 ^ q < 2 ^ M) ∧ Blk wr W.heap.size 34 ((unpP (num b) w n q).map vU64) ∧ Keep [] W wr) (fun i _ => 8 * b.length - (intOf i).toNat)
  case atStart => exact ⟨0, by omega, rfl, by simp [Hid, Nat.mod_one, Nat.pow_pos], hb1, hk1⟩
  case round =>
    obtain ⟨q, hq, rfl, HQ, hb, hkeep⟩ := hrel
    by_cases hlt : q < 8 * b.length
    · obtain ⟨bb, off, rfl, _, _, hcell⟩ := (h.pure hkeep).one (k := q / 8) (by omega)
      have hnb := Lib.hid (num_at b q hlt)
      generalize b[q / 8] = y at hcell hnb
      unfold vU8 at hcell
      have hy := y.toNat_lt
      have hdv : Hid (∃ d : Nat, d ≤ 255 ∧ (y.toNat : Int) / 2 ^ (q % 8) = (d : Int) ∧ d % 2 = ((num b).testBit q).toNat) := by
        refine ⟨y.toNat / 2 ^ (q % 8), by have := Nat.div_le_self y.toNat (2 ^ (q % 8)); omega, by simp, ?_⟩
        rw [hnb.out, Nat.testBit_eq_decide_div_mod_eq]
        generalize y.toNat / 2 ^ (q % 8) = m
        by_cases h : m % 2 = 1
        · simp [h]
        · simp [h]; omega
      obtain ⟨d, hd1, hd2, hd3⟩ := hdv.out
      by_cases hbt : (num b).testBit q = true
      · have hd4 : ((d : Int) % 2 == 1) = true := by rw [hbt] at hd3; simp at hd3 ⊢; omega
        by_cases hqM : q < M
        · have hw1 : 1 ≤ w := by
            rcases Nat.eq_zero_or_pos w with h | h
            · subst h; have := hM'.out; omega
            · exact h
          have hqn : q / w < n := by rw [Nat.div_lt_iff_lt_mul (by omega), Nat.mul_comm, ← hM'.out]; exact hqM
          have hqw : q % w < w := Nat.mod_lt _ (by omega)
          obtain ⟨old, hold⟩ : ∃ old, Hid ((unpP (num b) w n q)[q / w]? = some old) := ⟨_, List.getElem?_eq_getElem (by simpa using hqn)⟩
          have hst := Lib.hid (unpP_step (N := num b) (w := w) (n := n) (by omega) (by have := hM'.out; omega) (UInt64.ofNat (old.toNat ||| (((num b).testBit q).toNat <<< (q % w)))) old hold.out)
          have hr1 : wrap64 ((q : Int) / (w : Int)) = ((q / w : Nat) : Int) := by
            rw [← Int.natCast_ediv]
            exact IntWalk.wrap64_in _ (by have h1 := Nat.div_le_self q w; generalize q / w = z at h1 ⊢; omega)
          have hr2 : (q : Int) % (w : Int) = ((q % w : Nat) : Int) := by simp
          have hout := hb.cell (q / w)
          rw [List.getElem?_map, hold.out, Option.map_some, vU64] at hout
          have hfr := hb.frozen (q / w)
          generalize q / w = e at *
          generalize q % w = f at *
          clear hdv hd3
          rw [hbt] at hst
          clear hold
          replace hbt : Hid _ := Lib.hid hbt
          go_wp2
          refine wp_region_still_tail 17 (by kernel_rfl) (by kernel_rfl) ?_
          simp only [List.take_succ_cons, List.take_zero, List.drop_succ_cons, List.drop_zero]
          repeat (refine still_plain rfl rfl ?_; intro K hK; go_wp2)
          refine wpStill_nil ?_
          go_wp2
          go_roundw
          case rel =>
            have hlt64 : 1 <<< f < 2 ^ 64 := by
              rw [Nat.shiftLeft_eq, Nat.one_mul]
              exact Nat.pow_lt_pow_right (by omega) (by omega)
            have hval2 : (UInt64.ofNat (old.toNat ||| (true.toNat <<< f))).toNat = old.toNat ||| (true.toNat <<< f) := by
              rw [UInt64.toNat_ofNat', Nat.mod_eq_of_lt]
              exact Nat.or_lt_two_pow old.toNat_lt hlt64
            have hval : bits BinOp.or IntKind.u64 (old.toNat : Int) (IntKind.u64.wrap (2 ^ f)) = ((UInt64.ofNat (old.toNat ||| (true.toNat <<< f))).toNat : Int) := by
              have e1 : ((2 : Int) ^ f) = ((1 <<< f : Nat) : Int) := by simp [Nat.shiftLeft_eq]
              rw [e1, wrap_u64_nat, Nat.mod_eq_of_lt hlt64, bits_or_u64 _ _ old.toNat_lt hlt64, hval2]
              rfl
            rw [hval]
            refine ⟨q + 1, by omega, by go_num, ?_, ?_, (hkeep.setCell (.inr (Nat.le_refl _)) _).drew⟩
            · exact Nat.lt_of_lt_of_le (Nat.mod_lt _ (Nat.pow_pos (by omega))) (Nat.pow_le_pow_right (by omega) hqM)
            · rw [hst.out hval2, List.map_set]
              exact (hb.set_ e _).drew
          case measure => simp [intOf]; omega
        · have hv : Hid (v = false) := by
            rw [Hid, HP.out]
            refine Bool.eq_false_iff.2 fun hok => ?_
            have hlt := (unpackOk_iff.1 hok).2.2.2.2.2
            simp only [Int.toNat_natCast] at hlt
            rw [← hM'.out] at hlt
            have := Nat.testBit_lt_two_pow (Nat.lt_of_lt_of_le hlt (Nat.pow_le_pow_right (by omega) (show M ≤ q by omega)))
            rw [this] at hbt
            cases hbt
          have hul : Hid (unpackL b w n = []) := by
            rw [Hid, unpackL_no]
            rw [← HP.out]
            exact hv.out
          clear hdv hd3
          replace hbt : Hid _ := Lib.hid hbt
          go_wp2
          go_ret2
          refine ⟨none, 0, 0, by rw [hv.out]; rfl, hkeep, fun Y _ => ?_⟩
          rw [hul.out]
          exact Rd.nil_ Y wr 1
      · have hbf : (num b).testBit q = false := by simpa using hbt
        have hd4 : ((d : Int) % 2 == 1) = false := by rw [hbf] at hd3; simp at hd3 ⊢; omega
        have hsame := Lib.hid (unpP_same (w := w) (n := n) hbf)
        have HQ2 : Hid (num b % 2 ^ (q + 1) < 2 ^ M) := by
          have e : num b % 2 ^ (q + 1) = num b % 2 ^ q := by
            refine Nat.eq_of_testBit_eq fun i => ?_
            rw [Nat.testBit_mod_two_pow, Nat.testBit_mod_two_pow]
            by_cases hi : i = q
            · subst hi; rw [hbf]; simp
            · congr 1
              simp only [decide_eq_decide]
              omega
          unfold Hid
          rw [e]
          exact HQ.out
        clear hdv hd3 hbt hbf
        go_wp2
        go_roundw
        case rel => exact ⟨q + 1, by omega, by go_num, HQ2, by rw [hsame.out]; exact hb, hkeep⟩
        case measure => simp [intOf]; omega
    · obtain rfl : q = 8 * b.length := by omega
      have hok : unpackOk b w n = true := by
        refine unpackOk_iff.2 ⟨by omega, by omega, by omega, by omega, by simpa using h4.out, ?_⟩
        have := HQ.out
        rw [Nat.mod_eq_of_lt (num_lt b)] at this
        simp only [Int.toNat_natCast]
        rw [← hM'.out]
        exact this
      have hv : Hid (v = true) := by rw [Hid, HP.out]; exact hok
      have hul : Hid (unpackL b w n = unpP (num b) w n (8 * b.length)) := by
        rw [Hid, unpackL, if_pos hok]
        simp only [Int.toNat_natCast]
        rw [unpP_beyond (at_ := 8 * b.length)]
        have := hM'.out
        omega
      clear hok
      go_wp2
      go_ret2
      refine ⟨_, n, n, by rw [hv.out]; rfl, hkeep, fun Y hY => ?_⟩
      rw [hul.out]
      exact hb.rd (fun hm => by have := hY _ hm; omega) (by simp) (Nat.le_refl _) (by unfold maxLen; omega) (by rw [List.take_of_length_le (by simp)])

/-! ### for every input -/
/-- What a slice of new memory holds, whatever blocks the caller wants to be left out. -/
abbrev NewU64s (W W' : World) (B : Option Addr) (k d : Nat) (l : List UInt64) : Prop := ∀ Y : List Nat, (∀ b ∈ Y, b < W.heap.size) → U64s Y W' B k d l
abbrev NewBys (W W' : World) (B : Option Addr) (k d : Nat) (l : List UInt8) : Prop := ∀ Y : List Nat, (∀ b ∈ Y, b < W.heap.size) → Bys Y W' B k d l

theorem pack_prog {X : List Nat} {A : Option Addr} {n c : Nat} {l : List UInt64} (w : Int) (W : World) (h : U64s X W A n c l) (hw : -9223372036854775808 ≤ w ∧ w ≤ 9223372036854775807) :
    Calls Try.prog 21 #[.slice A n c, .int .i64 w] W fun e W' => ∃ B m d, e = .returned (.tuple #[.slice B m d, .bool (packOk l w)]) ∧ Keep [] W W' ∧ NewBys W W' B m d (packB l w) := by
  cases hok : packOk l w with
  | true => exact pack_prog_ok w W h hok
  | false => exact (pack_prog_no w W h hw hok).mono fun e W' ⟨he, hW⟩ => ⟨none, 0, 0, he, hW ▸ Keep.refl _ _, fun Y _ => by rw [packB_no hok]; exact Rd.nil_ Y W' 1⟩
theorem pack_ref {X : List Nat} {A : Option Addr} {n c : Nat} {l : List UInt64} (w : Int) (W : World) (h : U64s X W A n c l) (hw : -9223372036854775808 ≤ w ∧ w ≤ 9223372036854775807) :
    Calls Try.prog 25 #[.slice A n c, .int .i64 w] W fun e W' => ∃ B m d, e = .returned (.tuple #[.slice B m d, .bool (packOk l w)]) ∧ Keep [] W W' ∧ NewBys W W' B m d (packB l w) := by
  cases hok : packOk l w with
  | true => exact pack_ref_ok w W h hok
  | false => exact (pack_ref_no w W h hw hok).mono fun e W' ⟨he, hW⟩ => ⟨none, 0, 0, he, hW ▸ Keep.refl _ _, fun Y _ => by rw [packB_no hok]; exact Rd.nil_ Y W' 1⟩
theorem unpack_prog_any {X : List Nat} {A : Option Addr} {m c : Nat} {b : List UInt8} (w n : Int) (W : World) (h : Bys X W A m c b) (hw : -9223372036854775808 ≤ w ∧ w ≤ 9223372036854775807) (hn : -9223372036854775808 ≤ n ∧ n ≤ 9223372036854775807) :
    Calls Try.prog 51 #[.slice A m c, .int .i64 w, .int .i64 n] W fun e W' => ∃ B k d, e = .returned (.tuple #[.slice B k d, .bool (unpackOk b w n)]) ∧ Keep [] W W' ∧ NewU64s W W' B k d (unpackL b w n) := by
  by_cases hsz : 0 ≤ w ∧ w ≤ 64 ∧ 0 ≤ n ∧ n ≤ 65536 ∧ b.length = sizeOf' w.toNat n.toNat
  · exact unpack_prog w n W h hw hn hsz
  · have hno := (unpack_no_size hsz).1
    exact (unpack_prog_no w n W h hw hn hsz).mono fun e W' ⟨he, hk⟩ => ⟨none, 0, 0, by rw [hno]; exact he, hk, fun Y _ => by rw [unpackL_no hno]; exact Rd.nil_ Y W' 1⟩
theorem unpack_ref_any {X : List Nat} {A : Option Addr} {m c : Nat} {b : List UInt8} (w n : Int) (W : World) (h : Bys X W A m c b) (hw : -9223372036854775808 ≤ w ∧ w ≤ 9223372036854775807) (hn : -9223372036854775808 ≤ n ∧ n ≤ 9223372036854775807) :
    Calls Try.prog 39 #[.slice A m c, .int .i64 w, .int .i64 n] W fun e W' => ∃ B k d, e = .returned (.tuple #[.slice B k d, .bool (unpackOk b w n)]) ∧ Keep [] W W' ∧ NewU64s W W' B k d (unpackL b w n) := by
  by_cases hsz : 0 ≤ w ∧ w ≤ 64 ∧ 0 ≤ n ∧ n ≤ 65536 ∧ b.length = sizeOf' w.toNat n.toNat
  · exact unpack_ref w n W h hw hn hsz
  · have hno := (unpack_no_size hsz).1
    exact (unpack_ref_no w n W h hw hn hsz).mono fun e W' ⟨he, hk⟩ => ⟨none, 0, 0, by rw [hno]; exact he, hk, fun Y _ => by rw [unpackL_no hno]; exact Rd.nil_ Y W' 1⟩
/-- 'string(b)', by the program's types. -/
theorem str_run {X : List Nat} {w : World} {A : Option Addr} {n c : Nat} {l : List UInt8} (h : Bys X w A n c l) : (convert 24 9 (.slice A n c)).run Try.prog w = .ok (.string ⟨l.toArray⟩) w :=
  run_str h 24 9 5 Try.underlying24 Try.underlying5 Try.underlying9
end Go.Proofs.Ytphgfhghbpndaaa
