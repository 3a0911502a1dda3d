/-
  The walks of layer 4's functions, part 2: Size, Put, both.
-/
import Derived.Test.YtphgfhghbpndaaaVt1
namespace Go.Proofs.Ytphgfhghbpndaaa
open Go Go.RowKit
set_option linter.unusedVariables false
set_option linter.unusedSimpArgs false

set_option maxHeartbeats 400000 in
theorem size_prog (x : Nat) (W : World) (hx : x < 2 ^ 64) : Calls Try.prog 44 #[.int .u64 (x : Int)] W fun e W' => (∃ k : Nat, k ≤ 10 ∧ e = .returned (.int .i64 k)) ∧ W = W' := by
  have hlt : x ||| 1 < 2 ^ 64 := Nat.or_lt_two_pow hx (by decide)
  have hor : bits .or .u64 (x : Int) 1 = ((x ||| 1 : Nat) : Int) := bits_or_u64 x 1 hx (by decide)
  have hb := (bitLen_le hlt 64).2 hlt
  generalize x ||| 1 = y at *
  go_enter Try.func44, Try.ntmps44
  go_wp2_with fail
  refine (Try.bits_Len64 y W (by omega) (by omega)).mono ?_
  rintro e w1 ⟨rfl, rfl⟩
  rw [Int.toNat_natCast]
  generalize Lib.bitLen y = m at *
  obtain ⟨q, hq⟩ : ∃ q : Nat, (m + 6) / 7 = q := ⟨_, rfl⟩
  have hq2 : ((m : Int) + 7 - 1) / 7 = q := by omega
  have hq3 : ((m : Int) + 6) / 7 = q := by omega
  have hq10 : q ≤ 10 := by omega
  clear hq hor
  go_wp2
  go_ret
  exact ⟨⟨q, hq10, ret_i (by omega)⟩, rfl⟩

/-- n's bytes, q of them laid. -/
def Laid (n : Nat) (q : List UInt8) (f v : Nat) : Prop := putB n = q ++ putF f v ∧ f + q.length = 10 ∧ 0 < f ∧ v < 2 ^ (64 - 7 * (10 - f))
theorem laid_start {n : Nat} (h : n < 2 ^ 64) : Laid n [] 10 n := ⟨rfl, rfl, by omega, by simpa using h⟩
theorem laid_step {n f v : Nat} {q : List UInt8} (h : Laid n q f v) (hv : 128 ≤ v) : Laid n (q ++ [UInt8.ofNat (v % 128 + 128)]) (f - 1) (v / 128) ∧ 1 < f := by
  obtain ⟨h1, h2, h3, h4⟩ := h
  have hf : 1 < f := by
    rcases Nat.lt_or_ge 1 f with hf | hf
    · exact hf
    · obtain rfl : f = 1 := by omega
      simp at h4
      omega
  obtain ⟨g, rfl⟩ : ∃ g, f = g + 1 := ⟨f - 1, by omega⟩
  refine ⟨⟨?_, by simp; omega, by omega, ?_⟩, hf⟩
  · rw [h1, putF_step, if_neg (by omega)]
    simp
  · have h7 : 2 ^ (64 - 7 * (10 - (g + 1))) = 2 ^ (64 - 7 * (10 - g)) * 128 := by
      rw [show 64 - 7 * (10 - (g + 1)) = 64 - 7 * (10 - g) + 7 from by omega, Nat.pow_add]
    rw [h7] at h4
    simp only [Nat.add_sub_cancel]
    omega
theorem laid_end {n f v : Nat} {q : List UInt8} (h : Laid n q f v) (hv : v < 128) : putB n = q ++ [UInt8.ofNat v] := by
  obtain ⟨h1, h2, h3, h4⟩ := h
  obtain ⟨g, rfl⟩ : ∃ g, f = g + 1 := ⟨f - 1, by omega⟩
  rw [h1, putF_step, if_pos hv]
theorem laid_len {n f v : Nat} {q : List UInt8} (h : Laid n q f v) : q.length ≤ 9 := by have := h.2.1; have := h.2.2.1; omega
theorem u8_or_128 (v : Nat) : (v % 256) ||| 128 = v % 128 + 128 := by
  have h1 : (v % 256) ||| 128 = (v % 128) ||| 128 := by
    apply Nat.eq_of_testBit_eq
    intro i
    rw [Nat.testBit_or, Nat.testBit_or, show (256 : Nat) = 2 ^ 8 from rfl, show v % 128 = v % 2 ^ 7 from rfl, Nat.testBit_mod_two_pow, Nat.testBit_mod_two_pow, show (128 : Nat) = 2 ^ 7 from rfl, Nat.testBit_two_pow]
    by_cases h7 : i = 7
    · subst h7; simp
    · by_cases h8 : i < 7
      · simp [h8, show i < 8 from by omega]
      · simp [h8, show ¬ i < 8 from by omega]
  have h2 : 2 ^ 7 * 1 + v % 128 = 2 ^ 7 * 1 ||| v % 128 := Nat.two_pow_add_eq_or_of_lt (i := 7) (b := v % 128) (by omega) 1
  have h3 : 128 ||| v % 128 = 2 ^ 7 * 1 ||| v % 128 := rfl
  rw [h1, Nat.or_comm, h3, ← h2]
  omega

set_option maxHeartbeats 1000000 in
set_option maxRecDepth 10000 in
theorem put_prog {X : List Nat} {A : Option Addr} {m c : Nat} {l : List UInt8} (n : Nat) (W : World) (h : Bys X W A m c l) (hn : n < 2 ^ 64) (hroom : m ≤ 10000000000000) :
    Calls Try.prog 19 #[.slice A m c, .int .u64 (n : Int)] W fun e W' => ∃ B k d, e = .returned (.slice B k d) ∧ Keep [] W W' ∧ W'.ownsRow W.heap.size 5 1 (.slice B k d) k ((l ++ putB n).map vU8) := by
  have hc := h.cap
  have hnc := h.le
  obtain ⟨i0, hi, hz0, hz1, hz2⟩ := info_parts Try.infoU8
  obtain rfl := h.len1
  go_enter Try.func19, Try.ntmps19
  go_wp2_with fail
  refine (clone_bytes W h (by omega)).mono ?_
  rintro e w1 ⟨B1, d1, rfl, hk1, hown1⟩
  have hw1 := hk1.size
  go_wp2_with fail
  refine (size_prog n w1 hn).mono ?_
  rintro e w2 ⟨⟨k, hk, rfl⟩, rfl⟩
  go_wp2_with fail
  refine (grow_bytes k w1 hown1 (by omega) (by omega) hw1).mono ?_
  rintro e w2 ⟨B2, d2, rfl, hk2, hown2⟩
  have hk12 := hk1.trans hk2
  have hd2 : d2 ≤ 9223372036854775807 := (rd_of_own (X := []) hown2 (by simp)).cap
  go_wp2
  go_loopw [5, 1] (fun s v wr => ∃ (z f : Nat) (q : List UInt8), v = .int .u64 (z : Int) ∧ z < 18446744073709551616 ∧ Hid (Laid n q f z) ∧ wr.ownsRow W.heap.size 5 1 s (l.length + q.length) ((l ++ q).map vU8) ∧ Keep [] W wr) (fun _ v _ => (intOf v).toNat)
  case atStart => exact ⟨n, 10, [], rfl, by omega, laid_start hn, by simpa using hown2, hk12⟩
  case round =>
    obtain ⟨z, f, q, rfl, hz, HL, hown, hkeep⟩ := hrel
    have hql := laid_len HL.out
    have hsz := hkeep.size
    obtain ⟨B3, d3, rfl⟩ := own_form hown
    by_cases hge : 128 ≤ z
    · obtain ⟨HL2, hf⟩ := laid_step HL.out hge
      have hor : bits .or .u8 ((z : Int) % 256) 128 = ((z % 128 + 128 : Nat) : Int) := by
        have := bits_or_u8 (z % 256) 128 (by omega) (by omega)
        rw [u8_or_128] at this
        rw [← this]
        congr 1
      obtain ⟨y, hy⟩ : ∃ y, z % 128 + 128 = y := ⟨_, rfl⟩
      rw [hy] at HL2 hor
      have hy2 : y < 256 := by omega
      have hyB : (UInt8.ofNat y).toNat = y := by rw [UInt8.toNat_ofNat']; omega
      have hdv : (z : Int) / 128 = ((z / 128 : Nat) : Int) := by omega
      have hlt2 : z / 128 < z := by omega
      have hz2' : z / 128 < 18446744073709551616 := by omega
      generalize hzz : z / 128 = z' at *
      replace HL2 := Lib.hid HL2
      have hyB' := Lib.hid hyB
      clear hy hyB hzz
      have hbk : Bys [] (wr.alloc (.cells #[.int .u8 (y : Int)] 5)) (some ⟨wr.heap.size, 0, none⟩) 1 1 [UInt8.ofNat y] := by
        refine (Blk.new wr 5 [.int .u8 (y : Int)]).rd (by simp) rfl (by omega) (by simp [maxLen]) ?_
        simp [vU8, hyB'.out]
      go_wp2_with (at_builtin; refine wpList_append_rd rfl _ _ 24 rfl W.heap.size 5 i0 (.int .u8 0) 1 1 Try.underlying24 hi hz0 hz1 hz2 rfl (by omega) (.slice B3 (l.length + q.length) d3) (l.length + q.length) _ rfl (hown.alloc _) rfl hbk (vU8_one [UInt8.ofNat y]) (by unfold maxLen; omega) (by omega) (by simp; omega) ?_)
      intro v' w3 hown' hgr
      have hk3 : Keep [] W w3 := (hkeep.alloc (.cells #[.int .u8 (y : Int)] 5)).grown hgr (fun g hg => .inr (own_ge hown g hg))
      clear hgr hown hbk
      go_wp2
      go_roundw
      case rel =>
        refine ⟨z', f - 1, q ++ [UInt8.ofNat y], by go_num, hz2', HL2, ?_, hk3⟩
        simpa [Nat.add_assoc] using hown'
      case measure => simp [intOf]; omega
    · have HE := Lib.hid (laid_end HL.out (by omega))
      have hmz : (z : Int) % 256 = (z : Int) := by omega
      have hyB' : Hid ((UInt8.ofNat z).toNat = z) := by unfold Hid; rw [UInt8.toNat_ofNat']; omega
      have hbk : Bys [] (wr.alloc (.cells #[.int .u8 (z : Int)] 5)) (some ⟨wr.heap.size, 0, none⟩) 1 1 [UInt8.ofNat z] := by
        refine (Blk.new wr 5 [.int .u8 (z : Int)]).rd (by simp) rfl (by omega) (by simp [maxLen]) ?_
        simp [vU8, hyB'.out]
      go_wp2_with (at_builtin; refine wpList_append_rd rfl _ _ 24 rfl W.heap.size 5 i0 (.int .u8 0) 1 1 Try.underlying24 hi hz0 hz1 hz2 rfl (by omega) (.slice B3 (l.length + q.length) d3) (l.length + q.length) _ rfl (hown.alloc _) rfl hbk (vU8_one [UInt8.ofNat z]) (by unfold maxLen; omega) (by omega) (by simp; omega) ?_)
      intro v' w3 hown' hgr
      have hk3 : Keep [] W w3 := (hkeep.alloc (.cells #[.int .u8 (z : Int)] 5)).grown hgr (fun g hg => .inr (own_ge hown g hg))
      clear hgr hown hbk
      obtain ⟨B4, d4, rfl⟩ := own_form hown'
      go_wp2
      go_ret
      refine ⟨B4, _, d4, rfl, hk3, ?_⟩
      rw [HE.out]
      simpa using hown'
end Go.Proofs.Ytphgfhghbpndaaa
