/-
  The walks of layer 3's functions: numbers of eight bytes, laid and read.
  The walks of layer 4's Zig and Zag.
-/
import Derived.OwnWalk
import Derived.WalkLawsBesides
import Derived.Test.YtcpimhefclfbaaaFCr
import Derived.Test.YtcpimhefclfbaaaFCu
import Derived.Test.YtcpimhefclfbaaaFPt
namespace Go.Proofs.Ytcpimhefclfbaaa
open Go Go.RowKit
set_option maxRecDepth 10000
set_option linter.unusedVariables false
set_option linter.unusedSimpArgs false

/-- So many bytes of a number, the lowest first. -/
def lowF : Nat → Nat → List UInt8
  | 0, _ => []
  | f + 1, n => UInt8.ofNat (n % 256) :: lowF f (n / 256)
def lowB (n : Nat) : List UInt8 := lowF 8 n
theorem lowF_len : ∀ (f n : Nat), (lowF f n).length = f
  | 0, _ => rfl
  | f + 1, n => by rw [lowF, List.length_cons, lowF_len]
theorem num_lowF : ∀ (f n : Nat), num (lowF f n) = n % 2 ^ (8 * f)
  | 0, n => by simp [lowF, num, pk, Nat.mod_one]
  | f + 1, n => by
    have ih := num_lowF f (n / 256)
    unfold num at ih ⊢
    rw [lowF, List.map_cons, pk, ih]
    rw [show 8 * (f + 1) = 8 + 8 * f from by omega, Nat.pow_add, show (2 : Nat) ^ 8 = 256 from rfl, Nat.mod_mul]
    rw [UInt8.toNat_ofNat', show (2 : Nat) ^ 8 = 256 from rfl, Nat.mod_mod]
theorem num_lowB {n : Nat} (h : n < 2 ^ 64) : num (lowB n) = n := by
  rw [lowB, num_lowF]
  exact Nat.mod_eq_of_lt h
theorem lowF_num : ∀ (b : List UInt8), lowF b.length (num b) = b
  | [] => rfl
  | x :: b => by
    have ih := lowF_num b
    unfold num at ih ⊢
    have hx := x.toNat_lt
    rw [List.length_cons, lowF, List.map_cons, pk, show (2 : Nat) ^ 8 = 256 from rfl]
    rw [show (x.toNat + 256 * pk 8 (b.map UInt8.toNat)) / 256 = pk 8 (b.map UInt8.toNat) from by omega, ih]
    congr 1
    apply UInt8.toNat_inj.1
    rw [UInt8.toNat_ofNat', show (2 : Nat) ^ 8 = 256 from rfl]
    omega

theorem read_or64 (N x k : Nat) (hk : k < 8) (hN : N < 2 ^ (8 * k)) (hx : x < 256) : bits .or .u64 (N : Int) (IntKind.u64.wrap ((x : Int) * 2 ^ (8 * k))) = ((N + 2 ^ (8 * k) * x : Nat) : Int) := by
  have hp : 2 ^ (8 * k) * 256 ≤ 2 ^ 64 := by
    rw [show (256 : Nat) = 2 ^ 8 from rfl, ← Nat.pow_add]
    exact Nat.pow_le_pow_right (by omega) (by omega)
  have hpos : 0 < 2 ^ (8 * k) := Nat.pow_pos (by omega)
  have hm : 2 ^ (8 * k) * (x + 1) ≤ 2 ^ (8 * k) * 256 := Nat.mul_le_mul_left _ (by omega)
  rw [Nat.mul_add] at hm
  have h2 : 2 ^ (8 * k) * x < 2 ^ 64 := by omega
  have h3 : IntKind.u64.wrap ((x : Int) * 2 ^ (8 * k)) = ((2 ^ (8 * k) * x : Nat) : Int) := by
    have : ((x : Int) * 2 ^ (8 * k)) = ((2 ^ (8 * k) * x : Nat) : Int) := by rw [Int.natCast_mul, Int.natCast_pow, Int.mul_comm]; rfl
    rw [this]
    exact IntWalk.u64_in _ (by omega)
  rw [h3, bits_or_u64 _ _ (Nat.lt_of_lt_of_le hN (Nat.pow_le_pow_right (by omega) (by omega))) h2, Nat.or_comm, ← Nat.two_pow_add_eq_or_of_lt hN, Nat.add_comm]

set_option maxHeartbeats 1000000 in
theorem read64_prog {g : Nat} {s : Option (List UInt8)} (q : Nat) (W : World) (h : Cur 88 W g s) (hq : q ≤ 8) :
    Calls Try.prog 111 #[.pointer (some ⟨g, 0, none⟩), .int .i64 q] W fun e W' => e = .returned (.int .u64 (num (takeC s q).1 : Nat)) ∧ Keep [g] W W' ∧ Cur 88 W' g (takeC s q).2 := by
  go_enter Try.func111, Try.ntmps111
  go_wp2_with fail
  refine (take_prog q W h (by omega)).mono ?_
  rintro e w1 ⟨B, m, d, rfl, hk1, hcur, hown⟩
  have hr : Bys [] w1 B m d (takeC s q).1 := rd_of_own hown (by simp)
  have hlq : (takeC s q).1.length ≤ 8 := by have := takeC_len s q; omega
  clear hown
  generalize hT : (takeC s q).1 = b at *
  replace hT := Lib.hid hT
  obtain rfl := hr.len1
  have hcap := hr.cap
  go_wp2
  go_loop [5, 12] (fun t i => ∃ k : Nat, k ≤ b.length ∧ i = .int .i64 k ∧ t = .int .u64 (num (b.take k) : Nat)) (fun _ i => b.length - (intOf i).toNat)
  case atStart => exact ⟨0, by omega, rfl, rfl⟩
  case round =>
    obtain ⟨k, hk, rfl, rfl⟩ := hrel
    have hlt64 := num_lt (b.take k)
    rw [List.length_take, Nat.min_eq_left hk] at hlt64
    by_cases hlt : k < b.length
    · obtain ⟨bb, off, rfl, _, _, hcell⟩ := hr.one hlt
      unfold vU8 at hcell
      have hst := Lib.hid (num_snoc b k hlt)
      have hxl := b[k].toNat_lt
      have hor := read_or64 (num (b.take k)) b[k].toNat k (by omega) hlt64 hxl
      rw [← hst.out] at hor
      replace hor := Lib.hid hor
      clear hlt64
      go_wp2
      go_round
      case rel => exact ⟨k + 1, by omega, by go_num, congrArg _ hor.out⟩
      case measure => simp [intOf]; omega
    · obtain rfl : k = b.length := by omega
      rw [List.take_length] at *
      go_wp2
      go_ret
      exact ⟨ret_i (by rw [hT.out]), hk1, hcur⟩

set_option maxHeartbeats 400000 in
theorem u64_get {g : Nat} {s : Option (List UInt8)} (W : World) (h : Cur 88 W g s) :
    Calls Try.prog 96 #[.pointer (some ⟨g, 0, none⟩)] W fun e W' => e = .returned (.int .u64 (num (takeC s 8).1 : Nat)) ∧ Keep [g] W W' ∧ Cur 88 W' g (takeC s 8).2 := by
  have C := read64_prog 8 W h (by omega)
  go_enter Try.func96, Try.ntmps96
  go_wp2_with fail
  refine C.mono ?_
  rintro e w1 ⟨rfl, hk1, hcur⟩
  go_wp2
  go_ret
  exact ⟨rfl, hk1, hcur⟩

def LowAt (n k z : Nat) (q : List UInt8) : Prop := lowB n = q ++ lowF (8 - k) z ∧ q.length = k
theorem low_start (n : Nat) : LowAt n 0 n [] := ⟨rfl, rfl⟩
theorem low_step {n k z : Nat} {q : List UInt8} (h : LowAt n k z q) (hk : k < 8) : LowAt n (k + 1) (z / 256) (q ++ [UInt8.ofNat (z % 256)]) := by
  refine ⟨?_, by simp [h.2]⟩
  rw [h.1, show 8 - k = (8 - (k + 1)) + 1 from by omega, lowF]
  simp
theorem low_end {n z : Nat} {q : List UInt8} (h : LowAt n 8 z q) : q = lowB n := by
  rw [h.1]; simp [lowF]

set_option maxHeartbeats 1000000 in
theorem lay64_prog {X : List Nat} {A : Option Addr} {m c : Nat} {l : List UInt8} (n : Nat) (W : World) (h : Bys X W A m c l) (hn : n < 2 ^ 64) (hroom : m ≤ 10000000000000) :
    Calls Try.prog 106 #[.slice A m c, .int .u64 (n : Int), .int .i64 8] W fun e W' => ∃ B k d, e = .returned (.slice B k d) ∧ Keep [] W W' ∧ W'.ownsRow W.heap.size 5 1 (.slice B k d) k ((l ++ lowB n).map vU8) := by
  have hc := h.cap
  have hnc := h.le
  obtain ⟨i0, hi, hz0, hz1, hz2⟩ := info_parts Try.infoU8
  obtain rfl := h.len1
  go_enter Try.func106, Try.ntmps106
  go_wp2_with (at_make; refine wpList_make_own _ rfl _ _ 28 rfl W.heap.size 5 i0 (.int .u8 0) 1 Try.underlying28 hi hz0 hz1 _ _ _ (l.length + 8) rfl rfl (by omega) (by rw [hz2]; omega) (by unfold maxLen; omega) (Nat.le_refl _) ?_)
  intro w1 hown1 hgr1
  have hk1 : Keep [] W w1 := (Keep.refl [] W).grown hgr1 (by simp)
  clear hgr1
  go_wp2_with (at_builtin; refine wpList_append_rd rfl _ _ 28 rfl W.heap.size 5 i0 (.int .u8 0) 1 1 Try.underlying28 hi hz0 hz1 hz2 rfl (by omega) _ 0 [] rfl hown1 rfl (h.pure hk1) (vU8_one l) (by unfold maxLen; omega) (by omega) hk1.size ?_)
  intro v' w2 hown2' hgr
  obtain ⟨B2, d2, rfl⟩ := own_form hown2'
  have hk12 : Keep [] W w2 := hk1.grown hgr (fun g hg => .inr (own_ge hown1 g hg))
  have hown2 : w2.ownsRow W.heap.size 5 1 (.slice B2 l.length d2) l.length (l.map vU8) := by simpa using hown2'
  clear hgr hown2' hown1
  go_wp2
  go_loopw [7, 1, 17] (fun s v i wr => ∃ (z k : Nat) (q : List UInt8), i = .int .i64 k ∧ k ≤ 8 ∧ v = .int .u64 (z : Int) ∧ z < 18446744073709551616 ∧ Hid (LowAt n k z q) ∧ wr.ownsRow W.heap.size 5 1 s (l.length + k) ((l ++ q).map vU8) ∧ Keep [] W wr) (fun _ _ i _ => 8 - (intOf i).toNat)
  case atStart => exact ⟨n, 0, [], rfl, by omega, rfl, by omega, low_start n, by simpa using hown2, hk12⟩
  case round =>
    obtain ⟨z, k, q, rfl, hk8, rfl, hz, HL, hown, hkeep⟩ := hrel
    have hql := HL.out.2
    have hsz := hkeep.size
    obtain ⟨B3, d3, rfl⟩ := own_form hown
    by_cases hlt : k < 8
    · have HL2 := low_step HL.out hlt
      obtain ⟨y, hy⟩ : ∃ y, z % 256 = y := ⟨_, rfl⟩
      rw [hy] at HL2
      have hor : (z : Int) % 256 = (y : Int) := by omega
      have hy2 : y < 256 := by omega
      have hyB : (UInt8.ofNat y).toNat = y := by rw [UInt8.toNat_ofNat']; omega
      have hdv : (z : Int) / 256 = ((z / 256 : Nat) : Int) := by omega
      have hz2' : z / 256 < 18446744073709551616 := by omega
      generalize hzz : z / 256 = z' at *
      replace HL2 := Lib.hid HL2
      have hyB' := Lib.hid hyB
      clear hy hyB hzz
      have hbk : Bys [] (wr.alloc (.cells #[.int .u8 (y : Int)] 5)) (some ⟨wr.heap.size, 0, none⟩) 1 1 [UInt8.ofNat y] := by
        refine (Blk.new wr 5 [.int .u8 (y : Int)]).rd (by simp) rfl (by omega) (by simp [maxLen]) ?_
        simp [vU8, hyB'.out]
      go_wp2_with (at_builtin; refine wpList_append_rd rfl _ _ 28 rfl W.heap.size 5 i0 (.int .u8 0) 1 1 Try.underlying28 hi hz0 hz1 hz2 rfl (by omega) (.slice B3 (l.length + k) d3) (l.length + k) _ rfl (hown.alloc _) rfl hbk (vU8_one [UInt8.ofNat y]) (by unfold maxLen; omega) (by omega) (by simp; omega) ?_)
      intro v' w3 hown' hgr
      have hk3 : Keep [] W w3 := (hkeep.alloc (.cells #[.int .u8 (y : Int)] 5)).grown hgr (fun g hg => .inr (own_ge hown g hg))
      clear hgr hown hbk
      go_wp2
      go_roundw
      case rel =>
        refine ⟨z', k + 1, q ++ [UInt8.ofNat y], by go_num, by omega, by go_num, hz2', HL2, ?_, hk3⟩
        simpa [Nat.add_assoc] using hown'
      case measure => simp [intOf]; omega
    · obtain rfl : k = 8 := by omega
      have HE := Lib.hid (low_end HL.out)
      go_wp2
      go_ret
      refine ⟨_, _, _, rfl, hkeep, ?_⟩
      rw [← HE.out]
      exact hown

set_option maxHeartbeats 400000 in
theorem u64_put {X : List Nat} {A : Option Addr} {m c : Nat} {l : List UInt8} (n : Nat) (W : World) (h : Bys X W A m c l) (hn : n < 2 ^ 64) (hroom : m ≤ 10000000000000) :
    Calls Try.prog 88 #[.slice A m c, .int .u64 (n : Int)] W fun e W' => ∃ B k d, e = .returned (.slice B k d) ∧ Keep [] W W' ∧ W'.ownsRow W.heap.size 5 1 (.slice B k d) k ((l ++ lowB n).map vU8) := by
  have C := lay64_prog n W h hn hroom
  go_enter Try.func88, Try.ntmps88
  go_wp2_with fail
  refine C.mono ?_
  rintro e w1 ⟨B, k, d, rfl, hk1, hown⟩
  go_wp2
  go_ret
  exact ⟨_, _, _, rfl, hk1, hown⟩

set_option maxHeartbeats 1000000 in
theorem low_ref {X : List Nat} {A : Option Addr} {m c : Nat} {l : List UInt8} (n : Nat) (W : World) (h : Bys X W A m c l) (hn : n < 2 ^ 64) (hroom : m ≤ 10000000000000) :
    Calls Try.prog 72 #[.slice A m c, .int .u64 (n : Int), .int .i64 8] W fun e W' => ∃ B k d, e = .returned (.slice B k d) ∧ Keep [] W W' ∧ W'.ownsRow W.heap.size 5 1 (.slice B k d) k ((l ++ lowB n).map vU8) := by
  have hc := h.cap
  have hnc := h.le
  obtain ⟨i0, hi, hz0, hz1, hz2⟩ := info_parts Try.infoU8
  obtain rfl := h.len1
  go_enter Try.func72, Try.ntmps72
  go_wp2_with (at_builtin; refine wpList_append_rd (o := ⟨some 11, _, _, _, _, _⟩) rfl _ _ 28 rfl W.heap.size 5 i0 (.int .u8 0) 1 1 Try.underlying28 hi hz0 hz1 hz2 rfl (by omega) _ 0 [] rfl (World.ownsRow_lit W #[] 0 (Nat.le_refl _) (by simp [maxLen]) (by simp)) rfl (h.pure ((Keep.refl [] W).alloc (.cells #[] 5))) (vU8_one l) (by unfold maxLen; omega) (by omega) (by simp) ?_)
  intro v' w2 hown2' hgr
  obtain ⟨B2, d2, rfl⟩ := own_form hown2'
  have hk12 : Keep [] W w2 := ((Keep.refl [] W).alloc (.cells #[] 5)).grown hgr (by simp [Value.ownBlock])
  have hown2 : w2.ownsRow W.heap.size 5 1 (.slice B2 l.length d2) l.length (l.map vU8) := by simpa using hown2'
  clear hgr hown2'
  go_wp2
  go_loopw [7, 1, 8] (fun s v i wr => ∃ (z k : Nat) (q : List UInt8), i = .int .i64 k ∧ k ≤ 8 ∧ v = .int .u64 (z : Int) ∧ z < 18446744073709551616 ∧ Hid (LowAt n k z q) ∧ wr.ownsRow W.heap.size 5 1 s (l.length + k) ((l ++ q).map vU8) ∧ Keep [] W wr) (fun _ _ i _ => 8 - (intOf i).toNat)
  case atStart => exact ⟨n, 0, [], rfl, by omega, rfl, by omega, low_start n, by simpa using hown2, hk12⟩
  case round =>
    obtain ⟨z, k, q, rfl, hk8, rfl, hz, HL, hown, hkeep⟩ := hrel
    have hql := HL.out.2
    have hsz := hkeep.size
    obtain ⟨B3, d3, rfl⟩ := own_form hown
    by_cases hlt : k < 8
    · have HL2 := low_step HL.out hlt
      obtain ⟨y, hy⟩ : ∃ y, z % 256 = y := ⟨_, rfl⟩
      rw [hy] at HL2
      have hor : (z : Int) % 256 = (y : Int) := by omega
      have hy2 : y < 256 := by omega
      have hyB : (UInt8.ofNat y).toNat = y := by rw [UInt8.toNat_ofNat']; omega
      have hdv : (z : Int) / 256 = ((z / 256 : Nat) : Int) := by omega
      have hz2' : z / 256 < 18446744073709551616 := by omega
      generalize hzz : z / 256 = z' at *
      replace HL2 := Lib.hid HL2
      have hyB' := Lib.hid hyB
      clear hy hyB hzz
      have hbk : Bys [] (wr.alloc (.cells #[.int .u8 (y : Int)] 5)) (some ⟨wr.heap.size, 0, none⟩) 1 1 [UInt8.ofNat y] := by
        refine (Blk.new wr 5 [.int .u8 (y : Int)]).rd (by simp) rfl (by omega) (by simp [maxLen]) ?_
        simp [vU8, hyB'.out]
      go_wp2_with (at_builtin; refine wpList_append_rd rfl _ _ 28 rfl W.heap.size 5 i0 (.int .u8 0) 1 1 Try.underlying28 hi hz0 hz1 hz2 rfl (by omega) (.slice B3 (l.length + k) d3) (l.length + k) _ rfl (hown.alloc _) rfl hbk (vU8_one [UInt8.ofNat y]) (by unfold maxLen; omega) (by omega) (by simp; omega) ?_)
      intro v' w3 hown' hgr
      have hk3 : Keep [] W w3 := (hkeep.alloc (.cells #[.int .u8 (y : Int)] 5)).grown hgr (fun g hg => .inr (own_ge hown g hg))
      clear hgr hown hbk
      go_wp2
      go_roundw
      case rel =>
        refine ⟨z', k + 1, q ++ [UInt8.ofNat y], by go_num, by omega, by go_num, hz2', HL2, ?_, hk3⟩
        simpa [Nat.add_assoc] using hown'
      case measure => simp [intOf]; omega
    · obtain rfl : k = 8 := by omega
      have HE := Lib.hid (low_end HL.out)
      go_wp2
      go_ret
      refine ⟨_, _, _, rfl, hkeep, ?_⟩
      rw [← HE.out]
      exact hown
end Go.Proofs.Ytcpimhefclfbaaa

namespace Go.Proofs.Ytcpimhefclfbaaa
open Go Go.RowKit
set_option maxRecDepth 10000
set_option linter.unusedVariables false
set_option linter.unusedSimpArgs false

/-- A number as one from 0 on. -/
def zigN (x : Int) : Nat := if 0 ≤ x then 2 * x.toNat else 2 * (-x - 1).toNat + 1
def zagZ (u : Nat) : Int := if u % 2 = 0 then (u / 2 : Nat) else - (u / 2 : Nat) - 1
theorem zag_zig (x : Int) : zagZ (zigN x) = x := by
  unfold zigN
  split
  · unfold zagZ
    rw [if_pos (by omega)]; omega
  · unfold zagZ
    rw [if_neg (by omega)]; omega
theorem zig_zag (u : Nat) : zigN (zagZ u) = u := by
  unfold zagZ
  split
  · unfold zigN
    rw [if_pos (by omega)]; omega
  · unfold zigN
    rw [if_neg (by omega)]; omega
theorem zig_lt {x : Int} (h : isI64 x) : zigN x < 2 ^ 64 := by
  unfold isI64 at h
  show zigN x < 18446744073709551616
  unfold zigN
  split <;> omega
theorem zag_64 {u : Nat} (h : u < 2 ^ 64) : isI64 (zagZ u) := by
  replace h : u < 18446744073709551616 := h
  unfold isI64 zagZ
  split <;> omega

theorem ofInt_nat (a : Int) (h0 : 0 ≤ a) (h1 : a < 18446744073709551616) : (BitVec.ofInt 64 a).toNat = a.toNat := by
  rw [BitVec.toNat_ofInt]
  congr 1
  exact Int.emod_eq_of_lt h0 (by simpa using h1)
theorem xor_u_0 (a : Int) (h0 : 0 ≤ a) (h1 : a < 18446744073709551616) : bits .xor .u64 a 0 = a := by
  show IntKind.u64.wrap ((BitVec.ofInt 64 a ^^^ BitVec.ofInt 64 0).toNat : Int) = a
  rw [show BitVec.ofInt 64 0 = 0#64 from rfl, BitVec.xor_zero, ofInt_nat a h0 h1]
  rw [show ((a.toNat : Nat) : Int) = a from by omega]
  exact IntWalk.u64_in _ (by omega)
theorem xor_u_1 (a : Int) (h0 : 0 ≤ a) (h1 : a < 18446744073709551616) : bits .xor .u64 a 18446744073709551615 = 18446744073709551615 - a := by
  show IntKind.u64.wrap ((BitVec.ofInt 64 a ^^^ BitVec.ofInt 64 18446744073709551615).toNat : Int) = _
  rw [show BitVec.ofInt 64 18446744073709551615 = BitVec.allOnes 64 from rfl, BitVec.xor_allOnes, BitVec.toNat_not, ofInt_nat a h0 h1]
  rw [show ((2 ^ 64 - 1 - a.toNat : Nat) : Int) = 18446744073709551615 - a from by omega]
  exact IntWalk.u64_in _ (by omega)
theorem and_u_1 (u : Nat) (h1 : u < 2 ^ 64) : bits .and .u64 (u : Int) 1 = ((u % 2 : Nat) : Int) := by
  show IntKind.u64.wrap ((BitVec.ofInt 64 (u : Int) &&& BitVec.ofInt 64 1).toNat : Int) = _
  rw [BitVec.toNat_and, ofInt_nat _ (by omega) (by omega), show (BitVec.ofInt 64 1).toNat = 1 from rfl, Int.toNat_natCast, Nat.and_one_is_mod]
  exact IntWalk.u64_in _ (by omega)
theorem xor_i_0 (a : Int) (h0 : 0 ≤ a) (h1 : a < 9223372036854775808) : bits .xor .i64 a 0 = a := by
  show IntKind.i64.wrap ((BitVec.ofInt 64 a ^^^ BitVec.ofInt 64 0).toNat : Int) = a
  rw [show BitVec.ofInt 64 0 = 0#64 from rfl, BitVec.xor_zero, ofInt_nat a h0 (by omega)]
  rw [show ((a.toNat : Nat) : Int) = a from by omega]
  exact IntWalk.i64_in _ (by omega)
theorem xor_i_1 (a : Int) (h0 : 0 ≤ a) (h1 : a < 9223372036854775808) : bits .xor .i64 a (-1) = -a - 1 := by
  show IntKind.i64.wrap ((BitVec.ofInt 64 a ^^^ BitVec.ofInt 64 (-1)).toNat : Int) = _
  rw [show BitVec.ofInt 64 (-1) = BitVec.allOnes 64 from rfl, BitVec.xor_allOnes, BitVec.toNat_not, ofInt_nat a h0 (by omega)]
  rw [show ((2 ^ 64 - 1 - a.toNat : Nat) : Int) = 18446744073709551615 - a from by omega]
  simp [IntKind.wrap, IntKind.bits, IntKind.signed]
  omega

set_option maxHeartbeats 400000 in
theorem zig_prog (x : Int) (W : World) (h : isI64 x) : Calls Try.prog 89 #[.int .i64 x] W fun e W' => e = .returned (.int .u64 (zigN x)) ∧ W = W' := by
  unfold isI64 at h
  obtain ⟨h1, h2⟩ := h
  by_cases h0 : 0 ≤ x
  · go_enter Try.func89, Try.ntmps89
    go_wp2
    go_ret
    refine ⟨ret_i ?_, rfl⟩
    rw [show x / 9223372036854775808 = 0 from by omega, xor_u_0 _ (by omega) (by omega)]
    unfold zigN
    rw [if_pos h0]
    omega
  · go_enter Try.func89, Try.ntmps89
    go_wp2
    go_ret
    refine ⟨ret_i ?_, rfl⟩
    rw [show x / 9223372036854775808 = -1 from by omega, show IntKind.u64.wrap (-1) = 18446744073709551615 from by decide]
    rw [show IntKind.u64.wrap x = x + 18446744073709551616 from by simp [IntKind.wrap, IntKind.bits, IntKind.signed]; omega]
    rw [show IntKind.u64.wrap ((x + 18446744073709551616) * 2) = x * 2 + 18446744073709551616 from by simp [IntKind.wrap, IntKind.bits, IntKind.signed]; omega]
    rw [xor_u_1 _ (by omega) (by omega)]
    unfold zigN
    rw [if_neg (by omega)]
    omega
set_option maxHeartbeats 400000 in
theorem zag_prog (u : Nat) (W : World) (h : u < 2 ^ 64) : Calls Try.prog 97 #[.int .u64 u] W fun e W' => e = .returned (.int .i64 (zagZ u)) ∧ W = W' := by
  by_cases h0 : u % 2 = 0
  · go_enter Try.func97, Try.ntmps97
    go_wp2
    go_ret
    refine ⟨ret_i ?_, rfl⟩
    rw [and_u_1 u h, h0, show wrap64 (-wrap64 ((0 : Nat) : Int)) = 0 from by simp [wrap64], xor_i_0 _ (by omega) (by omega)]
    unfold zagZ
    rw [if_pos h0]
    omega
  · go_enter Try.func97, Try.ntmps97
    go_wp2
    go_ret
    refine ⟨ret_i ?_, rfl⟩
    rw [and_u_1 u h, show u % 2 = 1 from by omega, show wrap64 (-wrap64 ((1 : Nat) : Int)) = -1 from by simp [wrap64], xor_i_1 _ (by omega) (by omega)]
    unfold zagZ
    rw [if_neg h0]
    omega
set_option maxHeartbeats 400000 in
theorem zig_ref (x : Int) (W : World) (h : isI64 x) : Calls Try.prog 73 #[.int .i64 x] W fun e W' => e = .returned (.int .u64 (zigN x)) ∧ W = W' := by
  unfold isI64 at h
  obtain ⟨h1, h2⟩ := h
  by_cases h0 : 0 ≤ x
  · go_enter Try.func73, Try.ntmps73
    go_wp2
    go_ret
    refine ⟨ret_i ?_, rfl⟩
    unfold zigN
    rw [if_pos h0]
    omega
  · go_enter Try.func73, Try.ntmps73
    go_wp2
    go_ret
    refine ⟨ret_i ?_, rfl⟩
    unfold zigN
    rw [if_neg (by omega)]
    omega
set_option maxHeartbeats 400000 in
theorem zag_ref (u : Nat) (W : World) (h : u < 2 ^ 64) : Calls Try.prog 112 #[.int .u64 u] W fun e W' => e = .returned (.int .i64 (zagZ u)) ∧ W = W' := by
  by_cases h0 : u % 2 = 0
  · go_enter Try.func112, Try.ntmps112
    go_wp2
    go_ret
    refine ⟨ret_i ?_, rfl⟩
    unfold zagZ
    rw [if_pos h0]
    omega
  · go_enter Try.func112, Try.ntmps112
    go_wp2
    go_ret
    refine ⟨ret_i ?_, rfl⟩
    unfold zagZ
    rw [if_neg h0]
    omega
end Go.Proofs.Ytcpimhefclfbaaa
