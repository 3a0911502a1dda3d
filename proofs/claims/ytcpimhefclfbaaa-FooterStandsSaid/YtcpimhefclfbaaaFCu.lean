/-
  Numbers of few bytes, as plain laws: no program here.
  The walks of layer 4's functions, part 1: Clone, Grow, of bytes.
  The walks of layer 4's functions, part 2: Size, Put, both.
  The walks of layer 3's functions, part 1: the program's cursor.
  The walks of layer 4's functions, part 3: the program's Get and Len.
  The walks of layer 4's functions, part 4: the program's Len.
  Numbers and bytes that are read, as plain laws: what was laid is read, and what is read was laid so.
-/
import Derived.Lib.SliceRun
import Derived.Lib.AppendZerosOnto
import Derived.ScopeJumps
import Derived.WalkMore
import Derived.Test.YtcpimhefclfbaaaFBp
import Derived.Test.YtcpimhefclfbaaaFA

namespace Go.Proofs.Ytcpimhefclfbaaa

/-- A number's bytes, in at most so many. -/
def putF : Nat → Nat → List UInt8
  | 0, _ => []
  | f + 1, n => if n < 128 then [UInt8.ofNat n] else UInt8.ofNat (n % 128 + 128) :: putF f (n / 128)
/-- A number's bytes. -/
def putB (n : Nat) : List UInt8 := putF 10 n

/-- The number that bytes begin with, k bytes of it being read, and what is left. -/
def getF : Nat → Nat → Nat → List UInt8 → Option (Nat × List UInt8)
  | 0, _, _, _ => none
  | _ + 1, _, _, [] => none
  | f + 1, k, n, x :: l => if (0 < k ∧ x = 0) ∨ (k = 9 ∧ 1 < x.toNat) then none
    else if x.toNat < 128 then some (n + x.toNat % 128 * 2 ^ (7 * k), l) else getF f (k + 1) (n + x.toNat % 128 * 2 ^ (7 * k)) l
def getV (l : List UInt8) : Option (Nat × List UInt8) := getF 10 0 0 l

theorem get_put : ∀ (f k n acc : Nat) (l : List UInt8), k + f = 10 → 0 < f → n < 2 ^ (64 - 7 * k) → (0 < k → 0 < n) → getF f k acc (putF f n ++ l) = some (acc + n * 2 ^ (7 * k), l)
  | 0, _, _, _, _, _, h, _, _ => absurd h (by omega)
  | f + 1, k, n, acc, l, hk, _, hn, hpos => by
    unfold putF
    split
    · rename_i hlt
      have hx : (UInt8.ofNat n).toNat = n := by rw [UInt8.toNat_ofNat']; omega
      rw [List.singleton_append, getF, hx, if_neg, if_pos hlt, Nat.mod_eq_of_lt hlt]
      rintro (⟨h1, h2⟩ | ⟨h1, h2⟩)
      · have := congrArg UInt8.toNat h2
        rw [hx] at this
        have h3 : (0 : UInt8).toNat = 0 := rfl
        have := hpos h1
        omega
      · subst h1
        simp at hn
        omega
    · rename_i hge
      have hx : (UInt8.ofNat (n % 128 + 128)).toNat = n % 128 + 128 := by rw [UInt8.toNat_ofNat']; omega
      have hk9 : k ≠ 9 := by
        rintro rfl
        simp at hn
        omega
      have hk8 : k < 9 := by omega
      rw [List.cons_append, getF, hx, if_neg, if_neg (by omega)]
      · have h7 : 2 ^ (64 - 7 * k) = 2 ^ (64 - 7 * (k + 1)) * 128 := by
          rw [show 64 - 7 * k = 64 - 7 * (k + 1) + 7 from by omega, Nat.pow_add]
        rw [get_put f (k + 1) (n / 128) _ l (by omega) (by omega) (by omega) (by omega)]
        congr 2
        have h8 : 2 ^ (7 * (k + 1)) = 128 * 2 ^ (7 * k) := by rw [Nat.mul_add, Nat.pow_add]; omega
        rw [h8, ← Nat.mul_assoc, Nat.add_assoc, ← Nat.add_mul]
        congr 2
        omega
      · rintro (⟨h1, h2⟩ | ⟨h1, h2⟩)
        · have := congrArg UInt8.toNat h2
          rw [hx] at this
          have h3 : (0 : UInt8).toNat = 0 := rfl
          omega
        · omega
theorem getV_put {n : Nat} (h : n < 2 ^ 64) (l : List UInt8) : getV (putB n ++ l) = some (n, l) := by
  have := get_put 10 0 n 0 l rfl (by omega) (by simpa using h) (by omega)
  simpa [getV, putB] using this

theorem putF_len : ∀ (f n : Nat), (putF f n).length ≤ f
  | 0, _ => by simp [putF]
  | f + 1, n => by
    unfold putF
    split
    · simp
    · have := putF_len f (n / 128); simp; omega
theorem putF_pos (f n : Nat) (h : 0 < f) : 0 < (putF f n).length := by
  cases f with
  | zero => omega
  | succ f => unfold putF; split <;> simp
theorem putB_len (n : Nat) : 0 < (putB n).length ∧ (putB n).length ≤ 10 := ⟨putF_pos 10 n (by omega), putF_len 10 n⟩
/-- One step of laying a number. -/
theorem putF_step (f n : Nat) : putF (f + 1) n = if n < 128 then [UInt8.ofNat n] else UInt8.ofNat (n % 128 + 128) :: putF f (n / 128) := rfl
/-- A number below 2 ^ 14 has at most two bytes. -/
theorem putB_short {n : Nat} (h : n < 16384) : (putB n).length ≤ 2 := by
  rw [putB, putF_step]
  split
  · simp
  · rw [putF_step, if_pos (by omega)]; simp
end Go.Proofs.Ytcpimhefclfbaaa

namespace Go.Proofs.Ytcpimhefclfbaaa
open Go Go.RowKit
set_option maxRecDepth 10000
set_option linter.unusedVariables false
set_option linter.unusedSimpArgs false


set_option maxHeartbeats 400000 in
theorem clone_bytes {X : List Nat} {A : Option Addr} {n c : Nat} {l : List UInt8} (W : World) (h : Bys X W A n c l) (hroom : n ≤ 20000000000000) :
    Calls Try.prog 44 #[.slice A n c] W fun e W' => ∃ B d, e = .returned (.slice B n d) ∧ Keep [] W W' ∧ W'.ownsRow W.heap.size 5 1 (.slice B n d) n (l.map vU8) := by
  have hc := h.cap
  have hnc := h.le
  obtain ⟨i0, hi, hz0, hz1, hz2⟩ := info_parts Try.infoU8
  cases A with
  | none =>
    obtain ⟨rfl, hx⟩ := h.none_nil
    obtain rfl := h.2.2.2.2 rfl
    have hnil := fun w : World => Lib.run_eql_slice_nil (P := Try.prog) w 28 5 none 0 0 0 0 Try.underlying28
    have HX := Lib.hid hx
    clear hx
    go_enter Try.func44, Try.ntmps44
    go_wp2
    go_ret
    exact ⟨none, 0, rfl, Keep.refl _ _, by rw [HX.out]; exact World.ownsRow_nil _ _ _ _⟩
  | some a =>
    have hnil := fun w : World => Lib.run_eql_slice_nil (P := Try.prog) w 28 5 (some a) n c 0 0 Try.underlying28
    go_enter Try.func44, Try.ntmps44
    go_wp2_with (at_builtin; refine wpList_append_rd rfl _ _ 28 rfl W.heap.size 5 i0 (.int .u8 0) 1 1 Try.underlying28 hi hz0 hz1 hz2 rfl (by omega) _ 0 [] rfl (World.ownsRow_lit W #[] 0 (Nat.le_refl _) (by simp [maxLen]) (by simp)) rfl (h.pure ((Keep.refl [] W).alloc _)) (vU8_one l) (by unfold maxLen; omega) (by omega) (by simp) ?_)
    intro v' w1 hown hgr
    obtain ⟨B, d, rfl⟩ := own_form hown
    have hk : Keep [] W w1 := ((Keep.refl [] W).alloc (.cells #[] 5)).grown hgr (by simp [Value.ownBlock])
    clear hgr
    go_wp2
    go_ret
    refine ⟨B, d, rfl, hk, ?_⟩
    simpa using hown

set_option maxHeartbeats 2000000 in
theorem grow_bytes {base n c : Nat} {B : Option Addr} {l : List UInt8} (k : Nat) (W : World) (h : W.ownsRow base 5 1 (.slice B n c) n (l.map vU8)) (hk : k ≤ 10000000000000) (hroom : n ≤ 20000000000000) (hb : base ≤ W.heap.size) :
    Calls Try.prog 45 #[.slice B n c, .int .i64 k] W fun e W' => ∃ B' d, e = .returned (.slice B' n d) ∧ Keep [] W W' ∧ W'.ownsRow base 5 1 (.slice B' n d) n (l.map vU8) := by
  have hr : Bys [] W B n c l := rd_of_own h (by simp)
  have hc := hr.cap
  have hnc := hr.le
  have hl := hr.len1
  have h1 : ¬ ((k : Int) < 0) := by omega
  have h2 : wrap64 ((c : Int) - (n : Int)) = (c : Int) - (n : Int) := by unfold wrap64; omega
  have h3 : wrap64 ((k : Int) - ((c : Int) - (n : Int))) = (k : Int) - ((c : Int) - (n : Int)) := by unfold wrap64; omega
  by_cases hroom2 : n + k ≤ c
  · have h4 : ¬ ((k : Int) - ((c : Int) - (n : Int)) > 0) := by omega
    go_enter Try.func45, Try.ntmps45
    go_wp2
    go_ret
    exact ⟨B, c, rfl, Keep.refl _ _, h⟩
  · obtain ⟨i0, hi, hz0, hz1, hz2⟩ := info_parts Try.infoU8
    have h4 : (k : Int) - ((c : Int) - (n : Int)) > 0 := by omega
    obtain ⟨cs, hcl, hcs, htk, hnil⟩ : ∃ cs : List Value, cs.length = c ∧ (∀ a, B = some a → ∀ j v, cs[j]? = some v → W.cell? (a.add j) = some v) ∧ cs.take n = l.map vU8 ∧ (B = none → c = 0) := by
      rcases h.2 with ⟨hv, h0⟩ | ⟨g, cap, cur, hv, hbg, hg, hncap, hcm, hsz, ht⟩
      · injection hv with e1 e2 e3
        subst e1 e3
        exact ⟨[], rfl, fun a h => (by cases h), (by rw [List.eq_nil_of_length_eq_zero (hl.trans h0)]; simp), fun _ => rfl⟩
      · injection hv with e1 e2 e3
        subst e1 e3
        refine ⟨cur.toList, by simpa using hsz, fun a ha j v hj => ?_, by simpa using ht, fun h => by cases h⟩
        injection ha with ha
        subst ha
        rw [addr_add, Nat.zero_add, cell_of_row W g j cur 5 (0, 0) hg]
        simpa using hj
    have hck : c + (n + k - c) = n + k := by omega
    have hold : (Builtin.firstCells i0.size c (.slice B c c)).run Try.prog W.drew = .ok cs.toArray W.drew := by
      rw [hz1]
      cases B with
      | none =>
        have h0 := hnil rfl
        subst h0
        have hc0 : cs = [] := List.length_eq_zero_iff.1 hcl
        rw [hc0]
        exact run_firstCells_none W.drew 1 0 0 0
      | some a => exact run_firstCells_some W.drew 1 c a c c cs (by simpa using hcl) (fun j v hj => hcs a rfl j v hj)
    have hrz : ∀ ty, (Builtin.append_ #[28, 3] ty #[.slice B c c, .int .i64 ((k : Int) - ((c : Int) - (n : Int)))]).run Try.prog W =
        .ok (.slice (some ⟨W.heap.size, 0, none⟩) (n + k) (grownCap W (n + k) c 5)) (W.drew.alloc (.cells (cs.toArray ++ Builtin.zeroCells (Value.int .u8 0).cells (n + k - c) ++ Builtin.zeroCells (Value.int .u8 0).cells (grownCap W (n + k) c 5 - (n + k))) 5)) := fun ty => by
      have h := Lib.run_append_grow_zeros W 28 3 ty 5 i0 (.int .u8 0) .i64 .i64 Try.underlying28 Try.underlying3 hi hz0 B c c cs hold (n + k - c) (by omega) (by omega) (by omega) (by omega)
        (by rw [hz2]; omega)
        (by rw [hck]; exact growslice_fits (by omega) (by rw [hz2]; omega))
      rw [hck] at h
      rw [show (k : Int) - ((c : Int) - (n : Int)) = ((n + k - c : Nat) : Int) by omega]
      exact h
    have hGn : n + k ≤ grownCap W (n + k) c 5 := grownCap_ge W _ _ _
    have hGm := grownCap_le_maxLen W (n + k) c 5 (by unfold maxLen; omega)
    obtain ⟨G, hG⟩ : ∃ G, G = grownCap W (n + k) c 5 := ⟨_, rfl⟩
    rw [← hG] at hrz hGn hGm
    have hG63 : G ≤ 9223372036854775807 := by unfold maxLen at hGm; omega
    obtain ⟨Z, hZ⟩ : ∃ Z, Z = cs.toArray ++ Builtin.zeroCells (Value.int .u8 0).cells (n + k - c) ++ Builtin.zeroCells (Value.int .u8 0).cells (G - (n + k)) := ⟨_, rfl⟩
    rw [← hZ] at hrz
    have hfin : Keep [] W (W.drew.alloc (.cells Z 5)) ∧ (W.drew.alloc (.cells Z 5)).ownsRow base 5 1 (.slice (some ⟨W.heap.size, 0, none⟩) n G) n (l.map vU8) := by
      refine ⟨((Keep.refl [] W).drew).alloc _, by simpa using hl, .inr ⟨W.heap.size, G, Z, rfl, hb, heap_alloc_new W.drew _, by omega, hGm, ?_, ?_⟩⟩
      · rw [hZ]
        simp [size_zeroCells, Value.cells, hcl]
        omega
      · rw [hZ, ← htk]
        simp only [Array.toList_append, List.append_assoc]
        rw [Nat.mul_one, List.take_append_of_le_length (by simp [hcl]; omega)]
    replace hfin := Lib.hid hfin
    clear hold hck hG hcs hcl hr h htk hZ
    go_enter Try.func45, Try.ntmps45
    cases B with
    | none =>
      have h0 := hnil rfl
      subst h0
      obtain rfl : n = 0 := by omega
      go_wp2_with (at_builtin; refine Lib.wpList_append_run _ rfl _ _ _ _ rfl _ _ rfl rfl _ _ (hrz _) ?_)
      go_ret
      exact ⟨_, G, rfl, hfin.out⟩
    | some a =>
      obtain ⟨ab, ao, asp⟩ := a
      go_wp2_with (at_builtin; refine Lib.wpList_append_run _ rfl _ _ _ _ rfl _ _ rfl rfl _ _ (hrz _) ?_)
      go_ret
      exact ⟨_, G, rfl, hfin.out⟩
end Go.Proofs.Ytcpimhefclfbaaa

namespace Go.Proofs.Ytcpimhefclfbaaa
open Go Go.RowKit
set_option maxRecDepth 10000
set_option linter.unusedVariables false
set_option linter.unusedSimpArgs false

set_option maxHeartbeats 400000 in
theorem size_prog (x : Nat) (W : World) (hx : x < 2 ^ 64) : Calls Try.prog 46 #[.int .u64 (x : Int)] W fun e W' => (∃ k : Nat, k ≤ 10 ∧ e = .returned (.int .i64 k)) ∧ W = W' := by
  have hlt : x ||| 1 < 2 ^ 64 := Nat.or_lt_two_pow hx (by decide)
  have hor : bits .or .u64 (x : Int) 1 = ((x ||| 1 : Nat) : Int) := bits_or_u64 x 1 hx (by decide)
  have hb := (bitLen_le hlt 64).2 hlt
  generalize x ||| 1 = y at *
  go_enter Try.func46, Try.ntmps46
  go_wp2_with fail
  refine (Try.bits_Len64 y W (by omega) (by omega)).mono ?_
  rintro e w1 ⟨rfl, rfl⟩
  rw [Int.toNat_natCast]
  generalize Lib.bitLen y = m at *
  obtain ⟨q, hq⟩ : ∃ q : Nat, (m + 6) / 7 = q := ⟨_, rfl⟩
  have hq2 : ((m : Int) + 7 - 1) / 7 = q := by omega
  have hq3 : ((m : Int) + 6) / 7 = q := by omega
  have hq10 : q ≤ 10 := by omega
  clear hq hor
  go_wp2
  go_ret
  exact ⟨⟨q, hq10, ret_i (by omega)⟩, rfl⟩

/-- n's bytes, q of them laid. -/
def Laid (n : Nat) (q : List UInt8) (f v : Nat) : Prop := putB n = q ++ putF f v ∧ f + q.length = 10 ∧ 0 < f ∧ v < 2 ^ (64 - 7 * (10 - f))
theorem laid_start {n : Nat} (h : n < 2 ^ 64) : Laid n [] 10 n := ⟨rfl, rfl, by omega, by simpa using h⟩
theorem laid_step {n f v : Nat} {q : List UInt8} (h : Laid n q f v) (hv : 128 ≤ v) : Laid n (q ++ [UInt8.ofNat (v % 128 + 128)]) (f - 1) (v / 128) ∧ 1 < f := by
  obtain ⟨h1, h2, h3, h4⟩ := h
  have hf : 1 < f := by
    rcases Nat.lt_or_ge 1 f with hf | hf
    · exact hf
    · obtain rfl : f = 1 := by omega
      simp at h4
      omega
  obtain ⟨g, rfl⟩ : ∃ g, f = g + 1 := ⟨f - 1, by omega⟩
  refine ⟨⟨?_, by simp; omega, by omega, ?_⟩, hf⟩
  · rw [h1, putF_step, if_neg (by omega)]
    simp
  · have h7 : 2 ^ (64 - 7 * (10 - (g + 1))) = 2 ^ (64 - 7 * (10 - g)) * 128 := by
      rw [show 64 - 7 * (10 - (g + 1)) = 64 - 7 * (10 - g) + 7 from by omega, Nat.pow_add]
    rw [h7] at h4
    simp only [Nat.add_sub_cancel]
    omega
theorem laid_end {n f v : Nat} {q : List UInt8} (h : Laid n q f v) (hv : v < 128) : putB n = q ++ [UInt8.ofNat v] := by
  obtain ⟨h1, h2, h3, h4⟩ := h
  obtain ⟨g, rfl⟩ : ∃ g, f = g + 1 := ⟨f - 1, by omega⟩
  rw [h1, putF_step, if_pos hv]
theorem laid_len {n f v : Nat} {q : List UInt8} (h : Laid n q f v) : q.length ≤ 9 := by have := h.2.1; have := h.2.2.1; omega
theorem u8_or_128 (v : Nat) : (v % 256) ||| 128 = v % 128 + 128 := by
  have h1 : (v % 256) ||| 128 = (v % 128) ||| 128 := by
    apply Nat.eq_of_testBit_eq
    intro i
    rw [Nat.testBit_or, Nat.testBit_or, show (256 : Nat) = 2 ^ 8 from rfl, show v % 128 = v % 2 ^ 7 from rfl, Nat.testBit_mod_two_pow, Nat.testBit_mod_two_pow, show (128 : Nat) = 2 ^ 7 from rfl, Nat.testBit_two_pow]
    by_cases h7 : i = 7
    · subst h7; simp
    · by_cases h8 : i < 7
      · simp [h8, show i < 8 from by omega]
      · simp [h8, show ¬ i < 8 from by omega]
  have h2 : 2 ^ 7 * 1 + v % 128 = 2 ^ 7 * 1 ||| v % 128 := Nat.two_pow_add_eq_or_of_lt (i := 7) (b := v % 128) (by omega) 1
  have h3 : 128 ||| v % 128 = 2 ^ 7 * 1 ||| v % 128 := rfl
  rw [h1, Nat.or_comm, h3, ← h2]
  omega

set_option maxHeartbeats 1000000 in
set_option maxRecDepth 10000 in
theorem put_prog {X : List Nat} {A : Option Addr} {m c : Nat} {l : List UInt8} (n : Nat) (W : World) (h : Bys X W A m c l) (hn : n < 2 ^ 64) (hroom : m ≤ 10000000000000) :
    Calls Try.prog 24 #[.slice A m c, .int .u64 (n : Int)] W fun e W' => ∃ B k d, e = .returned (.slice B k d) ∧ Keep [] W W' ∧ W'.ownsRow W.heap.size 5 1 (.slice B k d) k ((l ++ putB n).map vU8) := by
  have hc := h.cap
  have hnc := h.le
  obtain ⟨i0, hi, hz0, hz1, hz2⟩ := info_parts Try.infoU8
  obtain rfl := h.len1
  go_enter Try.func24, Try.ntmps24
  go_wp2_with fail
  refine (clone_bytes W h (by omega)).mono ?_
  rintro e w1 ⟨B1, d1, rfl, hk1, hown1⟩
  have hw1 := hk1.size
  go_wp2_with fail
  refine (size_prog n w1 hn).mono ?_
  rintro e w2 ⟨⟨k, hk, rfl⟩, rfl⟩
  go_wp2_with fail
  refine (grow_bytes k w1 hown1 (by omega) (by omega) hw1).mono ?_
  rintro e w2 ⟨B2, d2, rfl, hk2, hown2⟩
  have hk12 := hk1.trans hk2
  have hd2 : d2 ≤ 9223372036854775807 := (rd_of_own (X := []) hown2 (by simp)).cap
  go_wp2
  go_loopw [5, 1] (fun s v wr => ∃ (z f : Nat) (q : List UInt8), v = .int .u64 (z : Int) ∧ z < 18446744073709551616 ∧ Hid (Laid n q f z) ∧ wr.ownsRow W.heap.size 5 1 s (l.length + q.length) ((l ++ q).map vU8) ∧ Keep [] W wr) (fun _ v _ => (intOf v).toNat)
  case atStart => exact ⟨n, 10, [], rfl, by omega, laid_start hn, by simpa using hown2, hk12⟩
  case round =>
    obtain ⟨z, f, q, rfl, hz, HL, hown, hkeep⟩ := hrel
    have hql := laid_len HL.out
    have hsz := hkeep.size
    obtain ⟨B3, d3, rfl⟩ := own_form hown
    by_cases hge : 128 ≤ z
    · obtain ⟨HL2, hf⟩ := laid_step HL.out hge
      have hor : bits .or .u8 ((z : Int) % 256) 128 = ((z % 128 + 128 : Nat) : Int) := by
        have := bits_or_u8 (z % 256) 128 (by omega) (by omega)
        rw [u8_or_128] at this
        rw [← this]
        congr 1
      obtain ⟨y, hy⟩ : ∃ y, z % 128 + 128 = y := ⟨_, rfl⟩
      rw [hy] at HL2 hor
      have hy2 : y < 256 := by omega
      have hyB : (UInt8.ofNat y).toNat = y := by rw [UInt8.toNat_ofNat']; omega
      have hdv : (z : Int) / 128 = ((z / 128 : Nat) : Int) := by omega
      have hlt2 : z / 128 < z := by omega
      have hz2' : z / 128 < 18446744073709551616 := by omega
      generalize hzz : z / 128 = z' at *
      replace HL2 := Lib.hid HL2
      have hyB' := Lib.hid hyB
      clear hy hyB hzz
      have hbk : Bys [] (wr.alloc (.cells #[.int .u8 (y : Int)] 5)) (some ⟨wr.heap.size, 0, none⟩) 1 1 [UInt8.ofNat y] := by
        refine (Blk.new wr 5 [.int .u8 (y : Int)]).rd (by simp) rfl (by omega) (by simp [maxLen]) ?_
        simp [vU8, hyB'.out]
      go_wp2_with (at_builtin; refine wpList_append_rd rfl _ _ 28 rfl W.heap.size 5 i0 (.int .u8 0) 1 1 Try.underlying28 hi hz0 hz1 hz2 rfl (by omega) (.slice B3 (l.length + q.length) d3) (l.length + q.length) _ rfl (hown.alloc _) rfl hbk (vU8_one [UInt8.ofNat y]) (by unfold maxLen; omega) (by omega) (by simp; omega) ?_)
      intro v' w3 hown' hgr
      have hk3 : Keep [] W w3 := (hkeep.alloc (.cells #[.int .u8 (y : Int)] 5)).grown hgr (fun g hg => .inr (own_ge hown g hg))
      clear hgr hown hbk
      go_wp2
      go_roundw
      case rel =>
        refine ⟨z', f - 1, q ++ [UInt8.ofNat y], by go_num, hz2', HL2, ?_, hk3⟩
        simpa [Nat.add_assoc] using hown'
      case measure => simp [intOf]; omega
    · have HE := Lib.hid (laid_end HL.out (by omega))
      have hmz : (z : Int) % 256 = (z : Int) := by omega
      have hyB' : Hid ((UInt8.ofNat z).toNat = z) := by unfold Hid; rw [UInt8.toNat_ofNat']; omega
      have hbk : Bys [] (wr.alloc (.cells #[.int .u8 (z : Int)] 5)) (some ⟨wr.heap.size, 0, none⟩) 1 1 [UInt8.ofNat z] := by
        refine (Blk.new wr 5 [.int .u8 (z : Int)]).rd (by simp) rfl (by omega) (by simp [maxLen]) ?_
        simp [vU8, hyB'.out]
      go_wp2_with (at_builtin; refine wpList_append_rd rfl _ _ 28 rfl W.heap.size 5 i0 (.int .u8 0) 1 1 Try.underlying28 hi hz0 hz1 hz2 rfl (by omega) (.slice B3 (l.length + q.length) d3) (l.length + q.length) _ rfl (hown.alloc _) rfl hbk (vU8_one [UInt8.ofNat z]) (by unfold maxLen; omega) (by omega) (by simp; omega) ?_)
      intro v' w3 hown' hgr
      have hk3 : Keep [] W w3 := (hkeep.alloc (.cells #[.int .u8 (z : Int)] 5)).grown hgr (fun g hg => .inr (own_ge hown g hg))
      clear hgr hown hbk
      obtain ⟨B4, d4, rfl⟩ := own_form hown'
      go_wp2
      go_ret
      refine ⟨B4, _, d4, rfl, hk3, ?_⟩
      rw [HE.out]
      simpa using hown'
end Go.Proofs.Ytcpimhefclfbaaa

namespace Go.Proofs.Ytcpimhefclfbaaa
open Go Go.RowKit
set_option maxRecDepth 10000
set_option linter.unusedVariables false
set_option linter.unusedSimpArgs false

/-- A slice's block is below g. -/
def Low (A : Option Addr) (n g : Nat) : Prop := ∀ a, A = some a → 0 < n → a.block < g
theorem Low.none_ (n g : Nat) : Low none n g := fun _ h => by cases h
theorem Low.zero (A : Option Addr) (g : Nat) : Low A 0 g := fun _ _ h => absurd h (by omega)
theorem Low.map {A : Option Addr} {n m g q : Nat} (h : Low A n g) (hm : m ≤ n) : Low (A.map (·.add q)) m g := by
  intro b e h0
  cases A with
  | none => cases e
  | some a =>
    simp only [Option.map_some, Option.some.injEq] at e
    have := h a rfl (by omega)
    subst e
    unfold Addr.add
    split <;> exact this
/-- A cursor at g: what is left; none: it is bad. -/
def Cur (t : TypeId) (w : World) (g : Nat) (s : Option (List UInt8)) : Prop :=
  ∃ A n c, Blk w g t [.slice A n c, .bool s.isNone] ∧ Bys [g] w A n c (s.getD []) ∧ n ≤ 10000000000000 ∧ Low A n g
theorem Cur.lt {t : TypeId} {w : World} {g : Nat} {s : Option (List UInt8)} (h : Cur t w g s) : g < w.heap.size := by
  obtain ⟨A, n, c, hb, _⟩ := h
  exact hb.lt
theorem Cur.pure {t : TypeId} {w w' : World} {g : Nat} {s : Option (List UInt8)} (h : Cur t w g s) (hk : Keep [] w w') : Cur t w' g s := by
  obtain ⟨A, n, c, hb, hr, hn⟩ := h
  exact ⟨A, n, c, hb.keep hk (by simp), hr.pure hk, hn⟩
theorem Cur.keep {M : List Nat} {t : TypeId} {w w' : World} {g : Nat} {s : Option (List UInt8)} (h : Cur t w g s) (hk : Keep M w w') (hM : ∀ b ∈ M, g < b) : Cur t w' g s := by
  obtain ⟨A, n, c, hb, hr, hn⟩ := h
  have hgM : g ∉ M := fun hm => by have := hM g hm; omega
  refine ⟨A, n, c, hb.keep hk hgM, ⟨hr.1, hr.2.1, hr.2.2.1, fun h0 => ?_, hr.2.2.2.2⟩, hn⟩
  obtain ⟨b, off, e, hlt, hb', hc⟩ := hr.2.2.2.1 h0
  have hbg : b < g := hn.2 _ e h0
  refine ⟨b, off, e, Nat.lt_of_lt_of_le hlt hk.size, hb', fun j u hu => ?_⟩
  exact (World.cell?_of_block (w := w) (a := ⟨b, off + j, none⟩) (hk.block b hlt (fun hm => by have := hM b hm; omega))).trans (hc j u hu)
/-- What the next bytes are, and what is left then. -/
def takeC (s : Option (List UInt8)) (n : Int) : List UInt8 × Option (List UInt8) :=
  match s with
  | none => ([], none)
  | some l => if 0 ≤ n ∧ n ≤ l.length then (l.take n.toNat, some (l.drop n.toNat)) else ([], none)

set_option maxHeartbeats 400000 in
theorem over_prog {X : List Nat} {A : Option Addr} {n c : Nat} {l : List UInt8} (W : World) (h : Bys X W A n c l) (hroom : n ≤ 10000000000000) :
    Calls Try.prog 33 #[.slice A n c] W fun e W' => ∃ g, e = .returned (.pointer (some ⟨g, 0, none⟩)) ∧ W.heap.size ≤ g ∧ Keep [] W W' ∧ Cur 88 W' g (some l) := by
  have hc := h.cap
  have hnc := h.le
  go_enter Try.func33, Try.ntmps33
  go_wp2_with fail
  refine (clone_bytes W h (by omega)).mono ?_
  rintro e w1 ⟨B1, d1, rfl, hk1, hown1⟩
  have hw1 := hk1.size
  go_wp2
  go_ret
  refine ⟨w1.heap.size, rfl, hw1, hk1.alloc _, B1, n, d1, Blk.new w1 88 [.slice B1 n d1, .bool false], ?_, by omega, fun a e h0 => ?_⟩
  all_goals have hr : Bys [] w1 B1 n d1 l := rd_of_own hown1 (by simp)
  rotate_left
  · obtain ⟨b', off', e', hlt, _⟩ := hr.2.2.2.1 h0
    rw [e] at e'
    cases e'
    exact hlt
  exact (hr.weaken (Y := [w1.heap.size]) (by simp)).pure ((Keep.refl _ _).alloc _)

set_option maxHeartbeats 400000 in
theorem fail_prog {g : Nat} {s : Option (List UInt8)} (W : World) (h : Cur 88 W g s) :
    Calls Try.prog 53 #[.pointer (some ⟨g, 0, none⟩)] W fun e W' => e = .returned (.tuple #[]) ∧ Keep [g] W W' ∧ Cur 88 W' g none := by
  obtain ⟨A, n, c, hb, hr, hn⟩ := h
  have hc0 := hb.cell 0
  have hc1 := hb.cell 1
  have hf0 := hb.frozen 0
  have hf1 := hb.frozen 1
  simp only [List.getElem?_cons_zero, List.getElem?_cons_succ] at hc0 hc1
  go_enter Try.func53, Try.ntmps53
  go_wp2
  go_end0
  refine ⟨rfl, ((Keep.refl [g] W).setCell (p := ⟨g, 0, none⟩) (.inl (by simp)) _).setCell (p := ⟨g, 1, none⟩) (.inl (by simp)) _, none, 0, 0, (hb.set_ 0 _).set_ 1 _, Rd.nil_ _ _ _, by omega, Low.none_ _ _⟩

set_option maxHeartbeats 400000 in
theorem bad_prog {g : Nat} {s : Option (List UInt8)} (W : World) (h : Cur 88 W g s) :
    Calls Try.prog 37 #[.pointer (some ⟨g, 0, none⟩)] W fun e W' => e = .returned (.bool s.isNone) ∧ W = W' := by
  obtain ⟨A, n, c, hb, hr, hn⟩ := h
  have hc1 := hb.cell 1
  simp only [List.getElem?_cons_zero, List.getElem?_cons_succ] at hc1
  generalize s.isNone = v at *
  go_enter Try.func37, Try.ntmps37
  go_wp2
  go_ret
  exact ⟨rfl, rfl⟩

set_option maxHeartbeats 400000 in
theorem end_prog {g : Nat} {s : Option (List UInt8)} (W : World) (h : Cur 88 W g s) :
    Calls Try.prog 38 #[.pointer (some ⟨g, 0, none⟩)] W fun e W' => e = .returned (.bool (decide (s = some []))) ∧ W = W' := by
  obtain ⟨A, n, c, hb, hr, hn⟩ := h
  obtain rfl := hr.len1
  have hc0 := hb.cell 0
  have hc1 := hb.cell 1
  simp only [List.getElem?_cons_zero, List.getElem?_cons_succ] at hc0 hc1
  cases s with
  | none =>
    simp only [Option.isNone_none] at hc1
    go_enter Try.func38, Try.ntmps38
    go_wp2
    go_ret
    exact ⟨ret_b (by simp), rfl⟩
  | some l =>
    simp only [Option.isNone_some] at hc1
    simp only [Option.getD_some] at hc0
    have hd : Hid (decide (some l = some []) = decide (l.length = 0)) := by unfold Hid; cases l <;> simp
    go_enter Try.func38, Try.ntmps38
    go_wp2
    go_ret
    rw [hd.out]
    refine ⟨ret_b ?_, rfl⟩
    by_cases h0 : l.length = 0
    · simp [h0]
    · rw [decide_eq_false h0, beq_eq_false_iff_ne]; omega

set_option maxHeartbeats 1000000 in
theorem take_prog {g : Nat} {s : Option (List UInt8)} (k : Int) (W : World) (h : Cur 88 W g s) (hk : -9223372036854775808 ≤ k ∧ k ≤ 9223372036854775807) :
    Calls Try.prog 57 #[.pointer (some ⟨g, 0, none⟩), .int .i64 k] W fun e W' => ∃ B m d, e = .returned (.slice B m d) ∧ Keep [g] W W' ∧ Cur 88 W' g (takeC s k).2 ∧
      W'.ownsRow W.heap.size 5 1 (.slice B m d) m ((takeC s k).1.map vU8) := by
  have h' := h
  obtain ⟨A, n, c, hb, hr, hn⟩ := h
  have hcap := hr.cap
  have hnc := hr.le
  obtain rfl := hr.len1
  have hc0 := hb.cell 0
  have hc1 := hb.cell 1
  have hf0 := hb.frozen 0
  simp only [List.getElem?_cons_zero, List.getElem?_cons_succ] at hc0 hc1
  cases s with
  | none =>
    simp only [Option.isNone_none] at hc1
    go_enter Try.func57, Try.ntmps57
    go_wp2_with fail
    refine (fail_prog W h').mono ?_
    rintro e w1 ⟨rfl, hk1, hcur⟩
    go_wp2
    go_ret
    exact ⟨none, 0, 0, rfl, hk1, hcur, World.ownsRow_nil _ _ _ _⟩
  | some l =>
    simp only [Option.isNone_some] at hc1
    simp only [Option.getD_some] at hc0 hr hnc hn
    by_cases hfit : 0 ≤ k ∧ k ≤ l.length
    · obtain ⟨q, rfl⟩ : ∃ q : Nat, k = q := ⟨k.toNat, by omega⟩
      have hq : q ≤ l.length := by omega
      have hT : Hid (takeC (some l) (q : Int) = (l.take q, some (l.drop q))) := by
        unfold Hid takeC
        simp only
        rw [if_pos hfit, Int.toNat_natCast]
      have hqi : ¬ ((l.length : Int) < (q : Int)) := by omega
      clear hfit
      rw [hT.out]
      go_enter Try.func57, Try.ntmps57
      go_wp2_with fail
      refine (clone_bytes W (hr.take1 hq) (by omega)).mono ?_
      rintro e w1 ⟨B1, d1, rfl, hk1, hown1⟩
      have hb1 := hb.keep hk1 (by simp)
      have hr1 := hr.pure hk1
      have hc0' := hb1.cell 0
      have hf0' := hb1.frozen 0
      simp only [List.getElem?_cons_zero, List.getElem?_cons_succ] at hc0'
      clear hc0 hf0
      have hd := hr1.drop1 hq rfl
      have hgl := hb.lt
      have hfin : ∀ (A' : Option Addr) (n' c' : Nat), Bys [g] w1 A' n' c' (l.drop q) → n' ≤ 10000000000000 ∧ Low A' n' g → Keep [g] W (w1.setCell ⟨g, 0, none⟩ (.slice A' n' c')) ∧ Cur 88 (w1.setCell ⟨g, 0, none⟩ (.slice A' n' c')) g (some (l.drop q)) ∧
          (w1.setCell ⟨g, 0, none⟩ (.slice A' n' c')).ownsRow W.heap.size 5 1 (.slice B1 q d1) q ((l.take q).map vU8) := fun A' n' c' hr' hn' => by
        have hks : Keep [g] w1 (w1.setCell ⟨g, 0, none⟩ (.slice A' n' c')) := (Keep.refl [g] w1).setCell (.inl (by simp)) _
        exact ⟨hk1.nil.trans hks, ⟨A', n', c', hb1.set_ 0 _, hr'.keep hks (fun b hb => .inl hb), hn'⟩, own_keep hown1 hks (by simpa using hgl)⟩
      replace hfin := Lib.hid hfin
      by_cases hcq : c = q
      · rw [if_pos hcq] at hd
        subst hcq
        rw [Nat.sub_self, show l.length - c = 0 from by omega] at hd
        have hF := Lib.hid (hfin.out _ _ _ hd ⟨by omega, Low.zero _ _⟩)
        clear hd
        go_wp2
        go_ret
        exact ⟨_, _, _, rfl, hF.out⟩
      · rw [if_neg hcq] at hd
        have hF := Lib.hid (hfin.out _ _ _ hd ⟨by omega, hn.2.map (by omega)⟩)
        clear hd
        go_wp2
        go_ret
        exact ⟨_, _, _, rfl, hF.out⟩
    · have hT : Hid (takeC (some l) k = ([], none)) := by
        unfold Hid takeC
        simp only
        rw [if_neg hfit]
      rw [hT.out]
      by_cases h0 : k < 0
      all_goals
        go_enter Try.func57, Try.ntmps57
        go_wp2_with fail
        refine (fail_prog W h').mono ?_
        rintro e w1 ⟨rfl, hk1, hcur⟩
        go_wp2
        go_ret
        exact ⟨none, 0, 0, rfl, hk1, hcur, World.ownsRow_nil _ _ _ _⟩

/-- The next byte, or 0. -/
def byteC (s : Option (List UInt8)) : Nat := num (takeC s 1).1
theorem takeC_one (s : Option (List UInt8)) : (takeC s 1).1 = [] ∨ ∃ x, (takeC s 1).1 = [x] := by
  cases s with
  | none => exact .inl rfl
  | some l =>
    cases l with
    | nil => exact .inl rfl
    | cons x l => right; exact ⟨x, by unfold takeC; simp only []; rw [if_pos ⟨by omega, by simp only [List.length_cons]; omega⟩]; rfl⟩

theorem num_snoc (b : List UInt8) (k : Nat) (hk : k < b.length) : num (b.take (k + 1)) = num (b.take k) + 2 ^ (8 * k) * b[k].toNat := by
  have key : ∀ (a : List UInt8) (x : UInt8), num (a ++ [x]) = num a + 2 ^ (8 * a.length) * x.toNat := by
    intro a x
    unfold num
    induction a with
    | nil => simp [pk]
    | cons y a ih =>
      simp only [List.cons_append, List.map_cons, pk, List.length_cons]
      rw [ih, Nat.mul_add, Nat.mul_add, Nat.pow_add]
      rw [show 8 * 1 = 8 from rfl, ← Nat.mul_assoc, Nat.mul_comm (2 ^ (8 * a.length)) (2 ^ 8)]
      omega
  rw [List.take_succ_eq_append_getElem hk, key, List.length_take, Nat.min_eq_left (by omega)]

theorem bits_or_u32 (a b : Nat) (ha : a < 2 ^ 32) (hb : b < 2 ^ 32) : bits .or .u32 (a : Int) (b : Int) = ((a ||| b : Nat) : Int) := by
  have hx : a ||| b < 2 ^ 32 := Nat.or_lt_two_pow ha hb
  show IntKind.u32.wrap ((BitVec.ofInt 32 (a : Int) ||| BitVec.ofInt 32 (b : Int)).toNat : Int) = _
  rw [BitVec.toNat_or, BitVec.ofInt_natCast, BitVec.ofInt_natCast, BitVec.toNat_ofNat, BitVec.toNat_ofNat, Nat.mod_eq_of_lt ha, Nat.mod_eq_of_lt hb]
  simp [IntKind.wrap, IntKind.bits, IntKind.signed]
  omega
theorem read_or (N x k : Nat) (hk : k < 4) (hN : N < 2 ^ (8 * k)) (hx : x < 256) : bits .or .u32 (N : Int) ((x : Int) * 2 ^ (8 * k) % 4294967296) = ((N + 2 ^ (8 * k) * x : Nat) : Int) := by
  have hp : 2 ^ (8 * k) * 256 ≤ 2 ^ 32 := by
    rw [show (256 : Nat) = 2 ^ 8 from rfl, ← Nat.pow_add]
    exact Nat.pow_le_pow_right (by omega) (by omega)
  have hpos : 0 < 2 ^ (8 * k) := Nat.pow_pos (by omega)
  have hm : 2 ^ (8 * k) * (x + 1) ≤ 2 ^ (8 * k) * 256 := Nat.mul_le_mul_left _ (by omega)
  rw [Nat.mul_add] at hm
  have h2 : 2 ^ (8 * k) * x < 2 ^ 32 := by omega
  have h3 : ((x : Int) * 2 ^ (8 * k) % 4294967296) = ((2 ^ (8 * k) * x : Nat) : Int) := by
    have : ((x : Int) * 2 ^ (8 * k)) = ((2 ^ (8 * k) * x : Nat) : Int) := by rw [Int.natCast_mul, Int.natCast_pow, Int.mul_comm]; rfl
    rw [this]
    exact Int.emod_eq_of_lt (by omega) (by omega)
  rw [h3, bits_or_u32 _ _ (Nat.lt_of_lt_of_le hN (Nat.pow_le_pow_right (by omega) (by omega))) h2, Nat.or_comm, ← Nat.two_pow_add_eq_or_of_lt hN, Nat.add_comm]

set_option maxHeartbeats 1000000 in
theorem read32_prog {g : Nat} {s : Option (List UInt8)} (q : Nat) (W : World) (h : Cur 88 W g s) (hq : q ≤ 4) :
    Calls Try.prog 75 #[.pointer (some ⟨g, 0, none⟩), .int .i64 q] W fun e W' => e = .returned (.int .u32 (num (takeC s q).1 : Nat)) ∧ Keep [g] W W' ∧ Cur 88 W' g (takeC s q).2 := by
  go_enter Try.func75, Try.ntmps75
  go_wp2_with fail
  refine (take_prog q W h (by omega)).mono ?_
  rintro e w1 ⟨B, m, d, rfl, hk1, hcur, hown⟩
  have hr : Bys [] w1 B m d (takeC s q).1 := rd_of_own hown (by simp)
  have hlq : (takeC s q).1.length ≤ 4 := by
    unfold takeC
    split
    · simp
    · split
      · simp; omega
      · simp
  clear hown
  generalize hT : (takeC s q).1 = b at *
  replace hT := Lib.hid hT
  obtain rfl := hr.len1
  have hcap := hr.cap
  go_wp2
  go_loop [5, 12] (fun t i => ∃ k : Nat, k ≤ b.length ∧ i = .int .i64 k ∧ t = .int .u32 (num (b.take k) : Nat)) (fun _ i => b.length - (intOf i).toNat)
  case atStart => exact ⟨0, by omega, rfl, rfl⟩
  case round =>
    obtain ⟨k, hk, rfl, rfl⟩ := hrel
    have hlt32 := num_lt (b.take k)
    rw [List.length_take, Nat.min_eq_left hk] at hlt32
    by_cases hlt : k < b.length
    · obtain ⟨bb, off, rfl, _, _, hcell⟩ := hr.one hlt
      unfold vU8 at hcell
      have hst := Lib.hid (num_snoc b k hlt)
      have hxl := b[k].toNat_lt
      have hor := read_or (num (b.take k)) b[k].toNat k (by omega) hlt32 hxl
      rw [← hst.out] at hor
      replace hor := Lib.hid hor
      go_wp2
      go_round
      case rel => exact ⟨k + 1, by omega, by go_num, congrArg _ hor.out⟩
      case measure => simp [intOf]; omega
    · obtain rfl : k = b.length := by omega
      rw [List.take_length] at *
      go_wp2
      go_ret
      exact ⟨ret_i (by rw [hT.out]), hk1, hcur⟩

theorem takeC_len (s : Option (List UInt8)) (n : Int) : ((takeC s n).1.length : Int) ≤ max n 0 := by
  unfold takeC
  split
  · simp; omega
  · split
    · rename_i h; simp; omega
    · simp; omega
theorem byteC_lt (s : Option (List UInt8)) : byteC s < 256 := by
  have h1 := num_lt (takeC s 1).1
  have h2 := takeC_len s 1
  have h3 : (takeC s 1).1.length ≤ 1 := by omega
  exact Nat.lt_of_lt_of_le h1 (Nat.pow_le_pow_right (n := 2) (by omega) (show 8 * (takeC s 1).1.length ≤ 8 by omega))

set_option maxHeartbeats 1000000 in
theorem byte_prog {g : Nat} {s : Option (List UInt8)} (W : World) (h : Cur 88 W g s) :
    Calls Try.prog 55 #[.pointer (some ⟨g, 0, none⟩)] W fun e W' => e = .returned (.int .u8 (byteC s : Nat)) ∧ Keep [g] W W' ∧ Cur 88 W' g (takeC s 1).2 := by
  have hlt := byteC_lt s
  go_enter Try.func55, Try.ntmps55
  go_wp2_with fail
  refine (read32_prog 1 W h (by omega)).mono ?_
  rintro e w1 ⟨rfl, hk1, hcur⟩
  rw [show num (takeC s ((1 : Nat) : Int)).1 = byteC s from rfl]
  go_wp2
  go_ret
  exact ⟨ret_i (by omega), hk1, hcur⟩
end Go.Proofs.Ytcpimhefclfbaaa

namespace Go
/-- As Q; by a goto to label l: J; by a goto to label l2: J2; by any other goto: no way out. -/
def Exit.jump2 (l : Nat) (J : Act → World → Prop) (l2 : Nat) (J2 : Act → World → Prop) (Q : Exit → Act → World → Prop) : Exit → Act → World → Prop
  | .goto l', a, w => (l' = l ∧ J a w) ∨ (l' = l2 ∧ J2 a w)
  | e, a, w => Q e a w

theorem wp_scope_jumps2 {P : Program} {a : Act} {w : World} {Q : Exit → Act → World → Prop} {c rest rest2 : Code} (l l2 : Nat) (J J2 : Act → World → Prop) (μ : Act → World → Nat) (hf : findLabel c l = some (Code.skip.seq rest)) (hf2 : findLabel c l2 = some rest2)
    (first0 : (∀ a w, J a w → rest.wp P (Exit.jump2 l J l2 J2 Q) a w) → c.wp P (Exit.jump2 l J l2 J2 Q) a w)
    (pass0 : ∀ a w, J a w → rest.wp P (Exit.jump2 l (fun a' w' => J a' w' ∧ μ a' w' < μ a w) l2 J2 Q) a w)
    (pass2 : ∀ a w, J2 a w → rest2.wp P (Exit.jump2 l (fun _ _ => False) l2 (fun _ _ => False) Q) a w) : (Code.scope c).wp P Q a w := by
  have first := first0 fun a w hJ b k cs => by
    obtain ⟨e, a₁, w₁, hq, harr⟩ := pass0 a w hJ b k cs
    refine ⟨e, a₁, w₁, ?_, harr⟩
    cases e with
    | goto l' => exact hq.elim (fun h => .inl ⟨h.1, h.2.1⟩) .inr
    | _ => exact hq
  have pass : ∀ a w, J a w → (Code.skip.seq rest).wp P (Exit.jump2 l (fun a' w' => J a' w' ∧ μ a' w' < μ a w) l2 J2 Q) a w := fun a w hJ => wp_seq (wp_skip (pass0 a w hJ))
  intro b k cs
  have hg : gotoIn l (.inScope c :: k) = some (.code (Code.skip.seq rest) :: .inScope c :: k) := by simp [gotoIn, hf]
  have hg2 : gotoIn l2 (.inScope c :: k) = some (.code rest2 :: .inScope c :: k) := by simp [gotoIn, hf2]
  have key2 : ∀ a w, J2 a w → ∃ e a' w', Q e a' w' ∧ Arrives P (lone (b.at a (.code rest2 :: .inScope c :: k)) cs w) b k cs e a' w' := by
    intro a w hJ
    obtain ⟨e, a₁, w₁, hq, harr⟩ := pass2 a w hJ b (.inScope c :: k) cs
    cases e with
    | normal => exact ⟨.normal, a₁, w₁, hq, Steps.trans harr (.one step_inScope)⟩
    | exit id => exact ⟨.exit id, a₁, w₁, hq, fun k' hk => harr k' (by simp [exitTo, hk])⟩
    | goto l' => rcases hq with ⟨_, h⟩ | ⟨_, h⟩ <;> exact h.elim
    | ret => exact ⟨_, a₁, w₁, hq, harr⟩
    | panic ch => exact ⟨_, a₁, w₁, hq, harr⟩
    | outgrown => exact ⟨_, a₁, w₁, hq, harr⟩
  have key : ∀ n a w, μ a w = n → J a w → ∃ e a' w', Q e a' w' ∧ Arrives P (lone (b.at a (.code (Code.skip.seq rest) :: .inScope c :: k)) cs w) b k cs e a' w' := by
    intro n
    induction n using Nat.strongRecOn with
    | _ n ih =>
      intro a w hn hJ
      obtain ⟨e, a₁, w₁, hq, harr⟩ := pass a w hJ b (.inScope c :: k) cs
      cases e with
      | normal => exact ⟨.normal, a₁, w₁, hq, Steps.trans harr (.one step_inScope)⟩
      | exit id => exact ⟨.exit id, a₁, w₁, hq, fun k' hk => harr k' (by simp [exitTo, hk])⟩
      | goto l' =>
        rcases hq with ⟨rfl, hJ', hlt⟩ | ⟨rfl, hJ'⟩
        · obtain ⟨e₂, a₂, w₂, hq₂, harr₂⟩ := ih _ (by omega) a₁ w₁ rfl hJ'
          exact ⟨e₂, a₂, w₂, hq₂, .of_steps (harr _ hg) harr₂⟩
        · obtain ⟨e₂, a₂, w₂, hq₂, harr₂⟩ := key2 a₁ w₁ hJ'
          exact ⟨e₂, a₂, w₂, hq₂, .of_steps (harr _ hg2) harr₂⟩
      | ret => exact ⟨_, a₁, w₁, hq, harr⟩
      | panic ch => exact ⟨_, a₁, w₁, hq, harr⟩
      | outgrown => exact ⟨_, a₁, w₁, hq, harr⟩
  obtain ⟨e, a₁, w₁, hq, harr⟩ := first b (.inScope c :: k) cs
  cases e with
  | normal => exact ⟨.normal, a₁, w₁, hq, .head step_scope (Steps.trans harr (.one step_inScope))⟩
  | exit id => exact ⟨.exit id, a₁, w₁, hq, fun k' hk => .head step_scope (harr k' (by simp [exitTo, hk]))⟩
  | goto l' =>
    rcases hq with ⟨rfl, hJ'⟩ | ⟨rfl, hJ'⟩
    · obtain ⟨e₂, a₂, w₂, hq₂, harr₂⟩ := key _ a₁ w₁ rfl hJ'
      exact ⟨e₂, a₂, w₂, hq₂, .of_steps (.head step_scope (harr _ hg)) harr₂⟩
    · obtain ⟨e₂, a₂, w₂, hq₂, harr₂⟩ := key2 a₁ w₁ hJ'
      exact ⟨e₂, a₂, w₂, hq₂, .of_steps (.head step_scope (harr _ hg2)) harr₂⟩
  | ret => exact ⟨_, a₁, w₁, hq, .of_steps (.one step_scope) harr⟩
  | panic ch => exact ⟨_, a₁, w₁, hq, .of_steps (.one step_scope) harr⟩
  | outgrown => exact ⟨_, a₁, w₁, hq, .of_steps (.one step_scope) harr⟩
end Go
namespace Go.Proofs.Ytcpimhefclfbaaa
open Go Go.RowKit
set_option maxRecDepth 10000
set_option linter.unusedVariables false
set_option linter.unusedSimpArgs false

/-- The number that a cursor's bytes begin with, and what is left then. -/
def getC (s : Option (List UInt8)) : Nat × Option (List UInt8) := match s.bind getV with
  | some (v, l) => (v, some l)
  | none => (0, none)

/-- .. k bytes being read, as n. -/
def getR (k n : Nat) (s : Option (List UInt8)) : Nat × Option (List UInt8) := match s.bind (getF (10 - k) k n) with
  | some (v, l) => (v, some l)
  | none => (0, none)
theorem getR_none (k n : Nat) : getR k n none = (0, none) := rfl
theorem getR_nil (k n : Nat) : getR k n (some []) = (0, none) := by unfold getR; cases h : 10 - k <;> simp [getF]
theorem getR_bad {k n : Nat} {x : UInt8} {l : List UInt8} (h : (0 < k ∧ x = 0) ∨ (k = 9 ∧ 1 < x.toNat)) : getR k n (some (x :: l)) = (0, none) := by
  unfold getR
  cases h1 : 10 - k with
  | zero => simp [getF]
  | succ f => simp only [Option.bind_some]; rw [getF, if_pos h]
theorem getR_last {k n : Nat} {x : UInt8} {l : List UInt8} (hk : k ≤ 9) (h : ¬ ((0 < k ∧ x = 0) ∨ (k = 9 ∧ 1 < x.toNat))) (hx : x.toNat < 128) : getR k n (some (x :: l)) = (n + x.toNat % 128 * 2 ^ (7 * k), some l) := by
  unfold getR
  obtain ⟨f, hf⟩ : ∃ f, 10 - k = f + 1 := ⟨9 - k, by omega⟩
  rw [hf]
  simp only [Option.bind_some]
  rw [getF, if_neg h, if_pos hx]
theorem getR_more {k n : Nat} {x : UInt8} {l : List UInt8} (hk : k ≤ 9) (h : ¬ ((0 < k ∧ x = 0) ∨ (k = 9 ∧ 1 < x.toNat))) (hx : ¬ x.toNat < 128) : getR k n (some (x :: l)) = getR (k + 1) (n + x.toNat % 128 * 2 ^ (7 * k)) (some l) ∧ k < 9 := by
  refine ⟨?_, by omega⟩
  unfold getR
  obtain ⟨f, hf⟩ : ∃ f, 10 - k = f + 1 := ⟨9 - k, by omega⟩
  rw [hf, show 10 - (k + 1) = f from by omega]
  simp only [Option.bind_some]
  rw [getF, if_neg h, if_neg hx]
theorem bits_andnot_u8 (a : Nat) (ha : a < 256) : bits .andNot .u8 (a : Int) 128 = ((a % 128 : Nat) : Int) := by
  have h : ∀ a : Fin 256, bits .andNot .u8 ((a.1 : Nat) : Int) 128 = ((a.1 % 128 : Nat) : Int) := by decide +kernel
  exact h ⟨a, ha⟩
theorem get_or (n x k : Nat) (hk : k ≤ 9) (hn : n < 2 ^ (7 * k)) (hx : x < 128) (h9 : k = 9 → x ≤ 1) : bits .or .u64 (n : Int) (IntKind.u64.wrap ((x : Int) * 2 ^ (7 * k))) = ((n + x * 2 ^ (7 * k) : Nat) : Int) ∧ n + x * 2 ^ (7 * k) < 2 ^ 64 := by
  have hpos : 0 < 2 ^ (7 * k) := Nat.pow_pos (by omega)
  have h2 : x * 2 ^ (7 * k) + 2 ^ (7 * k) ≤ 2 ^ 64 := by
    rw [← Nat.succ_mul]
    rcases Nat.lt_or_ge k 9 with hk9 | hk9
    · calc (x + 1) * 2 ^ (7 * k) ≤ 2 ^ 7 * 2 ^ (7 * k) := Nat.mul_le_mul_right _ (by omega)
        _ = 2 ^ (7 + 7 * k) := (Nat.pow_add _ _ _).symm
        _ ≤ 2 ^ 64 := Nat.pow_le_pow_right (by omega) (by omega)
    · obtain rfl : k = 9 := by omega
      have := h9 rfl
      calc (x + 1) * 2 ^ (7 * 9) ≤ 2 * 2 ^ (7 * 9) := Nat.mul_le_mul_right _ (by omega)
        _ ≤ 2 ^ 64 := by decide
  have h3 : IntKind.u64.wrap ((x : Int) * 2 ^ (7 * k)) = ((x * 2 ^ (7 * k) : Nat) : Int) := by
    have : ((x : Int) * 2 ^ (7 * k)) = ((x * 2 ^ (7 * k) : Nat) : Int) := by rw [Int.natCast_mul, Int.natCast_pow]; rfl
    rw [this]
    exact IntWalk.u64_in _ (by omega)
  refine ⟨?_, by omega⟩
  rw [h3, bits_or_u64 _ _ (by omega) (by omega), Nat.or_comm, Nat.mul_comm x, ← Nat.two_pow_add_eq_or_of_lt hn, Nat.add_comm]

set_option maxHeartbeats 4000000 in
set_option maxRecDepth 20000 in
theorem get_prog {g : Nat} {s : Option (List UInt8)} (W : World) (h : Cur 88 W g s) :
    Calls Try.prog 54 #[.pointer (some ⟨g, 0, none⟩)] W fun e W' => e = .returned (.int .u64 ((getC s).1 : Nat)) ∧ Keep [g] W W' ∧ Cur 88 W' g (getC s).2 := by
  obtain ⟨v, HV⟩ : ∃ v, Hid (v = (getC s).1) := ⟨_, rfl⟩
  obtain ⟨z, HZ⟩ : ∃ z, Hid (z = (getC s).2) := ⟨_, rfl⟩
  rw [← HV.out, ← HZ.out]
  go_enter Try.func54, Try.ntmps54
  go_wp2
  refine wp_scope_jumps2 0 1 (fun a' w' => ∃ (k n : Nat) (s' : Option (List UInt8)) (u5 u6 u7 u8 u9 u10 u11 u12 u13 u14 u15 u16 u17 u18 u19 u20 u21 u22 u23 u24 u25 u26 u27 u28 u29 u30 u31 u32 u33 u34 u35 u36 u37 u38 : Value), a' = { tmps := #[.pointer (some ⟨g, 0, none⟩), undef, .int .u64 0, .int .u64 (n : Nat), .int .i64 (k : Nat), u5, u6, u7, u8, u9, u10, u11, u12, u13, u14, u15, u16, u17, u18, u19, u20, u21, u22, u23, u24, u25, u26, u27, u28, u29, u30, u31, u32, u33, u34, u35, u36, u37, u38], defers := [] } ∧ k ≤ 9 ∧ n < 2 ^ (7 * k) ∧ Hid (getC s = getR k n s') ∧ Keep [g] W w' ∧ Cur 88 w' g s')
    (fun a' w' => ∃ (k n : Nat) (s' : Option (List UInt8)) (u5 u6 u7 u8 u9 u10 u11 u12 u13 u14 u15 u16 u17 u18 u19 u20 u21 u22 u23 u24 u25 u26 u27 u28 u29 u30 u31 u32 u33 u34 u35 u36 u37 u38 : Value), a' = { tmps := #[.pointer (some ⟨g, 0, none⟩), undef, .int .u64 0, .int .u64 (n : Nat), .int .i64 (k : Nat), u5, u6, u7, u8, u9, u10, u11, u12, u13, u14, u15, u16, u17, u18, u19, u20, u21, u22, u23, u24, u25, u26, u27, u28, u29, u30, u31, u32, u33, u34, u35, u36, u37, u38], defers := [] } ∧ Hid (getC s = (0, none)) ∧ Keep [g] W w' ∧ Cur 88 w' g s')
    (fun a' _ => 10 - (intOf (a'.tmps.getD 4 undef)).toNat) rfl rfl ?_ ?_ ?_
  · intro hrest
    go_wp2
    go_step3
    rename_i K hK
    refine hK _ _ (hrest _ _ ⟨0, 0, s, _, _, _, _, _, _, _, _, _, _, _, _, _, _, _, _, _, _, _, _, _, _, _, _, _, _, _, _, _, _, _, _, _, _, rfl, by omega, by decide, ?_, Keep.refl _ _, h⟩)
    rfl
  · rintro a' w' ⟨k, n, s', u5, u6, u7, u8, u9, u10, u11, u12, u13, u14, u15, u16, u17, u18, u19, u20, u21, u22, u23, u24, u25, u26, u27, u28, u29, u30, u31, u32, u33, u34, u35, u36, u37, u38, rfl, hk, hn, HR, hkeep, hcur⟩
    have hbl := byteC_lt s'
    go_wp2_with fail
    refine (byte_prog w' hcur).mono ?_
    rintro e w1 ⟨rfl, hk1, hcur1⟩
    go_wp2_with fail
    refine (bad_prog w1 hcur1).mono ?_
    rintro e w2 ⟨rfl, rfl⟩
    have hw : (∃ l, s' = some l ∧ l ≠ []) ∨ takeC s' 1 = ([], none) ∧ getR k n s' = (0, none) := by
      match s' with
      | none => exact .inr ⟨rfl, getR_none _ _⟩
      | some [] => exact .inr ⟨by simp [takeC], getR_nil _ _⟩
      | some (y :: l) => exact .inl ⟨y :: l, rfl, by simp⟩
    rcases hw with ⟨l, rfl, hl⟩ | ⟨h1, HN⟩
    · obtain ⟨y, l, rfl⟩ : ∃ y t, l = y :: t := by cases l with | nil => exact absurd rfl hl | cons y l => exact ⟨y, l, rfl⟩
      have hT : takeC (some (y :: l)) 1 = ([y], some l) := by
        unfold takeC
        simp only []
        rw [if_pos ⟨by omega, by simp only [List.length_cons]; omega⟩]
        rfl
      have hB : byteC (some (y :: l)) = y.toNat := by unfold byteC; rw [hT]; simp [num, pk]
      rw [hT] at hcur1 ⊢
      simp only [hB] at hbl ⊢
      have hy := y.toNat_lt
      have hno : (some l).isNone = false := rfl
      rw [hno]
      clear hT hB hl hno hbl
      have hy0 : y = 0 ↔ y.toNat = 0 := ⟨fun h => by rw [h]; rfl, fun h => UInt8.toNat_inj.1 (by rw [h]; rfl)⟩
      by_cases hbad : (0 < k ∧ y = 0) ∨ (k = 9 ∧ 1 < y.toNat)
      · have HN := getR_bad (n := n) (l := l) hbad
        have hHR : Hid (getC s = (0, none)) := by rw [Hid, HR.out, HN]
        rw [hy0] at hbad
        clear HN HR hy0
        generalize y.toNat = x at *
        rcases hbad with ⟨hk0, rfl⟩ | ⟨rfl, hx1⟩
        · go_wp2
          go_step3
          exact .inr ⟨rfl, k, n, some l, _, _, _, _, _, _, _, _, _, _, _, _, _, _, _, _, _, _, _, _, _, _, _, _, _, _, _, _, _, _, _, _, _, _, rfl, hHR, hkeep.trans hk1, hcur1⟩
        · have hx0 : ((x : Int) == 0) = false := by rw [beq_eq_false_iff_ne]; omega
          go_wp2
          go_step3
          exact .inr ⟨rfl, 9, n, some l, _, _, _, _, _, _, _, _, _, _, _, _, _, _, _, _, _, _, _, _, _, _, _, _, _, _, _, _, _, _, _, _, _, _, rfl, hHR, hkeep.trans hk1, hcur1⟩
      · obtain ⟨hg1, hg2⟩ : (0 < k → y.toNat ≠ 0) ∧ (k = 9 → y.toNat ≤ 1) := ⟨fun h1 h2 => hbad (.inl ⟨h1, hy0.2 h2⟩), fun h1 => by
          rcases Nat.lt_or_ge 1 y.toNat with h2 | h2
          · exact absurd (.inr ⟨h1, h2⟩) hbad
          · exact h2⟩
        obtain ⟨hor, hlt64⟩ := get_or n (y.toNat % 128) k hk hn (by omega) (fun h => by have := hg2 h; omega)
        have han := bits_andnot_u8 y.toNat hy
        have HR2 : Hid ((y.toNat < 128 → getC s = (n + y.toNat % 128 * 2 ^ (7 * k), some l)) ∧ (¬ y.toNat < 128 → getC s = getR (k + 1) (n + y.toNat % 128 * 2 ^ (7 * k)) (some l) ∧ k < 9)) :=
          ⟨fun h => by rw [HR.out, getR_last hk hbad h], fun h => by rw [HR.out]; exact getR_more hk hbad h⟩
        have hn2 : n + y.toNat % 128 * 2 ^ (7 * k) < 2 ^ (7 * (k + 1)) := by
          have h1 : y.toNat % 128 * 2 ^ (7 * k) + 2 ^ (7 * k) ≤ 128 * 2 ^ (7 * k) := by rw [← Nat.succ_mul]; exact Nat.mul_le_mul_right _ (by omega)
          have h2 : 2 ^ (7 * (k + 1)) = 128 * 2 ^ (7 * k) := by rw [Nat.mul_add, Nat.pow_add]; omega
          omega
        replace hn2 := Lib.hid hn2
        obtain ⟨N, hN⟩ : ∃ N, n + y.toNat % 128 * 2 ^ (7 * k) = N := ⟨_, rfl⟩
        rw [hN] at hn2 HR2 hor hlt64
        replace hlt64 : N < 18446744073709551616 := hlt64
        clear hN hbad hy0 HR
        generalize hm : y.toNat % 128 = m at *
        generalize y.toNat = x at *
        have hk0b : 0 < k → ((x : Int) == 0) = false := fun h => by have := hg1 h; rw [beq_eq_false_iff_ne]; omega
        have hk9b : k ≠ 9 → ((k : Int) == 9) = false := fun h => by rw [beq_eq_false_iff_ne]; omega
        have hm128 : m < 128 := by omega
        clear hm
        replace hn := Lib.hid hn
        by_cases hlast : x < 128
        · have HN := Lib.hid (HR2.out.1 hlast)
          by_cases hk0 : 0 < k
          · have hk0' := hk0b hk0
            by_cases hk9 : k = 9
            · subst hk9
              have := hg2 rfl
              clear hk0b hk9b hg1 hg2
              have hor9 : bits .or .u64 (n : Int) (IntKind.u64.wrap ((m : Int) * 9223372036854775808)) = (N : Int) := hor
              go_wp2
              simp only [Exit.jump2]
              go_ret
              have hv := HV.out
              have hz := HZ.out
              rw [HN.out] at hv hz
              subst hv hz
              exact ⟨rfl, hkeep.trans hk1, hcur1⟩
            · have hk9' := hk9b hk9
              clear hk0b hk9b hg1 hg2 hk9
              go_wp2
              simp only [Exit.jump2]
              go_ret
              have hv := HV.out
              have hz := HZ.out
              rw [HN.out] at hv hz
              subst hv hz
              exact ⟨rfl, hkeep.trans hk1, hcur1⟩
          · obtain rfl : k = 0 := by omega
            clear hk0b hk9b hg1 hg2
            have hor0 : bits .or .u64 (n : Int) (m : Int) = (N : Int) := by
              have h1 := hor
              rw [show (m : Int) * 2 ^ (7 * 0) = m from by simp, IntWalk.u64_in _ (by omega)] at h1
              exact h1
            go_wp2
            simp only [Exit.jump2]
            go_ret
            have hv := HV.out
            have hz := HZ.out
            rw [HN.out] at hv hz
            subst hv hz
            exact ⟨rfl, hkeep.trans hk1, hcur1⟩
        · obtain ⟨HN, hk9⟩ := HR2.out.2 hlast
          replace HN := Lib.hid HN
          by_cases hk0 : 0 < k
          · have hk0' := hk0b hk0
            have hk9' := hk9b (by omega)
            clear hk0b hk9b hg1 hg2
            go_wp2
            go_step3
            refine .inl ⟨rfl, ⟨k + 1, N, some l, _, _, _, _, _, _, _, _, _, _, _, _, _, _, _, _, _, _, _, _, _, _, _, _, _, _, _, _, _, _, _, _, _, _, rfl, by omega, hn2.out, HN, hkeep.trans hk1, hcur1⟩, ?_⟩
            · simp [intOf]; omega
          · obtain rfl : k = 0 := by omega
            clear hk0b hk9b hg1 hg2
            have hor0 : bits .or .u64 (n : Int) (m : Int) = (N : Int) := by
              have h1 := hor
              rw [show (m : Int) * 2 ^ (7 * 0) = m from by simp, IntWalk.u64_in _ (by omega)] at h1
              exact h1
            go_wp2
            go_step3
            refine .inl ⟨rfl, ⟨0 + 1, N, some l, _, _, _, _, _, _, _, _, _, _, _, _, _, _, _, _, _, _, _, _, _, _, _, _, _, _, _, _, _, _, _, _, _, _, rfl, by omega, hn2.out, HN, hkeep.trans hk1, hcur1⟩, ?_⟩
            · simp [intOf]
    · have hno : (takeC s' 1).2.isNone = true := by rw [h1]; rfl
      rw [hno]
      rw [h1] at hcur1
      clear h1 hno
      replace HN := Lib.hid HN
      go_wp2
      simp only [Exit.jump2]
      go_ret
      have hv := HV.out
      have hz := HZ.out
      rw [HR.out, HN.out] at hv hz
      subst hv hz
      exact ⟨rfl, hkeep.trans hk1, hcur1⟩
  · rintro a' w' ⟨k, n, s', u5, u6, u7, u8, u9, u10, u11, u12, u13, u14, u15, u16, u17, u18, u19, u20, u21, u22, u23, u24, u25, u26, u27, u28, u29, u30, u31, u32, u33, u34, u35, u36, u37, u38, rfl, HR, hkeep, hcur⟩
    go_wp2_with fail
    refine (fail_prog w' hcur).mono ?_
    rintro e w1 ⟨rfl, hk1, hcur1⟩
    go_wp2
    simp only [Exit.jump2]
    go_ret
    have hv := HV.out
    have hz := HZ.out
    rw [HR.out] at hv hz
    subst hv hz
    exact ⟨rfl, hkeep.trans hk1, hcur1⟩
end Go.Proofs.Ytcpimhefclfbaaa

namespace Go.Proofs.Ytcpimhefclfbaaa
open Go Go.RowKit
set_option maxRecDepth 10000
set_option linter.unusedVariables false
set_option linter.unusedSimpArgs false

/-- A number that is not too great, and what is left then. -/
def lenC (s : Option (List UInt8)) (most : Int) : Nat × Option (List UInt8) := match getC s with
  | (v, some l) => if 0 ≤ most ∧ (v : Int) ≤ most then (v, some l) else (0, none)
  | (_, none) => (0, none)
theorem getC_none {s : Option (List UInt8)} (h : (getC s).2 = none) : (getC s).1 = 0 := by
  unfold getC at h ⊢
  split
  · rename_i h1; rw [h1] at h; simp at h
  · rfl
theorem getF_lt : ∀ (f k n : Nat) (l : List UInt8) (v : Nat) (r : List UInt8), k + f = 10 → n < 2 ^ (7 * k) → getF f k n l = some (v, r) → v < 2 ^ 64
  | 0, _, _, _, _, _, _, _, h => by simp [getF] at h
  | f + 1, k, n, [], _, _, _, _, h => by simp [getF] at h
  | f + 1, k, n, x :: l, v, r, hk, hn, h => by
    rw [getF] at h
    split at h
    · cases h
    · rename_i hbad
      have hx9 : k = 9 → x.toNat % 128 ≤ 1 := fun h9 => by
        rcases Nat.lt_or_ge 1 x.toNat with h2 | h2
        · exact absurd (.inr ⟨h9, h2⟩) hbad
        · omega
      have h64 := (get_or n (x.toNat % 128) k (by omega) hn (by omega) hx9).2
      split at h
      · injection h with h
        injection h with h1 h2
        omega
      · refine getF_lt f (k + 1) _ l v r (by omega) ?_ h
        have h1 : x.toNat % 128 * 2 ^ (7 * k) + 2 ^ (7 * k) ≤ 128 * 2 ^ (7 * k) := by rw [← Nat.succ_mul]; exact Nat.mul_le_mul_right _ (by omega)
        have h2 : 2 ^ (7 * (k + 1)) = 128 * 2 ^ (7 * k) := by rw [Nat.mul_add, Nat.pow_add]; omega
        omega
theorem getC_lt (s : Option (List UInt8)) : (getC s).1 < 2 ^ 64 := by
  unfold getC
  split
  · rename_i v l h
    obtain ⟨b, rfl, hb⟩ := Option.bind_eq_some_iff.1 h
    exact getF_lt 10 0 0 b v l rfl (by decide) hb
  · decide

theorem lenC_fit {s : Option (List UInt8)} {most : Int} {x : Nat} {l : List UInt8} (h : getC s = (x, some l)) (hf : 0 ≤ most ∧ (x : Int) ≤ most) : lenC s most = (x, some l) := by
  unfold lenC; rw [h]; simp only []; rw [if_pos hf]
theorem lenC_none {s : Option (List UInt8)} {most : Int} {x : Nat} (h : getC s = (x, none)) : lenC s most = (0, none) := by
  unfold lenC; rw [h]
theorem lenC_not {s : Option (List UInt8)} {most : Int} {x : Nat} {r : Option (List UInt8)} (h : getC s = (x, r)) (hf : ¬ (0 ≤ most ∧ (x : Int) ≤ most)) : lenC s most = (0, none) := by
  unfold lenC; rw [h]
  cases r with
  | none => rfl
  | some l => simp only []; rw [if_neg hf]

set_option maxHeartbeats 1000000 in
set_option maxRecDepth 10000 in
theorem len_prog {g : Nat} {s : Option (List UInt8)} (most : Int) (W : World) (h : Cur 88 W g s) (hm : -9223372036854775808 ≤ most ∧ most ≤ 9223372036854775807) :
    Calls Try.prog 35 #[.pointer (some ⟨g, 0, none⟩), .int .i64 most] W fun e W' => e = .returned (.int .i64 ((lenC s most).1 : Nat)) ∧ Keep [g] W W' ∧ Cur 88 W' g (lenC s most).2 := by
  have hlt := getC_lt s
  replace hlt : (getC s).1 < 18446744073709551616 := hlt
  have C := get_prog W h
  have hN := @getC_none s
  obtain ⟨⟨x, s1⟩, hG⟩ : ∃ p, getC s = p := ⟨_, rfl⟩
  rw [hG] at C hN hlt
  simp only [] at C hN hlt
  obtain ⟨⟨v, z⟩, HL⟩ : ∃ p, lenC s most = p := ⟨_, rfl⟩
  rw [HL]
  simp only []
  replace C := Lib.hid C
  by_cases hfit : 0 ≤ most ∧ (x : Int) ≤ most
  · cases s1 with
    | none =>
      rw [lenC_none hG] at HL
      injection HL with h1 h2
      subst h1 h2
      obtain rfl := hN rfl
      obtain ⟨hf0, hf1⟩ := hfit
      clear hG hN hf1
      go_enter Try.func35, Try.ntmps35
      go_wp2_with fail
      refine C.out.mono ?_
      rintro e w1 ⟨rfl, hk1, hcur1⟩
      go_wp2_with fail
      refine (bad_prog w1 hcur1).mono ?_
      rintro e w2 ⟨rfl, rfl⟩
      rw [show (none : Option (List UInt8)).isNone = true from rfl]
      go_wp2
      go_ret
      exact ⟨rfl, hk1, hcur1⟩
    | some l =>
      rw [lenC_fit hG hfit] at HL
      injection HL with h1 h2
      subst h1 h2
      obtain ⟨hf0, hf1⟩ := hfit
      clear hG hN
      go_enter Try.func35, Try.ntmps35
      go_wp2_with fail
      refine C.out.mono ?_
      rintro e w1 ⟨rfl, hk1, hcur1⟩
      go_wp2_with fail
      refine (bad_prog w1 hcur1).mono ?_
      rintro e w2 ⟨rfl, rfl⟩
      rw [show (some l).isNone = false from rfl]
      go_wp2
      go_ret
      exact ⟨ret_i (by first | rfl | omega), hk1, hcur1⟩
  · rw [lenC_not hG hfit] at HL
    injection HL with h1 h2
    subst h1 h2
    clear hG hN
    by_cases hm0 : most < 0
    · clear hfit
      go_enter Try.func35, Try.ntmps35
      go_wp2_with fail
      refine C.out.mono ?_
      rintro e w1 ⟨rfl, hk1, hcur1⟩
      go_wp2_with fail
      refine (fail_prog w1 hcur1).mono ?_
      rintro e w2 ⟨rfl, hk2, hcur2⟩
      go_wp2_with fail
      refine (bad_prog w2 hcur2).mono ?_
      rintro e w3 ⟨rfl, rfl⟩
      rw [show (none : Option (List UInt8)).isNone = true from rfl]
      go_wp2
      go_ret
      exact ⟨rfl, hk1.trans hk2, hcur2⟩
    · have hx : most < (x : Int) := by omega
      clear hfit
      go_enter Try.func35, Try.ntmps35
      go_wp2_with fail
      refine C.out.mono ?_
      rintro e w1 ⟨rfl, hk1, hcur1⟩
      go_wp2_with fail
      refine (fail_prog w1 hcur1).mono ?_
      rintro e w2 ⟨rfl, hk2, hcur2⟩
      go_wp2_with fail
      refine (bad_prog w2 hcur2).mono ?_
      rintro e w3 ⟨rfl, rfl⟩
      rw [show (none : Option (List UInt8)).isNone = true from rfl]
      go_wp2
      go_ret
      exact ⟨rfl, hk1.trans hk2, hcur2⟩
end Go.Proofs.Ytcpimhefclfbaaa

namespace Go.Proofs.Ytcpimhefclfbaaa
set_option linter.unusedVariables false
set_option linter.unusedSimpArgs false

theorem getC_put {n : Nat} (h : n < 2 ^ 64) (t : List UInt8) : getC (some (putB n ++ t)) = (n, some t) := by
  unfold getC
  simp only [Option.bind_some]
  rw [getV_put h]
theorem lenC_put {n : Nat} {most : Int} (h : n < 2 ^ 64) (hm : 0 ≤ most ∧ (n : Int) ≤ most) (t : List UInt8) : lenC (some (putB n ++ t)) most = (n, some t) := lenC_fit (getC_put h t) hm
theorem takeC_app (a t : List UInt8) {k : Int} (h : k = a.length) : takeC (some (a ++ t)) k = (a, some t) := by
  subst h
  unfold takeC
  simp only []
  rw [if_pos (by simp; omega), Int.toNat_natCast, List.take_left', List.drop_left'] <;> rfl
theorem byteC_cons (x : UInt8) (t : List UInt8) : byteC (some (x :: t)) = x.toNat := by
  have h := takeC_app [x] t (k := 1) rfl
  rw [List.singleton_append] at h
  unfold byteC
  rw [h]
  simp [num, pk]
theorem takeC_cons (x : UInt8) (t : List UInt8) : takeC (some (x :: t)) 1 = ([x], some t) := takeC_app [x] t rfl

theorem getF_inv : ∀ (f k acc : Nat) (l : List UInt8) (v : Nat) (r : List UInt8), k + f = 10 → getF f k acc l = some (v, r) → ∃ n, l = putF f n ++ r ∧ v = acc + n * 2 ^ (7 * k) ∧ (0 < k → 0 < n)
  | 0, _, _, _, _, _, _, h => by simp [getF] at h
  | f + 1, k, acc, [], _, _, _, h => by simp [getF] at h
  | f + 1, k, acc, x :: l, v, r, hk, h => by
    rw [getF] at h
    split at h
    · cases h
    · rename_i hbad
      have hx := x.toNat_lt
      split at h
      · rename_i hlt
        injection h with h
        injection h with h1 h2
        subst h1 h2
        refine ⟨x.toNat, ?_, ?_, fun hk0 => ?_⟩
        · rw [putF_step, if_pos hlt]; simp
        · rw [Nat.mod_eq_of_lt hlt]
        · rcases Nat.eq_zero_or_pos x.toNat with h0 | h0
          · exact absurd (.inl ⟨hk0, UInt8.toNat_inj.1 (by rw [h0]; rfl)⟩) hbad
          · exact h0
      · rename_i hge
        obtain ⟨n, h1, h2, h3⟩ := getF_inv f (k + 1) _ l v r (by omega) h
        have hn := h3 (by omega)
        refine ⟨x.toNat % 128 + 128 * n, ?_, ?_, fun _ => by omega⟩
        · rw [putF_step, if_neg (by omega), show (x.toNat % 128 + 128 * n) / 128 = n from by omega, show (x.toNat % 128 + 128 * n) % 128 = x.toNat % 128 from by omega, h1]
          have : UInt8.ofNat (x.toNat % 128 + 128) = x := by
            apply UInt8.toNat_inj.1
            rw [UInt8.toNat_ofNat']
            omega
          rw [this]
          rfl
        · rw [h2, Nat.add_mul, show 2 ^ (7 * (k + 1)) = 128 * 2 ^ (7 * k) from by rw [Nat.mul_add, Nat.pow_add]; omega, Nat.mul_comm 128 n, Nat.mul_assoc, Nat.add_assoc]
theorem getV_inv {b r : List UInt8} {v : Nat} (h : getV b = some (v, r)) : b = putB v ++ r ∧ v < 2 ^ 64 := by
  obtain ⟨n, h1, h2, _⟩ := getF_inv 10 0 0 b v r rfl h
  have : v = n := by omega
  subst this
  exact ⟨h1, getF_lt 10 0 0 b v r rfl (by omega) h⟩
theorem getC_inv {s : Option (List UInt8)} {v : Nat} {r : List UInt8} (h : getC s = (v, some r)) : s = some (putB v ++ r) ∧ v < 2 ^ 64 := by
  unfold getC at h
  cases s with
  | none => simp at h
  | some b =>
    simp only [Option.bind_some] at h
    cases hg : getV b with
    | none => rw [hg] at h; simp at h
    | some p =>
      obtain ⟨v', l'⟩ := p
      rw [hg] at h
      simp only [Prod.mk.injEq, Option.some.injEq] at h
      obtain ⟨rfl, rfl⟩ := h
      obtain ⟨h1, h2⟩ := getV_inv hg
      exact ⟨by rw [h1], h2⟩
theorem lenC_inv {s : Option (List UInt8)} {most : Int} {n : Nat} {r : List UInt8} (h : lenC s most = (n, some r)) : s = some (putB n ++ r) ∧ n < 2 ^ 64 ∧ 0 ≤ most ∧ (n : Int) ≤ most := by
  unfold lenC at h
  split at h
  · rename_i v l hg
    split at h
    · rename_i hm
      simp only [Prod.mk.injEq, Option.some.injEq] at h
      obtain ⟨rfl, rfl⟩ := h
      obtain ⟨h1, h2⟩ := getC_inv hg
      exact ⟨h1, h2, hm.1, hm.2⟩
    · simp at h
  · simp at h
theorem takeC_inv {s : Option (List UInt8)} {n : Int} {x r : List UInt8} (h : takeC s n = (x, some r)) : s = some (x ++ r) ∧ (x.length : Int) = n := by
  unfold takeC at h
  cases s with
  | none => simp at h
  | some b =>
    simp only [] at h
    split at h
    · rename_i hn
      simp only [Prod.mk.injEq, Option.some.injEq] at h
      obtain ⟨rfl, rfl⟩ := h
      exact ⟨by rw [List.take_append_drop], by rw [List.length_take, Nat.min_eq_left (by omega)]; omega⟩
    · simp at h
theorem takeC_none (n : Int) : takeC none n = ([], none) := rfl
theorem getC_no : getC none = (0, none) := rfl
theorem lenC_no (most : Int) : lenC none most = (0, none) := by unfold lenC; rw [getC_no]
theorem lenC_max (s : Option (List UInt8)) {most : Int} (h : 0 ≤ most) : ((lenC s most).1 : Int) ≤ most := by
  unfold lenC
  split
  · split
    · rename_i h; exact h.2
    · exact h
  · exact h
/-- A byte that is read, and what stood there. -/
theorem byteC_inv {s : Option (List UInt8)} {r : List UInt8} (h : (takeC s 1).2 = some r) : ∃ x : UInt8, s = some (x :: r) ∧ byteC s = x.toNat := by
  have h1 : takeC s 1 = ((takeC s 1).1, some r) := by rw [← h]
  obtain ⟨h2, h3⟩ := takeC_inv h1
  match hx : (takeC s 1).1, h3 with
  | [x], _ =>
    rw [hx] at h2
    refine ⟨x, by simpa using h2, ?_⟩
    rw [h2]
    exact byteC_cons x r
end Go.Proofs.Ytcpimhefclfbaaa
