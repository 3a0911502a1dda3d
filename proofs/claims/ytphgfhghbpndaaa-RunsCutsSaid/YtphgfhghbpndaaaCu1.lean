/-
  The walks of layer 3's functions, part 1: the program's cursor.
-/
import Derived.Test.YtphgfhghbpndaaaVt2
namespace Go.Proofs.Ytphgfhghbpndaaa
open Go Go.RowKit
set_option linter.unusedVariables false
set_option linter.unusedSimpArgs false

/-- A slice's block is below g. -/
def Low (A : Option Addr) (n g : Nat) : Prop := ∀ a, A = some a → 0 < n → a.block < g
theorem Low.none_ (n g : Nat) : Low none n g := fun _ h => by cases h
theorem Low.zero (A : Option Addr) (g : Nat) : Low A 0 g := fun _ _ h => absurd h (by omega)
theorem Low.map {A : Option Addr} {n m g q : Nat} (h : Low A n g) (hm : m ≤ n) : Low (A.map (·.add q)) m g := by
  intro b e h0
  cases A with
  | none => cases e
  | some a =>
    simp only [Option.map_some, Option.some.injEq] at e
    have := h a rfl (by omega)
    subst e
    unfold Addr.add
    split <;> exact this
/-- A cursor at g: what is left; none: it is bad. -/
def Cur (t : TypeId) (w : World) (g : Nat) (s : Option (List UInt8)) : Prop :=
  ∃ A n c, Blk w g t [.slice A n c, .bool s.isNone] ∧ Bys [g] w A n c (s.getD []) ∧ n ≤ 10000000000000 ∧ Low A n g
theorem Cur.lt {t : TypeId} {w : World} {g : Nat} {s : Option (List UInt8)} (h : Cur t w g s) : g < w.heap.size := by
  obtain ⟨A, n, c, hb, _⟩ := h
  exact hb.lt
theorem Cur.pure {t : TypeId} {w w' : World} {g : Nat} {s : Option (List UInt8)} (h : Cur t w g s) (hk : Keep [] w w') : Cur t w' g s := by
  obtain ⟨A, n, c, hb, hr, hn⟩ := h
  exact ⟨A, n, c, hb.keep hk (by simp), hr.pure hk, hn⟩
theorem Cur.keep {M : List Nat} {t : TypeId} {w w' : World} {g : Nat} {s : Option (List UInt8)} (h : Cur t w g s) (hk : Keep M w w') (hM : ∀ b ∈ M, g < b) : Cur t w' g s := by
  obtain ⟨A, n, c, hb, hr, hn⟩ := h
  have hgM : g ∉ M := fun hm => by have := hM g hm; omega
  refine ⟨A, n, c, hb.keep hk hgM, ⟨hr.1, hr.2.1, hr.2.2.1, fun h0 => ?_, hr.2.2.2.2⟩, hn⟩
  obtain ⟨b, off, e, hlt, hb', hc⟩ := hr.2.2.2.1 h0
  have hbg : b < g := hn.2 _ e h0
  refine ⟨b, off, e, Nat.lt_of_lt_of_le hlt hk.size, hb', fun j u hu => ?_⟩
  exact (World.cell?_of_block (w := w) (a := ⟨b, off + j, none⟩) (hk.block b hlt (fun hm => by have := hM b hm; omega))).trans (hc j u hu)
/-- What the next bytes are, and what is left then. -/
def takeC (s : Option (List UInt8)) (n : Int) : List UInt8 × Option (List UInt8) :=
  match s with
  | none => ([], none)
  | some l => if 0 ≤ n ∧ n ≤ l.length then (l.take n.toNat, some (l.drop n.toNat)) else ([], none)

set_option maxHeartbeats 400000 in
theorem over_prog {X : List Nat} {A : Option Addr} {n c : Nat} {l : List UInt8} (W : World) (h : Bys X W A n c l) (hroom : n ≤ 10000000000000) :
    Calls Try.prog 26 #[.slice A n c] W fun e W' => ∃ g, e = .returned (.pointer (some ⟨g, 0, none⟩)) ∧ W.heap.size ≤ g ∧ Keep [] W W' ∧ Cur 66 W' g (some l) := by
  have hc := h.cap
  have hnc := h.le
  go_enter Try.func26, Try.ntmps26
  go_wp2_with fail
  refine (clone_bytes W h (by omega)).mono ?_
  rintro e w1 ⟨B1, d1, rfl, hk1, hown1⟩
  have hw1 := hk1.size
  go_wp2
  go_ret
  refine ⟨w1.heap.size, rfl, hw1, hk1.alloc _, B1, n, d1, Blk.new w1 66 [.slice B1 n d1, .bool false], ?_, by omega, fun a e h0 => ?_⟩
  all_goals have hr : Bys [] w1 B1 n d1 l := rd_of_own hown1 (by simp)
  rotate_left
  · obtain ⟨b', off', e', hlt, _⟩ := hr.2.2.2.1 h0
    rw [e] at e'
    cases e'
    exact hlt
  exact (hr.weaken (Y := [w1.heap.size]) (by simp)).pure ((Keep.refl _ _).alloc _)

set_option maxHeartbeats 400000 in
theorem fail_prog {g : Nat} {s : Option (List UInt8)} (W : World) (h : Cur 66 W g s) :
    Calls Try.prog 48 #[.pointer (some ⟨g, 0, none⟩)] W fun e W' => e = .returned (.tuple #[]) ∧ Keep [g] W W' ∧ Cur 66 W' g none := by
  obtain ⟨A, n, c, hb, hr, hn⟩ := h
  have hc0 := hb.cell 0
  have hc1 := hb.cell 1
  have hf0 := hb.frozen 0
  have hf1 := hb.frozen 1
  simp only [List.getElem?_cons_zero, List.getElem?_cons_succ] at hc0 hc1
  go_enter Try.func48, Try.ntmps48
  go_wp2
  go_end0
  refine ⟨rfl, ((Keep.refl [g] W).setCell (p := ⟨g, 0, none⟩) (.inl (by simp)) _).setCell (p := ⟨g, 1, none⟩) (.inl (by simp)) _, none, 0, 0, (hb.set_ 0 _).set_ 1 _, Rd.nil_ _ _ _, by omega, Low.none_ _ _⟩

set_option maxHeartbeats 400000 in
theorem bad_prog {g : Nat} {s : Option (List UInt8)} (W : World) (h : Cur 66 W g s) :
    Calls Try.prog 49 #[.pointer (some ⟨g, 0, none⟩)] W fun e W' => e = .returned (.bool s.isNone) ∧ W = W' := by
  obtain ⟨A, n, c, hb, hr, hn⟩ := h
  have hc1 := hb.cell 1
  simp only [List.getElem?_cons_zero, List.getElem?_cons_succ] at hc1
  generalize s.isNone = v at *
  go_enter Try.func49, Try.ntmps49
  go_wp2
  go_ret
  exact ⟨rfl, rfl⟩

set_option maxHeartbeats 400000 in
theorem left_prog {g : Nat} {s : Option (List UInt8)} (W : World) (h : Cur 66 W g s) :
    Calls Try.prog 27 #[.pointer (some ⟨g, 0, none⟩)] W fun e W' => e = .returned (.int .i64 ((s.getD []).length : Nat)) ∧ W = W' := by
  obtain ⟨A, n, c, hb, hr, hn⟩ := h
  obtain rfl := hr.len1
  have hc0 := hb.cell 0
  simp only [List.getElem?_cons_zero, List.getElem?_cons_succ] at hc0
  go_enter Try.func27, Try.ntmps27
  go_wp2
  go_ret
  exact ⟨rfl, rfl⟩

set_option maxHeartbeats 400000 in
theorem end_prog {g : Nat} {s : Option (List UInt8)} (W : World) (h : Cur 66 W g s) :
    Calls Try.prog 32 #[.pointer (some ⟨g, 0, none⟩)] W fun e W' => e = .returned (.bool (decide (s = some []))) ∧ W = W' := by
  obtain ⟨A, n, c, hb, hr, hn⟩ := h
  obtain rfl := hr.len1
  have hc0 := hb.cell 0
  have hc1 := hb.cell 1
  simp only [List.getElem?_cons_zero, List.getElem?_cons_succ] at hc0 hc1
  cases s with
  | none =>
    simp only [Option.isNone_none] at hc1
    go_enter Try.func32, Try.ntmps32
    go_wp2
    go_ret
    exact ⟨ret_b (by simp), rfl⟩
  | some l =>
    simp only [Option.isNone_some] at hc1
    simp only [Option.getD_some] at hc0
    have hd : Hid (decide (some l = some []) = decide (l.length = 0)) := by unfold Hid; cases l <;> simp
    go_enter Try.func32, Try.ntmps32
    go_wp2
    go_ret
    rw [hd.out]
    refine ⟨ret_b ?_, rfl⟩
    by_cases h0 : l.length = 0
    · simp [h0]
    · rw [decide_eq_false h0, beq_eq_false_iff_ne]; omega

set_option maxHeartbeats 1000000 in
theorem take_prog {g : Nat} {s : Option (List UInt8)} (k : Int) (W : World) (h : Cur 66 W g s) (hk : -9223372036854775808 ≤ k ∧ k ≤ 9223372036854775807) :
    Calls Try.prog 52 #[.pointer (some ⟨g, 0, none⟩), .int .i64 k] W fun e W' => ∃ B m d, e = .returned (.slice B m d) ∧ Keep [g] W W' ∧ Cur 66 W' g (takeC s k).2 ∧
      W'.ownsRow W.heap.size 5 1 (.slice B m d) m ((takeC s k).1.map vU8) := by
  have h' := h
  obtain ⟨A, n, c, hb, hr, hn⟩ := h
  have hcap := hr.cap
  have hnc := hr.le
  obtain rfl := hr.len1
  have hc0 := hb.cell 0
  have hc1 := hb.cell 1
  have hf0 := hb.frozen 0
  simp only [List.getElem?_cons_zero, List.getElem?_cons_succ] at hc0 hc1
  cases s with
  | none =>
    simp only [Option.isNone_none] at hc1
    go_enter Try.func52, Try.ntmps52
    go_wp2_with fail
    refine (fail_prog W h').mono ?_
    rintro e w1 ⟨rfl, hk1, hcur⟩
    go_wp2
    go_ret
    exact ⟨none, 0, 0, rfl, hk1, hcur, World.ownsRow_nil _ _ _ _⟩
  | some l =>
    simp only [Option.isNone_some] at hc1
    simp only [Option.getD_some] at hc0 hr hnc hn
    by_cases hfit : 0 ≤ k ∧ k ≤ l.length
    · obtain ⟨q, rfl⟩ : ∃ q : Nat, k = q := ⟨k.toNat, by omega⟩
      have hq : q ≤ l.length := by omega
      have hT : Hid (takeC (some l) (q : Int) = (l.take q, some (l.drop q))) := by
        unfold Hid takeC
        simp only
        rw [if_pos hfit, Int.toNat_natCast]
      have hqi : ¬ ((l.length : Int) < (q : Int)) := by omega
      clear hfit
      rw [hT.out]
      go_enter Try.func52, Try.ntmps52
      go_wp2_with fail
      refine (clone_bytes W (hr.take1 hq) (by omega)).mono ?_
      rintro e w1 ⟨B1, d1, rfl, hk1, hown1⟩
      have hb1 := hb.keep hk1 (by simp)
      have hr1 := hr.pure hk1
      have hc0' := hb1.cell 0
      have hf0' := hb1.frozen 0
      simp only [List.getElem?_cons_zero, List.getElem?_cons_succ] at hc0'
      clear hc0 hf0
      have hd := hr1.drop1 hq rfl
      have hgl := hb.lt
      have hfin : ∀ (A' : Option Addr) (n' c' : Nat), Bys [g] w1 A' n' c' (l.drop q) → n' ≤ 10000000000000 ∧ Low A' n' g → Keep [g] W (w1.setCell ⟨g, 0, none⟩ (.slice A' n' c')) ∧ Cur 66 (w1.setCell ⟨g, 0, none⟩ (.slice A' n' c')) g (some (l.drop q)) ∧
          (w1.setCell ⟨g, 0, none⟩ (.slice A' n' c')).ownsRow W.heap.size 5 1 (.slice B1 q d1) q ((l.take q).map vU8) := fun A' n' c' hr' hn' => by
        have hks : Keep [g] w1 (w1.setCell ⟨g, 0, none⟩ (.slice A' n' c')) := (Keep.refl [g] w1).setCell (.inl (by simp)) _
        exact ⟨hk1.nil.trans hks, ⟨A', n', c', hb1.set_ 0 _, hr'.keep hks (fun b hb => .inl hb), hn'⟩, own_keep hown1 hks (by simpa using hgl)⟩
      replace hfin := Lib.hid hfin
      by_cases hcq : c = q
      · rw [if_pos hcq] at hd
        subst hcq
        rw [Nat.sub_self, show l.length - c = 0 from by omega] at hd
        have hF := Lib.hid (hfin.out _ _ _ hd ⟨by omega, Low.zero _ _⟩)
        clear hd
        go_wp2
        go_ret
        exact ⟨_, _, _, rfl, hF.out⟩
      · rw [if_neg hcq] at hd
        have hF := Lib.hid (hfin.out _ _ _ hd ⟨by omega, hn.2.map (by omega)⟩)
        clear hd
        go_wp2
        go_ret
        exact ⟨_, _, _, rfl, hF.out⟩
    · have hT : Hid (takeC (some l) k = ([], none)) := by
        unfold Hid takeC
        simp only
        rw [if_neg hfit]
      rw [hT.out]
      by_cases h0 : k < 0
      all_goals
        go_enter Try.func52, Try.ntmps52
        go_wp2_with fail
        refine (fail_prog W h').mono ?_
        rintro e w1 ⟨rfl, hk1, hcur⟩
        go_wp2
        go_ret
        exact ⟨none, 0, 0, rfl, hk1, hcur, World.ownsRow_nil _ _ _ _⟩

/-- The next byte, or 0. -/
def byteC (s : Option (List UInt8)) : Nat := num (takeC s 1).1
theorem takeC_one (s : Option (List UInt8)) : (takeC s 1).1 = [] ∨ ∃ x, (takeC s 1).1 = [x] := by
  cases s with
  | none => exact .inl rfl
  | some l =>
    cases l with
    | nil => exact .inl rfl
    | cons x l => right; exact ⟨x, by unfold takeC; simp only []; rw [if_pos ⟨by omega, by simp only [List.length_cons]; omega⟩]; rfl⟩

theorem num_snoc (b : List UInt8) (k : Nat) (hk : k < b.length) : num (b.take (k + 1)) = num (b.take k) + 2 ^ (8 * k) * b[k].toNat := by
  have key : ∀ (a : List UInt8) (x : UInt8), num (a ++ [x]) = num a + 2 ^ (8 * a.length) * x.toNat := by
    intro a x
    unfold num
    induction a with
    | nil => simp [pk]
    | cons y a ih =>
      simp only [List.cons_append, List.map_cons, pk, List.length_cons]
      rw [ih, Nat.mul_add, Nat.mul_add, Nat.pow_add]
      rw [show 8 * 1 = 8 from rfl, ← Nat.mul_assoc, Nat.mul_comm (2 ^ (8 * a.length)) (2 ^ 8)]
      omega
  rw [List.take_succ_eq_append_getElem hk, key, List.length_take, Nat.min_eq_left (by omega)]

theorem bits_or_u32 (a b : Nat) (ha : a < 2 ^ 32) (hb : b < 2 ^ 32) : bits .or .u32 (a : Int) (b : Int) = ((a ||| b : Nat) : Int) := by
  have hx : a ||| b < 2 ^ 32 := Nat.or_lt_two_pow ha hb
  show IntKind.u32.wrap ((BitVec.ofInt 32 (a : Int) ||| BitVec.ofInt 32 (b : Int)).toNat : Int) = _
  rw [BitVec.toNat_or, BitVec.ofInt_natCast, BitVec.ofInt_natCast, BitVec.toNat_ofNat, BitVec.toNat_ofNat, Nat.mod_eq_of_lt ha, Nat.mod_eq_of_lt hb]
  simp [IntKind.wrap, IntKind.bits, IntKind.signed]
  omega
theorem read_or (N x k : Nat) (hk : k < 4) (hN : N < 2 ^ (8 * k)) (hx : x < 256) : bits .or .u32 (N : Int) ((x : Int) * 2 ^ (8 * k) % 4294967296) = ((N + 2 ^ (8 * k) * x : Nat) : Int) := by
  have hp : 2 ^ (8 * k) * 256 ≤ 2 ^ 32 := by
    rw [show (256 : Nat) = 2 ^ 8 from rfl, ← Nat.pow_add]
    exact Nat.pow_le_pow_right (by omega) (by omega)
  have hpos : 0 < 2 ^ (8 * k) := Nat.pow_pos (by omega)
  have hm : 2 ^ (8 * k) * (x + 1) ≤ 2 ^ (8 * k) * 256 := Nat.mul_le_mul_left _ (by omega)
  rw [Nat.mul_add] at hm
  have h2 : 2 ^ (8 * k) * x < 2 ^ 32 := by omega
  have h3 : ((x : Int) * 2 ^ (8 * k) % 4294967296) = ((2 ^ (8 * k) * x : Nat) : Int) := by
    have : ((x : Int) * 2 ^ (8 * k)) = ((2 ^ (8 * k) * x : Nat) : Int) := by rw [Int.natCast_mul, Int.natCast_pow, Int.mul_comm]; rfl
    rw [this]
    exact Int.emod_eq_of_lt (by omega) (by omega)
  rw [h3, bits_or_u32 _ _ (Nat.lt_of_lt_of_le hN (Nat.pow_le_pow_right (by omega) (by omega))) h2, Nat.or_comm, ← Nat.two_pow_add_eq_or_of_lt hN, Nat.add_comm]

set_option maxHeartbeats 1000000 in
theorem read32_prog {g : Nat} {s : Option (List UInt8)} (q : Nat) (W : World) (h : Cur 66 W g s) (hq : q ≤ 4) :
    Calls Try.prog 57 #[.pointer (some ⟨g, 0, none⟩), .int .i64 q] W fun e W' => e = .returned (.int .u32 (num (takeC s q).1 : Nat)) ∧ Keep [g] W W' ∧ Cur 66 W' g (takeC s q).2 := by
  go_enter Try.func57, Try.ntmps57
  go_wp2_with fail
  refine (take_prog q W h (by omega)).mono ?_
  rintro e w1 ⟨B, m, d, rfl, hk1, hcur, hown⟩
  have hr : Bys [] w1 B m d (takeC s q).1 := rd_of_own hown (by simp)
  have hlq : (takeC s q).1.length ≤ 4 := by
    unfold takeC
    split
    · simp
    · split
      · simp; omega
      · simp
  clear hown
  generalize hT : (takeC s q).1 = b at *
  replace hT := Lib.hid hT
  obtain rfl := hr.len1
  have hcap := hr.cap
  go_wp2
  go_loop [5, 12] (fun t i => ∃ k : Nat, k ≤ b.length ∧ i = .int .i64 k ∧ t = .int .u32 (num (b.take k) : Nat)) (fun _ i => b.length - (intOf i).toNat)
  case atStart => exact ⟨0, by omega, rfl, rfl⟩
  case round =>
    obtain ⟨k, hk, rfl, rfl⟩ := hrel
    have hlt32 := num_lt (b.take k)
    rw [List.length_take, Nat.min_eq_left hk] at hlt32
    by_cases hlt : k < b.length
    · obtain ⟨bb, off, rfl, _, _, hcell⟩ := hr.one hlt
      unfold vU8 at hcell
      have hst := Lib.hid (num_snoc b k hlt)
      have hxl := b[k].toNat_lt
      have hor := read_or (num (b.take k)) b[k].toNat k (by omega) hlt32 hxl
      rw [← hst.out] at hor
      replace hor := Lib.hid hor
      go_wp2
      go_round
      case rel => exact ⟨k + 1, by omega, by go_num, congrArg _ hor.out⟩
      case measure => simp [intOf]; omega
    · obtain rfl : k = b.length := by omega
      rw [List.take_length] at *
      go_wp2
      go_ret
      exact ⟨ret_i (by rw [hT.out]), hk1, hcur⟩

theorem takeC_len (s : Option (List UInt8)) (n : Int) : ((takeC s n).1.length : Int) ≤ max n 0 := by
  unfold takeC
  split
  · simp; omega
  · split
    · rename_i h; simp; omega
    · simp; omega
theorem byteC_lt (s : Option (List UInt8)) : byteC s < 256 := by
  have h1 := num_lt (takeC s 1).1
  have h2 := takeC_len s 1
  have h3 : (takeC s 1).1.length ≤ 1 := by omega
  exact Nat.lt_of_lt_of_le h1 (Nat.pow_le_pow_right (n := 2) (by omega) (show 8 * (takeC s 1).1.length ≤ 8 by omega))

set_option maxHeartbeats 1000000 in
theorem byte_prog {g : Nat} {s : Option (List UInt8)} (W : World) (h : Cur 66 W g s) :
    Calls Try.prog 50 #[.pointer (some ⟨g, 0, none⟩)] W fun e W' => e = .returned (.int .u8 (byteC s : Nat)) ∧ Keep [g] W W' ∧ Cur 66 W' g (takeC s 1).2 := by
  have hlt := byteC_lt s
  go_enter Try.func50, Try.ntmps50
  go_wp2_with fail
  refine (read32_prog 1 W h (by omega)).mono ?_
  rintro e w1 ⟨rfl, hk1, hcur⟩
  rw [show num (takeC s ((1 : Nat) : Int)).1 = byteC s from rfl]
  go_wp2
  go_ret
  exact ⟨ret_i (by omega), hk1, hcur⟩
end Go.Proofs.Ytphgfhghbpndaaa
