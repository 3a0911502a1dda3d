/-
  The walks of layer 4's functions, part 3: the program's Get and Len.
-/
import Derived.Test.YtphgfhghbpndaaaCu1
import Derived.ScopeJumps
import Derived.WalkMore
namespace Go
/-- As Q; by a goto to label l: J; by a goto to label l2: J2; by any other goto: no way out. -/
def Exit.jump2 (l : Nat) (J : Act → World → Prop) (l2 : Nat) (J2 : Act → World → Prop) (Q : Exit → Act → World → Prop) : Exit → Act → World → Prop
  | .goto l', a, w => (l' = l ∧ J a w) ∨ (l' = l2 ∧ J2 a w)
  | e, a, w => Q e a w

theorem wp_scope_jumps2 {P : Program} {a : Act} {w : World} {Q : Exit → Act → World → Prop} {c rest rest2 : Code} (l l2 : Nat) (J J2 : Act → World → Prop) (μ : Act → World → Nat) (hf : findLabel c l = some (Code.skip.seq rest)) (hf2 : findLabel c l2 = some rest2)
    (first0 : (∀ a w, J a w → rest.wp P (Exit.jump2 l J l2 J2 Q) a w) → c.wp P (Exit.jump2 l J l2 J2 Q) a w)
    (pass0 : ∀ a w, J a w → rest.wp P (Exit.jump2 l (fun a' w' => J a' w' ∧ μ a' w' < μ a w) l2 J2 Q) a w)
    (pass2 : ∀ a w, J2 a w → rest2.wp P (Exit.jump2 l (fun _ _ => False) l2 (fun _ _ => False) Q) a w) : (Code.scope c).wp P Q a w := by
  have first := first0 fun a w hJ b k cs => by
    obtain ⟨e, a₁, w₁, hq, harr⟩ := pass0 a w hJ b k cs
    refine ⟨e, a₁, w₁, ?_, harr⟩
    cases e with
    | goto l' => exact hq.elim (fun h => .inl ⟨h.1, h.2.1⟩) .inr
    | _ => exact hq
  have pass : ∀ a w, J a w → (Code.skip.seq rest).wp P (Exit.jump2 l (fun a' w' => J a' w' ∧ μ a' w' < μ a w) l2 J2 Q) a w := fun a w hJ => wp_seq (wp_skip (pass0 a w hJ))
  intro b k cs
  have hg : gotoIn l (.inScope c :: k) = some (.code (Code.skip.seq rest) :: .inScope c :: k) := by simp [gotoIn, hf]
  have hg2 : gotoIn l2 (.inScope c :: k) = some (.code rest2 :: .inScope c :: k) := by simp [gotoIn, hf2]
  have key2 : ∀ a w, J2 a w → ∃ e a' w', Q e a' w' ∧ Arrives P (lone (b.at a (.code rest2 :: .inScope c :: k)) cs w) b k cs e a' w' := by
    intro a w hJ
    obtain ⟨e, a₁, w₁, hq, harr⟩ := pass2 a w hJ b (.inScope c :: k) cs
    cases e with
    | normal => exact ⟨.normal, a₁, w₁, hq, Steps.trans harr (.one step_inScope)⟩
    | exit id => exact ⟨.exit id, a₁, w₁, hq, fun k' hk => harr k' (by simp [exitTo, hk])⟩
    | goto l' => rcases hq with ⟨_, h⟩ | ⟨_, h⟩ <;> exact h.elim
    | ret => exact ⟨_, a₁, w₁, hq, harr⟩
    | panic ch => exact ⟨_, a₁, w₁, hq, harr⟩
    | outgrown => exact ⟨_, a₁, w₁, hq, harr⟩
  have key : ∀ n a w, μ a w = n → J a w → ∃ e a' w', Q e a' w' ∧ Arrives P (lone (b.at a (.code (Code.skip.seq rest) :: .inScope c :: k)) cs w) b k cs e a' w' := by
    intro n
    induction n using Nat.strongRecOn with
    | _ n ih =>
      intro a w hn hJ
      obtain ⟨e, a₁, w₁, hq, harr⟩ := pass a w hJ b (.inScope c :: k) cs
      cases e with
      | normal => exact ⟨.normal, a₁, w₁, hq, Steps.trans harr (.one step_inScope)⟩
      | exit id => exact ⟨.exit id, a₁, w₁, hq, fun k' hk => harr k' (by simp [exitTo, hk])⟩
      | goto l' =>
        rcases hq with ⟨rfl, hJ', hlt⟩ | ⟨rfl, hJ'⟩
        · obtain ⟨e₂, a₂, w₂, hq₂, harr₂⟩ := ih _ (by omega) a₁ w₁ rfl hJ'
          exact ⟨e₂, a₂, w₂, hq₂, .of_steps (harr _ hg) harr₂⟩
        · obtain ⟨e₂, a₂, w₂, hq₂, harr₂⟩ := key2 a₁ w₁ hJ'
          exact ⟨e₂, a₂, w₂, hq₂, .of_steps (harr _ hg2) harr₂⟩
      | ret => exact ⟨_, a₁, w₁, hq, harr⟩
      | panic ch => exact ⟨_, a₁, w₁, hq, harr⟩
      | outgrown => exact ⟨_, a₁, w₁, hq, harr⟩
  obtain ⟨e, a₁, w₁, hq, harr⟩ := first b (.inScope c :: k) cs
  cases e with
  | normal => exact ⟨.normal, a₁, w₁, hq, .head step_scope (Steps.trans harr (.one step_inScope))⟩
  | exit id => exact ⟨.exit id, a₁, w₁, hq, fun k' hk => .head step_scope (harr k' (by simp [exitTo, hk]))⟩
  | goto l' =>
    rcases hq with ⟨rfl, hJ'⟩ | ⟨rfl, hJ'⟩
    · obtain ⟨e₂, a₂, w₂, hq₂, harr₂⟩ := key _ a₁ w₁ rfl hJ'
      exact ⟨e₂, a₂, w₂, hq₂, .of_steps (.head step_scope (harr _ hg)) harr₂⟩
    · obtain ⟨e₂, a₂, w₂, hq₂, harr₂⟩ := key2 a₁ w₁ hJ'
      exact ⟨e₂, a₂, w₂, hq₂, .of_steps (.head step_scope (harr _ hg2)) harr₂⟩
  | ret => exact ⟨_, a₁, w₁, hq, .of_steps (.one step_scope) harr⟩
  | panic ch => exact ⟨_, a₁, w₁, hq, .of_steps (.one step_scope) harr⟩
  | outgrown => exact ⟨_, a₁, w₁, hq, .of_steps (.one step_scope) harr⟩
end Go
namespace Go.Proofs.Ytphgfhghbpndaaa
open Go Go.RowKit
set_option linter.unusedVariables false
set_option linter.unusedSimpArgs false

/-- The number that a cursor's bytes begin with, and what is left then. -/
def getC (s : Option (List UInt8)) : Nat × Option (List UInt8) := match s.bind getV with
  | some (v, l) => (v, some l)
  | none => (0, none)

/-- .. k bytes being read, as n. -/
def getR (k n : Nat) (s : Option (List UInt8)) : Nat × Option (List UInt8) := match s.bind (getF (10 - k) k n) with
  | some (v, l) => (v, some l)
  | none => (0, none)
theorem getR_none (k n : Nat) : getR k n none = (0, none) := rfl
theorem getR_nil (k n : Nat) : getR k n (some []) = (0, none) := by unfold getR; cases h : 10 - k <;> simp [getF]
theorem getR_bad {k n : Nat} {x : UInt8} {l : List UInt8} (h : (0 < k ∧ x = 0) ∨ (k = 9 ∧ 1 < x.toNat)) : getR k n (some (x :: l)) = (0, none) := by
  unfold getR
  cases h1 : 10 - k with
  | zero => simp [getF]
  | succ f => simp only [Option.bind_some]; rw [getF, if_pos h]
theorem getR_last {k n : Nat} {x : UInt8} {l : List UInt8} (hk : k ≤ 9) (h : ¬ ((0 < k ∧ x = 0) ∨ (k = 9 ∧ 1 < x.toNat))) (hx : x.toNat < 128) : getR k n (some (x :: l)) = (n + x.toNat % 128 * 2 ^ (7 * k), some l) := by
  unfold getR
  obtain ⟨f, hf⟩ : ∃ f, 10 - k = f + 1 := ⟨9 - k, by omega⟩
  rw [hf]
  simp only [Option.bind_some]
  rw [getF, if_neg h, if_pos hx]
theorem getR_more {k n : Nat} {x : UInt8} {l : List UInt8} (hk : k ≤ 9) (h : ¬ ((0 < k ∧ x = 0) ∨ (k = 9 ∧ 1 < x.toNat))) (hx : ¬ x.toNat < 128) : getR k n (some (x :: l)) = getR (k + 1) (n + x.toNat % 128 * 2 ^ (7 * k)) (some l) ∧ k < 9 := by
  refine ⟨?_, by omega⟩
  unfold getR
  obtain ⟨f, hf⟩ : ∃ f, 10 - k = f + 1 := ⟨9 - k, by omega⟩
  rw [hf, show 10 - (k + 1) = f from by omega]
  simp only [Option.bind_some]
  rw [getF, if_neg h, if_neg hx]
theorem bits_andnot_u8 (a : Nat) (ha : a < 256) : bits .andNot .u8 (a : Int) 128 = ((a % 128 : Nat) : Int) := by
  have h : ∀ a : Fin 256, bits .andNot .u8 ((a.1 : Nat) : Int) 128 = ((a.1 % 128 : Nat) : Int) := by decide +kernel
  exact h ⟨a, ha⟩
theorem get_or (n x k : Nat) (hk : k ≤ 9) (hn : n < 2 ^ (7 * k)) (hx : x < 128) (h9 : k = 9 → x ≤ 1) : bits .or .u64 (n : Int) (IntKind.u64.wrap ((x : Int) * 2 ^ (7 * k))) = ((n + x * 2 ^ (7 * k) : Nat) : Int) ∧ n + x * 2 ^ (7 * k) < 2 ^ 64 := by
  have hpos : 0 < 2 ^ (7 * k) := Nat.pow_pos (by omega)
  have h2 : x * 2 ^ (7 * k) + 2 ^ (7 * k) ≤ 2 ^ 64 := by
    rw [← Nat.succ_mul]
    rcases Nat.lt_or_ge k 9 with hk9 | hk9
    · calc (x + 1) * 2 ^ (7 * k) ≤ 2 ^ 7 * 2 ^ (7 * k) := Nat.mul_le_mul_right _ (by omega)
        _ = 2 ^ (7 + 7 * k) := (Nat.pow_add _ _ _).symm
        _ ≤ 2 ^ 64 := Nat.pow_le_pow_right (by omega) (by omega)
    · obtain rfl : k = 9 := by omega
      have := h9 rfl
      calc (x + 1) * 2 ^ (7 * 9) ≤ 2 * 2 ^ (7 * 9) := Nat.mul_le_mul_right _ (by omega)
        _ ≤ 2 ^ 64 := by decide
  have h3 : IntKind.u64.wrap ((x : Int) * 2 ^ (7 * k)) = ((x * 2 ^ (7 * k) : Nat) : Int) := by
    have : ((x : Int) * 2 ^ (7 * k)) = ((x * 2 ^ (7 * k) : Nat) : Int) := by rw [Int.natCast_mul, Int.natCast_pow]; rfl
    rw [this]
    exact IntWalk.u64_in _ (by omega)
  refine ⟨?_, by omega⟩
  rw [h3, bits_or_u64 _ _ (by omega) (by omega), Nat.or_comm, Nat.mul_comm x, ← Nat.two_pow_add_eq_or_of_lt hn, Nat.add_comm]

set_option maxHeartbeats 4000000 in
set_option maxRecDepth 20000 in
theorem get_prog {g : Nat} {s : Option (List UInt8)} (W : World) (h : Cur 66 W g s) :
    Calls Try.prog 31 #[.pointer (some ⟨g, 0, none⟩)] W fun e W' => e = .returned (.int .u64 ((getC s).1 : Nat)) ∧ Keep [g] W W' ∧ Cur 66 W' g (getC s).2 := by
  obtain ⟨v, HV⟩ : ∃ v, Hid (v = (getC s).1) := ⟨_, rfl⟩
  obtain ⟨z, HZ⟩ : ∃ z, Hid (z = (getC s).2) := ⟨_, rfl⟩
  rw [← HV.out, ← HZ.out]
  go_enter Try.func31, Try.ntmps31
  go_wp2
  refine wp_scope_jumps2 0 1 (fun a' w' => ∃ (k n : Nat) (s' : Option (List UInt8)) (u5 u6 u7 u8 u9 u10 u11 u12 u13 u14 u15 u16 u17 u18 u19 u20 u21 u22 u23 u24 u25 u26 u27 u28 u29 u30 u31 u32 u33 u34 u35 u36 u37 u38 : Value), a' = { tmps := #[.pointer (some ⟨g, 0, none⟩), undef, .int .u64 0, .int .u64 (n : Nat), .int .i64 (k : Nat), u5, u6, u7, u8, u9, u10, u11, u12, u13, u14, u15, u16, u17, u18, u19, u20, u21, u22, u23, u24, u25, u26, u27, u28, u29, u30, u31, u32, u33, u34, u35, u36, u37, u38], defers := [] } ∧ k ≤ 9 ∧ n < 2 ^ (7 * k) ∧ Hid (getC s = getR k n s') ∧ Keep [g] W w' ∧ Cur 66 w' g s')
    (fun a' w' => ∃ (k n : Nat) (s' : Option (List UInt8)) (u5 u6 u7 u8 u9 u10 u11 u12 u13 u14 u15 u16 u17 u18 u19 u20 u21 u22 u23 u24 u25 u26 u27 u28 u29 u30 u31 u32 u33 u34 u35 u36 u37 u38 : Value), a' = { tmps := #[.pointer (some ⟨g, 0, none⟩), undef, .int .u64 0, .int .u64 (n : Nat), .int .i64 (k : Nat), u5, u6, u7, u8, u9, u10, u11, u12, u13, u14, u15, u16, u17, u18, u19, u20, u21, u22, u23, u24, u25, u26, u27, u28, u29, u30, u31, u32, u33, u34, u35, u36, u37, u38], defers := [] } ∧ Hid (getC s = (0, none)) ∧ Keep [g] W w' ∧ Cur 66 w' g s')
    (fun a' _ => 10 - (intOf (a'.tmps.getD 4 undef)).toNat) rfl rfl ?_ ?_ ?_
  · intro hrest
    go_wp2
    go_step3
    rename_i K hK
    refine hK _ _ (hrest _ _ ⟨0, 0, s, _, _, _, _, _, _, _, _, _, _, _, _, _, _, _, _, _, _, _, _, _, _, _, _, _, _, _, _, _, _, _, _, _, _, rfl, by omega, by decide, ?_, Keep.refl _ _, h⟩)
    rfl
  · rintro a' w' ⟨k, n, s', u5, u6, u7, u8, u9, u10, u11, u12, u13, u14, u15, u16, u17, u18, u19, u20, u21, u22, u23, u24, u25, u26, u27, u28, u29, u30, u31, u32, u33, u34, u35, u36, u37, u38, rfl, hk, hn, HR, hkeep, hcur⟩
    have hbl := byteC_lt s'
    go_wp2_with fail
    refine (byte_prog w' hcur).mono ?_
    rintro e w1 ⟨rfl, hk1, hcur1⟩
    go_wp2_with fail
    refine (bad_prog w1 hcur1).mono ?_
    rintro e w2 ⟨rfl, rfl⟩
    have hw : (∃ l, s' = some l ∧ l ≠ []) ∨ takeC s' 1 = ([], none) ∧ getR k n s' = (0, none) := by
      match s' with
      | none => exact .inr ⟨rfl, getR_none _ _⟩
      | some [] => exact .inr ⟨by simp [takeC], getR_nil _ _⟩
      | some (y :: l) => exact .inl ⟨y :: l, rfl, by simp⟩
    rcases hw with ⟨l, rfl, hl⟩ | ⟨h1, HN⟩
    · obtain ⟨y, l, rfl⟩ : ∃ y t, l = y :: t := by cases l with | nil => exact absurd rfl hl | cons y l => exact ⟨y, l, rfl⟩
      have hT : takeC (some (y :: l)) 1 = ([y], some l) := by
        unfold takeC
        simp only []
        rw [if_pos ⟨by omega, by simp only [List.length_cons]; omega⟩]
        rfl
      have hB : byteC (some (y :: l)) = y.toNat := by unfold byteC; rw [hT]; simp [num, pk]
      rw [hT] at hcur1 ⊢
      simp only [hB] at hbl ⊢
      have hy := y.toNat_lt
      have hno : (some l).isNone = false := rfl
      rw [hno]
      clear hT hB hl hno hbl
      have hy0 : y = 0 ↔ y.toNat = 0 := ⟨fun h => by rw [h]; rfl, fun h => UInt8.toNat_inj.1 (by rw [h]; rfl)⟩
      by_cases hbad : (0 < k ∧ y = 0) ∨ (k = 9 ∧ 1 < y.toNat)
      · have HN := getR_bad (n := n) (l := l) hbad
        have hHR : Hid (getC s = (0, none)) := by rw [Hid, HR.out, HN]
        rw [hy0] at hbad
        clear HN HR hy0
        generalize y.toNat = x at *
        rcases hbad with ⟨hk0, rfl⟩ | ⟨rfl, hx1⟩
        · go_wp2
          go_step3
          exact .inr ⟨rfl, k, n, some l, _, _, _, _, _, _, _, _, _, _, _, _, _, _, _, _, _, _, _, _, _, _, _, _, _, _, _, _, _, _, _, _, _, _, rfl, hHR, hkeep.trans hk1, hcur1⟩
        · have hx0 : ((x : Int) == 0) = false := by rw [beq_eq_false_iff_ne]; omega
          go_wp2
          go_step3
          exact .inr ⟨rfl, 9, n, some l, _, _, _, _, _, _, _, _, _, _, _, _, _, _, _, _, _, _, _, _, _, _, _, _, _, _, _, _, _, _, _, _, _, _, rfl, hHR, hkeep.trans hk1, hcur1⟩
      · obtain ⟨hg1, hg2⟩ : (0 < k → y.toNat ≠ 0) ∧ (k = 9 → y.toNat ≤ 1) := ⟨fun h1 h2 => hbad (.inl ⟨h1, hy0.2 h2⟩), fun h1 => by
          rcases Nat.lt_or_ge 1 y.toNat with h2 | h2
          · exact absurd (.inr ⟨h1, h2⟩) hbad
          · exact h2⟩
        obtain ⟨hor, hlt64⟩ := get_or n (y.toNat % 128) k hk hn (by omega) (fun h => by have := hg2 h; omega)
        have han := bits_andnot_u8 y.toNat hy
        have HR2 : Hid ((y.toNat < 128 → getC s = (n + y.toNat % 128 * 2 ^ (7 * k), some l)) ∧ (¬ y.toNat < 128 → getC s = getR (k + 1) (n + y.toNat % 128 * 2 ^ (7 * k)) (some l) ∧ k < 9)) :=
          ⟨fun h => by rw [HR.out, getR_last hk hbad h], fun h => by rw [HR.out]; exact getR_more hk hbad h⟩
        have hn2 : n + y.toNat % 128 * 2 ^ (7 * k) < 2 ^ (7 * (k + 1)) := by
          have h1 : y.toNat % 128 * 2 ^ (7 * k) + 2 ^ (7 * k) ≤ 128 * 2 ^ (7 * k) := by rw [← Nat.succ_mul]; exact Nat.mul_le_mul_right _ (by omega)
          have h2 : 2 ^ (7 * (k + 1)) = 128 * 2 ^ (7 * k) := by rw [Nat.mul_add, Nat.pow_add]; omega
          omega
        replace hn2 := Lib.hid hn2
        obtain ⟨N, hN⟩ : ∃ N, n + y.toNat % 128 * 2 ^ (7 * k) = N := ⟨_, rfl⟩
        rw [hN] at hn2 HR2 hor hlt64
        replace hlt64 : N < 18446744073709551616 := hlt64
        clear hN hbad hy0 HR
        generalize hm : y.toNat % 128 = m at *
        generalize y.toNat = x at *
        have hk0b : 0 < k → ((x : Int) == 0) = false := fun h => by have := hg1 h; rw [beq_eq_false_iff_ne]; omega
        have hk9b : k ≠ 9 → ((k : Int) == 9) = false := fun h => by rw [beq_eq_false_iff_ne]; omega
        have hm128 : m < 128 := by omega
        clear hm
        replace hn := Lib.hid hn
        by_cases hlast : x < 128
        · have HN := Lib.hid (HR2.out.1 hlast)
          by_cases hk0 : 0 < k
          · have hk0' := hk0b hk0
            by_cases hk9 : k = 9
            · subst hk9
              have := hg2 rfl
              clear hk0b hk9b hg1 hg2
              have hor9 : bits .or .u64 (n : Int) (IntKind.u64.wrap ((m : Int) * 9223372036854775808)) = (N : Int) := hor
              go_wp2
              simp only [Exit.jump2]
              go_ret
              have hv := HV.out
              have hz := HZ.out
              rw [HN.out] at hv hz
              subst hv hz
              exact ⟨rfl, hkeep.trans hk1, hcur1⟩
            · have hk9' := hk9b hk9
              clear hk0b hk9b hg1 hg2 hk9
              go_wp2
              simp only [Exit.jump2]
              go_ret
              have hv := HV.out
              have hz := HZ.out
              rw [HN.out] at hv hz
              subst hv hz
              exact ⟨rfl, hkeep.trans hk1, hcur1⟩
          · obtain rfl : k = 0 := by omega
            clear hk0b hk9b hg1 hg2
            have hor0 : bits .or .u64 (n : Int) (m : Int) = (N : Int) := by
              have h1 := hor
              rw [show (m : Int) * 2 ^ (7 * 0) = m from by simp, IntWalk.u64_in _ (by omega)] at h1
              exact h1
            go_wp2
            simp only [Exit.jump2]
            go_ret
            have hv := HV.out
            have hz := HZ.out
            rw [HN.out] at hv hz
            subst hv hz
            exact ⟨rfl, hkeep.trans hk1, hcur1⟩
        · obtain ⟨HN, hk9⟩ := HR2.out.2 hlast
          replace HN := Lib.hid HN
          by_cases hk0 : 0 < k
          · have hk0' := hk0b hk0
            have hk9' := hk9b (by omega)
            clear hk0b hk9b hg1 hg2
            go_wp2
            go_step3
            refine .inl ⟨rfl, ⟨k + 1, N, some l, _, _, _, _, _, _, _, _, _, _, _, _, _, _, _, _, _, _, _, _, _, _, _, _, _, _, _, _, _, _, _, _, _, _, rfl, by omega, hn2.out, HN, hkeep.trans hk1, hcur1⟩, ?_⟩
            · simp [intOf]; omega
          · obtain rfl : k = 0 := by omega
            clear hk0b hk9b hg1 hg2
            have hor0 : bits .or .u64 (n : Int) (m : Int) = (N : Int) := by
              have h1 := hor
              rw [show (m : Int) * 2 ^ (7 * 0) = m from by simp, IntWalk.u64_in _ (by omega)] at h1
              exact h1
            go_wp2
            go_step3
            refine .inl ⟨rfl, ⟨0 + 1, N, some l, _, _, _, _, _, _, _, _, _, _, _, _, _, _, _, _, _, _, _, _, _, _, _, _, _, _, _, _, _, _, _, _, _, _, rfl, by omega, hn2.out, HN, hkeep.trans hk1, hcur1⟩, ?_⟩
            · simp [intOf]
    · have hno : (takeC s' 1).2.isNone = true := by rw [h1]; rfl
      rw [hno]
      rw [h1] at hcur1
      clear h1 hno
      replace HN := Lib.hid HN
      go_wp2
      simp only [Exit.jump2]
      go_ret
      have hv := HV.out
      have hz := HZ.out
      rw [HR.out, HN.out] at hv hz
      subst hv hz
      exact ⟨rfl, hkeep.trans hk1, hcur1⟩
  · rintro a' w' ⟨k, n, s', u5, u6, u7, u8, u9, u10, u11, u12, u13, u14, u15, u16, u17, u18, u19, u20, u21, u22, u23, u24, u25, u26, u27, u28, u29, u30, u31, u32, u33, u34, u35, u36, u37, u38, rfl, HR, hkeep, hcur⟩
    go_wp2_with fail
    refine (fail_prog w' hcur).mono ?_
    rintro e w1 ⟨rfl, hk1, hcur1⟩
    go_wp2
    simp only [Exit.jump2]
    go_ret
    have hv := HV.out
    have hz := HZ.out
    rw [HR.out] at hv hz
    subst hv hz
    exact ⟨rfl, hkeep.trans hk1, hcur1⟩
end Go.Proofs.Ytphgfhghbpndaaa
