/-
  The walks of layer 18's statements: groups, and their pages.
-/
import Derived.Test.YtcpimhefclfbaaaGreatDoorLy11
namespace Go.Proofs.YtcpimhefclfbaaaGreatDoor
open Go Go.RowKit
set_option maxRecDepth 10000
set_option linter.unusedVariables false
set_option linter.unusedSimpArgs false

/-- How many spans of a group are over rows. -/
def cntG (s x y : Int) (g : Int × Int) : Nat := (overL (cutL g.1 g.2 s) x y).2 - (overL (cutL g.1 g.2 s) x y).1
theorem cntG_le (s x y : Int) (g : Int × Int) : cntG s x y g ≤ 65536 := by
  have h1 := (over_has (cutL_asc g.1 g.2 s) x y).2.1
  have h2 := cutL_len g.1 g.2 s
  unfold cntG
  omega
theorem parts_sum {t s m x y : Int} (hs : 1 ≤ s) (hm : 1 ≤ m) (ht : t ≤ 65536) : ((cutL 0 t (s * m)).map (cntG s x y)).sum = (overL (cutL 0 t s) x y).2 - (overL (cutL 0 t s) x y).1 := by
  have hsm : 1 ≤ s * m := by
    have := Int.mul_le_mul_of_nonneg_left hm (show (0 : Int) ≤ s by omega)
    omega
  have e1 : (cutL 0 t s) = cutR 0 t s := by unfold cutL; rw [if_neg (by omega)]
  have e2 : (cutL 0 t (s * m)) = cutR 0 t (s * m) := by unfold cutL; rw [if_neg (by omega)]
  have hl := cutL_low 0 t (s * m)
  rw [← over_count (cutL_asc 0 t s), e1, ← cut_parts hs hm _ 0 (Nat.le_refl _), List.countP_flatMap, ← e2]
  congr 1
  apply List.map_congr_left
  intro g hg
  obtain ⟨i, hi, rfl⟩ := List.mem_iff_getElem.1 hg
  obtain ⟨l1, _, l3⟩ := hl i hi
  unfold cntG
  rw [← over_count (cutL_asc _ _ s)]
  unfold cutL
  rw [if_neg (by unfold cutL at l1 l3; omega)]
  rfl

set_option maxHeartbeats 8000000 in
theorem LayoutParts_walk (t s m x y : Int) (W : World) (ht : I64 t) (hs : I64 s) (hm : I64 m) (hx : I64 x) (hy : I64 y) :
    Calls Tryz.prog 7 #[.int .i64 t, .int .i64 s, .int .i64 m, .int .i64 x, .int .i64 y] W fun e W' => e = .returned (.bool true) ∧ Below W.heap.size W W' := by
  have S := Lib.hid (small18 W)
  by_cases hbad : s < 1 ∨ 1000 < s ∨ m < 1 ∨ 50 < m ∨ t < 0 ∨ 3000 < t ∨ x < 0 ∨ t < y
  · have hcase : s < 1 ∨ (¬ s < 1 ∧ 1000 < s) ∨ (¬ s < 1 ∧ ¬ 1000 < s ∧ m < 1) ∨ (¬ s < 1 ∧ ¬ 1000 < s ∧ ¬ m < 1 ∧ 50 < m) ∨ (¬ s < 1 ∧ ¬ 1000 < s ∧ ¬ m < 1 ∧ ¬ 50 < m ∧ t < 0) ∨
        (¬ s < 1 ∧ ¬ 1000 < s ∧ ¬ m < 1 ∧ ¬ 50 < m ∧ ¬ t < 0 ∧ 3000 < t) ∨ (¬ s < 1 ∧ ¬ 1000 < s ∧ ¬ m < 1 ∧ ¬ 50 < m ∧ ¬ t < 0 ∧ ¬ 3000 < t ∧ x < 0) ∨
        (¬ s < 1 ∧ ¬ 1000 < s ∧ ¬ m < 1 ∧ ¬ 50 < m ∧ ¬ t < 0 ∧ ¬ 3000 < t ∧ ¬ x < 0 ∧ t < y) := by omega
    clear hbad ht hs hm hx hy
    go_enter Tryz.func7, Tryz.ntmps7
    go_wp2_with fail
    refine S.out.mono ?_
    rintro e w1 ⟨rfl, hk1⟩
    clear S
    rcases hcase with q1 | ⟨q1, q2⟩ | ⟨q1, q2, q3⟩ | ⟨q1, q2, q3, q4⟩ | ⟨q1, q2, q3, q4, q5⟩ | ⟨q1, q2, q3, q4, q5, q6⟩ | ⟨q1, q2, q3, q4, q5, q6, q7⟩ | ⟨q1, q2, q3, q4, q5, q6, q7, q8⟩
    all_goals
      go_wp2
      go_ret
      exact ⟨rfl, hk1.below⟩
  have q1 : ¬ s < 1 := by omega
  have q2 : ¬ 1000 < s := by omega
  have q3 : ¬ m < 1 := by omega
  have q4 : ¬ 50 < m := by omega
  have q5 : ¬ t < 0 := by omega
  have q6 : ¬ 3000 < t := by omega
  have q7 : ¬ x < 0 := by omega
  have q8 : ¬ t < y := by omega
  obtain ⟨P, hP⟩ : ∃ P, s * m = P := ⟨_, rfl⟩
  have hPb : 1 ≤ P ∧ P ≤ 50000 := by
    have h1 := Int.mul_le_mul_of_nonneg_left (show (1 : Int) ≤ m by omega) (show (0 : Int) ≤ s by omega)
    have h2 := Int.mul_le_mul (show s ≤ 1000 by omega) (show m ≤ 50 by omega) (by omega) (by omega)
    omega
  have hPw : IntKind.i64.wrap P = P := IntWalk.i64_in _ (by omega)
  have hsum := parts_sum (t := t) (s := s) (m := m) (x := x) (y := y) (by omega) (by omega) (by omega)
  rw [hP] at hsum
  obtain ⟨o1, o2, _, _⟩ := over_has (cutL_asc 0 t s) x y
  have hlen1 := cutL_len 0 t s
  have C1 := Lib.hid (fun w => cut_prog 0 t s w (by omega) ht hs)
  have C2 := Lib.hid (fun w => cut_prog 0 t P w (by omega) ht (by omega))
  have hlow := cutL_low 0 t P
  have hlen2 := cutL_len 0 t P
  generalize cutL 0 t P = l2 at *
  have O1 := Lib.hid (fun (A : Option Addr) (c : Nat) (w : World) (h : Sps [] w A (cutL 0 t s).length c (cutL 0 t s)) => over_prog x y w h)
  generalize cutL 0 t s = l1 at *
  generalize overL l1 x y = v at *
  obtain ⟨a, b⟩ := v
  simp only [] at o1 o2 hsum O1
  replace hsum := Lib.hid hsum
  replace hlow := Lib.hid hlow
  replace hPb := Lib.hid hPb
  have hsI := Lib.hid hs
  clear hbad ht hs hm hx hy
  go_enter Tryz.func7, Tryz.ntmps7
  go_wp2_with fail
  refine S.out.mono ?_
  rintro e w1 ⟨rfl, hk1⟩
  clear S
  go_wp2_with fail
  refine (C1.out w1).mono ?_
  rintro e w2 ⟨B, n, d, rfl, hk2, hB⟩
  replace hB := hB [] (by simp)
  obtain rfl : l1.length = n := hB.len
  clear C1
  go_wp2_with fail
  refine (O1.out B d w2 hB).mono ?_
  rintro e w3 ⟨rfl, hk3⟩
  clear O1
  go_wp2_with fail
  refine (C2.out w3).mono ?_
  rintro e w4 ⟨B', n', d', rfl, hk4, hG⟩
  replace hG := hG [] (by simp)
  obtain rfl : l2.length = n' := hG.len
  have hGc := hG.cap
  have hGl := hG.le
  have hk14 := ((hk1.trans hk2).trans hk3).trans hk4
  clear C2 hB hP hPw
  go_wp2
  clear q1 q2 q3 q4 q5 q6 q7 q8
  go_loopw [15, 16] (fun z i w => ∃ (k N : Nat), k ≤ l2.length ∧ z = .int .i64 (N : Nat) ∧ i = .int .i64 k ∧ Hid (N = ((l2.take k).map (cntG s x y)).sum ∧ N ≤ k * 65536) ∧ Keep [] w4 w) (fun _ i _ => l2.length - (intOf i).toNat)
  case atStart => exact ⟨0, 0, Nat.zero_le _, rfl, rfl, ⟨rfl, Nat.zero_le _⟩, Keep.refl _ _⟩
  case round =>
    obtain ⟨k, N, hk, rfl, rfl, HN, hkr⟩ := hrel
    have hkW := hk14.trans hkr
    by_cases hlt : k < l2.length
    · have CG := Lib.hid (fun w (hw : Keep [] w4 w) => Sps.at2 (hG.pure hw) hlt)
      obtain ⟨gb, go', rfl, _, _, _, _⟩ := CG.out wr hkr
      obtain ⟨g1, g2, g3⟩ := hlow.out k hlt
      have hN1 : ((l2.take (k + 1)).map (cntG s x y)).sum = N + cntG s x y l2[k] := by
        rw [List.take_succ_eq_append_getElem hlt, List.map_append, List.sum_append, ← HN.out.1]; simp
      generalize l2[k] = g at *
      obtain ⟨p, q⟩ := g
      simp only [] at g1 g2 g3
      have hcl := cntG_le s x y (p, q)
      have C3 := Lib.hid (fun w => cut_prog p q s w (by omega) (by omega) hsI.out)
      obtain ⟨u1, u2, _, _⟩ := over_has (cutL_asc p q s) x y
      have ulen := cutL_len p q s
      have OG := fun (A : Option Addr) (n c : Nat) (w : World) (h : Sps [] w A n c (cutL p q s)) => over_prog x y w h
      have hcd : cntG s x y (p, q) = (overL (cutL p q s) x y).2 - (overL (cutL p q s) x y).1 := rfl
      generalize cutL p q s = lg at *
      generalize overL lg x y = vg at *
      obtain ⟨c, e⟩ := vg
      simp only [] at u1 u2 hcd OG
      rw [hcd] at hN1 hcl
      replace OG := Lib.hid OG
      have hN := HN.out.2
      have i0' : (0 : Int) ≤ (k : Int) := by omega
      have i1' : (k : Int) < (l2.length : Int) := by omega
      obtain ⟨X1, hX1⟩ : ∃ X1 : Nat, Hid (N + e = X1) := ⟨_, rfl⟩
      obtain ⟨X2, hX2⟩ : ∃ X2 : Nat, Hid (X1 - c = X2) := ⟨_, rfl⟩
      have hX1' := hX1.out
      have hX2' := hX2.out
      have hnew : Hid (X2 = ((l2.take (k + 1)).map (cntG s x y)).sum ∧ X2 ≤ (k + 1) * 65536) := by rw [Hid, hN1]; omega
      have s1 : (N : Int) + (e : Int) = (X1 : Int) := by omega
      have s2 : (X1 : Int) - (c : Int) = (X2 : Int) := by omega
      have s1w : IntKind.i64.wrap (X1 : Int) = (X1 : Int) := IntWalk.i64_in _ (by omega)
      have s2w : IntKind.i64.wrap (X2 : Int) = (X2 : Int) := IntWalk.i64_in _ (by omega)
      replace hN1 := Lib.hid hN1
      clear HN hN hX1' hX2' hcl hcd
      go_wp2_with fail
      refine wp_region_ords 19 [] (fun _ _ => True) (List.replicate 19 false) (Slot.val ?_ :: Slot.val ?_ :: Slot.val ?_ :: Slot.val ?_ :: Slot.val ?_ :: Slot.val ?_ :: Slot.val ?_ :: Slot.val ?_ :: Slot.val ?_ :: Slot.val ?_ :: Slot.val ?_ :: Slot.spec (RdIs 2 (lg.flatMap spC)) :: Slot.val ?_ :: Slot.val ?_ :: Slot.val ?_ :: Slot.val ?_ :: Slot.val ?_ :: Slot.val ?_ :: Slot.val ?_ :: []) (by kernel_rfl) rfl rfl (by kernel_rfl) ?_ (fun _ _ _ _ _ => trivial) trivial ?_
      rotate_left 18
      · intro t ht
        simp only [List.mem_cons, List.not_mem_nil, or_false] at ht
        rcases ht with rfl | rfl | rfl | rfl | rfl | rfl | rfl | rfl | rfl | rfl | rfl | rfl | rfl | rfl | rfl | rfl | rfl | rfl | rfl
        all_goals first | exact trivial | exact SlTo.lasts (by simp) | exact PtrTo.lasts (by simp) | exact RdIs.lasts
      simp only [List.take_succ_cons, List.take_zero, List.drop_succ_cons, List.drop_zero]
      repeat ((first | (refine obls_cons (obl_skip (fun vals => by rfl) ?_) ?_; (exact rfl)) | (refine obls_cons (obl_val (fun vals => by rfl) (fun vals w hw hd => ?_)) ?_; (obtain ⟨_, _, E', _, _, z0, z1⟩ := CG.out w (hkr.trans hw); cases E'; go_simp; exact rfl))); simp only [Slot.put, Slot.chain, Bool.false_eq_true, if_false, if_true, Nat.add_zero, Nat.zero_add, Nat.reduceAdd, Act.put, List.setIfInBounds_toArray, List.set_cons_succ, List.set_cons_zero])
      refine obls_cons (obl_callT (f := ?_) (args := ?_) (fun vals => by rfl) (fun vals w hw hd => ?_) (fun vals w hw hd => ?_)) ?_
      rotate_left 2
      · go_simp; exact rfl
      · exact (C3.out w).mono fun e w' ⟨B5, k5, d5, e1, e2, e3⟩ => ⟨_, e1, e2, B5, k5, d5, rfl, e3 [] (by simp)⟩
      simp only [Slot.put, Slot.chain, Bool.false_eq_true, if_false, if_true, Nat.add_zero, Nat.zero_add, Nat.reduceAdd, Act.put, List.setIfInBounds_toArray, List.set_cons_succ, List.set_cons_zero]
      repeat ((first | (refine obls_cons (obl_skip (fun vals => by rfl) ?_) ?_; (exact rfl)) | (refine obls_cons (obl_val (fun vals => by rfl) (fun vals w hw hd => ?_)) ?_; (skip; go_simp; exact rfl))); simp only [Slot.put, Slot.chain, Bool.false_eq_true, if_false, if_true, Nat.add_zero, Nat.zero_add, Nat.reduceAdd, Act.put, List.setIfInBounds_toArray, List.set_cons_succ, List.set_cons_zero])
      refine obls_cons (obl_call (f := ?_) (args := ?_) (fun vals => by rfl) (fun vals w hw hd => ?_) (fun vals w hw hd => ?_)) ?_
      rotate_left 2
      · go_simp; exact rfl
      · obtain ⟨B7, k7, d7, e7, h7⟩ := hd 11 (by decide +kernel) _ rfl; have C := OG.out B7 k7 d7 w h7; rw [← e7] at C; exact C
      simp only [Slot.put, Slot.chain, Bool.false_eq_true, if_false, if_true, Nat.add_zero, Nat.zero_add, Nat.reduceAdd, Act.put, List.setIfInBounds_toArray, List.set_cons_succ, List.set_cons_zero]
      repeat ((first | (refine obls_cons (obl_skip (fun vals => by rfl) ?_) ?_; (exact rfl)) | (refine obls_cons (obl_val (fun vals => by rfl) (fun vals w hw hd => ?_)) ?_; (skip; go_simp; exact rfl))); simp only [Slot.put, Slot.chain, Bool.false_eq_true, if_false, if_true, Nat.add_zero, Nat.zero_add, Nat.reduceAdd, Act.put, List.setIfInBounds_toArray, List.set_cons_succ, List.set_cons_zero])
      refine obls_nil (fun vals w hw _ hall => ?_)
      clear CG C3 OG hall
      go_wp2
      go_roundw
      case rel => exact ⟨k + 1, X2, by omega, rfl, by go_num, hnew, hkr.trans hw⟩
      case measure => simp [intOf]; omega
    · have hNe : N = b - a := by
        have h1 := HN.out.1
        rw [List.take_of_length_le (by omega)] at h1
        rw [h1]
        exact hsum.out
      have i1' : ¬ ((k : Int) < (l2.length : Int)) := by omega
      have s1 : (b : Int) - (a : Int) = (N : Int) := by omega
      have s1w : IntKind.i64.wrap (N : Int) = (N : Int) := IntWalk.i64_in _ (by omega)
      replace hNe := Lib.hid hNe
      clear HN
      go_wp2
      go_ret
      exact ⟨rfl, hkW.below⟩
end Go.Proofs.YtcpimhefclfbaaaGreatDoor
