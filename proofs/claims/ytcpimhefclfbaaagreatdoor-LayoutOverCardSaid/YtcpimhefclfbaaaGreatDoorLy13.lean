/-
  The walks of layer 18's statements: what is over rows has all of them.
-/
import Derived.Test.YtcpimhefclfbaaaGreatDoorLy11
namespace Go.Proofs.YtcpimhefclfbaaaGreatDoor
open Go Go.RowKit
set_option maxRecDepth 10000
set_option linter.unusedVariables false
set_option linter.unusedSimpArgs false

theorem ovr_three {x y p q : Int} : (ovr x y (p, q) = true ∧ p < y ∧ x < q ∧ x < y) ∨ (ovr x y (p, q) = false ∧ ¬ p < y) ∨ (ovr x y (p, q) = false ∧ p < y ∧ ¬ x < q) ∨ (ovr x y (p, q) = false ∧ p < y ∧ x < q ∧ ¬ x < y) := by
  unfold ovr
  simp only []
  by_cases h1 : p < y
  · by_cases h2 : x < q
    · by_cases h3 : x < y
      · exact .inl ⟨by simp [h1, h2, h3], h1, h2, h3⟩
      · exact .inr (.inr (.inr ⟨by simp [h3], h1, h2, h3⟩))
    · exact .inr (.inr (.inl ⟨by simp [h2], h1, h2⟩))
  · exact .inr (.inl ⟨by simp [h1], h1⟩)

set_option maxHeartbeats 8000000 in
theorem LayoutOver_walk (t s x y : Int) (W : World) (ht : I64 t) (hs : I64 s) (hx : I64 x) (hy : I64 y) :
    Calls Tryz.prog 5 #[.int .i64 t, .int .i64 s, .int .i64 x, .int .i64 y] W fun e W' => e = .returned (.bool true) ∧ Below W.heap.size W W' := by
  have S := Lib.hid (small18 W)
  have FW' := Lib.hid (fun w => few18 0 t s w (by omega) ht hs)
  have C1 := Lib.hid (fun w => cut_prog 0 t s w (by omega) ht hs)
  generalize fewV 0 t s = fv at *
  obtain ⟨o1, o2, o3, o4⟩ := over_has (cutL_asc 0 t s) x y
  have hends : (overL (cutL 0 t s) x y).1 < (overL (cutL 0 t s) x y).2 → Hid (∃ (h1 : (overL (cutL 0 t s) x y).1 < (cutL 0 t s).length) (h2 : (overL (cutL 0 t s) x y).2 - 1 < (cutL 0 t s).length),
      (x < (cutL 0 t s)[(overL (cutL 0 t s) x y).1].1 → (cutL 0 t s)[(overL (cutL 0 t s) x y).1].1 = 0) ∧ ((cutL 0 t s)[(overL (cutL 0 t s) x y).2 - 1].2 < y → (cutL 0 t s)[(overL (cutL 0 t s) x y).2 - 1].2 = t)) := fun h => by
    by_cases hbad : (0 : Int) < 0 ∨ 65536 < t ∨ s < 1
    · have hl : cutL 0 t s = [] := by unfold cutL; rw [if_pos hbad]
      rw [hl] at h o2
      simp at o2
      omega
    · exact over_ends (cutL_ok hbad) x y h
  have hlen := cutL_len 0 t s
  have OV := fun w (hw : Sps [] w none 0 0 []) => True
  clear OV
  have O1 := Lib.hid (fun (A : Option Addr) (c : Nat) (w : World) (h : Sps [] w A (cutL 0 t s).length c (cutL 0 t s)) => over_prog x y w h)
  generalize cutL 0 t s = l at *
  generalize overL l x y = v at *
  obtain ⟨a, b⟩ := v
  simp only [] at o1 o2 o3 o4 hends O1
  replace o3 := Lib.hid o3
  replace o4 := Lib.hid o4
  replace hends := Lib.hid hends
  clear ht hs hx hy
  go_enter Tryz.func5, Tryz.ntmps5
  go_wp2_with fail
  refine S.out.mono ?_
  rintro e w1 ⟨rfl, hk1⟩
  clear S
  go_wp2_with fail
  refine (FW'.out w1).mono ?_
  rintro e w2 ⟨rfl, hw2⟩
  subst hw2
  clear FW'
  cases fv with
  | false =>
    go_wp2
    go_ret
    exact ⟨rfl, hk1.below⟩
  | true =>
  go_wp2_with fail
  refine (C1.out w1).mono ?_
  rintro e w2 ⟨B, n, d, rfl, hk2, hB⟩
  replace hB := hB [] (by simp)
  obtain rfl : l.length = n := hB.len
  have hBc := hB.cap
  have hBl := hB.le
  have hk12 := hk1.trans hk2
  clear C1
  go_wp2_with fail
  refine (O1.out B d w2 hB).mono ?_
  rintro e w3 ⟨rfl, hk3⟩
  have hk13 := hk12.trans hk3
  replace hB := hB.pure hk3
  clear O1
  have a0' : ¬ ((a : Int) < 0) := by omega
  have ab' : ¬ ((b : Int) < (a : Int)) := by omega
  have ab2 : decide (b < a) = false := decide_eq_false (by omega)
  have bl' : ¬ ((l.length : Int) < (b : Int)) := by omega
  have bl2 : decide (l.length < b) = false := decide_eq_false (by omega)
  go_wp2
  clear a0' ab' ab2 bl' bl2
  go_loopw [14] (fun i w => ∃ k : Nat, k ≤ l.length ∧ i = .int .i64 k ∧ Keep [] w3 w) (fun i _ => l.length - (intOf i).toNat)
  case atStart => exact ⟨0, Nat.zero_le _, rfl, Keep.refl _ _⟩
  case round =>
    obtain ⟨k, hk, rfl, hkr⟩ := hrel
    have hkW := hk13.trans hkr
    by_cases hlt : k < l.length
    · obtain ⟨pb, po, rfl, _, _, z0, z1⟩ := Sps.at2 (hB.pure hkr) hlt
      have hov := o4.out k hlt
      generalize l[k] = pq at *
      obtain ⟨p, q⟩ := pq
      simp only [] at z0 z1
      have i0' : (0 : Int) ≤ (k : Int) := by omega
      have i1' : (k : Int) < (l.length : Int) := by omega
      by_cases hin : a ≤ k ∧ k < b
      · rw [decide_eq_true hin] at hov
        obtain ⟨g1, g2⟩ := hin
        have g1d : decide (a ≤ k) = true := decide_eq_true g1
        have g2d : decide (k < b) = true := decide_eq_true g2
        rcases ovr_three (x := x) (y := y) (p := p) (q := q) with ⟨e1, c1, c2, c3⟩ | ⟨e1, _⟩ | ⟨e1, _⟩ | ⟨e1, _⟩
        · clear hov e1
          go_wp2
          go_roundw
          case rel => exact ⟨k + 1, by omega, by go_num, hkr⟩
          case measure => simp [intOf]; omega
        · rw [hov] at e1; cases e1
        · rw [hov] at e1; cases e1
        · rw [hov] at e1; cases e1
      · rw [decide_eq_false hin] at hov
        have hin2 : (decide (a ≤ k) = false ∧ ¬ a ≤ k) ∨ (decide (a ≤ k) = true ∧ a ≤ k ∧ decide (k < b) = false ∧ ¬ k < b) := by
          by_cases g1 : a ≤ k
          · exact .inr ⟨decide_eq_true g1, g1, decide_eq_false (fun g2 => hin ⟨g1, g2⟩), fun g2 => hin ⟨g1, g2⟩⟩
          · exact .inl ⟨decide_eq_false g1, g1⟩
        clear hin
        rcases ovr_three (x := x) (y := y) (p := p) (q := q) with ⟨e1, _⟩ | ⟨e1, c1⟩ | ⟨e1, c1, c2⟩ | ⟨e1, c1, c2, c3⟩
        · rw [hov] at e1; cases e1
        · clear hov e1
          rcases hin2 with ⟨g1d, g1⟩ | ⟨g1d, g1, g2d, g2⟩
          · go_wp2
            go_roundw
            case rel => exact ⟨k + 1, by omega, by go_num, hkr⟩
            case measure => simp [intOf]; omega
          · go_wp2
            go_roundw
            case rel => exact ⟨k + 1, by omega, by go_num, hkr⟩
            case measure => simp [intOf]; omega
        · clear hov e1
          rcases hin2 with ⟨g1d, g1⟩ | ⟨g1d, g1, g2d, g2⟩
          · go_wp2
            go_roundw
            case rel => exact ⟨k + 1, by omega, by go_num, hkr⟩
            case measure => simp [intOf]; omega
          · go_wp2
            go_roundw
            case rel => exact ⟨k + 1, by omega, by go_num, hkr⟩
            case measure => simp [intOf]; omega
        · clear hov e1
          rcases hin2 with ⟨g1d, g1⟩ | ⟨g1d, g1, g2d, g2⟩
          · go_wp2
            go_roundw
            case rel => exact ⟨k + 1, by omega, by go_num, hkr⟩
            case measure => simp [intOf]; omega
          · go_wp2
            go_roundw
            case rel => exact ⟨k + 1, by omega, by go_num, hkr⟩
            case measure => simp [intOf]; omega
    · have i1' : ¬ ((k : Int) < (l.length : Int)) := by omega
      by_cases hab : a < b
      · obtain ⟨h1, h2, h3, h4⟩ := (hends.out hab).out
        have hb1 : ((b - 1 : Nat) : Int) = (b : Int) - 1 := by omega
        obtain ⟨b1, hbe⟩ : ∃ b1, b - 1 = b1 := ⟨_, rfl⟩
        simp only [hbe] at h2 h4 hb1
        obtain ⟨pb, po, eB, _, _, z0, z1⟩ := Sps.at2 (hB.pure hkr) h1
        obtain ⟨pb', po', eB', _, _, y0, y1⟩ := Sps.at2 (hB.pure hkr) h2
        subst eB
        cases eB'
        generalize l[a] = pq at *
        generalize l[b1] = pr at *
        obtain ⟨p, q⟩ := pq
        obtain ⟨p', q'⟩ := pr
        simp only [] at z0 z1 y0 y1 h3 h4
        have j0 : (0 : Int) ≤ (a : Int) := by omega
        have j1 : (a : Int) < (l.length : Int) := by omega
        have j2 : (0 : Int) ≤ (b1 : Int) := by omega
        have j3 : (b1 : Int) < (l.length : Int) := by omega
        have jw : IntKind.i64.wrap (b1 : Int) = (b1 : Int) := IntWalk.i64_in _ (by omega)
        have hb1' : (b : Int) - 1 = (b1 : Int) := by omega
        have habd : decide (a < b) = true := decide_eq_true hab
        clear hb1 hbe hends o3 o4
        replace h3 := Lib.hid h3
        replace h4 := Lib.hid h4
        have hcase : (¬ x < p ∨ (x < p ∧ p = 0)) ∧ (¬ q' < y ∨ (q' < y ∧ q' = t)) := by
          have := h3.out
          have := h4.out
          omega
        obtain ⟨hc1, hc2⟩ := hcase
        rcases hc1 with d1 | ⟨d1, d2⟩
        · rcases hc2 with d3 | ⟨d3, d4⟩
          · go_wp2
            go_ret
            exact ⟨rfl, hkW.below⟩
          · subst d4
            go_wp2
            go_ret
            exact ⟨rfl, hkW.below⟩
        · subst d2
          rcases hc2 with d3 | ⟨d3, d4⟩
          · go_wp2
            go_ret
            exact ⟨rfl, hkW.below⟩
          · subst d4
            go_wp2
            go_ret
            exact ⟨rfl, hkW.below⟩
      · obtain ⟨rfl, rfl⟩ : a = 0 ∧ b = 0 := by have := o3.out; omega
        go_wp2
        go_ret
        exact ⟨rfl, hkW.below⟩
end Go.Proofs.YtcpimhefclfbaaaGreatDoor
