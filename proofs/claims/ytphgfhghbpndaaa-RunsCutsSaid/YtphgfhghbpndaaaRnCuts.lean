/-
  The walk of layer 10's statement on cuts.
-/
import Derived.Test.YtphgfhghbpndaaaRnLaws
namespace Go.Proofs.Ytphgfhghbpndaaa
open Go Go.RowKit
set_option linter.unusedVariables false
set_option linter.unusedSimpArgs false

theorem okP_get : ∀ (ps : List Piece) (prev : Option UInt64) (was : Bool) (i : Nat) (hi : i < ps.length), okP prev was ps → ps[i].1 ≠ [] ∧ (∀ x ∈ (if i = 0 then prev else (ps[i - 1]?).bind fun p => p.1.getLast?), ps[i].1.head? ≠ some x) ∧
      (if ps[i].2 then 4 ≤ ps[i].1.length ∧ stretch ps[i].1 = ps[i].1.length else (if i = 0 then was = true else ∃ p, ps[i - 1]? = some p ∧ p.2 = true) ∧ no4 ps[i].1)
  | [], _, _, i, hi, _ => absurd hi (by simp)
  | (ns, run) :: ps, prev, was, 0, _, ⟨h1, h2, h3, _⟩ => ⟨h1, h2, h3⟩
  | (ns, run) :: ps, prev, was, i + 1, hi, ⟨h1, h2, h3, h4⟩ => by
    have hi' : i < ps.length := by simpa using hi
    have h := okP_get ps ns.getLast? run i hi' h4
    simp only [List.getElem_cons_succ, Nat.add_sub_cancel, Nat.add_eq_zero_iff, Nat.one_ne_zero, and_false, if_false]
    cases i with
    | zero => simpa using h
    | succ i => simpa using h

/-- How many numbers the first pieces have. -/
def upTo (ps : List Piece) (i : Nat) : Nat := ((ps.take i).flatMap (·.1)).length
theorem upTo_zero (ps : List Piece) : upTo ps 0 = 0 := rfl
theorem upTo_succ {ps : List Piece} {i : Nat} (h : i < ps.length) : upTo ps (i + 1) = upTo ps i + ps[i].1.length := by
  unfold upTo
  rw [List.take_succ_eq_append_getElem h]
  simp only [List.flatMap_append, List.flatMap_cons, List.flatMap_nil, List.append_nil, List.length_append]
theorem upTo_all (l : List UInt64) : upTo (cutP l) (cutP l).length = l.length := by
  unfold upTo
  rw [List.take_of_length_le (Nat.le_refl _), cutP_all]
theorem upTo_le (l : List UInt64) {i : Nat} (h : i < (cutP l).length) : upTo (cutP l) i + (cutP l)[i].1.length ≤ l.length := by
  have h1 := cutP_all l
  rw [← List.take_append_drop i (cutP l), List.flatMap_append, List.drop_eq_getElem_cons h, List.flatMap_cons] at h1
  have := congrArg List.length h1
  simp only [List.length_append] at this
  unfold upTo
  omega
theorem upTo_get (l : List UInt64) {i j : Nat} (h : i < (cutP l).length) (hj : j < (cutP l)[i].1.length) : l[upTo (cutP l) i + j]? = some (cutP l)[i].1[j] := by
  have h1 := cutP_all l
  rw [← List.take_append_drop i (cutP l), List.flatMap_append, List.drop_eq_getElem_cons h, List.flatMap_cons] at h1
  have h2 : l[upTo (cutP l) i + j]? = ((List.take i (cutP l)).flatMap (·.1) ++ ((cutP l)[i].1 ++ (List.drop (i + 1) (cutP l)).flatMap (·.1)))[upTo (cutP l) i + j]? := by rw [h1]
  rw [h2, List.getElem?_append_right (by unfold upTo; omega)]
  have h3 : upTo (cutP l) i + j - ((List.take i (cutP l)).flatMap (·.1)).length = j := by unfold upTo; omega
  rw [h3, List.getElem?_append_left hj, List.getElem?_eq_getElem hj]

/-- What is known of the piece that begins at 'at_'. -/
structure CutAt (l : List UInt64) (i at_ n : Nat) (run was : Bool) : Prop where
  pos : 0 < n
  fits : at_ + n ≤ l.length
  isRun : run = true ↔ 4 ≤ n ∧ ∀ j (h : j < l.length), at_ ≤ j → j < at_ + n → l[j] = l[at_]'(by omega)
  ahead : run = true → ∀ (h : at_ < l.length), 0 < at_ → l[at_ - 1] ≠ l[at_]
  behind : run = true → ∀ (h : at_ + n < l.length), l[at_ + n] ≠ l[at_]
  rest : run = false → 0 < i → was = true
  four : run = false → ∀ k (h : k + 3 < l.length), at_ ≤ k → k + 3 < at_ + n → ¬ (l[k] = l[k + 1] ∧ l[k] = l[k + 2] ∧ l[k] = l[k + 3])

theorem cutAt (l : List UInt64) {i : Nat} (h : i < (cutP l).length) : CutAt l i (upTo (cutP l) i) (cutP l)[i].1.length (cutP l)[i].2 (if i = 0 then true else ((cutP l)[i - 1]?.map (·.2)).getD true) := by
  obtain ⟨h1, h2, h3⟩ := okP_get (cutP l) none true i h (okP_cutP l)
  have hp := List.length_pos_iff.2 h1
  have hle := upTo_le l h
  have hg : ∀ j (hj : j < (cutP l)[i].1.length), l[upTo (cutP l) i + j]'(by omega) = (cutP l)[i].1[j] := fun j hj => by
    have := upTo_get l h hj
    rw [List.getElem?_eq_getElem (by omega)] at this
    exact Option.some.inj this
  have hg' : ∀ j (h : j < l.length) (h1 : upTo (cutP l) i ≤ j) (h2 : j < upTo (cutP l) i + (cutP l)[i].1.length), l[j] = (cutP l)[i].1[j - upTo (cutP l) i] := fun j hj ha hb => by
    have := hg (j - upTo (cutP l) i) (by omega)
    rw [← this]
    congr 1
    omega
  have hall : (cutP l)[i].2 = true → ∀ j (h : j < l.length), upTo (cutP l) i ≤ j → j < upTo (cutP l) i + (cutP l)[i].1.length → l[j] = l[upTo (cutP l) i]'(by omega) := fun hr j hj ha hb => by
    rw [hr, if_pos rfl] at h3
    rw [hg' j hj ha hb, hg' _ (by omega) (Nat.le_refl _) (by omega)]
    obtain ⟨_, _, e⟩ := stretch_same (l := (cutP l)[i].1) (k := j - upTo (cutP l) i) (by omega)
    rw [e]
    congr 1
    omega
  have hlast : ∀ (k : Nat) (hk : k < (cutP l).length), (cutP l)[k].1.getLast? = l[upTo (cutP l) k + (cutP l)[k].1.length - 1]? := fun k hk => by
    have h5 := (okP_get (cutP l) none true k hk (okP_cutP l)).1
    have h6 := List.length_pos_iff.2 h5
    have := upTo_get l hk (j := (cutP l)[k].1.length - 1) (by omega)
    rw [List.getLast?_eq_getElem?, List.getElem?_eq_getElem (by omega), ← this]
    congr 1
    omega
  have hfirst : ∀ (k : Nat) (hk : k < (cutP l).length), (cutP l)[k].1.head? = l[upTo (cutP l) k]? := fun k hk => by
    have h5 := (okP_get (cutP l) none true k hk (okP_cutP l)).1
    have h6 := List.length_pos_iff.2 h5
    have := upTo_get l hk (j := 0) h6
    rw [List.head?_eq_getElem?, List.getElem?_eq_getElem h6, ← this, Nat.add_zero]
  refine ⟨hp, hle, ?_, ?_, ?_, ?_, ?_⟩
  · constructor
    · intro hr
      refine ⟨?_, hall hr⟩
      rw [hr, if_pos rfl] at h3
      exact h3.1
    · rintro ⟨h4, h5⟩
      cases hr : (cutP l)[i].2 with
      | true => rfl
      | false =>
        rw [hr] at h3
        simp only [Bool.false_eq_true, if_false] at h3
        exfalso
        have e : ∀ j (hj : j < (cutP l)[i].1.length), (cutP l)[i].1[j] = (cutP l)[i].1[0] := fun j hj => by
          have a1 := h5 (upTo (cutP l) i + j) (by omega) (by omega) (by omega)
          rw [hg j hj] at a1
          rw [a1, hg' _ (by omega) (Nat.le_refl _) (by omega)]
          congr 1
          omega
        refine h3.2 0 (by omega) ⟨?_, ?_, ?_⟩
        · exact (e 1 (by omega)).symm
        · exact (e 2 (by omega)).symm
        · exact (e 3 (by omega)).symm
  · intro hr ha h0
    have hi0 : i ≠ 0 := by rintro rfl; rw [upTo_zero] at h0; omega
    obtain ⟨k, rfl⟩ : ∃ k, i = k + 1 := ⟨i - 1, by omega⟩
    rw [if_neg hi0, Nat.add_sub_cancel, List.getElem?_eq_getElem (by omega), Option.bind_some, hlast k (by omega), hfirst _ h, ← upTo_succ (by omega), List.getElem?_eq_getElem (by omega), List.getElem?_eq_getElem ha] at h2
    intro e
    exact h2 _ rfl (by rw [e])
  · intro hr hb
    have hi1 : i + 1 < (cutP l).length := by
      rcases Nat.lt_or_ge (i + 1) (cutP l).length with h5 | h5
      · exact h5
      · have h6 := upTo_succ h
        rw [show i + 1 = (cutP l).length from by omega, upTo_all] at h6
        omega
    have h7 := (okP_get (cutP l) none true (i + 1) hi1 (okP_cutP l)).2.1
    rw [if_neg (by omega), Nat.add_sub_cancel, List.getElem?_eq_getElem (by omega), Option.bind_some, hlast i h, hfirst _ hi1, upTo_succ h, List.getElem?_eq_getElem hb, List.getElem?_eq_getElem (by omega)] at h7
    intro e
    refine h7 _ rfl ?_
    rw [e, hall hr (upTo (cutP l) i + (cutP l)[i].1.length - 1) (by omega) (by omega) (by omega)]
  · intro hr h0
    rw [hr] at h3
    simp only [Bool.false_eq_true, if_false] at h3
    rw [if_neg (by omega)] at h3 ⊢
    obtain ⟨⟨p, e1, e2⟩, _⟩ := h3
    rw [e1]
    exact e2
  · intro hr k hk ha hb ⟨e1, e2, e3⟩
    rw [hr] at h3
    simp only [Bool.false_eq_true, if_false] at h3
    rw [hg' k (by omega) (by omega) (by omega)] at e1 e2 e3
    rw [hg' (k + 1) (by omega) (by omega) (by omega)] at e1
    rw [hg' (k + 2) (by omega) (by omega) (by omega)] at e2
    rw [hg' (k + 3) (by omega) (by omega) (by omega)] at e3
    refine h3.2 (k - upTo (cutP l) i) (by omega) ⟨e1.trans ?_, e2.trans ?_, e3.trans ?_⟩
    · congr 1; omega
    · congr 1; omega
    · congr 1; omega

/-- Whether all numbers from at_ on are one, and at least four. -/
def runTo (l : List UInt64) (at_ m j : Nat) (b : Bool) : Prop := b = true ↔ 4 ≤ m ∧ ∀ q (hq : q < l.length) (h0 : at_ < l.length), at_ ≤ q → q < j → l[q] = l[at_]
theorem neq_u64 {x y : UInt64} (h : x ≠ y) : ((x.toNat : Int) == (y.toNat : Int)) = false := by
  rw [beq_eq_false_iff_ne]
  intro e
  exact h (UInt64.toNat_inj.1 (by omega))
theorem eq_u64 {x y : UInt64} (h : x = y) : ((x.toNat : Int) == (y.toNat : Int)) = true := by rw [h]; simp

set_option maxHeartbeats 16000000 in
set_option maxRecDepth 100000 in
theorem RunsCuts_walk (A : Option Addr) (n c : Nat) (l : List UInt64) (W : World) (h : U64s [] W A n c l) :
    Calls Try.prog 7 #[.slice A n c] W fun e W' => e = .returned (.bool true) ∧ Below W.heap.size W W' := by
  have hc := h.cap
  have hnc := h.le
  obtain rfl := h.len1
  go_enter Try.func7, Try.ntmps7
  go_wp2_with fail
  refine (small10 W).mono ?_
  rintro e w1 ⟨rfl, hk⟩
  by_cases hl : 400 < l.length
  · go_wp2
    go_ret
    exact ⟨rfl, hk.below⟩
  have hsl := cutP_sizes_len (l := l) (by omega)
  have HC := fun i (hi : i < (cutP l).length) => cutAt l hi
  have HA := upTo_all l
  have HS := fun i (hi : i < (cutP l).length) => upTo_succ hi
  have HZ := upTo_zero (cutP l)
  have hsz : (sizes (cutP l)).length = (cutP l).length := by simp [sizes]
  have hsg : ∀ i (hi : i < (cutP l).length), (sizes (cutP l))[i]'(by omega) = ((cutP l)[i].1.length : Int) := fun i hi => by simp [sizes]
  replace HC := Lib.hid HC
  replace HS := Lib.hid HS
  replace HA := Lib.hid HA
  replace HZ := Lib.hid HZ
  replace hsg := Lib.hid hsg
  go_wp2_with fail
  refine (cut_prog w1 (h.pure hk) (by omega)).mono ?_
  rintro e w2 ⟨B2, k2, d2, rfl, hk2, hown2⟩
  have hz : Ints [] w2 B2 k2 d2 (sizes (cutP l)) := rd_of_own hown2 (by simp)
  obtain rfl : (cutP l).length = k2 := by have := hz.len1; omega
  have hall := hk.trans hk2
  have hd2 := hz.cap
  have hle2 := hz.le
  replace hsz := Lib.hid hsz
  clear hown2
  go_wp2
  go_loopw [5, 6, 7] (fun a s i wr => ∃ (k at_ : Nat) (was : Bool), k ≤ (cutP l).length ∧ i = .int .i64 k ∧ a = .int .i64 at_ ∧ s = .bool was ∧ Hid (at_ = upTo (cutP l) k) ∧ Hid (was = if k = 0 then true else ((cutP l)[k - 1]?.map (·.2)).getD true) ∧ Keep [] w2 wr) (fun _ _ i _ => (cutP l).length - (intOf i).toNat)
  case atStart => exact ⟨0, 0, true, by omega, rfl, rfl, rfl, HZ.out.symm, rfl, Keep.refl _ _⟩
  case round =>
    rename_i wr
    obtain ⟨k, at_, was, hkl, rfl, rfl, rfl, HAT, HW, hkeep⟩ := hrel
    by_cases hlt : k < (cutP l).length
    · obtain ⟨bz, oz, rfl, _, _, hcz⟩ := (hz.pure hkeep).one (k := k) (by rw [hsz.out]; exact hlt)
      rw [hsg.out k hlt] at hcz
      unfold vInt at hcz
      have hcut := HC.out k hlt
      rw [← HAT.out, ← HW.out] at hcut
      have hnext : Hid (at_ + (cutP l)[k].1.length = upTo (cutP l) (k + 1)) := by rw [Hid, HS.out k hlt, HAT.out]
      have hwas : Hid ((cutP l)[k].2 = if k + 1 = 0 then true else ((cutP l)[k + 1 - 1]?.map (·.2)).getD true) := by
        rw [Hid, if_neg (by omega), Nat.add_sub_cancel, List.getElem?_eq_getElem hlt]
        rfl
      generalize (cutP l)[k].1.length = m at *
      generalize (cutP l)[k].2 = run at *
      have hm0 := hcut.pos
      have hmf := hcut.fits
      replace hcut := Lib.hid hcut
      go_wp2
      obtain ⟨wo, rfl⟩ : ∃ wo : World, wo = wr := ⟨_, rfl⟩
      go_loopw [9, 10] (fun r kk wi => ∃ (j : Nat) (b : Bool), at_ + 1 ≤ j ∧ j ≤ at_ + m ∧ kk = .int .i64 j ∧ r = .bool b ∧ runTo l at_ m j b ∧ Keep [] w2 wi) (fun _ kk _ => at_ + m - (intOf kk).toNat)
      case atStart =>
        refine ⟨at_ + 1, decide (4 ≤ (m : Int)), by omega, by omega, by go_num, rfl, ?_, hkeep⟩
        rw [runTo, decide_eq_true_iff]
        refine ⟨fun h4 => ⟨by omega, fun q hq h0 h1 h2 => ?_⟩, fun h4 => by omega⟩
        congr 1
        omega
      case round =>
        obtain ⟨j, b, hj1, hj2, rfl, rfl, HB, hkeepi⟩ := hrel
        by_cases hjl : j < at_ + m
        · obtain ⟨b1, o1, rfl, _, _, hc1⟩ := (h.pure (hall.trans hkeepi)).one (k := j) (by omega)
          obtain ⟨b2, o2, he2, _, _, hc2⟩ := (h.pure (hall.trans hkeepi)).one (k := at_) (by omega)
          cases he2
          unfold vU64 at hc1 hc2
          cases b with
          | false =>
            have HB2 : runTo l at_ m (j + 1) false := by
              refine ⟨fun h => (by cases h), fun ⟨h1, h2⟩ => ?_⟩
              exact HB.2 ⟨h1, fun q hq h0 ha hb => h2 q hq h0 ha (by omega)⟩
            clear HB
            go_wp2
            go_quiet (fail)
            go_wp2
            go_roundw
            case rel => exact ⟨j + 1, false, by omega, by omega, by go_num, rfl, HB2, hkeepi.drewN _⟩
            case measure => simp [intOf]; omega
          | true =>
            by_cases heq : l[j]'(by omega) = l[at_]'(by omega)
            · have hbe := eq_u64 heq
              have HB2 : runTo l at_ m (j + 1) true := by
                refine ⟨fun _ => ⟨(HB.1 rfl).1, fun q hq h0 ha hb => ?_⟩, fun _ => rfl⟩
                rcases Nat.lt_or_ge q j with h5 | h5
                · exact (HB.1 rfl).2 q hq h0 ha h5
                · obtain rfl : q = j := by omega
                  exact heq
              clear HB heq
              go_wp2
              go_quiet (fail)
              go_wp2
              go_roundw
              case rel => exact ⟨j + 1, true, by omega, by omega, by go_num, rfl, HB2, hkeepi.drewN _⟩
              case measure => simp [intOf]; omega
            · have hbe := neq_u64 heq
              have HB2 : runTo l at_ m (j + 1) false := by
                refine ⟨fun h => (by cases h), fun ⟨h1, h2⟩ => ?_⟩
                exact absurd (h2 j (by omega) (by omega) (by omega) (by omega)) heq
              clear HB heq
              go_wp2
              go_quiet (fail)
              go_wp2
              go_roundw
              case rel => exact ⟨j + 1, false, by omega, by omega, by go_num, rfl, HB2, hkeepi.drewN _⟩
              case measure => simp [intOf]; omega
        · obtain rfl : j = at_ + m := by omega
          obtain rfl : b = run := by
            unfold runTo at HB
            rw [Bool.eq_iff_iff, HB, hcut.out.isRun]
            exact ⟨fun ⟨h1, h2⟩ => ⟨h1, fun q hq ha hb => h2 q hq (by omega) ha hb⟩, fun ⟨h1, h2⟩ => ⟨h1, fun q hq h0 ha hb => h2 q hq ha hb⟩⟩
          clear HB
          have hnd : decide ((at_ : Int) + (m : Int) < (at_ : Int) + (m : Int)) = false := by simp
          cases b with
          | true =>
            obtain ⟨b2, o2, rfl, _, _, hc2⟩ := (h.pure (hall.trans hkeepi)).one (k := at_) (by omega)
            unfold vU64 at hc2
            obtain ⟨e0, he0⟩ : ∃ e0, e0 = at_ + m := ⟨_, rfl⟩
            have hw2 : IntKind.i64.wrap ((at_ : Int) + (m : Int)) = (e0 : Int) := by rw [IntWalk.i64_in _ (by omega)]; omega
            have hw4 : (at_ : Int) + (m : Int) = (e0 : Int) := by omega
            have g3 : (0 : Int) ≤ (at_ : Int) := by omega
            have g4 : (at_ : Int) < (l.length : Int) := by omega
            have g5 : (0 : Int) ≤ (e0 : Int) := by omega
            rcases Nat.eq_zero_or_pos at_ with hz0 | hz0
            · have hzi : decide ((0 : Int) < (at_ : Int)) = false := decide_eq_false (by omega)
              have hzn : decide (0 < at_) = false := decide_eq_false (by omega)
              by_cases hbe : at_ + m < l.length
              · obtain ⟨b3, o3, he3, _, _, hc3⟩ := (h.pure (hall.trans hkeepi)).one (k := at_ + m) hbe
                cases he3
                unfold vU64 at hc3
                have hq2 := neq_u64 (hcut.out.behind rfl hbe)
                generalize l[at_ + m] = x3 at *
                generalize l[at_] = x2 at *
                rw [← he0] at hc3
                have hbi : (e0 : Int) < (l.length : Int) := by omega
                replace he0 := Lib.hid he0
                replace hz0 := Lib.hid hz0
                go_wp2
                go_quiet (fail)
                go_wp2
                refine wp_loop_once ?_
                go_wp2
                go_roundw
                case rel => exact ⟨k + 1, at_ + m, true, by omega, by go_num, by go_num, rfl, hnext, hwas, hkeepi.drewN _⟩
                case measure => simp [intOf]; omega
              · have hbn : decide (e0 < l.length) = false := decide_eq_false (by omega)
                generalize l[at_] = x2 at *
                replace he0 := Lib.hid he0
                replace hz0 := Lib.hid hz0
                go_wp2
                go_quiet (fail)
                go_wp2
                refine wp_loop_once ?_
                go_wp2
                go_roundw
                case rel => exact ⟨k + 1, at_ + m, true, by omega, by go_num, by go_num, rfl, hnext, hwas, hkeepi.drewN _⟩
                case measure => simp [intOf]; omega
            · obtain ⟨b4, o4, he4, _, _, hc4⟩ := (h.pure (hall.trans hkeepi)).one (k := at_ - 1) (by omega)
              cases he4
              unfold vU64 at hc4
              have hq1 := neq_u64 (hcut.out.ahead rfl (by omega) hz0)
              generalize l[at_ - 1] = x1 at *
              obtain ⟨a0, ha0⟩ : ∃ a0, a0 = at_ - 1 := ⟨_, rfl⟩
              rw [← ha0] at hc4
              have hzi : (0 : Int) < (at_ : Int) := by omega
              have hw1 : IntKind.i64.wrap ((at_ : Int) - 1) = (a0 : Int) := by rw [IntWalk.i64_in _ (by omega)]; omega
              have hw3 : (at_ : Int) - 1 = (a0 : Int) := by omega
              have g1 : (0 : Int) ≤ (a0 : Int) := by omega
              have g2 : (a0 : Int) < (l.length : Int) := by omega
              by_cases hbe : at_ + m < l.length
              · obtain ⟨b3, o3, he3, _, _, hc3⟩ := (h.pure (hall.trans hkeepi)).one (k := at_ + m) hbe
                cases he3
                unfold vU64 at hc3
                have hq2 := neq_u64 (hcut.out.behind rfl hbe)
                generalize l[at_ + m] = x3 at *
                generalize l[at_] = x2 at *
                rw [← he0] at hc3
                have hbi : (e0 : Int) < (l.length : Int) := by omega
                replace ha0 := Lib.hid ha0
                replace he0 := Lib.hid he0
                go_wp2
                go_quiet (fail)
                go_wp2
                refine wp_loop_once ?_
                go_wp2
                go_roundw
                case rel => exact ⟨k + 1, at_ + m, true, by omega, by go_num, by go_num, rfl, hnext, hwas, hkeepi.drewN _⟩
                case measure => simp [intOf]; omega
              · have hbn : decide (e0 < l.length) = false := decide_eq_false (by omega)
                generalize l[at_] = x2 at *
                replace ha0 := Lib.hid ha0
                replace he0 := Lib.hid he0
                go_wp2
                go_quiet (fail)
                go_wp2
                refine wp_loop_once ?_
                go_wp2
                go_roundw
                case rel => exact ⟨k + 1, at_ + m, true, by omega, by go_num, by go_num, rfl, hnext, hwas, hkeepi.drewN _⟩
                case measure => simp [intOf]; omega
          | false =>
            obtain ⟨b2, o2, rfl, _, _, hc2⟩ := (h.pure (hall.trans hkeepi)).one (k := at_) (by omega)
            clear hc2
            obtain ⟨e0, he0⟩ : ∃ e0, e0 = at_ + m := ⟨_, rfl⟩
            have hw2 : IntKind.i64.wrap ((at_ : Int) + (m : Int)) = (e0 : Int) := by rw [IntWalk.i64_in _ (by omega)]; omega
            have hw4 : (at_ : Int) + (m : Int) = (e0 : Int) := by omega
            have g3 : (0 : Int) ≤ (at_ : Int) := by omega
            have g4 : (at_ : Int) < (l.length : Int) := by omega
            have g5 : (0 : Int) ≤ (e0 : Int) := by omega
            have g6 : (e0 : Int) ≤ 400 := by omega
            replace he0 := Lib.hid he0
            rcases Nat.eq_zero_or_pos k with hk0 | hk0
            · have hkn : decide (0 < k) = false := decide_eq_false (by omega)
              replace hk0 := Lib.hid hk0
              go_wp2
              go_quiet (fail)
              go_wp2
              obtain ⟨w9, hw9⟩ : ∃ w9 : World, Hid (w9 = wr.drewN nq) := ⟨_, rfl⟩
              have hk9 : Keep [] w2 w9 := by rw [hw9.out]; exact hkeepi.drewN _
              rw [← hw9.out]
              clear hw9
              go_loopw [11] (fun kk wi => ∃ j : Nat, at_ ≤ j ∧ j ≤ at_ + m ∧ kk = .int .i64 j ∧ Keep [] w2 wi) (fun kk _ => at_ + m - (intOf kk).toNat)
              case atStart => exact ⟨at_, by omega, by omega, rfl, hk9⟩
              case round =>
                rename_i wj
                obtain ⟨j, hj3, hj4, rfl, hkeepj⟩ := hrel
                obtain ⟨j3, hj3e⟩ : ∃ j3, j3 = j + 3 := ⟨_, rfl⟩
                have hs3 : (j : Int) + 3 = (j3 : Int) := by omega
                have hv3 : IntKind.i64.wrap ((j : Int) + 3) = (j3 : Int) := by rw [IntWalk.i64_in _ (by omega)]; omega
                by_cases hje : j3 < e0
                · have hno := hcut.out.four rfl j (by omega) hj3 (by omega)
                  obtain ⟨j1, hj1e⟩ : ∃ j1, j1 = j + 1 := ⟨_, rfl⟩
                  obtain ⟨j2, hj2e⟩ : ∃ j2, j2 = j + 2 := ⟨_, rfl⟩
                  obtain ⟨b0, o0, he0', _, _, hc0⟩ := (h.pure (hall.trans hkeepj)).one (k := j) (by omega)
                  cases he0'
                  obtain ⟨b1, o1, he1, _, _, hc1⟩ := (h.pure (hall.trans hkeepj)).one (k := j + 1) (by omega)
                  cases he1
                  obtain ⟨b3, o3, he3, _, _, hc3⟩ := (h.pure (hall.trans hkeepj)).one (k := j + 2) (by omega)
                  cases he3
                  obtain ⟨b4, o4, he4, _, _, hc4⟩ := (h.pure (hall.trans hkeepj)).one (k := j + 3) (by omega)
                  cases he4
                  unfold vU64 at hc0 hc1 hc3 hc4
                  generalize l[j] = x0 at *
                  generalize l[j + 1] = x1 at *
                  generalize l[j + 2] = x3 at *
                  generalize l[j + 3] = x4 at *
                  rw [← hj1e] at hc1
                  rw [← hj2e] at hc3
                  rw [← hj3e] at hc4
                  have hs1 : (j : Int) + 1 = (j1 : Int) := by omega
                  have hv1 : IntKind.i64.wrap ((j : Int) + 1) = (j1 : Int) := by rw [IntWalk.i64_in _ (by omega)]; omega
                  have hs2 : (j : Int) + 2 = (j2 : Int) := by omega
                  have hv2 : IntKind.i64.wrap ((j : Int) + 2) = (j2 : Int) := by rw [IntWalk.i64_in _ (by omega)]; omega
                  have n0 : (0 : Int) ≤ (j : Int) := by omega
                  have n1 : (j : Int) < (l.length : Int) := by omega
                  have n2 : (0 : Int) ≤ (j1 : Int) := by omega
                  have n3 : (j1 : Int) < (l.length : Int) := by omega
                  have n4 : (0 : Int) ≤ (j2 : Int) := by omega
                  have n5 : (j2 : Int) < (l.length : Int) := by omega
                  have n6 : (0 : Int) ≤ (j3 : Int) := by omega
                  have n7 : (j3 : Int) < (l.length : Int) := by omega
                  have n8 : (j3 : Int) < (e0 : Int) := by omega
                  have n9 : j1 ≤ at_ + m := by omega
                  have n10 : at_ ≤ j1 := by omega
                  have n11 : at_ + m - j1 < at_ + m - j := by omega
                  by_cases q1 : x0 = x1
                  · have r1 := eq_u64 q1
                    by_cases q2 : x0 = x3
                    · have r2 := eq_u64 q2
                      have r3 := neq_u64 (x := x0) (y := x4) (fun q3 => hno ⟨q1, q2, q3⟩)
                      clear hno q1 q2
                      replace hj1e := Lib.hid hj1e
                      replace hj2e := Lib.hid hj2e
                      replace hj3e := Lib.hid hj3e
                      go_wp2
                      go_quiet (fail)
                      go_wp2
                      go_roundw
                      case rel => exact ⟨j1, n10, n9, rfl, hkeepj.drewN _⟩
                      case measure => simp [intOf]; omega
                    · have r2 := neq_u64 q2
                      clear hno q1 q2
                      replace hj1e := Lib.hid hj1e
                      replace hj2e := Lib.hid hj2e
                      replace hj3e := Lib.hid hj3e
                      go_wp2
                      go_quiet (fail)
                      go_wp2
                      go_roundw
                      case rel => exact ⟨j1, n10, n9, rfl, hkeepj.drewN _⟩
                      case measure => simp [intOf]; omega
                  · have r1 := neq_u64 q1
                    clear hno q1
                    replace hj1e := Lib.hid hj1e
                    replace hj2e := Lib.hid hj2e
                    replace hj3e := Lib.hid hj3e
                    go_wp2
                    go_quiet (fail)
                    go_wp2
                    go_roundw
                    case rel => exact ⟨j1, n10, n9, rfl, hkeepj.drewN _⟩
                    case measure => simp [intOf]; omega
                · have hjn : decide (j3 < e0) = false := decide_eq_false hje
                  replace hj3e := Lib.hid hj3e
                  clear hje
                  go_wp2
                  go_roundw
                  case rel => exact ⟨k + 1, at_ + m, false, by omega, by go_num, by go_num, rfl, hnext, hwas, hkeepj⟩
                  case measure => simp [intOf]; omega
            · obtain rfl : was = true := hcut.out.rest rfl hk0
              go_wp2
              go_quiet (fail)
              go_wp2
              obtain ⟨w9, hw9⟩ : ∃ w9 : World, Hid (w9 = wr.drewN nq) := ⟨_, rfl⟩
              have hk9 : Keep [] w2 w9 := by rw [hw9.out]; exact hkeepi.drewN _
              rw [← hw9.out]
              clear hw9
              go_loopw [11] (fun kk wi => ∃ j : Nat, at_ ≤ j ∧ j ≤ at_ + m ∧ kk = .int .i64 j ∧ Keep [] w2 wi) (fun kk _ => at_ + m - (intOf kk).toNat)
              case atStart => exact ⟨at_, by omega, by omega, rfl, hk9⟩
              case round =>
                rename_i wj
                obtain ⟨j, hj3, hj4, rfl, hkeepj⟩ := hrel
                obtain ⟨j3, hj3e⟩ : ∃ j3, j3 = j + 3 := ⟨_, rfl⟩
                have hs3 : (j : Int) + 3 = (j3 : Int) := by omega
                have hv3 : IntKind.i64.wrap ((j : Int) + 3) = (j3 : Int) := by rw [IntWalk.i64_in _ (by omega)]; omega
                by_cases hje : j3 < e0
                · have hno := hcut.out.four rfl j (by omega) hj3 (by omega)
                  obtain ⟨j1, hj1e⟩ : ∃ j1, j1 = j + 1 := ⟨_, rfl⟩
                  obtain ⟨j2, hj2e⟩ : ∃ j2, j2 = j + 2 := ⟨_, rfl⟩
                  obtain ⟨b0, o0, he0', _, _, hc0⟩ := (h.pure (hall.trans hkeepj)).one (k := j) (by omega)
                  cases he0'
                  obtain ⟨b1, o1, he1, _, _, hc1⟩ := (h.pure (hall.trans hkeepj)).one (k := j + 1) (by omega)
                  cases he1
                  obtain ⟨b3, o3, he3, _, _, hc3⟩ := (h.pure (hall.trans hkeepj)).one (k := j + 2) (by omega)
                  cases he3
                  obtain ⟨b4, o4, he4, _, _, hc4⟩ := (h.pure (hall.trans hkeepj)).one (k := j + 3) (by omega)
                  cases he4
                  unfold vU64 at hc0 hc1 hc3 hc4
                  generalize l[j] = x0 at *
                  generalize l[j + 1] = x1 at *
                  generalize l[j + 2] = x3 at *
                  generalize l[j + 3] = x4 at *
                  rw [← hj1e] at hc1
                  rw [← hj2e] at hc3
                  rw [← hj3e] at hc4
                  have hs1 : (j : Int) + 1 = (j1 : Int) := by omega
                  have hv1 : IntKind.i64.wrap ((j : Int) + 1) = (j1 : Int) := by rw [IntWalk.i64_in _ (by omega)]; omega
                  have hs2 : (j : Int) + 2 = (j2 : Int) := by omega
                  have hv2 : IntKind.i64.wrap ((j : Int) + 2) = (j2 : Int) := by rw [IntWalk.i64_in _ (by omega)]; omega
                  have n0 : (0 : Int) ≤ (j : Int) := by omega
                  have n1 : (j : Int) < (l.length : Int) := by omega
                  have n2 : (0 : Int) ≤ (j1 : Int) := by omega
                  have n3 : (j1 : Int) < (l.length : Int) := by omega
                  have n4 : (0 : Int) ≤ (j2 : Int) := by omega
                  have n5 : (j2 : Int) < (l.length : Int) := by omega
                  have n6 : (0 : Int) ≤ (j3 : Int) := by omega
                  have n7 : (j3 : Int) < (l.length : Int) := by omega
                  have n8 : (j3 : Int) < (e0 : Int) := by omega
                  have n9 : j1 ≤ at_ + m := by omega
                  have n10 : at_ ≤ j1 := by omega
                  have n11 : at_ + m - j1 < at_ + m - j := by omega
                  by_cases q1 : x0 = x1
                  · have r1 := eq_u64 q1
                    by_cases q2 : x0 = x3
                    · have r2 := eq_u64 q2
                      have r3 := neq_u64 (x := x0) (y := x4) (fun q3 => hno ⟨q1, q2, q3⟩)
                      clear hno q1 q2
                      replace hj1e := Lib.hid hj1e
                      replace hj2e := Lib.hid hj2e
                      replace hj3e := Lib.hid hj3e
                      go_wp2
                      go_quiet (fail)
                      go_wp2
                      go_roundw
                      case rel => exact ⟨j1, n10, n9, rfl, hkeepj.drewN _⟩
                      case measure => simp [intOf]; omega
                    · have r2 := neq_u64 q2
                      clear hno q1 q2
                      replace hj1e := Lib.hid hj1e
                      replace hj2e := Lib.hid hj2e
                      replace hj3e := Lib.hid hj3e
                      go_wp2
                      go_quiet (fail)
                      go_wp2
                      go_roundw
                      case rel => exact ⟨j1, n10, n9, rfl, hkeepj.drewN _⟩
                      case measure => simp [intOf]; omega
                  · have r1 := neq_u64 q1
                    clear hno q1
                    replace hj1e := Lib.hid hj1e
                    replace hj2e := Lib.hid hj2e
                    replace hj3e := Lib.hid hj3e
                    go_wp2
                    go_quiet (fail)
                    go_wp2
                    go_roundw
                    case rel => exact ⟨j1, n10, n9, rfl, hkeepj.drewN _⟩
                    case measure => simp [intOf]; omega
                · have hjn : decide (j3 < e0) = false := decide_eq_false hje
                  replace hj3e := Lib.hid hj3e
                  clear hje
                  go_wp2
                  go_roundw
                  case rel => exact ⟨k + 1, at_ + m, false, by omega, by go_num, by go_num, rfl, hnext, hwas, hkeepj⟩
                  case measure => simp [intOf]; omega
    · obtain rfl : k = (cutP l).length := by omega
      have he : at_ = l.length := by rw [HAT.out, HA.out]
      subst he
      go_wp2
      go_ret
      exact ⟨rfl, (hall.trans hkeep).below⟩
end Go.Proofs.Ytphgfhghbpndaaa
