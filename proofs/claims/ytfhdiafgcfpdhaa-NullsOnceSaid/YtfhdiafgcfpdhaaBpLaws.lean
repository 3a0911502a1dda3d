/-
  The walks of layer 5's statements.
-/
import Derived.Test.YtfhdiafgcfpdhaaBpSmall
namespace Go.Proofs.Ytfhdiafgcfpdhaa
open Go Go.RowKit
set_option linter.unusedVariables false
set_option linter.unusedSimpArgs false

set_option maxHeartbeats 1000000 in
theorem BitpackTells_walk (A : Option Addr) (n c : Nat) (l : List UInt64) (w m : Int) (W : World) (h : U64s [] W A n c l) (hw : -9223372036854775808 ≤ w ∧ w ≤ 9223372036854775807) (hm : -9223372036854775808 ≤ m ∧ m ≤ 9223372036854775807) :
    Calls Try.prog 3 #[.slice A n c, .int .i64 w, .int .i64 m] W fun e W' => e = .returned (.bool true) ∧ Below W.heap.size W W' := by
  have hn := h.len1
  have hc := h.cap
  have hnc := h.le
  obtain rfl := hn
  by_cases hl : 300 < l.length
  · go_enter Try.func3, Try.ntmps3
    go_wp2_with fail
    refine (small05 W).mono ?_
    rintro e w1 ⟨rfl, hk⟩
    go_wp2_with fail
    refine (bytes_prog _ _ _ (by omega) (by omega)).mono ?_
    rintro e w2 ⟨rfl, rfl⟩
    go_wp2_with fail
    refine (bytes_ref _ _ _ (by omega) (by omega)).mono ?_
    rintro e w2 ⟨rfl, rfl⟩
    go_wp2
    go_ret
    exact ⟨rfl, hk.below⟩
  · go_enter Try.func3, Try.ntmps3
    go_wp2_with fail
    refine (small05 W).mono ?_
    rintro e w1 ⟨rfl, hk⟩
    go_wp2_with fail
    refine (width_prog _ (h.pure hk)).mono ?_
    rintro e w2 ⟨rfl, rfl⟩
    go_wp2_with fail
    refine (width_ref _ (h.pure hk)).mono ?_
    rintro e w2 ⟨rfl, rfl⟩
    go_wp2_with fail
    refine (bytes_prog _ _ _ (by omega) (by omega)).mono ?_
    rintro e w2 ⟨rfl, rfl⟩
    go_wp2_with fail
    refine (bytes_ref _ _ _ (by omega) (by omega)).mono ?_
    rintro e w2 ⟨rfl, rfl⟩
    go_wp2
    go_ret
    exact ⟨rfl, hk.below⟩

theorem str_run {X : List Nat} {w : World} {A : Option Addr} {n c : Nat} {l : List UInt8} (h : Bys X w A n c l) : (convert 27 9 (.slice A n c)).run Try.prog w = .ok (.string ⟨l.toArray⟩) w :=
  run_str h 27 9 5 Try.underlying27 Try.underlying5 Try.underlying9

set_option maxHeartbeats 1000000 in
theorem BitpackNarrow_walk (A : Option Addr) (n c : Nat) (l : List UInt64) (W : World) (h : U64s [] W A n c l) :
    Calls Try.prog 7 #[.slice A n c] W fun e W' => e = .returned (.bool true) ∧ Below W.heap.size W W' := by
  have hn := h.len1
  have hc := h.cap
  have hnc := h.le
  obtain rfl := hn
  have hw64 := width_le64 l
  have hno : packOk l ((width l : Int) - 1) = false := by
    refine Bool.eq_false_iff.2 fun hok => ?_
    have := packOk_iff.1 hok
    omega
  have hnoB : packB l ((width l : Int) - 1) = [] := packB_no hno
  replace hno := Lib.hid hno
  replace hnoB := Lib.hid hnoB
  by_cases hl : 200 < l.length
  all_goals
    go_enter Try.func7, Try.ntmps7
    go_wp2_with fail
    refine (small05 W).mono ?_
    rintro e w1 ⟨rfl, hk⟩
  · go_wp2
    go_ret
    exact ⟨rfl, hk.below⟩
  · go_wp2_with fail
    refine (width_prog _ (h.pure hk)).mono ?_
    rintro e w2 ⟨rfl, rfl⟩
    go_wp2_with fail
    refine (pack_prog _ _ (h.pure hk) (by omega)).mono ?_
    rintro e w2 ⟨B, m, d, rfl, hk2, hb⟩
    rw [hno.out]
    rw [hnoB.out] at hb
    have hm := (hb [] (by simp)).len1
    obtain rfl : m = 0 := by simpa using hm.symm
    clear hb hm
    go_wp2
    go_ret
    exact ⟨rfl, (hk.trans hk2).below⟩

set_option maxHeartbeats 1000000 in
theorem BitpackOnce_walk (A : Option Addr) (k c : Nat) (b : List UInt8) (w n : Int) (W : World) (h : Bys [] W A k c b) (hw : -9223372036854775808 ≤ w ∧ w ≤ 9223372036854775807) (hn : -9223372036854775808 ≤ n ∧ n ≤ 9223372036854775807) :
    Calls Try.prog 6 #[.slice A k c, .int .i64 w, .int .i64 n] W fun e W' => e = .returned (.bool true) ∧ Below W.heap.size W W' := by
  have hl := h.len1
  have hc := h.cap
  have hnc := h.le
  obtain rfl := hl
  by_cases hg : 300 < b.length ∨ 3000 < n
  · rcases hg with hg | hg
    · go_enter Try.func6, Try.ntmps6
      go_wp2_with fail
      refine (small05 W).mono ?_
      rintro e w1 ⟨rfl, hk⟩
      go_wp2
      go_ret
      exact ⟨rfl, hk.below⟩
    · by_cases hg2 : 300 < b.length
      all_goals
        go_enter Try.func6, Try.ntmps6
        go_wp2_with fail
        refine (small05 W).mono ?_
        rintro e w1 ⟨rfl, hk⟩
        go_wp2
        go_ret
        exact ⟨rfl, hk.below⟩
  · obtain ⟨hg1, hg2⟩ : ¬ 300 < b.length ∧ ¬ 3000 < n := by omega
    clear hg
    go_enter Try.func6, Try.ntmps6
    go_wp2_with fail
    refine (small05 W).mono ?_
    rintro e w1 ⟨rfl, hk⟩
    go_wp2_with fail
    refine (unpack_prog_any _ _ _ (h.pure hk) (by omega) (by omega)).mono ?_
    rintro e w2 ⟨B, m, d, rfl, hk2, hb⟩
    replace hb := hb [] (by simp)
    cases hok : unpackOk b w n with
    | false =>
      rw [unpackL_no hok] at hb
      obtain rfl : m = 0 := by simpa using hb.len1.symm
      clear hok hb
      go_wp2
      go_ret
      exact ⟨rfl, (hk.trans hk2).below⟩
    | true =>
      obtain ⟨hp1, hp2, hp3, hp4⟩ := pack_unpack hok
      clear hok
      have hm : (m : Int) = n := by have := hb.len1; omega
      subst hm
      replace hp3 := Lib.hid hp3
      have hmm : ((m : Int) == (m : Int)) = true := by simp
      go_wp2_with fail
      refine (pack_prog _ _ hb (by omega)).mono ?_
      rintro e w3 ⟨B', m', d', rfl, hk3, hb'⟩
      rw [hp1]
      rw [hp2] at hb'
      replace hb' := hb' [] (by simp)
      have hs1 := str_run hb'
      have hs2 := str_run (h.pure ((hk.trans hk2).trans hk3))
      clear hp1 hp2
      go_wp2_with fail
      refine (width_prog _ (hb.pure hk3)).mono ?_
      rintro e w4 ⟨rfl, rfl⟩
      go_wp2
      go_ret
      exact ⟨rfl, ((hk.trans hk2).trans hk3).below⟩

set_option maxHeartbeats 1000000 in
theorem BitpackBack_walk (A : Option Addr) (n c : Nat) (l : List UInt64) (more : Int) (W : World) (h : U64s [] W A n c l) (hm : -9223372036854775808 ≤ more ∧ more ≤ 9223372036854775807) :
    Calls Try.prog 5 #[.slice A n c, .int .i64 more] W fun e W' => e = .returned (.bool true) ∧ Below W.heap.size W W' := by
  have hn := h.len1
  have hc := h.cap
  have hnc := h.le
  obtain rfl := hn
  by_cases hg : 200 < l.length ∨ more < 0 ∨ 64 < more
  · by_cases hg1 : 200 < l.length
    · clear hg
      go_enter Try.func5, Try.ntmps5
      go_wp2_with fail
      refine (small05 W).mono ?_
      rintro e w1 ⟨rfl, hk⟩
      go_wp2
      go_ret
      exact ⟨rfl, hk.below⟩
    · by_cases hg2 : more < 0
      · clear hg
        go_enter Try.func5, Try.ntmps5
        go_wp2_with fail
        refine (small05 W).mono ?_
        rintro e w1 ⟨rfl, hk⟩
        go_wp2
        go_ret
        exact ⟨rfl, hk.below⟩
      · have hg3 : 64 < more := by omega
        clear hg
        go_enter Try.func5, Try.ntmps5
        go_wp2_with fail
        refine (small05 W).mono ?_
        rintro e w1 ⟨rfl, hk⟩
        go_wp2
        go_ret
        exact ⟨rfl, hk.below⟩
  · obtain ⟨hg1, hg2, hg3⟩ : ¬ 200 < l.length ∧ ¬ more < 0 ∧ ¬ 64 < more := by omega
    clear hg
    have hw64 := width_le64 l
    obtain ⟨w, hw⟩ : ∃ w : Int, (width l : Int) + more = w := ⟨_, rfl⟩
    by_cases hok : packOk l w = true
    · obtain ⟨hu1, hu2, hu3⟩ := unpack_pack hok
      have hwle : w ≤ 64 := (packOk_iff.1 hok).2.1
      have hbl : bytesLen w l.length = ((packB l w).length : Int) := by
        rw [hu3, bytesLen_nat ⟨by omega, by omega, by omega, by omega⟩]
        simp
      replace hu3 := Lib.hid hu3
      replace hbl := Lib.hid hbl
      replace hok := Lib.hid hok
      replace hu1 := Lib.hid hu1
      replace hu2 := Lib.hid hu2
      go_enter Try.func5, Try.ntmps5
      go_wp2_with fail
      refine (small05 W).mono ?_
      rintro e w1 ⟨rfl, hk⟩
      go_wp2_with fail
      refine (width_prog _ (h.pure hk)).mono ?_
      rintro e w2 ⟨rfl, rfl⟩
      go_wp2_with fail
      refine (pack_prog _ _ (h.pure hk) (by omega)).mono ?_
      rintro e w2 ⟨B, m, d, rfl, hk2, hb⟩
      replace hb := hb [] (by simp)
      obtain rfl := hb.len1
      rw [hok.out]
      go_wp2_with fail
      refine (unpack_prog_any _ _ _ hb (by omega) (by omega)).mono ?_
      rintro e w3 ⟨B', m', d', rfl, hk3, hb'⟩
      replace hb' := hb' [] (by simp)
      rw [hu1.out]
      rw [hu2.out] at hb'
      go_wp2_with fail
      refine (same_ref _ hb' (h.pure ((hk.trans hk2).trans hk3))).mono ?_
      rintro e w4 ⟨rfl, hk4⟩
      rw [show decide (l = l) = true from by simp]
      go_wp2_with fail
      refine (bytes_prog _ _ _ (by omega) (by omega)).mono ?_
      rintro e w5 ⟨rfl, rfl⟩
      rw [hbl.out]
      go_wp2
      go_ret
      exact ⟨rfl, (((hk.trans hk2).trans hk3).trans hk4).below⟩
    · have hno : packOk l w = false := by simpa using hok
      have hgt : 64 < w := by
        rcases Int.lt_or_le 64 w with h | h
        · exact h
        · exact absurd (packOk_iff.2 ⟨by omega, h, by omega, by omega⟩) hok
      have hnoB := Lib.hid (packB_no hno)
      replace hno := Lib.hid hno
      clear hok
      go_enter Try.func5, Try.ntmps5
      go_wp2_with fail
      refine (small05 W).mono ?_
      rintro e w1 ⟨rfl, hk⟩
      go_wp2_with fail
      refine (width_prog _ (h.pure hk)).mono ?_
      rintro e w2 ⟨rfl, rfl⟩
      go_wp2_with fail
      refine (pack_prog _ _ (h.pure hk) (by omega)).mono ?_
      rintro e w2 ⟨B, m, d, rfl, hk2, hb⟩
      replace hb := hb [] (by simp)
      rw [hnoB.out] at hb
      obtain rfl : m = 0 := by simpa using hb.len1.symm
      rw [hno.out]
      clear hb
      go_wp2
      go_ret
      exact ⟨rfl, (hk.trans hk2).below⟩

set_option maxHeartbeats 1000000 in
theorem BitpackPacks_walk (A : Option Addr) (k c : Nat) (l : List UInt64) (w : Int) (A2 : Option Addr) (k2 c2 : Nat) (b : List UInt8) (n : Int) (W : World) (h : U64s [] W A k c l) (hw : -9223372036854775808 ≤ w ∧ w ≤ 9223372036854775807)
    (h2 : Bys [] W A2 k2 c2 b) (hn : -9223372036854775808 ≤ n ∧ n ≤ 9223372036854775807) :
    Calls Try.prog 4 #[.slice A k c, .int .i64 w, .slice A2 k2 c2, .int .i64 n] W fun e W' => e = .returned (.bool true) ∧ Below W.heap.size W W' := by
  have hc := h.cap
  have hnc := h.le
  obtain rfl := h.len1
  have hc' := h2.cap
  have hnc' := h2.le
  obtain rfl := h2.len1
  by_cases hg : 200 < l.length ∨ 300 < b.length ∨ 3000 < n
  · by_cases hg1 : 200 < l.length
    · clear hg
      go_enter Try.func4, Try.ntmps4
      go_wp2_with fail
      refine (small05 W).mono ?_
      rintro e w1 ⟨rfl, hk⟩
      go_wp2
      go_ret
      exact ⟨rfl, hk.below⟩
    · by_cases hg2 : 300 < b.length
      · clear hg
        go_enter Try.func4, Try.ntmps4
        go_wp2_with fail
        refine (small05 W).mono ?_
        rintro e w1 ⟨rfl, hk⟩
        go_wp2
        go_ret
        exact ⟨rfl, hk.below⟩
      · have hg3 : 3000 < n := by omega
        clear hg
        go_enter Try.func4, Try.ntmps4
        go_wp2_with fail
        refine (small05 W).mono ?_
        rintro e w1 ⟨rfl, hk⟩
        go_wp2
        go_ret
        exact ⟨rfl, hk.below⟩
  · obtain ⟨hg1, hg2, hg3⟩ : ¬ 200 < l.length ∧ ¬ 300 < b.length ∧ ¬ 3000 < n := by omega
    clear hg
    go_enter Try.func4, Try.ntmps4
    go_wp2_with fail
    refine (small05 W).mono ?_
    rintro e w1 ⟨rfl, hk⟩
    go_wp2_with fail
    refine (pack_prog _ _ (h.pure hk) (by omega)).mono ?_
    rintro e w2 ⟨B1, m1, d1, rfl, hk2, hb1⟩
    replace hb1 := hb1 [] (by simp)
    go_wp2_with fail
    refine (pack_ref _ _ (h.pure (hk.trans hk2)) (by omega)).mono ?_
    rintro e w3 ⟨B2, m2, d2, rfl, hk3, hb2⟩
    replace hb2 := hb2 [] (by simp)
    go_wp2_with fail
    refine (unpack_prog_any _ _ _ (h2.pure ((hk.trans hk2).trans hk3)) (by omega) (by omega)).mono ?_
    rintro e w4 ⟨B3, m3, d3, rfl, hk4, hb3⟩
    replace hb3 := hb3 [] (by simp)
    go_wp2_with fail
    refine (unpack_ref_any _ _ _ (h2.pure (((hk.trans hk2).trans hk3).trans hk4)) (by omega) (by omega)).mono ?_
    rintro e w5 ⟨B4, m4, d4, rfl, hk5, hb4⟩
    replace hb4 := hb4 [] (by simp)
    have hs1 := str_run (hb1.pure ((hk3.trans hk4).trans hk5))
    have hs2 := str_run (hb2.pure (hk4.trans hk5))
    generalize packOk l w = v1
    generalize unpackOk b w n = v2
    have hv1 : (v1 == v1) = true := by simp
    have hv2 : (v2 == v2) = true := by simp
    go_wp2_with fail
    refine (same_ref _ (hb3.pure hk5) hb4).mono ?_
    rintro e w6 ⟨rfl, hk6⟩
    rw [show decide (unpackL b w n = unpackL b w n) = true from by simp]
    go_wp2
    go_ret
    exact ⟨rfl, (((((hk.trans hk2).trans hk3).trans hk4).trans hk5).trans hk6).below⟩
end Go.Proofs.Ytfhdiafgcfpdhaa
