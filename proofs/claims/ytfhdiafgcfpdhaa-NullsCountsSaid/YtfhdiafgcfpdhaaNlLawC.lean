/-
  The walk of layer 8's statement on counts.
-/
import Derived.Test.YtfhdiafgcfpdhaaNlLaws
namespace Go.Proofs.Ytfhdiafgcfpdhaa
open Go Go.RowKit
set_option linter.unusedVariables false
set_option linter.unusedSimpArgs false

theorem toList_madeCells (z : Array Value) (n : Nat) (hz : 0 < z.size) : (madeCells z (n * z.size)).toList = (List.replicate n ()).flatMap fun _ => z.toList := by
  have hl : ∀ a : Unit, ((fun _ : Unit => z.toList) a).length = z.size := fun _ => by simp
  refine List.ext_getElem? fun j => ?_
  by_cases hj : j < n * z.size
  · have hd : j / z.size < n := Nat.div_lt_of_lt_mul (by rw [Nat.mul_comm]; exact hj)
    have hm := Nat.mod_lt j hz
    have h := flat_get hl (List.replicate n ()) (j / z.size) (j % z.size) (by simpa using hd) hm
    rw [show j / z.size * z.size + j % z.size = j from by rw [Nat.mul_comm]; exact Nat.div_add_mod j z.size] at h
    rw [h]
    simp [madeCells, hj, hm]
  · rw [List.getElem?_eq_none (by simp [madeCells]; omega), List.getElem?_eq_none (by rw [flat_len hl]; simp; omega)]
theorem flat_zero (n : Nat) : (List.replicate n ()).flatMap (fun _ => Cell.zero.cs) = (List.replicate n Cell.zero).flatMap Cell.cs := by
  induction n with
  | zero => rfl
  | succ n ih => rw [List.replicate_succ, List.replicate_succ, List.flatMap_cons, List.flatMap_cons, ih]

set_option maxHeartbeats 2000000 in
theorem NullsCounts_walk (A : Option Addr) (m c : Nat) (b : List UInt8) (n more : Int) (W : World) (h : Bys [] W A m c b) (hn : -9223372036854775808 ≤ n ∧ n ≤ 9223372036854775807) (hm : -9223372036854775808 ≤ more ∧ more ≤ 9223372036854775807) :
    Calls Try.prog 11 #[.slice A m c, .int .i64 n, .int .i64 more] W fun e W' => e = .returned (.bool true) ∧ Below W.heap.size W W' := by
  have hc := h.cap
  have hnc := h.le
  obtain rfl := h.len1
  obtain ⟨i0, hi, hz0, hz1, hz2⟩ := info_parts Try.infoCell
  go_enter Try.func11, Try.ntmps11
  go_wp2_with fail
  refine (small08 W).mono ?_
  rintro e w1 ⟨rfl, hk⟩
  by_cases hb : 100 < b.length
  · go_wp2
    go_ret
    exact ⟨rfl, hk.below⟩
  by_cases hn9 : 900 < n
  · go_wp2
    go_ret
    exact ⟨rfl, hk.below⟩
  by_cases hm1 : more < -1
  · go_wp2
    go_ret
    exact ⟨rfl, hk.below⟩
  by_cases hm2 : 1 < more
  · go_wp2
    go_ret
    exact ⟨rfl, hk.below⟩
  go_wp2_with fail
  refine (count_prog n w1 (h.pure hk) hn).mono ?_
  rintro e w2 ⟨rfl, hk2⟩
  have hk12 := hk.trans hk2
  by_cases hneg : countN b n < 0
  · obtain ⟨h1, h2⟩ := count_none hneg
    rw [h1]
    clear hneg h1
    go_wp2_with fail
    refine (join_prog (X := []) (rest := []) n w2 (h.pure hk12) (Rd.nil_ [] _ _) hn).mono ?_
    rintro e w3 ⟨B, k, d, rfl, hk3, hb3⟩
    rw [h2]
    clear hb3 h2
    have hnone : (none : Option (List Cell)).isSome = false := rfl
    rw [hnone]
    go_wp2
    go_ret
    exact ⟨rfl, (hk12.trans hk3).below⟩
  · obtain ⟨hok, hle, hn6, hj⟩ := count_facts (b := b) (n := n) (by omega)
    obtain ⟨q, hq⟩ : ∃ q : Nat, countN b n = q := ⟨(countN b n).toNat, by omega⟩
    rw [hq] at hle hneg hj ⊢
    clear hq hok
    by_cases hs : (q : Int) + more < 0
    · go_wp2
      go_ret
      exact ⟨rfl, hk12.below⟩
    · obtain ⟨t, ht⟩ : ∃ t : Nat, (q : Int) + more = t := ⟨((q : Int) + more).toNat, by omega⟩
      replace hj := hj t
      have ht2 : t ≤ 901 := by omega
      have hmt : more = (t : Int) - q := by omega
      replace hj := Lib.hid hj
      replace hmt := Lib.hid hmt
      go_wp2_with (at_make; refine wpList_make_full _ rfl _ _ 37 rfl w2.heap.size 47 i0 (cellVal Cell.zero) 5 Try.underlying37 hi hz0 hz1 _ _ _ _ t rfl rfl rfl rfl (by rw [hz2]; omega) (by unfold maxLen; omega) (Nat.le_refl _) ?_)
      intro w3 hown hgr
      have hk23 : Keep [] w2 w3 := (Keep.refl _ _).grown hgr (by simp)
      have h5 : (madeCells (cellVal Cell.zero).cells (t * 5)).toList = (List.replicate t Cell.zero).flatMap Cell.cs := (toList_madeCells (cellVal Cell.zero).cells t (by decide)).trans (flat_zero t)
      have hown2 : w3.ownsRow w2.heap.size 47 5 (.slice (some ⟨w2.heap.size, 0, none⟩) t t) t ((List.replicate t Cell.zero).flatMap Cell.cs) := by rw [← h5]; exact hown
      have hz : Cells [] w3 (some ⟨w2.heap.size, 0, none⟩) t t (List.replicate t Cell.zero) := rd_of_own hown2 (by simp)
      have hk13 := hk12.trans hk23
      clear hown hown2 hgr h5
      go_wp2_with fail
      refine (join_prog n w3 (h.pure hk13) hz hn).mono ?_
      rintro e w4 ⟨B, k, d, rfl, hk4, hb4⟩
      rw [hj.out]
      have hk14 := hk13.trans hk4
      cases hjj : join b (List.replicate t Cell.zero) n with
      | none =>
        have hne : more ≠ 0 := by
          intro h0
          have h1 := hj.out
          rw [hjj, decide_eq_true (by have := hmt.out; omega)] at h1
          cases h1
        have hd : decide ((t : Int) = q) = false := decide_eq_false (by have := hmt.out; omega)
        rw [hd]
        have h0 : (more == 0) = false := by simp [hne]
        clear hne hjj hb4 ht
        go_wp2
        go_ret
        exact ⟨rfl, hk14.below⟩
      | some o =>
        have hmz : more = 0 := by
          have h1 := hj.out
          rw [hjj] at h1
          have := of_decide_eq_true h1.symm
          have := hmt.out
          omega
        obtain ⟨hol, _, _⟩ := join_once hjj
        rw [hjj] at hb4
        have ho : Cells [] w4 B k d o := hb4 [] (by simp)
        obtain rfl := ho.len
        obtain rfl := hol
        subst hmz
        have hd : decide ((t : Int) = q) = true := decide_eq_true (by have := hmt.out; omega)
        rw [hd]
        clear hjj hb4 ht
        go_wp2
        go_ret
        exact ⟨rfl, hk14.below⟩
end Go.Proofs.Ytfhdiafgcfpdhaa
