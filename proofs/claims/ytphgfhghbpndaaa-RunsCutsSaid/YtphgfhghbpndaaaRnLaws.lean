/-
  The walks of layer 10's statements.
-/
import Derived.Test.YtphgfhghbpndaaaRnSmall
namespace Go.Proofs.Ytphgfhghbpndaaa
open Go Go.RowKit
set_option linter.unusedVariables false
set_option linter.unusedSimpArgs false

theorem beq_bool (b : Bool) : (b == b) = true := by cases b <;> rfl
theorem cutP_sizes_len {l : List UInt64} (hl : l.length ≤ 65536) : (sizes (cutP l)).length ≤ l.length := by
  have := (enc_len (cutP l) (cutP_fits hl)).1
  rw [cutP_all] at this
  simpa [sizes] using this
/-- Rows of unlike bytes are unlike. -/
theorem encs_inj : ∀ (ps qs : List Piece), (∀ p ∈ ps, okPc p ∧ p.1.length ≤ 65536) → (∀ p ∈ qs, okPc p ∧ p.1.length ≤ 65536) → ps.flatMap encP = qs.flatMap encP → ps.flatMap (·.1) = qs.flatMap (·.1)
  | [], [], _, _, _ => rfl
  | [], q :: qs, _, h, he => by
    rw [List.flatMap_cons] at he
    have h5 := (encP_len q (h q (by simp)).1.1 (h q (by simp)).2).1
    have := congrArg List.length he
    simp at this
    omega
  | p :: ps, [], h, _, he => by
    rw [List.flatMap_cons] at he
    have h5 := (encP_len p (h p (by simp)).1.1 (h p (by simp)).2).1
    have := congrArg List.length he
    simp only [List.length_append, List.flatMap_nil, List.length_nil] at this
    omega
  | p :: ps, q :: qs, h, h', he => by
    rw [List.flatMap_cons, List.flatMap_cons] at he
    have h1 := stepD_enc (n := 65536) (q := []) (h p (by simp)).1 (by simpa using (h p (by simp)).2) (Nat.le_refl _) (ps.flatMap encP)
    have h2 := stepD_enc (n := 65536) (q := []) (h' q (by simp)).1 (by simpa using (h' q (by simp)).2) (Nat.le_refl _) (qs.flatMap encP)
    rw [he, h2] at h1
    injection h1 with h1
    injection h1 with h3 h4
    injection h4 with h4
    rw [List.nil_append, List.nil_append] at h3
    rw [List.flatMap_cons, List.flatMap_cons, h3, encs_inj ps qs (fun x hx => h x (by simp [hx])) (fun x hx => h' x (by simp [hx])) h4.symm]
theorem encB_inj {a b : List UInt64} (ha : a.length ≤ 65536) (hb : b.length ≤ 65536) : encB a = encB b ↔ a = b := by
  refine ⟨fun h => ?_, fun h => by rw [h]⟩
  have := encs_inj (cutP a) (cutP b) (fun p hp => ⟨cutP_piece hp, by have := cutP_len hp; omega⟩) (fun p hp => ⟨cutP_piece hp, by have := cutP_len hp; omega⟩) h
  rwa [cutP_all, cutP_all] at this

set_option maxHeartbeats 2000000 in
theorem RunsEncodes_walk (A : Option Addr) (n c : Nat) (l : List UInt64) (W : World) (h : U64s [] W A n c l) :
    Calls Try.prog 3 #[.slice A n c] W fun e W' => e = .returned (.bool true) ∧ Below W.heap.size W W' := by
  have hc := h.cap
  have hnc := h.le
  obtain rfl := h.len1
  go_enter Try.func3, Try.ntmps3
  go_wp2_with fail
  refine (small10 W).mono ?_
  rintro e w1 ⟨rfl, hk⟩
  by_cases hl : 400 < l.length
  · go_wp2
    go_ret
    exact ⟨rfl, hk.below⟩
  · have hd : decide (l.length ≤ 65536) = true := decide_eq_true (by omega)
    have hsl := cutP_sizes_len (l := l) (by omega)
    go_wp2_with fail
    refine (encode_prog w1 (h.pure hk)).mono ?_
    rintro e w2 ⟨B2, k2, d2, rfl, hk2, hown2⟩
    rw [hd]
    go_wp2_with fail
    refine (encode_ref w2 (h.pure (hk.trans hk2))).mono ?_
    rintro e w3 ⟨B3, k3, d3, rfl, hk3, hown3⟩
    rw [hd]
    go_wp2_with fail
    refine (cut_prog w3 (h.pure ((hk.trans hk2).trans hk3)) (by omega)).mono ?_
    rintro e w4 ⟨B4, k4, d4, rfl, hk4, hown4⟩
    go_wp2_with fail
    refine (cut_ref w4 (h.pure (((hk.trans hk2).trans hk3).trans hk4)) (by omega)).mono ?_
    rintro e w5 ⟨B5, k5, d5, rfl, hk5, hown5⟩
    have hi4 : Ints [] w5 B4 k4 d4 (sizes (cutP l)) := (rd_of_own hown4 (by simp)).pure hk5
    have hi5 : Ints [] w5 B5 k5 d5 (sizes (cutP l)) := rd_of_own hown5 (by simp)
    have hb2 : Bys [] w5 B2 k2 d2 (enc l) := (rd_of_own hown2 (by simp)).pure ((hk3.trans hk4).trans hk5)
    have hb3 : Bys [] w5 B3 k3 d3 (enc l) := (rd_of_own hown3 (by simp)).pure (hk4.trans hk5)
    have hall := (((hk.trans hk2).trans hk3).trans hk4).trans hk5
    generalize sizes (cutP l) = zs at *
    obtain rfl := hi4.len1
    obtain rfl := hi5.len1
    clear hown2 hown3 hown4 hown5
    go_wp2
    go_loopw [10] (fun i wr => ∃ k : Nat, k ≤ zs.length ∧ i = .int .i64 k ∧ Keep [] w5 wr) (fun i _ => zs.length - (intOf i).toNat)
    case atStart => exact ⟨0, by omega, rfl, Keep.refl _ _⟩
    case round =>
      rename_i wr
      obtain ⟨k, hk9, rfl, hkr⟩ := hrel
      by_cases hlt : k < zs.length
      · obtain ⟨b4, o4, rfl, _, _, hc4⟩ := (hi4.pure hkr).one hlt
        obtain ⟨b5, o5, rfl, _, _, hc5⟩ := (hi5.pure hkr).one hlt
        unfold vInt at hc4 hc5
        have h1 : (0 : Int) ≤ (k : Int) := by omega
        have h2 : (k : Int) < (zs.length : Int) := by omega
        go_wp2
        go_quiet (fail)
        go_wp2
        go_roundw
        case rel => exact ⟨k + 1, by omega, by go_num, hkr.drewN _⟩
        case measure => simp [intOf]; omega
      · have hs2 := str_run (hb2.pure hkr)
        have hs3 := str_run (hb3.pure hkr)
        go_wp2
        go_ret
        exact ⟨rfl, (hall.trans hkr).below⟩

set_option maxHeartbeats 2000000 in
theorem RunsDecodes_walk (A : Option Addr) (m c : Nat) (b : List UInt8) (n : Int) (W : World) (h : Bys [] W A m c b) (hn : -9223372036854775808 ≤ n ∧ n ≤ 9223372036854775807) :
    Calls Try.prog 4 #[.slice A m c, .int .i64 n] W fun e W' => e = .returned (.bool true) ∧ Below W.heap.size W W' := by
  have hc := h.cap
  have hnc := h.le
  obtain rfl := h.len1
  by_cases hg : 600 < b.length ∨ 3000 < n
  · rcases hg with hg | hg
    · go_enter Try.func4, Try.ntmps4
      go_wp2_with fail
      refine (small10 W).mono ?_
      rintro e w1 ⟨rfl, hk⟩
      go_wp2
      go_ret
      exact ⟨rfl, hk.below⟩
    · by_cases hg2 : 600 < b.length
      all_goals
        go_enter Try.func4, Try.ntmps4
        go_wp2_with fail
        refine (small10 W).mono ?_
        rintro e w1 ⟨rfl, hk⟩
        go_wp2
        go_ret
        exact ⟨rfl, hk.below⟩
  · obtain ⟨hg1, hg2⟩ : ¬ 600 < b.length ∧ ¬ 3000 < n := by omega
    clear hg
    go_enter Try.func4, Try.ntmps4
    go_wp2_with fail
    refine (small10 W).mono ?_
    rintro e w1 ⟨rfl, hk⟩
    go_wp2_with fail
    refine (decode_prog n w1 (h.pure hk) (by omega) hn).mono ?_
    rintro e w2 ⟨B2, k2, d2, o2, r2, rfl, hk2, hn2, hd2⟩
    go_wp2_with fail
    refine (decode_ref n w2 (h.pure (hk.trans hk2)) (by omega) hn).mono ?_
    rintro e w3 ⟨B3, k3, d3, o3, r3, rfl, hk3, hn3, hd3⟩
    obtain ⟨rfl, rfl⟩ := hd2.same hd3
    have hbe := beq_bool r2
    have hs := Lib.hid (same_ref w3 ((hn2 [] (by simp)).pure hk3) (hn3 [] (by simp)))
    clear hd2 hd3 hn2 hn3
    go_wp2_with fail
    refine hs.out.mono ?_
    rintro e w4 ⟨rfl, hk4⟩
    simp only [decide_true]
    clear hs
    go_wp2
    go_ret
    exact ⟨rfl, (((hk.trans hk2).trans hk3).trans hk4).below⟩

set_option maxHeartbeats 2000000 in
theorem RunsBack_walk (A : Option Addr) (n c : Nat) (l : List UInt64) (W : World) (h : U64s [] W A n c l) :
    Calls Try.prog 5 #[.slice A n c] W fun e W' => e = .returned (.bool true) ∧ Below W.heap.size W W' := by
  have hc := h.cap
  have hnc := h.le
  obtain rfl := h.len1
  go_enter Try.func5, Try.ntmps5
  go_wp2_with fail
  refine (small10 W).mono ?_
  rintro e w1 ⟨rfl, hk⟩
  by_cases hl : 400 < l.length
  · go_wp2
    go_ret
    exact ⟨rfl, hk.below⟩
  · have hd : decide (l.length ≤ 65536) = true := decide_eq_true (by omega)
    have hel := encB_len (l := l) (by omega)
    have he : enc l = encB l := by unfold enc; rw [if_pos (by omega)]
    replace he := Lib.hid he
    go_wp2_with fail
    refine (encode_prog w1 (h.pure hk)).mono ?_
    rintro e w2 ⟨B2, k2, d2, rfl, hk2, hown2⟩
    rw [hd]
    rw [he.out] at hown2
    have hb2 : Bys [] w2 B2 k2 d2 (encB l) := rd_of_own hown2 (by simp)
    have hk2l := hb2.len1
    have hde := Lib.hid (decode_prog (l.length : Nat) w2 hb2 (by omega) (by omega))
    replace hk2l := Lib.hid hk2l
    clear hown2
    go_wp2_with fail
    refine hde.out.mono ?_
    rintro e w3 ⟨B3, k3, d3, o3, r3, rfl, hk3, hn3, hd3⟩
    obtain ⟨rfl, rfl⟩ := hd3.back (by omega)
    have hs := Lib.hid (same_ref w3 (hn3 [] (by simp)) (h.pure ((hk.trans hk2).trans hk3)))
    clear hd3 hn3 hde
    go_wp2_with fail
    refine hs.out.mono ?_
    rintro e w4 ⟨rfl, hk4⟩
    simp only [decide_true]
    clear hs
    go_wp2
    go_ret
    exact ⟨rfl, (((hk.trans hk2).trans hk3).trans hk4).below⟩
set_option maxHeartbeats 400000 in
theorem same_quiet {X Y : List Nat} {A B : Option Addr} {n c m d : Nat} {l r : List UInt64} (W : World) (h : U64s X W A n c l) (h' : U64s Y W B m d r) :
    Calls Try.prog 17 #[.slice A n c, .slice B m d] W fun e W' => e = .returned (.bool (decide (l = r))) ∧ ∃ z, W' = W.drewN z := by
  have hn := h.len1
  have hc := h.cap
  have hnc := h.le
  have hn' := h'.len1
  have hc' := h'.cap
  have hnc' := h'.le
  obtain rfl := hn
  obtain rfl := hn'
  have HP : ∃ v : Bool, Hid (v = decide (l = r)) := ⟨_, rfl⟩
  obtain ⟨v, HP⟩ := HP
  rw [← HP.out]
  by_cases hne : l.length = r.length
  · have hne' : ((l.length : Int) != (r.length : Int)) = false := by simp [hne]
    have hle : l.length ≤ r.length ∧ r.length ≤ l.length := by omega
    have HL := Lib.hid hne
    clear hne
    go_enter Try.func17, Try.ntmps17
    go_wp2
    go_loopw [5] (fun i w => ∃ k : Nat, k ≤ l.length ∧ i = .int .i64 k ∧ Hid (l.take k = r.take k) ∧ ∃ z, w = W.drewN z) (fun i _ => l.length - (intOf i).toNat)
    case atStart => exact ⟨0, by omega, rfl, rfl, 0, rfl⟩
    case round =>
      obtain ⟨k, hk, rfl, HE, z0, rfl⟩ := hrel
      by_cases hlt : k < l.length
      · obtain ⟨b, off, rfl, _, _, hcell⟩ := h.one hlt
        obtain ⟨b', off', rfl, _, _, hcell'⟩ := h'.one (k := k) (by omega)
        unfold vU64 at hcell hcell'
        by_cases heq : l[k] = r[k]
        · have hb : ((l[k].toNat : Int) != (r[k].toNat : Int)) = false := by simp [heq]
          have HE2 : Hid (l.take (k + 1) = r.take (k + 1)) := by
            unfold Hid
            rw [List.take_succ_eq_append_getElem hlt, List.take_succ_eq_append_getElem (by omega), HE.out, heq]
          clear heq
          go_wp2
          go_quiet (fail)
          go_wp2
          go_roundw
          case rel => exact ⟨k + 1, by omega, by go_num, HE2, _, rfl⟩
          case measure => simp [intOf]; omega
        · have hb : ((l[k].toNat : Int) != (r[k].toNat : Int)) = true := by
            rw [bne_iff_ne]
            intro h
            exact heq (UInt64.toNat_inj.1 (by omega))
          have hv : Hid (v = false) := by
            rw [Hid, HP.out]
            exact decide_eq_false (fun h => heq (by subst h; rfl))
          clear heq
          go_wp2
          go_quiet (fail)
          go_wp2
          go_ret
          exact ⟨ret_b hv.out.symm, _, World.drewN_drewN _ _ _⟩
      · have hv : Hid (v = true) := by
          rw [Hid, HP.out]
          refine decide_eq_true ?_
          have := HE.out
          rwa [List.take_of_length_le (by omega), List.take_of_length_le (by omega)] at this
        go_wp2
        go_ret
        exact ⟨ret_b hv.out.symm, _, rfl⟩
  · have hv : Hid (v = false) := by
      rw [Hid, HP.out]
      exact decide_eq_false (fun h => hne (by rw [h]))
    have hne' : ((l.length : Int) != (r.length : Int)) = true := by rw [bne_iff_ne]; omega
    clear hne
    go_enter Try.func17, Try.ntmps17
    go_wp2
    go_ret
    exact ⟨ret_b hv.out.symm, 0, rfl⟩

set_option maxHeartbeats 2000000 in
theorem RunsOnce_walk (A : Option Addr) (m c : Nat) (b : List UInt8) (n : Int) (W : World) (h : Bys [] W A m c b) (hn : -9223372036854775808 ≤ n ∧ n ≤ 9223372036854775807) :
    Calls Try.prog 6 #[.slice A m c, .int .i64 n] W fun e W' => e = .returned (.bool true) ∧ Below W.heap.size W W' := by
  have hc := h.cap
  have hnc := h.le
  obtain rfl := h.len1
  by_cases hg : 600 < b.length ∨ 3000 < n
  · rcases hg with hg | hg
    · go_enter Try.func6, Try.ntmps6
      go_wp2_with fail
      refine (small10 W).mono ?_
      rintro e w1 ⟨rfl, hk⟩
      go_wp2
      go_ret
      exact ⟨rfl, hk.below⟩
    · by_cases hg2 : 600 < b.length
      all_goals
        go_enter Try.func6, Try.ntmps6
        go_wp2_with fail
        refine (small10 W).mono ?_
        rintro e w1 ⟨rfl, hk⟩
        go_wp2
        go_ret
        exact ⟨rfl, hk.below⟩
  · obtain ⟨hg1, hg2⟩ : ¬ 600 < b.length ∧ ¬ 3000 < n := by omega
    clear hg
    go_enter Try.func6, Try.ntmps6
    go_wp2_with fail
    refine (small10 W).mono ?_
    rintro e w1 ⟨rfl, hk⟩
    go_wp2_with fail
    refine (decode_prog n w1 (h.pure hk) (by omega) hn).mono ?_
    rintro e w2 ⟨B2, k2, d2, o2, r2, rfl, hk2, hn2, hd2⟩
    have ho := hn2 [] (by simp)
    cases r2 with
    | false =>
      have h0 := hd2.2.1 rfl
      rw [h0] at ho
      obtain rfl : k2 = 0 := by simpa using ho.len1.symm
      clear h0 hd2 hn2 ho
      go_wp2
      go_ret
      exact ⟨rfl, (hk.trans hk2).below⟩
    | true =>
      obtain ⟨h1, h2, h3⟩ := hd2.1 rfl
      have hl := ho.len1
      obtain rfl : (k2 : Int) = n := by omega
      have he : Hid (enc o2 = b) := by unfold Hid enc; rw [if_pos (by omega)]; exact h3
      have hd : decide (o2.length ≤ 65536) = true := decide_eq_true (by omega)
      have hen := Lib.hid (encode_prog w2 ho)
      have hkk : ((k2 : Int) == (k2 : Int)) = true := by simp
      clear hd2 hn2 h1 h3 hl
      go_wp2_with fail
      refine hen.out.mono ?_
      rintro e w3 ⟨B3, k3, d3, rfl, hk3, hown3⟩
      rw [hd]
      rw [he.out] at hown3
      have hs1 := str_run (rd_of_own (X := []) hown3 (by simp))
      have hs2 := str_run (h.pure ((hk.trans hk2).trans hk3))
      clear hown3 hen
      go_wp2
      go_ret
      exact ⟨rfl, ((hk.trans hk2).trans hk3).below⟩

set_option maxHeartbeats 2000000 in
theorem RunsApart_walk (A : Option Addr) (n c : Nat) (a : List UInt64) (A2 : Option Addr) (n2 c2 : Nat) (b : List UInt64) (W : World) (h : U64s [] W A n c a) (h2 : U64s [] W A2 n2 c2 b) :
    Calls Try.prog 9 #[.slice A n c, .slice A2 n2 c2] W fun e W' => e = .returned (.bool true) ∧ Below W.heap.size W W' := by
  have hc := h.cap
  have hnc := h.le
  obtain rfl := h.len1
  have hc2 := h2.cap
  have hnc2 := h2.le
  obtain rfl := h2.len1
  go_enter Try.func9, Try.ntmps9
  go_wp2_with fail
  refine (small10 W).mono ?_
  rintro e w1 ⟨rfl, hk⟩
  by_cases hl : 300 < a.length
  · go_wp2
    go_ret
    exact ⟨rfl, hk.below⟩
  by_cases hl2 : 300 < b.length
  · go_wp2
    go_ret
    exact ⟨rfl, hk.below⟩
  have hd : decide (a.length ≤ 65536) = true := decide_eq_true (by omega)
  have hd2 : decide (b.length ≤ 65536) = true := decide_eq_true (by omega)
  have he : Hid (enc a = encB a) := by unfold Hid enc; rw [if_pos (by omega)]
  have he2 : Hid (enc b = encB b) := by unfold Hid enc; rw [if_pos (by omega)]
  have hinj := Lib.hid (encB_inj (a := a) (b := b) (by omega) (by omega))
  go_wp2_with fail
  refine (encode_prog w1 (h.pure hk)).mono ?_
  rintro e w2 ⟨B2, k2, d2, rfl, hk2, hown2⟩
  rw [hd]
  rw [he.out] at hown2
  go_wp2_with fail
  refine (encode_prog w2 (h2.pure (hk.trans hk2))).mono ?_
  rintro e w3 ⟨B3, k3, d3, rfl, hk3, hown3⟩
  rw [hd2]
  rw [he2.out] at hown3
  have hs1 := fun z => str_run (((rd_of_own (X := []) hown2 (by simp) : Bys [] w2 B2 k2 d2 (encB a)).pure hk3).drewN z)
  have hs2 := fun z => str_run ((rd_of_own (X := []) hown3 (by simp) : Bys [] w3 B3 k3 d3 (encB b)).drewN z)
  have hall := (hk.trans hk2).trans hk3
  have hsame := fun z => same_quiet (w3.drewN z) ((h.pure hall).drewN z) ((h2.pure hall).drewN z)
  obtain ⟨v, hv⟩ : ∃ v : Bool, Hid (v = decide (a = b)) := ⟨_, rfl⟩
  rw [← hv.out] at hsame
  have hbe : (encB a == encB b) = v := by
    rw [hv.out, Bool.eq_iff_iff, beq_iff_eq, decide_eq_true_iff]
    exact hinj.out
  have hvv := beq_bool v
  replace hsame := Lib.hid hsame
  clear hown2 hown3
  go_wp2
  go_quiet ((go_at_call 17; exact Calls.quiet_of (hsame.out _)))
  go_wp2
  go_ret
  exact ⟨rfl, (hall.drewN _).below⟩

theorem set_rep {α : Type} (x z : α) (k n : Nat) (h : k < n) : (List.replicate k x ++ List.replicate (n - k) z).set k x = List.replicate (k + 1) x ++ List.replicate (n - (k + 1)) z := by
  rw [List.set_append, if_neg (by simp), List.length_replicate, Nat.sub_self, show n - k = (n - (k + 1)) + 1 from by omega, List.replicate_succ, List.set_cons_zero, List.replicate_succ', List.append_assoc]
  rfl
theorem stretch_rep (n : Nat) (x : UInt64) : stretch (List.replicate n x) = n := by
  cases n with
  | zero => rfl
  | succ n => exact stretch_is (by omega) (by simp) (fun k h _ => by simp) (fun h => absurd h (by simp))
theorem cutP_rep (n : Nat) (x : UInt64) (h : 4 ≤ n) : cutP (List.replicate n x) = [(List.replicate n x, true)] := by
  have h1 := cutR_run (pend := []) (l := List.replicate n x) (by rw [stretch_rep]; exact h)
  rw [stretch_rep, List.take_of_length_le (by simp), List.drop_of_length_le (by simp), cutR_nil] at h1
  exact h1
theorem encB_rep (n : Nat) (x : UInt64) (h : 4 ≤ n) (h2 : n ≤ 5000) : (encB (List.replicate n x)).length ≤ 13 := by
  unfold encB
  rw [cutP_rep n x h]
  simp only [List.flatMap_cons, List.flatMap_nil, List.append_nil, encP, if_true, List.length_append, List.length_replicate]
  have h1 := putB_short (n := 2 * n) (by omega)
  have h3 := putB_len (((List.replicate n x).headD 0).toNat)
  omega

set_option maxHeartbeats 2000000 in
theorem RunsShort_walk (x : UInt64) (n : Int) (W : World) (hn : -9223372036854775808 ≤ n ∧ n ≤ 9223372036854775807) :
    Calls Try.prog 8 #[.int .u64 (x.toNat : Int), .int .i64 n] W fun e W' => e = .returned (.bool true) ∧ Below W.heap.size W W' := by
  obtain ⟨i0, hi, hz0, hz1, hz2⟩ := info_parts Try.infoU64
  have hx := x.toNat_lt
  by_cases hg : n < 4 ∨ 5000 < n
  · rcases hg with hg | hg
    · go_enter Try.func8, Try.ntmps8
      go_wp2_with fail
      refine (small10 W).mono ?_
      rintro e w1 ⟨rfl, hk⟩
      go_wp2
      go_ret
      exact ⟨rfl, hk.below⟩
    · have hd4 : decide (n < 4) = false := decide_eq_false (by omega)
      go_enter Try.func8, Try.ntmps8
      go_wp2_with fail
      refine (small10 W).mono ?_
      rintro e w1 ⟨rfl, hk⟩
      go_wp2
      go_ret
      exact ⟨rfl, hk.below⟩
  · obtain ⟨hg1, hg2⟩ : ¬ n < 4 ∧ ¬ 5000 < n := by omega
    clear hg
    obtain ⟨n, rfl⟩ : ∃ k : Nat, n = k := ⟨n.toNat, by omega⟩
    have hd4 : decide ((n : Int) < 4) = false := decide_eq_false (by omega)
    have hd5 : decide (5000 < (n : Int)) = false := decide_eq_false (by omega)
    go_enter Try.func8, Try.ntmps8
    go_wp2_with fail
    refine (small10 W).mono ?_
    rintro e w1 ⟨rfl, hk⟩
    go_wp2_with (first | (at_make; refine wpList_make_full _ rfl _ _ 22 rfl w1.heap.size 34 i0 (.int .u64 0) 1 Try.underlying22 hi hz0 hz1 _ _ _ _ n rfl rfl rfl rfl (by rw [hz2]; omega) (by unfold maxLen; omega) (Nat.le_refl _) ?_))
    intro w2 hown hgr
    have hk2 : Keep [] w1 w2 := (Keep.refl [] w1).grown hgr (by simp)
    obtain ⟨g, hg⟩ : ∃ g, Hid (g = w1.heap.size) := ⟨_, rfl⟩
    have hb1 : Blk w2 g 34 (List.replicate 0 (vU64 x) ++ List.replicate (n - 0) (.int .u64 0)) := by
      have := blk_of_own hown
      rw [hg.out]
      simpa [toList_madeCells_one] using this
    rw [← hg.out]
    clear hown hgr
    replace hb1 := Lib.hid hb1
    go_wp2
    go_loopw [7] (fun i wr => ∃ k : Nat, k ≤ n ∧ i = .int .i64 k ∧ Blk wr g 34 (List.replicate k (vU64 x) ++ List.replicate (n - k) (.int .u64 0)) ∧ Keep [] w1 wr) (fun i _ => n - (intOf i).toNat)
    case atStart => exact ⟨0, by omega, rfl, hb1.out, hk2⟩
    case round =>
      rename_i wr
      obtain ⟨k, hkn, rfl, hb, hkeep⟩ := hrel
      by_cases hlt : k < n
      · have hfr := hb.frozen k
        have hcl : ∃ u, wr.cell? ⟨g, k, none⟩ = some u := by
          rw [hb.cell k]
          exact ⟨_, List.getElem?_eq_getElem (by simp; omega)⟩
        obtain ⟨u, hcl⟩ := hcl
        have hks : Keep [] w1 (wr.setCell ⟨g, k, none⟩ (vU64 x)) := hkeep.setCell (.inr (by simp [hg.out])) _
        have hbs := hb.set_ k (vU64 x)
        rw [set_rep _ _ _ _ hlt] at hbs
        unfold vU64 at hks hbs
        replace hks := Lib.hid hks
        replace hbs := Lib.hid hbs
        clear hb
        go_wp2
        go_roundw
        case rel => exact ⟨k + 1, by omega, by go_num, hbs.out, hks.out⟩
        case measure => simp [intOf]; omega
      · obtain rfl : k = n := by omega
        have hl : U64s [] wr (some ⟨g, 0, none⟩) k k (List.replicate k x) := by
          rw [Nat.sub_self, List.replicate_zero, List.append_nil] at hb
          exact hb.rd (by simp) (by simp) (by omega) (by unfold maxLen; omega) (by simp)
        have hd : decide ((List.replicate k x).length ≤ 65536) = true := decide_eq_true (by simp; omega)
        have he : Hid (enc (List.replicate k x) = encB (List.replicate k x)) := by unfold Hid enc; rw [if_pos (by simp; omega)]
        have hsh := encB_rep k x (by omega) (by omega)
        have hen := Lib.hid (encode_prog wr hl)
        rw [hd, he.out] at hen
        have hback := fun o r => DecOk.back (l := List.replicate k x) (out := o) (ok := r) (by simp; omega)
        rw [List.length_replicate] at hback
        generalize List.replicate k x = l at *
        generalize encB l = bs at *
        replace hback := Lib.hid hback
        clear hd hb
        go_wp2_with fail
        refine hen.out.mono ?_
        rintro e w3 ⟨B3, k3, d3, rfl, hk3, hown3⟩
        have hb3 : Bys [] w3 B3 k3 d3 bs := rd_of_own hown3 (by simp)
        have hk3l := hb3.len1
        have hde := Lib.hid (decode_prog (k : Nat) w3 hb3 (by omega) (by omega))
        have hk3i : (k3 : Int) ≤ 13 := by omega
        clear hown3 hen
        go_wp2_with fail
        refine hde.out.mono ?_
        rintro e w4 ⟨B4, k4, d4, o4, r4, rfl, hk4, hn4, hd4⟩
        obtain ⟨rfl, rfl⟩ := hback.out _ _ hd4
        have hs := Lib.hid (same_ref w4 (hn4 [] (by simp)) (hl.pure (hk3.trans hk4)))
        clear hd4 hn4 hde hback
        go_wp2_with fail
        refine hs.out.mono ?_
        rintro e w5 ⟨rfl, hk5⟩
        simp only [decide_true]
        clear hs
        go_wp2
        go_ret
        exact ⟨rfl, ((((hk.trans hkeep).trans hk3).trans hk4).trans hk5).below⟩
end Go.Proofs.Ytphgfhghbpndaaa
