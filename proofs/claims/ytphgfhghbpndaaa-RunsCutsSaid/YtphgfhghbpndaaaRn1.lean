/-
  The walks of layer 10's functions, the reference's stretch and Cut.
-/
import Derived.Test.YtphgfhghbpndaaaCr3
import Derived.Test.YtphgfhghbpndaaaRuns
namespace Go.Proofs.Ytphgfhghbpndaaa
open Go Go.RowKit
set_option linter.unusedVariables false
set_option linter.unusedSimpArgs false

set_option maxHeartbeats 1000000 in
theorem stretch_ref {X : List Nat} {A : Option Addr} {n c : Nat} {l : List UInt64} (W : World) (h : U64s X W A n c l) :
    Calls Try.prog 22 #[.slice A n c] W fun e W' => e = .returned (.int .i64 (stretch l : Nat)) ∧ Keep [] W W' := by
  have hc := h.cap
  have hnc := h.le
  obtain rfl := h.len1
  go_enter Try.func22, Try.ntmps22
  go_wp2
  go_loopw [3] (fun i w => ∃ k : Nat, k ≤ l.length ∧ i = .int .i64 k ∧ Hid (∀ j (h : j < l.length), j < k → l[j] = l[0]'(by omega)) ∧ Keep [] W w) (fun i _ => l.length - (intOf i).toNat)
  case atStart => exact ⟨0, by omega, rfl, fun j h h0 => absurd h0 (by omega), Keep.refl _ _⟩
  case round =>
    rename_i wr
    obtain ⟨k, hk, rfl, HE, hkeep⟩ := hrel
    by_cases hlt : k < l.length
    · have hd : decide ((k : Int) < (l.length : Int)) = true := by rw [decide_eq_true_iff]; omega
      obtain ⟨b, off, rfl, _, _, hcell⟩ := (h.pure hkeep).one hlt
      obtain ⟨b', off', he, _, _, hcell'⟩ := (h.pure hkeep).one (k := 0) (by omega)
      injection he with he
      injection he with h1 h2
      subst h1 h2
      unfold vU64 at hcell hcell'
      rw [Nat.add_zero] at hcell'
      by_cases heq : l[k] = l[0]
      · have hb : ((l[k].toNat : Int) == (l[0].toNat : Int)) = true := by simp [heq]
        have HE2 : Hid (∀ j (h : j < l.length), j < k + 1 → l[j] = l[0]'(by omega)) := by
          intro j hj hj1
          rcases Nat.lt_or_ge j k with h3 | h3
          · exact HE.out j hj h3
          · obtain rfl : j = k := by omega
            exact heq
        clear heq
        go_wp2
        go_quiet (fail)
        go_wp2
        go_roundw
        case rel => exact ⟨k + 1, by omega, by go_num, HE2, hkeep.drewN _⟩
        case measure => simp [intOf]; omega
      · have hb : ((l[k].toNat : Int) == (l[0].toNat : Int)) = false := by
          rw [beq_eq_false_iff_ne]
          intro h
          exact heq (UInt64.toNat_inj.1 (by omega))
        have hk0 : 0 < k := by
          rcases Nat.eq_zero_or_pos k with rfl | h0
          · exact absurd rfl heq
          · exact h0
        have hs := Lib.hid (stretch_is hk0 hk HE.out (fun _ => heq))
        clear heq
        go_wp2
        go_quiet (fail)
        go_wp2
        go_ret
        exact ⟨ret_i (by rw [hs.out]), hkeep.drewN _⟩
    · obtain rfl : k = l.length := by omega
      have hd : decide ((l.length : Int) < (l.length : Int)) = false := by simp
      have hs : Hid (stretch l = l.length) := by
        rcases Nat.eq_zero_or_pos l.length with h0 | h0
        · rw [List.eq_nil_of_length_eq_zero h0]; rfl
        · exact stretch_is h0 (Nat.le_refl _) HE.out (fun h => absurd h (by omega))
      go_wp2
      go_quiet (fail)
      go_wp2
      go_ret
      exact ⟨ret_i (by rw [hs.out]), hkeep.drewN _⟩

theorem Try.infoInt : (Try.prog.info? 3).map (fun i => (i.zero, i.size, i.bytes)) = some (some (.int .i64 0), 1, 8) := by kernel_rfl

/-- How many numbers runs and rests have. -/
def sizes (ps : List Piece) : List Int := ps.map fun p => (p.1.length : Int)
theorem sizes_append (a b : List Piece) : sizes (a ++ b) = sizes a ++ sizes b := by simp [sizes]

set_option maxHeartbeats 4000000 in
theorem cut_ref {X : List Nat} {A : Option Addr} {n c : Nat} {l : List UInt64} (W : World) (h : U64s X W A n c l) (hroom : n ≤ 1000000) :
    Calls Try.prog 14 #[.slice A n c] W fun e W' => ∃ B k d, e = .returned (.slice B k d) ∧ Keep [] W W' ∧ W'.ownsRow W.heap.size 3 1 (.slice B k d) k ((sizes (cutP l)).map vInt) := by
  have hc := h.cap
  have hnc := h.le
  obtain rfl := h.len1
  obtain ⟨i0, hi, hz0, hz1, hz2⟩ := info_parts Try.infoInt
  go_enter Try.func14, Try.ntmps14
  go_wp2
  go_loopw [0, 3, 4] (fun s o r wr => ∃ (A' : Option Addr) (c' : Nat) (pend l' : List UInt64) (q : List Int), s = .slice A' l'.length c' ∧ U64s X W A' l'.length c' l' ∧ r = .int .i64 (pend.length : Nat) ∧
    wr.ownsRow W.heap.size 3 1 o q.length (q.map vInt) ∧ Hid (sizes (cutP l) = q ++ sizes (cutR pend l')) ∧ Keep [] W wr ∧ pend.length + l'.length ≤ l.length ∧ q.length + l'.length + min 1 pend.length ≤ l.length)
    (fun s _ _ _ => match s with | .slice _ k _ => k | _ => 0)
  case atStart => exact ⟨A, c, [], l, [], rfl, h, rfl, World.ownsRow_nil _ _ _ _, rfl, Keep.refl _ _, by simp, by simp⟩
  case round =>
    obtain ⟨A', c', pend, l', q, rfl, hl', rfl, hown, HC, hkeep, hb1, hb2⟩ := hrel
    have hc' := hl'.cap
    have hnc' := hl'.le
    have hsz := hkeep.size
    obtain ⟨B0, d0, rfl⟩ := own_form hown
    by_cases h0 : l' = []
    · subst h0
      have hfin : Hid (sizes (cutP l) = q ++ (if pend = [] then [] else [(pend.length : Int)])) := by
        rw [Hid, HC.out, cutR_nil]
        split <;> simp [sizes]
      by_cases hp : pend = []
      · subst hp
        have hfin2 : Hid (sizes (cutP l) = q) := by rw [Hid, hfin.out]; simp
        go_wp2
        go_ret
        exact ⟨_, _, _, rfl, hkeep, by rw [hfin2.out]; exact hown⟩
      · have hpp := List.length_pos_iff.2 hp
        have hfin2 : Hid (sizes (cutP l) = q ++ [(pend.length : Int)]) := by rw [Hid, hfin.out, if_neg hp]
        have hpp' : (0 : Int) < (pend.length : Int) := by omega
        clear hfin HC hp hpp
        generalize pend.length = pl at *
        have hbk : Ints [] (wr.alloc (.cells #[.int .i64 (pl : Int)] 3)) (some ⟨wr.heap.size, 0, none⟩) 1 1 [(pl : Int)] := (Blk.new wr 3 [vInt (pl : Int)]).rd (by simp) rfl (by omega) (by simp [maxLen]) rfl
        go_wp2_with (at_builtin; refine wpList_append_rd (o := ⟨some 34, _, _, _, _, _⟩) rfl _ _ 27 rfl W.heap.size 3 i0 (.int .i64 0) 1 8 Try.underlying27 hi hz0 hz1 hz2 rfl (by omega) _ q.length _ rfl (hown.alloc (.cells #[.int .i64 (pl : Int)] 3)) rfl hbk (vInt_one [(pl : Int)]) (by unfold maxLen; omega) (by omega) (by simp; omega) ?_)
        intro v' w2 hown' hgr
        have hk2 : Keep [] W w2 := (hkeep.alloc (.cells #[.int .i64 (pl : Int)] 3)).grown hgr (fun g hg => .inr (own_ge hown g hg))
        clear hgr hown hbk
        obtain ⟨B1, d1, rfl⟩ := own_form hown'
        go_wp2
        go_ret
        refine ⟨B1, _, d1, rfl, hk2, ?_⟩
        rw [hfin2.out, List.map_append]
        exact hown'
    · have hlp := List.length_pos_iff.2 h0
      have hlp' : (0 : Int) < (l'.length : Int) := by omega
      have hsp := stretch_pos h0
      have hsl := stretch_le l'
      have hfew := fun h => Lib.hid (cutR_few (pend := pend) h0 h)
      have hrun := fun h => Lib.hid (cutR_run (pend := pend) (l := l') h)
      have htk : (l'.take (stretch l')).length = stretch l' := by simp; omega
      have hdk : (l'.drop (stretch l')).length = l'.length - stretch l' := by simp
      have hpt : (pend ++ l'.take (stretch l')).length = pend.length + stretch l' := by rw [List.length_append, htk]
      have hrd := hl'.drop1 hsl rfl
      go_wp2_with fail
      refine (stretch_ref wr (hl'.pure hkeep)).mono ?_
      rintro e w1 ⟨rfl, hk1⟩
      have hkW1 := hkeep.trans hk1
      have hown1 := own_keep hown hk1 (by simp)
      have hsz1 := hkW1.size
      generalize l'.drop (stretch l') = l2 at *
      generalize hpp : pend ++ l'.take (stretch l') = pend2 at *
      generalize l'.take (stretch l') = run at *
      generalize stretch l' = z at *
      clear hl' hown hpp
      replace hdk := Lib.hid hdk
      replace hpt := Lib.hid hpt
      replace htk := Lib.hid htk
      by_cases h4 : z < 4
      · have HC2 : Hid (sizes (cutP l) = q ++ sizes (cutR pend2 l2)) := by rw [Hid, HC.out, (hfew h4).out]
        clear hfew hrun HC
        by_cases hcz : c' = z
        all_goals
          go_wp2
          go_roundw
          case rel =>
            refine ⟨if c' = z then A' else A'.map (·.add z), c' - z, pend2, l2, q, by simp [hdk.out, hcz], by rw [hdk.out]; exact hrd, by rw [hpt.out]; go_num, hown1, HC2, hkW1, ?_, ?_⟩
            · rw [hpt.out, hdk.out]; omega
            · rw [hpt.out, hdk.out]; omega
          case measure => simp; omega
      · have HC2 : Hid (sizes (cutP l) = (if pend = [] then q else q ++ [(pend.length : Int)]) ++ [(z : Int)] ++ sizes (cutR [] l2)) := by
          rw [Hid, HC.out, (hrun (by omega)).out, sizes_append]
          split <;> simp [sizes, htk.out]
        clear hfew hrun HC
        by_cases hp : pend = []
        · rw [if_pos hp] at HC2
          subst hp
          have hbk : Ints [] (w1.alloc (.cells #[.int .i64 (z : Int)] 3)) (some ⟨w1.heap.size, 0, none⟩) 1 1 [(z : Int)] := (Blk.new w1 3 [vInt (z : Int)]).rd (by simp) rfl (by omega) (by simp [maxLen]) rfl
          go_wp2_with (at_builtin; refine wpList_append_rd (o := ⟨some 22, _, _, _, _, _⟩) rfl _ _ 27 rfl W.heap.size 3 i0 (.int .i64 0) 1 8 Try.underlying27 hi hz0 hz1 hz2 rfl (by omega) _ q.length _ rfl (hown1.alloc (.cells #[.int .i64 (z : Int)] 3)) rfl hbk (vInt_one [(z : Int)]) (by unfold maxLen; omega) (by omega) (by simp; omega) ?_)
          intro v' w2 hown' hgr
          have hk2 : Keep [] W w2 := (hkW1.alloc (.cells #[.int .i64 (z : Int)] 3)).grown hgr (fun g hg => .inr (own_ge hown1 g hg))
          clear hgr hbk
          obtain ⟨B1, d1, rfl⟩ := own_form hown'
          by_cases hcz : c' = z
          all_goals
            go_wp2
            go_roundw
            case rel =>
              refine ⟨if c' = z then A' else A'.map (·.add z), c' - z, [], l2, q ++ [(z : Int)], by simp [hdk.out, hcz], by rw [hdk.out]; exact hrd, rfl, by simpa [vInt] using hown', HC2, hk2, ?_, ?_⟩
              · simp; rw [hdk.out]; omega
              · simp; rw [hdk.out]; omega
            case measure => simp; omega
        · rw [if_neg hp] at HC2
          have hpl := List.length_pos_iff.2 hp
          have hpl' : (0 : Int) < (pend.length : Int) := by omega
          clear hp
          generalize pend.length = pl at *
          have hbk : Ints [] (w1.alloc (.cells #[.int .i64 (pl : Int)] 3)) (some ⟨w1.heap.size, 0, none⟩) 1 1 [(pl : Int)] := (Blk.new w1 3 [vInt (pl : Int)]).rd (by simp) rfl (by omega) (by simp [maxLen]) rfl
          go_wp2_with (at_builtin; refine wpList_append_rd (o := ⟨some 18, _, _, _, _, _⟩) rfl _ _ 27 rfl W.heap.size 3 i0 (.int .i64 0) 1 8 Try.underlying27 hi hz0 hz1 hz2 rfl (by omega) _ q.length _ rfl (hown1.alloc (.cells #[.int .i64 (pl : Int)] 3)) rfl hbk (vInt_one [(pl : Int)]) (by unfold maxLen; omega) (by omega) (by simp; omega) ?_)
          intro v1 w2 hown2 hgr
          have hk2' : Keep [] W w2 := (hkW1.alloc (.cells #[.int .i64 (pl : Int)] 3)).grown hgr (fun g hg => .inr (own_ge hown1 g hg))
          clear hgr hbk
          obtain ⟨B9, d9, rfl⟩ := own_form hown2
          have hsz2 := hk2'.size
          have hbk2 : Ints [] (w2.alloc (.cells #[.int .i64 (z : Int)] 3)) (some ⟨w2.heap.size, 0, none⟩) 1 1 [(z : Int)] := (Blk.new w2 3 [vInt (z : Int)]).rd (by simp) rfl (by omega) (by simp [maxLen]) rfl
          go_wp2_with (at_builtin; refine wpList_append_rd (o := ⟨some 22, _, _, _, _, _⟩) rfl _ _ 27 rfl W.heap.size 3 i0 (.int .i64 0) 1 8 Try.underlying27 hi hz0 hz1 hz2 rfl (by omega) _ (q.length + 1) _ rfl (hown2.alloc (.cells #[.int .i64 (z : Int)] 3)) rfl hbk2 (vInt_one [(z : Int)]) (by unfold maxLen; omega) (by omega) (by simp; omega) ?_)
          intro v' w3 hown' hgr
          have hk2 : Keep [] W w3 := (hk2'.alloc (.cells #[.int .i64 (z : Int)] 3)).grown hgr (fun g hg => .inr (own_ge hown2 g hg))
          clear hgr hbk2
          obtain ⟨B1, d1, rfl⟩ := own_form hown'
          by_cases hcz : c' = z
          all_goals
            go_wp2
            go_roundw
            case rel =>
              refine ⟨if c' = z then A' else A'.map (·.add z), c' - z, [], l2, q ++ [(pl : Int)] ++ [(z : Int)], by simp [hdk.out, hcz], by rw [hdk.out]; exact hrd, rfl, by simpa [vInt] using hown', HC2, hk2, ?_, ?_⟩
              · simp; rw [hdk.out]; omega
              · simp; rw [hdk.out]; omega
            case measure => simp; omega
end Go.Proofs.Ytphgfhghbpndaaa
