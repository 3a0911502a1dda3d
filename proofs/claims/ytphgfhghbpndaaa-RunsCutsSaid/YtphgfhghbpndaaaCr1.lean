/-
  The walks of layer 3's and 4's functions, the reference's: cursor, Put.
-/
import Derived.Test.YtphgfhghbpndaaaCu3
namespace Go.Proofs.Ytphgfhghbpndaaa
open Go Go.RowKit
set_option linter.unusedVariables false
set_option linter.unusedSimpArgs false

set_option maxHeartbeats 400000 in
theorem fail_ref {g : Nat} {s : Option (List UInt8)} (W : World) (h : Cur 54 W g s) :
    Calls Try.prog 54 #[.pointer (some ⟨g, 0, none⟩)] W fun e W' => e = .returned (.tuple #[]) ∧ Keep [g] W W' ∧ Cur 54 W' g none := by
  obtain ⟨A, n, c, hb, hr, hn⟩ := h
  have hc0 := hb.cell 0
  have hc1 := hb.cell 1
  have hf0 := hb.frozen 0
  have hf1 := hb.frozen 1
  simp only [List.getElem?_cons_zero, List.getElem?_cons_succ] at hc0 hc1
  go_enter Try.func54, Try.ntmps54
  go_wp2
  go_end0
  refine ⟨rfl, ((Keep.refl [g] W).setCell (p := ⟨g, 0, none⟩) (.inl (by simp)) _).setCell (p := ⟨g, 1, none⟩) (.inl (by simp)) _, none, 0, 0, (hb.set_ 0 _).set_ 1 _, Rd.nil_ _ _ _, by omega, Low.none_ _ _⟩

set_option maxHeartbeats 400000 in
theorem end_ref {g : Nat} {s : Option (List UInt8)} (W : World) (h : Cur 54 W g s) :
    Calls Try.prog 33 #[.pointer (some ⟨g, 0, none⟩)] W fun e W' => e = .returned (.bool (decide (s = some []))) ∧ W = W' := by
  obtain ⟨A, n, c, hb, hr, hn⟩ := h
  obtain rfl := hr.len1
  have hc0 := hb.cell 0
  have hc1 := hb.cell 1
  simp only [List.getElem?_cons_zero, List.getElem?_cons_succ] at hc0 hc1
  cases s with
  | none =>
    simp only [Option.isNone_none] at hc1
    go_enter Try.func33, Try.ntmps33
    go_wp2
    go_ret
    exact ⟨ret_b (by simp), rfl⟩
  | some l =>
    simp only [Option.isNone_some] at hc1
    simp only [Option.getD_some] at hc0
    have hd : Hid (decide (some l = some []) = decide (l.length = 0)) := by unfold Hid; cases l <;> simp
    go_enter Try.func33, Try.ntmps33
    go_wp2
    go_ret
    rw [hd.out]
    refine ⟨ret_b ?_, rfl⟩
    by_cases h0 : l.length = 0
    · simp [h0]
    · rw [decide_eq_false h0, beq_eq_false_iff_ne]; omega

set_option maxHeartbeats 1000000 in
theorem take_ref {g : Nat} {s : Option (List UInt8)} (k : Int) (W : World) (h : Cur 54 W g s) (hk : -9223372036854775808 ≤ k ∧ k ≤ 9223372036854775807) :
    Calls Try.prog 37 #[.pointer (some ⟨g, 0, none⟩), .int .i64 k] W fun e W' => ∃ B m d, e = .returned (.slice B m d) ∧ Keep [g] W W' ∧ Cur 54 W' g (takeC s k).2 ∧
      W'.ownsRow W.heap.size 5 1 (.slice B m d) m ((takeC s k).1.map vU8) := by
  obtain ⟨i0, hi, hz0, hz1, hz2⟩ := info_parts Try.infoU8
  have h' := h
  obtain ⟨A, n, c, hb, hr, hn⟩ := h
  have hcap := hr.cap
  have hnc := hr.le
  obtain rfl := hr.len1
  have hc0 := hb.cell 0
  have hc1 := hb.cell 1
  have hf0 := hb.frozen 0
  simp only [List.getElem?_cons_zero, List.getElem?_cons_succ] at hc0 hc1
  cases s with
  | none =>
    simp only [Option.isNone_none] at hc1
    go_enter Try.func37, Try.ntmps37
    go_wp2_with fail
    refine (fail_ref W h').mono ?_
    rintro e w1 ⟨rfl, hk1, hcur⟩
    go_wp2
    go_ret
    exact ⟨none, 0, 0, rfl, hk1, hcur, World.ownsRow_nil _ _ _ _⟩
  | some l =>
    simp only [Option.isNone_some] at hc1
    simp only [Option.getD_some] at hc0 hr hnc hn
    by_cases hfit : 0 ≤ k ∧ k ≤ l.length
    · obtain ⟨q, rfl⟩ : ∃ q : Nat, k = q := ⟨k.toNat, by omega⟩
      have hq : q ≤ l.length := by omega
      have hT : Hid (takeC (some l) (q : Int) = (l.take q, some (l.drop q))) := by
        unfold Hid takeC
        simp only
        rw [if_pos hfit, Int.toNat_natCast]
      have hqi : ¬ ((l.length : Int) < (q : Int)) := by omega
      clear hfit
      rw [hT.out]
      go_enter Try.func37, Try.ntmps37
      have hc0a := (hb.alloc (.cells #[] 5)).cell 0
      simp only [List.getElem?_cons_zero, Option.getD_some] at hc0a
      go_wp2_with (at_builtin; refine wpList_append_rd (o := ⟨some 32, _, _, _, _, _⟩) rfl _ _ 24 rfl W.heap.size 5 i0 (.int .u8 0) 1 1 Try.underlying24 hi hz0 hz1 hz2 rfl (by omega) _ 0 [] rfl (World.ownsRow_lit W #[] 0 (Nat.le_refl _) (by simp [maxLen]) (by simp)) rfl ((hr.take1 hq).pure ((Keep.refl [] W).alloc (.cells #[] 5))) (vU8_one (l.take q)) (by unfold maxLen; omega) (by omega) (by simp) ?_)
      intro v' w1 hown' hgr
      obtain ⟨B1, d1, rfl⟩ := own_form hown'
      have hk1 : Keep [] W w1 := ((Keep.refl [] W).alloc (.cells #[] 5)).grown hgr (by simp [Value.ownBlock])
      have hown1 : w1.ownsRow W.heap.size 5 1 (.slice B1 q d1) q ((l.take q).map vU8) := by simpa using hown'
      clear hgr hown' hc0a
      have hb1 := hb.keep hk1 (by simp)
      have hr1 := hr.pure hk1
      have hc0' := hb1.cell 0
      have hf0' := hb1.frozen 0
      simp only [List.getElem?_cons_zero, List.getElem?_cons_succ] at hc0'
      clear hc0 hf0
      have hd := hr1.drop1 hq rfl
      have hgl := hb.lt
      have hfin : ∀ (A' : Option Addr) (n' c' : Nat), Bys [g] w1 A' n' c' (l.drop q) → n' ≤ 10000000000000 ∧ Low A' n' g → Keep [g] W (w1.setCell ⟨g, 0, none⟩ (.slice A' n' c')) ∧ Cur 54 (w1.setCell ⟨g, 0, none⟩ (.slice A' n' c')) g (some (l.drop q)) ∧
          (w1.setCell ⟨g, 0, none⟩ (.slice A' n' c')).ownsRow W.heap.size 5 1 (.slice B1 q d1) q ((l.take q).map vU8) := fun A' n' c' hr' hn' => by
        have hks : Keep [g] w1 (w1.setCell ⟨g, 0, none⟩ (.slice A' n' c')) := (Keep.refl [g] w1).setCell (.inl (by simp)) _
        exact ⟨hk1.nil.trans hks, ⟨A', n', c', hb1.set_ 0 _, hr'.keep hks (fun b hb => .inl hb), hn'⟩, own_keep hown1 hks (by simpa using hgl)⟩
      replace hfin := Lib.hid hfin
      by_cases hcq : c = q
      · rw [if_pos hcq] at hd
        subst hcq
        rw [Nat.sub_self, show l.length - c = 0 from by omega] at hd
        have hF := Lib.hid (hfin.out _ _ _ hd ⟨by omega, Low.zero _ _⟩)
        clear hd
        go_wp2
        go_ret
        exact ⟨_, _, _, rfl, hF.out⟩
      · rw [if_neg hcq] at hd
        have hF := Lib.hid (hfin.out _ _ _ hd ⟨by omega, hn.2.map (by omega)⟩)
        clear hd
        go_wp2
        go_ret
        exact ⟨_, _, _, rfl, hF.out⟩
    · have hT : Hid (takeC (some l) k = ([], none)) := by
        unfold Hid takeC
        simp only
        rw [if_neg hfit]
      rw [hT.out]
      by_cases h0 : k < 0
      all_goals
        go_enter Try.func37, Try.ntmps37
        go_wp2_with fail
        refine (fail_ref W h').mono ?_
        rintro e w1 ⟨rfl, hk1, hcur⟩
        go_wp2
        go_ret
        exact ⟨none, 0, 0, rfl, hk1, hcur, World.ownsRow_nil _ _ _ _⟩

end Go.Proofs.Ytphgfhghbpndaaa
