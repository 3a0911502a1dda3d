/-
  The walks of layer 15's statements: nulls alone, and one value.
-/
import Derived.Test.YtejbfknhnhhlfaaFStS
import Derived.Test.YtejbfknhnhhlfaaFPlb
namespace Go.Proofs.Ytejbfknhnhhlfaa
open Go Go.RowKit
set_option maxRecDepth 10000
set_option linter.unusedVariables false
set_option linter.unusedSimpArgs false

theorem nil_right {typ : Int} (h : known typ = true) : rightC typ true Cell.nil = true := by
  unfold rightC
  rw [if_pos (.inr rfl)]
  rfl
theorem ofS_nulls {typ : Int} (hk : known typ = true) {n : Nat} (hn : n ≤ 1000) {s : St} (hs : ofS typ (List.replicate n Cell.nil) = s) : s.nulls.toInt = n ∧ s.has = false ∧ s.min = Cell.zero ∧ s.max = Cell.zero := by
  subst hs
  obtain ⟨h1, h2, h3⟩ := ofS_ok typ (List.replicate n Cell.nil) (by simp; omega)
  have hh : (ofS typ (List.replicate n Cell.nil)).has = false := by
    cases hh : (ofS typ (List.replicate n Cell.nil)).has with
    | false => rfl
    | true =>
      obtain ⟨⟨h4, h5⟩, _⟩ := h3 hh
      rw [(List.mem_replicate.1 h4).2] at h5
      cases h5
  have hr : rightS typ (ofS typ (List.replicate n Cell.nil)) = true := right_ofS (by simp; omega) hk (fun c hc => by rw [(List.mem_replicate.1 hc).2]; exact nil_right hk)
  refine ⟨?_, hh, rightS_no hr hh⟩
  rw [h1, List.filter_replicate]
  simp [Cell.nil]
theorem ofS_both {typ : Int} {n m : Nat} (hn : n ≤ 1000) (hm : m ≤ 1000) {c : Cell} (hc : c.null = false) {s : St} (hs : ofS typ (List.replicate n Cell.nil ++ List.replicate m c) = s) :
    s.nulls.toInt = n ∧ s.has = decide (0 < m) ∧ (0 < m → s.min = c ∧ s.max = c) := by
  subst hs
  obtain ⟨h1, h2, h3⟩ := ofS_ok typ (List.replicate n Cell.nil ++ List.replicate m c) (by simp; omega)
  have hmem : ∀ x ∈ List.replicate n Cell.nil ++ List.replicate m c, x.null = false → x = c := fun x hx hxn => by
    rcases List.mem_append.1 hx with h | h
    · rw [(List.mem_replicate.1 h).2] at hxn; cases hxn
    · exact (List.mem_replicate.1 h).2
  refine ⟨?_, ?_, fun hm0 => ?_⟩
  · rw [h1, List.filter_append, List.filter_replicate, List.filter_replicate, hc]
    simp [Cell.nil]
  · cases hh : (ofS typ (List.replicate n Cell.nil ++ List.replicate m c)).has with
    | true =>
      obtain ⟨⟨h4, h5⟩, _⟩ := h3 hh
      refine (decide_eq_true ?_).symm
      rcases Nat.eq_zero_or_pos m with h | h
      · subst h
        rcases List.mem_append.1 h4 with h | h
        · rw [(List.mem_replicate.1 h).2] at h5; cases h5
        · simp at h
      · exact h
    | false =>
      refine (decide_eq_false (fun hm0 => ?_)).symm
      have := h2 hh c (List.mem_append_right _ (List.mem_replicate.2 ⟨by omega, rfl⟩))
      rw [hc] at this
      cases this
  · cases hh : (ofS typ (List.replicate n Cell.nil ++ List.replicate m c)).has with
    | true =>
      obtain ⟨⟨h4, h5⟩, ⟨h6, h7⟩, _⟩ := h3 hh
      exact ⟨hmem _ h4 h5, hmem _ h6 h7⟩
    | false =>
      have := h2 hh c (List.mem_append_right _ (List.mem_replicate.2 ⟨by omega, rfl⟩))
      rw [hc] at this
      cases this

set_option maxHeartbeats 4000000 in
theorem StatNulls_walk (typ n m : Int) (c : Cell) (W : World) (hn : -9223372036854775808 ≤ n ∧ n ≤ 9223372036854775807) (hm : -9223372036854775808 ≤ m ∧ m ≤ 9223372036854775807) (ht : c.text.size ≤ maxLen) :
    Calls Try.prog 6 #[.int .i64 typ, .int .i64 n, .int .i64 m, cellVal c] W fun e W' => e = .returned (.bool true) ∧ Below W.heap.size W W' := by
  have ht' : c.text.size ≤ 9223372036854775807 := by unfold maxLen at ht; omega
  go_enter Try.func6, Try.ntmps6
  go_upto_region 2 with (refine (small15 _).mono ?_; rintro e w1 ⟨rfl, hk1⟩)
  have hW1 : Keep [] W w1 := ((Keep.refl _ _).alloc _).trans hk1
  have hb1 : Blk w1 W.heap.size 29 c.cs := (Blk.new W 29 c.cs).keep hk1 (by simp)
  clear hk1
  go_cut [45] (fun v wx => ∃ o : Bool, v = .bool o ∧ (o = false → 0 ≤ n ∧ n ≤ 100 ∧ 0 ≤ m ∧ m ≤ 100 ∧ cellsOk typ [c] = true ∧ c.null = false) ∧ Keep [] w1 wx)
  case first =>
    by_cases h1 : n < 0
    · go_wp2
      go_meet
      exact ⟨true, rfl, by simp, Keep.refl _ _⟩
    by_cases h2 : 100 < n
    · go_wp2
      go_meet
      exact ⟨true, rfl, by simp, Keep.refl _ _⟩
    by_cases h3 : m < 0
    · go_wp2
      go_meet
      exact ⟨true, rfl, by simp, Keep.refl _ _⟩
    by_cases h4 : 100 < m
    · go_wp2
      go_meet
      exact ⟨true, rfl, by simp, Keep.refl _ _⟩
    have c0 := hb1.cell 0
    have c1 := hb1.cell 1
    have c2 := hb1.cell 2
    have c3 := hb1.cell 3
    have c4 := hb1.cell 4
    simp only [Cell.cs, vI, List.getElem?_cons_succ, List.getElem?_cons_zero] at c0 c1 c2 c3 c4
    by_cases h5 : 300 < c.text.size
    · go_wp2
      go_meet
      exact ⟨true, rfl, by simp, Keep.refl _ _⟩
    have hck : Cells [] (w1.alloc (.cells #[.bool c.null, .int .i64 c.int.toInt, .string c.text, .int .i64 c.x.toInt, .int .i64 c.y.toInt] 29)) (some ⟨w1.heap.size, 0, none⟩) 1 1 [c] :=
      (Blk.new w1 29 [.bool c.null, .int .i64 c.int.toInt, .string c.text, .int .i64 c.x.toInt, .int .i64 c.y.toInt]).rd (by simp) (by simp [Cell.cs]) (by omega) (by simp [maxLen]) (by simp [Cell.cs, vI])
    have hka := (Keep.refl [] w1).alloc (.cells #[.bool c.null, .int .i64 c.int.toInt, .string c.text, .int .i64 c.x.toInt, .int .i64 c.y.toInt] 29)
    have C := Lib.hid (cells_law typ _ hck)
    clear hck
    go_wp2_with fail
    refine C.out.mono ?_
    rintro e w2 ⟨rfl, hk2⟩
    have c0' := (hb1.keep (hka.trans hk2) (by simp)).cell 0
    simp only [Cell.cs, vI, List.getElem?_cons_succ, List.getElem?_cons_zero] at c0'
    cases hok : cellsOk typ [c] with
    | false =>
      go_wp2
      go_meet
      exact ⟨true, rfl, by simp, hka.trans hk2⟩
    | true =>
      go_wp2
      go_meet
      exact ⟨_, rfl, fun h => ⟨by omega, by omega, by omega, by omega, hok, by simp at h; exact h.2⟩, hka.trans hk2⟩
  case rest =>
  obtain ⟨o, rfl, ho, hk2⟩ := hcut
  have hW2 := hW1.trans hk2
  have hb2 := hb1.keep hk2 (by simp)
  cases o with
  | true =>
    go_wp2
    go_ret
    exact ⟨rfl, hW2.below⟩
  | false =>
  obtain ⟨h1, h2, h3, h4, hok, hcn⟩ := ho rfl
  clear ho hk2 hb1 hW1
  obtain ⟨N, rfl⟩ := Int.eq_ofNat_of_zero_le h1
  obtain ⟨Q, rfl⟩ := Int.eq_ofNat_of_zero_le h3
  obtain ⟨hkn, hr⟩ := cellsOk_of hok
  have hcnear := rightC_near (hr c (by simp))
  have hN : N ≤ 100 := by omega
  have hQ : Q ≤ 100 := by omega
  clear h1 h2 h3 h4 hok hr hn hm
  replace hcn := Lib.hid hcn
  replace hcnear := Lib.hid hcnear
  obtain ⟨i0, hi, hz0, hz1, hz2⟩ := info_parts Try.infoCell'
  obtain ⟨W2, hW2e⟩ : ∃ W2, W2 = wc := ⟨_, rfl⟩
  subst hW2e
  go_wp2
  go_loopw [10, 11] (fun l i wr => ∃ k : Nat, k ≤ N ∧ i = .int .i64 k ∧ wr.ownsRow W2.heap.size 29 5 l k ((List.replicate k Cell.nil).flatMap Cell.cs) ∧ Keep [] W2 wr) (fun _ i _ => N - (intOf i).toNat)
  case atStart => exact ⟨0, Nat.zero_le _, rfl, World.ownsRow_nil _ _ _ _, Keep.refl _ _⟩
  case round =>
    obtain ⟨k, hk, rfl, hown, hkr⟩ := hrel
    obtain ⟨B3, d3, rfl⟩ := own_form hown
    by_cases hlt : k < N
    · have hck : Cells [] (wr.alloc (.cells #[.bool true, .int .i64 0, .string { data := #[] }, .int .i64 0, .int .i64 0] 29)) (some ⟨wr.heap.size, 0, none⟩) 1 1 [Cell.nil] :=
        (Blk.new wr 29 [.bool true, .int .i64 0, .string { data := #[] }, .int .i64 0, .int .i64 0]).rd (by simp) rfl (by omega) (by simp [maxLen]) rfl
      have hszr := hkr.size
      go_wp2_with (at_builtin; refine wpList_append_rd rfl _ _ 22 rfl W2.heap.size 29 i0 (cellVal Cell.zero) 5 48 Try.underlying22 hi hz0 hz1 hz2 rfl (by omega) (.slice B3 k d3) k _ rfl (hown.alloc _) rfl hck (flat_one Cell.one [Cell.nil]) (by unfold maxLen; omega) (by omega) (by simp; omega) ?_)
      intro v' w4 hown' hgr
      have hk4 : Keep [] W2 w4 := (hkr.alloc _).grown hgr (fun g hg => .inr (own_ge hown g hg))
      go_wp2
      go_roundw
      case rel =>
        refine ⟨k + 1, by omega, by go_num, ?_, hk4⟩
        rw [List.replicate_succ', List.flatMap_append]
        exact hown'
      case measure => simp [intOf]; omega
    · obtain rfl : k = N := by omega
      have hsz2 := hb2.lt
      have hcr : Cells [] wr B3 k d3 (List.replicate k Cell.nil) := rd_of_own hown (by simp)
      have C := ofS_prog typ wr hcr (by simp; omega) (fun _ x hx => by rw [(List.mem_replicate.1 hx).2]; exact ⟨by unfold nearZ; decide, by unfold nearZ; decide⟩)
      obtain ⟨q1, q2, q3, q4⟩ := ofS_nulls hkn (n := k) (by omega) rfl
      have eZ : stVal (ofS typ (List.replicate k Cell.nil)) = .agg #[.int .i64 k, .bool false, .bool false, .int .i64 0, .string { data := #[] }, .int .i64 0, .int .i64 0, .bool false, .int .i64 0, .string { data := #[] }, .int .i64 0, .int .i64 0] := by
        rw [stVal, q1, q2, q3, q4]; rfl
      rw [eZ] at C
      replace C := Lib.hid C
      clear q1 q2 q3 q4 eZ hcr
      have hbr := hb2.keep hkr (by simp)
      go_wp2_with fail
      refine C.out.mono ?_
      rintro e w5 ⟨rfl, hk5⟩
      have hown5 := own_keep hown hk5 (by simp)
      have hb5 := hbr.keep hk5 (by simp)
      have hk25 := hkr.trans hk5
      clear hbr hkr hk5 hown C hb2 hlt hk
      obtain ⟨W5, hW5⟩ : ∃ W5, W5 = w5 := ⟨_, rfl⟩
      subst hW5
      go_wp2
      go_loopw [10, 12] (fun l i wr => ∃ j : Nat, j ≤ Q ∧ i = .int .i64 j ∧ wr.ownsRow W2.heap.size 29 5 l (k + j) ((List.replicate k Cell.nil ++ List.replicate j c).flatMap Cell.cs) ∧ Keep [] W2 wr ∧ Blk wr W.heap.size 29 c.cs) (fun _ i _ => Q - (intOf i).toNat)
      case atStart => exact ⟨0, Nat.zero_le _, rfl, by simpa using hown5, hk25, hb5⟩
      case round =>
        obtain ⟨j, hj, rfl, hown, hkr, hbr⟩ := hrel
        obtain ⟨B4, d4, rfl⟩ := own_form hown
        have c0 := hbr.cell 0
        have c1 := hbr.cell 1
        have c2 := hbr.cell 2
        have c3 := hbr.cell 3
        have c4 := hbr.cell 4
        simp only [Cell.cs, vI, List.getElem?_cons_succ, List.getElem?_cons_zero] at c0 c1 c2 c3 c4
        by_cases hlt : j < Q
        · have hck : Cells [] (wr.alloc (.cells #[.bool c.null, .int .i64 c.int.toInt, .string c.text, .int .i64 c.x.toInt, .int .i64 c.y.toInt] 29)) (some ⟨wr.heap.size, 0, none⟩) 1 1 [c] :=
            (Blk.new wr 29 [.bool c.null, .int .i64 c.int.toInt, .string c.text, .int .i64 c.x.toInt, .int .i64 c.y.toInt]).rd (by simp) (by simp [Cell.cs]) (by omega) (by simp [maxLen]) (by simp [Cell.cs, vI])
          have hszr := hkr.size
          go_wp2_with (at_builtin; refine wpList_append_rd rfl _ _ 22 rfl W2.heap.size 29 i0 (cellVal Cell.zero) 5 48 Try.underlying22 hi hz0 hz1 hz2 rfl (by omega) (.slice B4 (k + j) d4) (k + j) _ rfl (hown.alloc _) rfl hck (flat_one Cell.one [c]) (by unfold maxLen; omega) (by omega) (by simp; omega) ?_)
          intro v' w6 hown' hgr
          have hk6 : Keep [] W2 w6 := (hkr.alloc _).grown hgr (fun g hg => .inr (own_ge hown g hg))
          have hb6 : Blk w6 W.heap.size 29 c.cs := (hbr.alloc _).keep (keep_of_grown hgr) (fun hm => by
            have hm' : (Value.slice B4 (k + j) d4).ownBlock = some W.heap.size := by simpa using hm
            have := own_ge hown _ hm'
            omega)
          clear c0 c1 c2 c3 c4
          go_wp2
          go_roundw
          case rel =>
            refine ⟨j + 1, by omega, by go_num, ?_, hk6, hb6⟩
            simpa [List.replicate_succ', List.flatMap_append, Nat.add_assoc, List.append_assoc] using hown'
          case measure => simp [intOf]; omega
        · obtain rfl : j = Q := by omega
          have hcr : Cells [] wr B4 (k + j) d4 (List.replicate k Cell.nil ++ List.replicate j c) := rd_of_own hown (by simp)
          have C := ofS_prog typ wr hcr (by simp; omega) (fun _ x hx => by
            rcases List.mem_append.1 hx with h | h
            · rw [(List.mem_replicate.1 h).2]; exact ⟨by unfold nearZ; decide, by unfold nearZ; decide⟩
            · rw [(List.mem_replicate.1 h).2]; exact hcnear.out)
          obtain ⟨q1, q2, q3⟩ := ofS_both (typ := typ) (n := k) (m := j) (by omega) (by omega) hcn.out rfl
          have hkW := hW2.trans hkr
          generalize ofS typ (List.replicate k Cell.nil ++ List.replicate j c) = s at *
          have hEc := eql_cell c c
          unfold cellVal at hEc
          rw [decide_eq_true rfl] at hEc
          replace C := Lib.hid C
          clear hcr
          clear c0 c1 c2 c3 c4
          rcases Nat.eq_zero_or_pos j with h0 | h0
          · subst h0
            rw [decide_eq_false (by omega)] at q2
            have e1 : stVal s = .agg #[.int .i64 k, .bool false, .bool s.min.null, .int .i64 s.min.int.toInt, .string s.min.text, .int .i64 s.min.x.toInt, .int .i64 s.min.y.toInt, .bool s.max.null, .int .i64 s.max.int.toInt, .string s.max.text, .int .i64 s.max.x.toInt, .int .i64 s.max.y.toInt] := by rw [stVal, q1, q2]
            rw [e1] at C
            clear q1 q2 q3 e1 hlt
            go_wp2_with fail
            refine C.out.mono ?_
            rintro e w6 ⟨rfl, hk6⟩
            go_wp2
            go_ret
            exact ⟨rfl, ((hkW.trans hk6).alloc _).below⟩
          · obtain ⟨q4, q5⟩ := q3 h0
            rw [decide_eq_true h0] at q2
            have e1 : stVal s = .agg #[.int .i64 k, .bool true, .bool c.null, .int .i64 c.int.toInt, .string c.text, .int .i64 c.x.toInt, .int .i64 c.y.toInt, .bool c.null, .int .i64 c.int.toInt, .string c.text, .int .i64 c.x.toInt, .int .i64 c.y.toInt] := by rw [stVal, q1, q2, q4, q5]
            rw [e1] at C
            have h0' : (0 : Int) < (j : Int) := by omega
            have h0'' : ((j : Int) == 0) = false := by rw [beq_eq_false_iff_ne]; omega
            clear q1 q2 q3 q4 q5 e1 hlt
            go_wp2_with fail
            refine C.out.mono ?_
            rintro e w6 ⟨rfl, hk6⟩
            have hb6 := (hbr.keep hk6 (by simp)).alloc (.cells #[.int .i64 k, .bool true, .bool c.null, .int .i64 c.int.toInt, .string c.text, .int .i64 c.x.toInt, .int .i64 c.y.toInt, .bool c.null, .int .i64 c.int.toInt, .string c.text, .int .i64 c.x.toInt, .int .i64 c.y.toInt] 31)
            have c0 := hb6.cell 0
            have c1 := hb6.cell 1
            have c2 := hb6.cell 2
            have c3 := hb6.cell 3
            have c4 := hb6.cell 4
            simp only [Cell.cs, vI, List.getElem?_cons_succ, List.getElem?_cons_zero] at c0 c1 c2 c3 c4
            go_wp2
            go_ret
            exact ⟨rfl, ((hkW.trans hk6).alloc _).below⟩
end Go.Proofs.Ytejbfknhnhhlfaa
