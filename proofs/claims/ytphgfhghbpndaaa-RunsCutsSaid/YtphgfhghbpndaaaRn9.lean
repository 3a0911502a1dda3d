/-
  The walk of layer 10's Encode, the program's.
-/
import Derived.Test.YtphgfhghbpndaaaRn8
import Derived.Test.YtphgfhghbpndaaaFen
namespace Go.Proofs.Ytphgfhghbpndaaa
open Go Go.RowKit Go.Shelf
set_option linter.unusedVariables false
set_option linter.unusedSimpArgs false
attribute [local go_sem] Oper.semAt_some

theorem encs_len {l : List UInt64} (pre : List (Spot l.length)) (hl : l.length ≤ 65536) : ((pre.map Spot.piece).flatMap encP).length ≤ pre.length * 1900544 := by
  induction pre with
  | nil => simp
  | cons s pre ih =>
    have h1 := encP_len s.piece (by
      intro h0
      have h1 := s.piece_len
      have h2 := s.pos
      rw [h0] at h1
      simp at h1
      omega) (by rw [s.piece_len]; have := s.fits; omega)
    rw [s.piece_len] at h1
    have := s.fits
    rw [List.map_cons, List.flatMap_cons, List.length_append, List.length_cons]
    omega

set_option maxRecDepth 100000 in
set_option maxHeartbeats 8000000 in
theorem encode_prog {X : List Nat} {A : Option Addr} {n c : Nat} {l : List UInt64} (W : World) (h : U64s X W A n c l) :
    Calls Try.prog 11 #[.slice A n c] W fun e W' => ∃ B k d, e = .returned (.tuple #[.slice B k d, .bool (decide (l.length ≤ 65536))]) ∧ Keep [] W W' ∧ W'.ownsRow W.heap.size 5 1 (.slice B k d) k ((enc l).map vU8) := by
  have hc := h.cap
  have hnc := h.le
  obtain rfl := h.len1
  obtain ⟨i0, hi, hz0, hz1, hz2⟩ := info_parts Try.infoU8
  by_cases hbig : 65536 < l.length
  · have hv : decide (l.length ≤ 65536) = false := decide_eq_false (by omega)
    have he : Hid (enc l = []) := by unfold Hid enc; rw [if_neg (by omega)]
    rw [hv]
    go_enter Try.func11, Try.ntmps11
    go_wp2
    go_ret2
    exact ⟨none, 0, 0, rfl, Keep.refl _ _, by rw [he.out]; exact World.ownsRow_nil _ _ _ _⟩
  · have hv : decide (l.length ≤ 65536) = true := decide_eq_true (by omega)
    have he : Hid (enc l = (cutP l).flatMap encP) := by unfold Hid enc; rw [if_pos (by omega)]; rfl
    rw [hv]
    refine (callsIn_wide (n := 8)).1 ?_
    refine callsIn_of_wp_marks Try.func11 rfl trivial ?_ rfl
    simp only [Try.ntmps11, List.size_toArray, List.length_cons, List.length_nil, Nat.reduceAdd, Nat.reduceSub, Array.replicate_succ, Array.replicate_zero, List.push_toArray, List.append_toArray, List.nil_append, List.cons_append]
    gi_wp2
    refine ⟨trivial, (callsIn_wide.2 (pieces_prog A l.length c _)).mono ?_⟩
    rintro e w1 ⟨rfl, rfl⟩
    gi_wp2
    obtain ⟨W2, hW2⟩ : ∃ W2, (W.alloc (.cells #[.slice none 0 0] 24)).alloc (.cells #[.slice A l.length c] 22) = W2 := ⟨_, rfl⟩
    have hk2 : Keep [] W W2 := by rw [← hW2]; exact ((Keep.refl _ _).alloc _).alloc _
    have hsz : W2.heap.size = W.heap.size + 2 := by rw [← hW2]; simp
    have hout : Blk W2 W.heap.size 24 [.slice none 0 0] := by rw [← hW2]; exact (Blk.new W _ _).alloc _
    have hbox : Blk W2 (W.heap.size + 1) 22 [.slice A l.length c] := by
      rw [← hW2]
      have := Blk.new (W.alloc (.cells #[.slice none 0 0] 24)) 22 [.slice A l.length c]
      rwa [World.size_alloc] at this
    have hl2 := h.pure hk2
    obtain ⟨b, off, hA, hseq⟩ := pieces_seq 7 (by omega) (W.heap.size + 1) W.heap.size c A l W2 (hbox.cell 0) (hl2.weaken (Y := []) (by simp)) (fun b off e h0 => by
      subst e
      obtain ⟨b', off', e, hlt, _, _⟩ := h.2.2.2.1 (List.length_pos_iff.2 h0)
      cases e
      exact hlt) (by omega) (by omega)
    rw [hW2]
    refine wpIn_rangeFunc_ownH rfl (by omega) (gf := 40) (lb := #[.pointer (some ⟨W.heap.size + 1, 0, none⟩)]) rfl trivial (enters_of Try.func40 (by kernel_rfl) rfl)
      hseq KpB.t (KpB.b (by omega) (by omega)) (Below.refl _ _) (fun _ => rfl)
      (fun pre W' => ∃ v q, Blk W' W.heap.size 24 [v] ∧ W'.ownsRow W2.heap.size 5 1 v q.length (q.map vU8) ∧ Hid (q = (pre.map Spot.piece).flatMap encP) ∧ Keep [W.heap.size] W2 W')
      (fun _ _ _ => False)
      (fun s A B row hs hg hr => by
        obtain ⟨v, q, h1, h2, h0, h3⟩ := hs
        exact ⟨v, q, blk_abides h1 hg (fun r e => (hr r e).2), own_abides h2 hg (fun r e => (hr r e).2), h0, h3.grown hg (fun k e => .inr (hr k e).1)⟩)
      (fun _ _ _ _ _ hs _ _ => hs)
      ⟨_, [], hout, World.ownsRow_nil _ _ _ _, rfl, Keep.refl _ _⟩
      (fun x a' W' => ∃ Bx, W2.heap.size ≤ Bx ∧ Blk W' Bx 40 [.slice (some ⟨b, off + x.from_, none⟩) x.len (c - x.from_), .bool x.run] ∧
        a' = { tmps := #[.slice A l.length c, undef, .slice none 0 0, .bool false, .pointer (some ⟨W.heap.size, 0, none⟩), .pointer (some ⟨Bx, 0, none⟩), undef, undef, undef, undef, .slice A l.length c, .int .i64 l.length, .bool (decide (65536 < (l.length : Int))), .slice A l.length c, .func (.func 40) #[] #[.pointer (some ⟨W.heap.size + 1, 0, none⟩)], .agg #[.slice (some ⟨b, off + x.from_, none⟩) x.len (c - x.from_), .bool x.run], undef, undef, undef, undef, undef, undef, undef, undef, undef, undef, undef, undef, undef, undef, undef, undef, undef, undef, undef, undef, undef, undef, undef, undef, undef, undef, undef, undef, undef, undef, undef, undef, undef, undef, undef, undef, undef], defers := [] })
      (fun x a' _ X Y row hs hg hr => by obtain ⟨Bx, h1, h2, h3⟩ := hs; exact ⟨Bx, h1, blk_abides h2 hg (fun r e => (hr r e).2), h3⟩)
      ?assign ?body ?done ?stop
    case assign =>
      rintro y pre x W' K ⟨v, q, h1, h2, h0, h3⟩ hK
      have hw' := h3.size
      simp only [Spot.val]
      gi_wp2
      have hka : Keep [] W' (W'.alloc (.cells #[.slice (some ⟨b, off + x.from_, none⟩) x.len (c - x.from_), .bool x.run] 40)) := (Keep.refl _ _).alloc _
      exact hK _ _ ((KeepsOthers.alloc _ _).from _) (KpB.keep hka (by simp) (by omega) (by omega)) ⟨v, q, h1.alloc _, h2.alloc _, h0, h3.trans hka.nil⟩ ⟨W'.heap.size, hw', Blk.new W' _ [.slice (some ⟨b, off + x.from_, none⟩) x.len (c - x.from_), .bool x.run], rfl⟩
    case body =>
      rintro y pre x a' W' hy ⟨r, hr⟩ ⟨v, q, h1, h2, h0, h3⟩ ⟨Bx, hBx, bX, rfl⟩ hlt
      have hw' := h3.size
      have hc1 := h1.cell 0
      have hf1 := h1.frozen 0
      have hcx0 := bX.cell 0
      have hcx1 := bX.cell 1
      simp only [List.getElem?_cons_zero, List.getElem?_cons_succ] at hc1 hcx0 hcx1
      obtain ⟨B0, d0, rfl⟩ := own_form h2
      have hqq := Lib.hid (encs_len pre (by omega))
      obtain ⟨fr, ln, run, pos, fits⟩ := x
      simp only [] at hcx0 hcx1 bX
      have hlY := ((h.weaken (Y := [W.heap.size]) (by simp)).pure hk2).keep h3 (by simp)
      have hsub := (hlY.drop1 (k := fr) (by omega) rfl).take1 (k := ln) (by omega)
      rw [hA (by rintro rfl; simp at fits; omega), if_neg (by omega), Option.map_some, addr_add] at hsub
      cases run with
      | true =>
        obtain ⟨b9, off9, he9, hb9, _, hc9⟩ := hsub.one (k := 0) (by simp; omega)
        cases he9
        obtain ⟨x0, hx0⟩ : ∃ x, x = ((l.drop fr).take ln).headD 0 := ⟨_, rfl⟩
        have hhd : ((l.drop fr).take ln)[0]'(by simp; omega) = x0 := by
          rw [hx0]
          rw [List.headD_eq_head?_getD, List.head?_eq_getElem?, List.getElem?_eq_getElem (by simp; omega)]
          rfl
        rw [hhd, Nat.add_zero] at hc9
        unfold vU64 at hc9
        have hxl := x0.toNat_lt
        have hencl : Hid (encP (Spot.piece (l := l) ⟨fr, ln, true, pos, fits⟩) = putB (2 * ln) ++ putB x0.toNat) := by
          have h7 := (Spot.piece_len (l := l) ⟨fr, ln, true, pos, fits⟩)
          simp only [] at h7
          unfold Hid encP
          rw [h7]
          simp only [Spot.piece, if_true]
          rw [hx0]
        clear hhd hx0
        gi_wp2
        have hl27 : ∀ w, Keep [W.heap.size] W' w → w.cell? ⟨Bx, 0, none⟩ = some (.slice (some ⟨b, off + fr, none⟩) ln (c - fr)) := fun w hk => (World.cell?_of_block (w := W') (a := ⟨Bx, 0, none⟩) (hk.block Bx bX.lt (by simp; omega))).trans hcx0
        have hl29 : ∀ w, Keep [W.heap.size] W' w → w.cell? ⟨b, off + fr, none⟩ = some (.int .u64 (x0.toNat : Int)) := fun w hk => by
          obtain ⟨b8, off8, he8, hb8, hb8', _⟩ := hsub.one (k := 0) (by simp; omega)
          cases he8
          exact (World.cell?_of_block (w := W') (a := ⟨b, off + fr, none⟩) (hk.block b hb9 hb8')).trans hc9
        refine wpIn_region_held (S := fun w => Keep [W.heap.size] W' w) (by kernel_rfl) (by kernel_rfl) (by rintro ⟨a, w, hh⟩; exact hh) ((Keep.refl _ _).drew) (fun hS => ?_)
        refine wpAnyH_take (i := 1) (v := .int .u64 ((ln : Int) * 2)) rfl (by kernel_rfl) (by kernel_rfl) (by kernel_rfl) (fun _ _ _ h => h) (Or.inl ⟨by rfl, ?_⟩) hS ?_
        · intro w hSw; go_simp
        simp only [Act.put, List.setIfInBounds_toArray, List.set_cons_zero, List.set_cons_succ]
        refine wpAnyH_take (i := 3) (v := .pointer (some ⟨Bx, 0, none⟩)) rfl (by kernel_rfl) (by kernel_rfl) (by kernel_rfl) (fun _ _ _ h => h) (Or.inl ⟨by rfl, ?_⟩) hS ?_
        · intro w hSw; go_simp
        simp only [Act.put, List.setIfInBounds_toArray, List.set_cons_zero, List.set_cons_succ]
        refine wpAnyH_take (i := 4) (v := .slice (some ⟨b, off + fr, none⟩) ln (c - fr)) rfl (by kernel_rfl) (by kernel_rfl) (by kernel_rfl) (fun _ _ _ h => h) (Or.inl ⟨by rfl, ?_⟩) hS ?_
        · intro w hSw
          have := hl27 w hSw
          go_simp
        simp only [Act.put, List.setIfInBounds_toArray, List.set_cons_zero, List.set_cons_succ]
        refine wpAnyH_take (i := 5) (v := .pointer (some ⟨b, off + fr, none⟩)) rfl (by kernel_rfl) (by kernel_rfl) (by kernel_rfl) (fun _ _ _ h => h) (Or.inl ⟨by rfl, ?_⟩) hS ?_
        · intro w hSw; go_simp
        simp only [Act.put, List.setIfInBounds_toArray, List.set_cons_zero, List.set_cons_succ]
        refine wpAnyH_take (i := 6) (v := .int .u64 (x0.toNat : Int)) rfl (by kernel_rfl) (by kernel_rfl) (by kernel_rfl) (fun _ _ _ h => h) (Or.inl ⟨by rfl, ?_⟩) hS ?_
        · intro w hSw
          have := hl29 w hSw
          go_simp
        simp only [Act.put, List.setIfInBounds_toArray, List.set_cons_zero, List.set_cons_succ]
        refine wpAnyH_ready (rs := [0]) (by kernel_rfl) (by simp) ?_
        refine AllReadyH.cons rfl (fun K hK => ?_) AllReadyH.nil
        go_simp
        refine hK _ _ hS (fun _ => ?_)
        clear hK K
        have hql : q.length ≤ 130000000000 := by rw [h0.out]; have := hqq.out; omega
        have hqB : Bys [] W'.drew B0 q.length d0 q := (rd_of_own h2 (by simp)).drew
        have hP1 := put_prog (2 * ln) W'.drew hqB (by omega) (by omega)
        rw [show ((2 * ln : Nat) : Int) = (ln : Int) * 2 from by omega] at hP1
        replace hP1 := Lib.hid hP1
        refine wpAnyH_ready (rs := [2]) (by kernel_rfl) (by simp) ?_
        refine AllReadyH.cons rfl (fun K hK => ?_) AllReadyH.nil
        go_simp
        refine hP1.out.mono ?_
        rintro e w4 ⟨B4, k4, d4, rfl, hk4, hown4⟩
        have hS4 : Keep [W.heap.size] W' w4 := hS.trans hk4.nil
        refine hK _ _ hS4 (fun _ => ?_)
        clear hK K
        have hr4 : Bys [] w4 B4 k4 d4 (q ++ putB (2 * ln)) := rd_of_own hown4 (by simp)
        have hk4l : k4 = q.length + (putB (2 * ln)).length := by have := hr4.len1; rw [List.length_append] at this; omega
        have hb2N := putB_len (2 * ln)
        have hP2 := Lib.hid (put_prog x0.toNat w4 hr4 (by omega) (by omega))
        clear hown4
        replace hk4l := Lib.hid hk4l
        refine wpAnyH_ready (rs := [7]) (by kernel_rfl) (by simp) ?_
        refine AllReadyH.cons rfl (fun K hK => ?_) AllReadyH.nil
        go_simp
        refine hP2.out.mono ?_
        rintro e w5 ⟨B5, k5, d5, rfl, hk5, hown5⟩
        have hS5 : Keep [W.heap.size] W' w5 := hS4.trans hk5.nil
        refine hK _ _ hS5 (fun _ => ?_)
        clear hK K
        have hk15 : Keep [] W' w5 := (((Keep.refl _ _).drew).trans hk4).trans hk5
        have h15 := h1.keep hk15 (by simp)
        have hf5 := h15.frozen 0
        have hc5 := h15.cell 0
        simp only [List.getElem?_cons_zero] at hc5
        refine wpAnyH_ready (rs := [8]) (by kernel_rfl) (by simp) ?_
        refine AllReadyH.cons rfl (fun K hK => ?_) AllReadyH.nil
        go_simp
        have hk6 : Keep [W.heap.size] w5 (w5.setCell ⟨W.heap.size, 0, none⟩ (.slice B5 k5 d5)) := (Keep.refl _ _).setCell (by simp) _
        refine hK _ _ (hS5.trans hk6) (fun _ => ?_)
        clear hK K
        refine wpAnyH_done (by kernel_rfl) ?_ _
        have hk16 := hk15.cat hk6
        rw [List.nil_append] at hk16
        have hk5l : k5 = (q ++ encP (Spot.piece (l := l) ⟨fr, ln, true, pos, fits⟩)).length := by
          rw [hencl.out, ← List.append_assoc]
          exact (rd_of_own (X := []) hown5 (by simp) : Bys [] w5 B5 k5 d5 _).len1.symm
        have hw24 : W2.heap.size ≤ w4.heap.size := by have := hk4.size; have h9 : W'.drew.heap.size = W'.heap.size := rfl; omega
        have hq5 : Hid ((w5.setCell ⟨W.heap.size, 0, none⟩ (.slice B5 k5 d5)).ownsRow W2.heap.size 5 1 (.slice B5 k5 d5) k5 ((q ++ encP (Spot.piece (l := l) ⟨fr, ln, true, pos, fits⟩)).map vU8)) := by
          have := own_keep (own_lower hown5 hw24) hk6 (by simp; omega)
          rw [hencl.out, ← List.append_assoc]
          exact this
        have h16 := h15.set_ 0 (.slice B5 k5 d5)
        clear hown5 hP1 hP2
        subst hk5l
        have hh0 : Hid (q ++ encP (Spot.piece (l := l) ⟨fr, ln, true, pos, fits⟩) = ((pre ++ [(⟨fr, ln, true, pos, fits⟩ : Spot l.length)]).map Spot.piece).flatMap encP) := by rw [Hid, h0.out]; simp
        gi_wp2
        exact ⟨keepsFrom_of_keep hk16 (by simp; omega), KpB.keep hk16 (by simp) (by omega) (by omega), _, _, h16, hq5.out, hh0, h3.trans hk16⟩
      | false =>
        have hnl : ((l.drop fr).take ln).length = ln := by simp; omega
        have hencl : Hid (encP (Spot.piece (l := l) ⟨fr, ln, false, pos, fits⟩) = putB (2 * ln + 1) ++ [UInt8.ofNat (width ((l.drop fr).take ln))] ++ packB ((l.drop fr).take ln) (width ((l.drop fr).take ln))) := by
          unfold Hid encP
          simp only [Spot.piece, Bool.false_eq_true, if_false]
          rw [hnl]
        have hpl := encP_len (Spot.piece (l := l) ⟨fr, ln, false, pos, fits⟩) (by
          intro h0
          have h1 := Spot.piece_len (l := l) ⟨fr, ln, false, pos, fits⟩
          rw [h0] at h1
          simp at h1
          omega) (by rw [Spot.piece_len]; show ln ≤ _; omega)
        rw [Spot.piece_len, hencl.out] at hpl
        simp only [List.length_append, List.length_cons, List.length_nil] at hpl
        have hpok := pack_width ((l.drop fr).take ln) (by omega)
        have hh0 : Hid (q ++ encP (Spot.piece (l := l) ⟨fr, ln, false, pos, fits⟩) = ((pre ++ [(⟨fr, ln, false, pos, fits⟩ : Spot l.length)]).map Spot.piece).flatMap encP) := by rw [Hid, h0.out]; simp
        have hw64 := width_le64 ((l.drop fr).take ln)
        generalize (l.drop fr).take ln = ns at *
        obtain ⟨wd, hwd⟩ : ∃ wd, width ns = wd := ⟨_, rfl⟩
        rw [hwd] at hencl hw64 hpok hpl
        replace hwd := Lib.hid hwd
        replace hnl := Lib.hid hnl
        replace hpok := Lib.hid hpok
        have hwB8 : Hid ((UInt8.ofNat wd).toNat = wd) := by unfold Hid; rw [UInt8.toNat_ofNat']; omega
        have hmod : (wd : Int) % 256 = (wd : Int) := by omega
        have hql : q.length ≤ 130000000000 := by rw [h0.out]; have := hqq.out; omega
        have hor : bits .or .u64 ((ln : Int) * 2) 1 = (ln : Int) * 2 + 1 := by
          have h1 := bits_or_u64 (2 * ln) 1 (by omega) (by decide)
          have h2 : 2 * ln ||| 1 = 2 * ln + 1 := by
            have h3 := Nat.two_pow_add_eq_or_of_lt (i := 1) (b := 1) (by decide) ln
            rw [Nat.pow_one] at h3
            exact h3.symm
          rw [h2] at h1
          rw [show (ln : Int) * 2 = ((2 * ln : Nat) : Int) from by omega]
          exact h1.trans (by omega)
        gi_wp2
        refine ⟨trivial, (CallsIn.inRound y (callsIn_wide.2 (width_prog W' hsub))).mono ?_⟩
        rintro e w3 ⟨rfl, rfl⟩
        rw [hwd.out]
        gi_wp2
        refine ⟨trivial, (CallsIn.inRound y (callsIn_wide.2 (pack_prog_ok (wd : Int) W' hsub hpok.out))).mono ?_⟩
        rintro e w4 ⟨B6, m6, d6, rfl, hk4, hb6⟩
        have h14 := h1.keep hk4 (by simp)
        have hf4 := h14.frozen 0
        have hc4 := h14.cell 0
        simp only [List.getElem?_cons_zero] at hc4
        have hq4 := own_keep h2 hk4 (by simp)
        have hqB : Bys [] w4 B0 q.length d0 q := rd_of_own hq4 (by simp)
        have hP := put_prog (2 * ln + 1) w4 hqB (by omega) (by omega)
        rw [show ((2 * ln + 1 : Nat) : Int) = (ln : Int) * 2 + 1 from by omega] at hP
        replace hP := Lib.hid hP
        gi_wp2
        refine ⟨trivial, (CallsIn.inRound y (callsIn_wide.2 hP.out)).mono ?_⟩
        rintro e w5 ⟨B7, m7, d7, rfl, hk5, hown7⟩
        have hw45 := hk5.size
        have hk15 := hk4.trans hk5
        have hw5 := hk15.size
        have hw4 := hk4.size
        have hr7 : Bys [] w5 B7 m7 d7 (q ++ putB (2 * ln + 1)) := rd_of_own hown7 (by simp)
        have hm7 : m7 = q.length + (putB (2 * ln + 1)).length := by have := hr7.len1; rw [List.length_append] at this; omega
        have hb2N := putB_len (2 * ln + 1)
        have hm6 : m6 = (packB ns wd).length := ((hb6 [] (by simp))).len1.symm
        have h15 := h1.keep hk15 (by simp)
        have hbk : Bys [] (w5.alloc (.cells #[.int .u8 (wd : Int)] 5)) (some ⟨w5.heap.size, 0, none⟩) 1 1 [UInt8.ofNat wd] := by
          refine (Blk.new w5 5 [.int .u8 (wd : Int)]).rd (by simp) rfl (by omega) (by simp [maxLen]) ?_
          simp [vU8, hwB8.out]
        have hm7b : m7 ≤ 130000000010 := by omega
        have hm6b : m6 ≤ 3000000 := by omega
        replace hm7 := Lib.hid hm7
        replace hm6 := Lib.hid hm6
        gi_wp2_with (gi_at_builtin; refine wpListIn_append_rd (o := ⟨some 48, _, _, _, _, _⟩) rfl _ _ 24 rfl w4.heap.size 5 i0 (.int .u8 0) 1 1 Try.underlying24 hi hz0 hz1 hz2 rfl (by omega) _ m7 _ rfl (hown7.alloc (.cells #[.int .u8 (wd : Int)] 5)) rfl hbk (vU8_one [UInt8.ofNat wd]) (by unfold maxLen; omega) (by omega) (by simp; omega) ?_)
        intro v8 w8 hown8 hgr
        have hkA : Keep [] w5 (w5.alloc (.cells #[.int .u8 (wd : Int)] 5)) := (Keep.refl _ _).alloc _
        have hk48 : Keep [] w4 w8 := (hk5.trans hkA).grown hgr (fun g hg => .inr (own_ge hown7 g hg))
        clear hgr hbk
        have hk18 := hk4.trans hk48
        have h18 := h1.keep hk18 (by simp)
        have hf8 := h18.frozen 0
        have hc8 := h18.cell 0
        simp only [List.getElem?_cons_zero] at hc8
        obtain ⟨B8, d8, rfl⟩ := own_form hown8
        have hkS : Keep [W.heap.size] w8 (w8.setCell ⟨W.heap.size, 0, none⟩ (.slice B8 (m7 + 1) d8)) := (Keep.refl _ _).setCell (by simp) _
        have hw8 := hkS.size
        have hw48 := hk48.size
        have hown8' := own_keep hown8 hkS (by simp; omega)
        have hpk8 : Bys [W.heap.size] (w8.setCell ⟨W.heap.size, 0, none⟩ (.slice B8 (m7 + 1) d8)) B6 m6 d6 (packB ns wd) := ((hb6 [W.heap.size] (by simp; omega)).pure hk48).keep hkS (by simp)
        have h18' := h18.set_ 0 (.slice B8 (m7 + 1) d8)
        gi_wp2_with (gi_at_builtin; refine wpListIn_append_rd (o := ⟨some 51, _, _, _, _, _⟩) rfl _ _ 24 rfl w4.heap.size 5 i0 (.int .u8 0) 1 1 Try.underlying24 hi hz0 hz1 hz2 rfl (by omega) _ (m7 + 1) _ rfl hown8' rfl hpk8 (vU8_one (packB ns wd)) (by unfold maxLen; omega) (by omega) (by omega) ?_)
        intro v9 w9 hown9 hgr
        have hk9 := keep_of_grown hgr
        have hoc9 := own_cells hown8'
        have h19 := h18'.keep hk9 (fun hm => by have := (hoc9 _ hm).1; omega)
        have hf9 := h19.frozen 0
        have hc9 := h19.cell 0
        simp only [List.set_cons_zero, List.getElem?_cons_zero] at hc9
        have hm9 : Hid (m7 + 1 + m6 = (q ++ encP (Spot.piece (l := l) ⟨fr, ln, false, pos, fits⟩)).length) := by rw [Hid, hm7.out, hm6.out, hencl.out]; simp; omega
        obtain ⟨B9, d9, rfl⟩ := own_form hown9
        have hkE : Keep [W.heap.size] w9 (w9.setCell ⟨W.heap.size, 0, none⟩ (.slice B9 (m7 + 1 + m6) d9)) := (Keep.refl _ _).setCell (by simp) _
        have hkAll : Keep [W.heap.size] W' (w9.setCell ⟨W.heap.size, 0, none⟩ (.slice B9 (m7 + 1 + m6) d9)) :=
          ((hk18.nil.trans hkS).after hk9 (fun g hg => .inr (by have := (hoc9 g hg).1; omega))).trans hkE
        have hown10 : Hid ((w9.setCell ⟨W.heap.size, 0, none⟩ (.slice B9 (m7 + 1 + m6) d9)).ownsRow W2.heap.size 5 1 (.slice B9 (m7 + 1 + m6) d9) (m7 + 1 + m6) ((q ++ encP (Spot.piece (l := l) ⟨fr, ln, false, pos, fits⟩)).map vU8)) := by
          rw [Hid, hencl.out]
          have := own_keep (own_lower hown9 (show W2.heap.size ≤ w4.heap.size by omega)) hkE (by simp; omega)
          simpa [List.map_append] using this
        have h20 := h19.set_ 0 (.slice B9 (m7 + 1 + m6) d9)
        simp only [List.set_cons_zero] at h20
        clear hown9 hgr hown8' hown8 hpk8 hown7
        rw [hm9.out] at hown10 h20 hkAll
        gi_wp2
        rw [hm9.out]
        exact ⟨keepsFrom_of_keep hkAll (by simp; omega), KpB.keep hkAll (by simp) (by omega) (by omega), _, _, h20, hown10.out, hh0, h3.trans hkAll⟩
    case done =>
      rintro D xs W' hD hxs ⟨v, q, h1, h2, h0, h3⟩ hK
      have hc1 := h1.cell 0
      simp only [List.getElem?_cons_zero] at hc1
      obtain ⟨B0, d0, rfl⟩ := own_form h2
      gi_wp2
      refine ⟨by simp, .inl ⟨_, _, rfl, run_takeDeferred hK, ?_⟩⟩
      have hkD : Keep [D] W' (W'.putObj D (.deferred none)) := keep_of_grown (grownBy_putObj' W' D _)
      refine ⟨_, results_tmp2 rfl _ _ _, B0, _, d0, rfl, hk2.after (h3.after hkD (by simp; omega)) (by simp), ?_⟩
      have h4 := ownsRow_putObj h2 (.deferred none) hK rfl
      have h5 := own_lower h4 (by omega : W.heap.size ≤ W2.heap.size)
      have h6 : Hid (enc l = q) := by rw [Hid, he.out, h0.out, hxs]
      rw [h6.out]
      exact h5
    case stop =>
      rintro D cc pre W' _ _ h _
      exact h.elim
end Go.Proofs.Ytphgfhghbpndaaa
