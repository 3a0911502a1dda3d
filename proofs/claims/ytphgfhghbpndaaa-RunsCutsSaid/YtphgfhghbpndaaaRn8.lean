/-
  The walk of layer 10's Cut, the program's.
-/
import Derived.Test.YtphgfhghbpndaaaRn7
namespace Go.Proofs.Ytphgfhghbpndaaa
open Go Go.RowKit Go.Shelf
set_option linter.unusedVariables false
set_option linter.unusedSimpArgs false
attribute [local go_sem] Oper.semAt_some

theorem Spot.piece_len {l : List UInt64} (s : Spot l.length) : s.piece.1.length = s.len := by
  have := s.fits
  simp [Spot.piece]
  omega
theorem sizes_spots {l : List UInt64} (xs : List (Spot l.length)) : sizes (xs.map Spot.piece) = xs.map fun s => (s.len : Int) := by
  rw [sizes, List.map_map]
  refine List.map_congr_left fun s _ => ?_
  simp [s.piece_len]

set_option maxRecDepth 100000 in
set_option maxHeartbeats 4000000 in
theorem cut_prog {X : List Nat} {A : Option Addr} {n c : Nat} {l : List UInt64} (W : World) (h : U64s X W A n c l) (hroom : n ≤ 1000000) :
    Calls Try.prog 13 #[.slice A n c] W fun e W' => ∃ B k d, e = .returned (.slice B k d) ∧ Keep [] W W' ∧ W'.ownsRow W.heap.size 3 1 (.slice B k d) k ((sizes (cutP l)).map vInt) := by
  have hc := h.cap
  have hnc := h.le
  obtain rfl := h.len1
  refine (callsIn_wide (n := 8)).1 ?_
  refine callsIn_of_wp_marks Try.func13 rfl trivial ?_ rfl
  simp only [Try.ntmps13, List.size_toArray, List.length_cons, List.length_nil, Nat.reduceAdd, Nat.reduceSub, Array.replicate_succ, Array.replicate_zero, List.push_toArray, List.append_toArray, List.nil_append, List.cons_append]
  gi_wp2
  refine ⟨trivial, (callsIn_wide.2 (pieces_prog A l.length c _)).mono ?_⟩
  rintro e w1 ⟨rfl, rfl⟩
  gi_wp2
  obtain ⟨W2, hW2⟩ : ∃ W2, (W.alloc (.cells #[.slice none 0 0] 27)).alloc (.cells #[.slice A l.length c] 22) = W2 := ⟨_, rfl⟩
  have hk2 : Keep [] W W2 := by rw [← hW2]; exact ((Keep.refl _ _).alloc _).alloc _
  have hsz : W2.heap.size = W.heap.size + 2 := by rw [← hW2]; simp
  have hout : Blk W2 W.heap.size 27 [.slice none 0 0] := by rw [← hW2]; exact (Blk.new W _ _).alloc _
  have hbox : Blk W2 (W.heap.size + 1) 22 [.slice A l.length c] := by
    rw [← hW2]
    have := Blk.new (W.alloc (.cells #[.slice none 0 0] 27)) 22 [.slice A l.length c]
    rwa [World.size_alloc] at this
  have hl2 := h.pure hk2
  obtain ⟨b, off, hA, hseq⟩ := pieces_seq 7 (by omega) (W.heap.size + 1) W.heap.size c A l W2 (hbox.cell 0) (hl2.weaken (Y := []) (by simp)) (fun b off e h0 => by
    subst e
    obtain ⟨b', off', e, hlt, _, _⟩ := h.2.2.2.1 (List.length_pos_iff.2 h0)
    cases e
    exact hlt) (by omega) (by omega)
  rw [hW2]
  obtain ⟨i0, hi, hz0, hz1, hz2⟩ := info_parts Try.infoInt
  refine wpIn_rangeFunc_ownH rfl (by omega) (gf := 40) (lb := #[.pointer (some ⟨W.heap.size + 1, 0, none⟩)]) rfl trivial (enters_of Try.func40 (by kernel_rfl) rfl)
    hseq KpB.t (KpB.b (by omega) (by omega)) (Below.refl _ _) (fun _ => rfl)
    (fun pre W' => ∃ v, Blk W' W.heap.size 27 [v] ∧ W'.ownsRow W2.heap.size 3 1 v pre.length ((pre.map fun s => (s.len : Int)).map vInt) ∧ Keep [W.heap.size] W2 W')
    (fun _ _ _ => False)
    (fun s A B row hs hg hr => by
      obtain ⟨v, h1, h2, h3⟩ := hs
      exact ⟨v, blk_abides h1 hg (fun r e => (hr r e).2), own_abides h2 hg (fun r e => (hr r e).2), h3.grown hg (fun k e => .inr (hr k e).1)⟩)
    (fun _ _ _ _ _ hs _ _ => hs)
    ⟨_, hout, World.ownsRow_nil _ _ _ _, Keep.refl _ _⟩
    (fun x a' W' => ∃ Bx, W2.heap.size ≤ Bx ∧ Blk W' Bx 40 [.slice (some ⟨b, off + x.from_, none⟩) x.len (c - x.from_), .bool x.run] ∧
      a' = { tmps := #[.slice A l.length c, undef, .slice none 0 0, .pointer (some ⟨W.heap.size, 0, none⟩), .pointer (some ⟨Bx, 0, none⟩), .slice A l.length c, .func (.func 40) #[] #[.pointer (some ⟨W.heap.size + 1, 0, none⟩)], .agg #[.slice (some ⟨b, off + x.from_, none⟩) x.len (c - x.from_), .bool x.run], undef, undef, undef, undef, undef, undef, undef], defers := [] })
    (fun x a' _ X Y row hs hg hr => by obtain ⟨Bx, h1, h2, h3⟩ := hs; exact ⟨Bx, h1, blk_abides h2 hg (fun r e => (hr r e).2), h3⟩)
    ?assign ?body ?done ?stop
  case assign =>
    rintro y pre x W' K ⟨v, h1, h2, h3⟩ hK
    have hw' := h3.size
    simp only [Spot.val]
    gi_wp2
    have hka : Keep [] W' (W'.alloc (.cells #[.slice (some ⟨b, off + x.from_, none⟩) x.len (c - x.from_), .bool x.run] 40)) := (Keep.refl _ _).alloc _
    exact hK _ _ ((KeepsOthers.alloc _ _).from _) (KpB.keep hka (by simp) (by omega) (by omega)) ⟨v, h1.alloc _, h2.alloc _, h3.trans hka.nil⟩ ⟨W'.heap.size, hw', Blk.new W' _ [.slice (some ⟨b, off + x.from_, none⟩) x.len (c - x.from_), .bool x.run], rfl⟩
  case body =>
    rintro y pre x a' W' hy ⟨r, hr⟩ ⟨v, h1, h2, h3⟩ ⟨Bx, hBx, bX, rfl⟩ hlt
    have hw' := h3.size
    have hc1 := h1.cell 0
    have hf1 := h1.frozen 0
    have hcx0 := bX.cell 0
    have hcx1 := bX.cell 1
    simp only [List.getElem?_cons_zero, List.getElem?_cons_succ] at hc1 hcx0 hcx1
    obtain ⟨B0, d0, rfl⟩ := own_form h2
    have hxl := x.fits
    have hbk : Ints [] (W'.alloc (.cells #[.int .i64 (x.len : Int)] 3)) (some ⟨W'.heap.size, 0, none⟩) 1 1 [(x.len : Int)] := (Blk.new W' 3 [vInt (x.len : Int)]).rd (by simp) rfl (by omega) (by simp [maxLen]) rfl
    gi_wp2_with (gi_at_builtin; refine wpListIn_append_rd rfl _ _ 27 rfl W2.heap.size 3 i0 (.int .i64 0) 1 8 Try.underlying27 hi hz0 hz1 hz2 rfl (by omega) _ pre.length _ rfl (h2.alloc (.cells #[.int .i64 (x.len : Int)] 3)) rfl hbk (vInt_one [(x.len : Int)]) (by unfold maxLen; omega) (by omega) (by simp; omega) ?_)
    intro v' w1 hown' hgr
    have hkA : Keep [] W' (W'.alloc (.cells #[.int .i64 (x.len : Int)] 3)) := (Keep.refl _ _).alloc _
    have hk1 := hkA.cat (keep_of_grown hgr)
    rw [List.nil_append] at hk1
    have hoc := own_cells h2
    have h1' : Blk w1 W.heap.size 27 [.slice B0 pre.length d0] := h1.keep hk1 (fun hm => by have := (hoc _ hm).1; omega)
    have hf1' := h1'.frozen 0
    have hc1' := h1'.cell 0
    simp only [List.getElem?_cons_zero] at hc1'
    have hk2' : Keep [W.heap.size] w1 (w1.setCell ⟨W.heap.size, 0, none⟩ v') := (Keep.refl _ _).setCell (by simp) _
    have hk3 := hk1.cat hk2'
    have hsz1 := hk1.size
    clear hgr
    obtain ⟨B1, d1, rfl⟩ := own_form hown'
    gi_wp2
    refine ⟨keepsFrom_of_keep hk3 (fun g hg => ?_), KpB.keep hk3 (fun g hg => ?_) (by omega) (by omega), _, h1'.set_ 0 _, ?_, ?_⟩
    · rcases List.mem_append.1 hg with hg | hg
      · exact .inr (hoc g hg).2
      · simp at hg; omega
    · rcases List.mem_append.1 hg with hg | hg
      · have := (hoc g hg).1; omega
      · simp at hg; omega
    · have := own_keep hown' hk2' (by simp [hsz])
      rw [hsz]
      simpa [vInt, hsz] using this
    · exact h3.after hk3 (fun g hg => by
        rcases List.mem_append.1 hg with hg | hg
        · exact .inr (hoc g hg).1
        · exact .inl hg)
  case done =>
    rintro D xs W' hD hxs ⟨v, h1, h2, h3⟩ hK
    have hc1 := h1.cell 0
    simp only [List.getElem?_cons_zero] at hc1
    obtain ⟨B0, d0, rfl⟩ := own_form h2
    gi_wp2
    refine ⟨by simp, .inl ⟨_, _, rfl, run_takeDeferred hK, ?_⟩⟩
    have hkD : Keep [D] W' (W'.putObj D (.deferred none)) := keep_of_grown (grownBy_putObj' W' D _)
    refine ⟨_, results_tmp rfl _ _ _, B0, _, d0, rfl, hk2.after (h3.after hkD (by simp; omega)) (by simp), ?_⟩
    have h4 := ownsRow_putObj h2 (.deferred none) hK rfl
    have h5 := own_lower h4 (by omega : W.heap.size ≤ W2.heap.size)
    rw [← hxs, sizes_spots]
    exact h5
  case stop =>
    rintro D cc pre W' _ _ h _
    exact h.elim
end Go.Proofs.Ytphgfhghbpndaaa
