/-
  The walks of layer 11's functions: the unlike cells, and the places.
  Slices of bytes, one behind the other.
  The walks of layer 11's functions: Encode.
  The walks of layer 11's functions: read.
  The walks of layer 11's functions: Decode.
-/
import Derived.Test.YtejbfknhnhhlfaaFDd
import Derived.Test.YtejbfknhnhhlfaaFO
import Derived.Test.YtejbfknhnhhlfaaFPlb
import Derived.Test.YtejbfknhnhhlfaaFCu
import Derived.Test.YtejbfknhnhhlfaaFRb
import Derived.Test.YtejbfknhnhhlfaaFRc
namespace Go.Proofs.Ytejbfknhnhhlfaa
open Go Go.RowKit Go.Maps
set_option maxRecDepth 10000
set_option linter.unusedVariables false
set_option linter.unusedSimpArgs false

theorem zeroU64 (w : World) : (zeroValue 60).run Try.prog w = .ok (.int .u64 0) w := by kernel_rfl

theorem grown_of_keep {w w' : World} {row : Option Nat} (h : Keep row.toList w w') : w.grownBy w' row :=
  ⟨h.os, h.tape, h.output, h.size, fun k hk hne => h.block k hk (fun hm => hne (by cases row <;> simp_all))⟩
theorem cellAtB {w : World} {p : Nat} {t : TypeId} {c : Cell} (h : Blk w p t c.cs) : w.cell? ⟨p, 0, none⟩ = some (.bool c.null) ∧ w.cell? ⟨p, 1, none⟩ = some (.int .i64 c.int.toInt) ∧ w.cell? ⟨p, 2, none⟩ = some (.string c.text) ∧ w.cell? ⟨p, 3, none⟩ = some (.int .i64 c.x.toInt) ∧ w.cell? ⟨p, 4, none⟩ = some (.int .i64 c.y.toInt) :=
  ⟨h.cell 0, h.cell 1, h.cell 2, h.cell 3, h.cell 4⟩
theorem wf_u64 {n : Nat} (h : n < 18446744073709551616) : (Lit.int .u64 (n : Int)).wf = true := by
  simp [Lit.wf, IntKind.min, IntKind.max, IntKind.signed, IntKind.bits]
  omega

set_option maxHeartbeats 4000000 in
theorem entries_prog {X : List Nat} {A : Option Addr} {n c : Nat} {l : List Cell} (W : World) (h : Cells X W A n c l) (hroom : n ≤ 1000000) (ht : ∀ x ∈ l, x.text.size ≤ maxLen) :
    Calls Try.prog 35 #[.slice A n c] W fun e W' => ∃ B k d B2 d2, e = .returned (.tuple #[.slice B k d, .slice B2 n d2]) ∧ Keep [] W W' ∧
      W'.ownsRow W.heap.size 29 5 (.slice B k d) k ((entL l).1.flatMap Cell.cs) ∧ W'.ownsRow W.heap.size 60 1 (.slice B2 n d2) n ((entU l).map vU64) := by
  have hc := h.cap
  have hnc := h.le
  obtain rfl := h.len
  obtain ⟨i0, hi, hz0, hz1, hz2⟩ := info_parts Try.infoCell'
  obtain ⟨j0, gi, gz0, gz1, gz2⟩ := info_parts Try.infoU64
  have hmm := @run_makeMap Try.prog
  replace ht := Lib.hid ht
  go_enter Try.func35, Try.ntmps35
  go_wp2
  go_loopw [5, 6, 14] (fun s a i wr => ∃ (k : Nat) (D : DataW Unit), k ≤ l.length ∧ i = .int .i64 k ∧ wr.ownsRow (W.heap.size + 1) 29 5 s (entL (l.take k)).1.length ((entL (l.take k)).1.flatMap Cell.cs) ∧
      wr.ownsRow (W.heap.size + 1) 60 1 a k ((entU (l.take k)).map vU64) ∧ wr.ownsMap Try.prog 29 (plainElem Try.prog 60) W.heap.size k D ∧ MapIs D (entL (l.take k)).1 ∧ Keep [] W wr) (fun _ _ i _ => l.length - (intOf i).toNat)
  case atStart => exact ⟨0, .map [], Nat.zero_le _, rfl, World.ownsRow_nil _ _ _ _, World.ownsRow_nil _ _ _ _, World.ownsMap_made _ _ _ _, mapIs_empty, (Keep.refl _ _).alloc _⟩
  case round =>
    obtain ⟨k, D, hk, rfl, hs, ha, hm, hD, hkr⟩ := hrel
    obtain ⟨B3, d3, rfl⟩ := own_form hs
    obtain ⟨B4, d4, rfl⟩ := own_form ha
    by_cases hlt : k < l.length
    · obtain ⟨b, off, rfl, _, _, c0, c1, c2, c3, c4⟩ := Cells.at5 (h.pure hkr) hlt
      have hS1 : Hid ((entL (l.take (k + 1))).1 = if l[k] ∈ (entL (l.take k)).1 then (entL (l.take k)).1 else (entL (l.take k)).1 ++ [l[k]]) := by rw [Hid, entL_snoc l k hlt]; rfl
      have hU1 : Hid (entU (l.take (k + 1)) = entU (l.take k) ++ [UInt64.ofNat ((entL (l.take k)).1.idxOf l[k])]) := by
        unfold Hid entU
        rw [entL_snoc l k hlt]
        simp [entStep]
      have hSl : (entL (l.take k)).1.length ≤ k := by
        have e1 := (entOk l k (by omega)).le
        have e2 : (l.take k).length ≤ k := List.length_take_le _ _
        omega
      have hil : (entL (l.take k)).1.idxOf l[k] ≤ (entL (l.take k)).1.length := List.idxOf_le_length
      obtain ⟨kl, hkey⟩ := cell_key l[k] (ht.out _ (List.getElem_mem hlt))
      obtain ⟨hh, hat⟩ := hD.2 l[k] kl hkey
      generalize (entL (l.take k)).1 = S at *
      generalize entU (l.take k) = U at *
      generalize l[k] = x at *
      generalize hidx : S.idxOf x = ix at *
      have hix : Hid ((UInt64.ofNat ix).toNat = ix) := by unfold Hid; rw [UInt64.toNat_ofNat']; omega
      have i0' : (0 : Int) ≤ (k : Int) := by omega
      have i1' : (k : Int) < (l.length : Int) := by omega
      replace hidx := Lib.hid hidx
      have hsz := hkr.size
      have hka := (Keep.refl [] wr).alloc (.cells #[.bool x.null, .int .i64 x.int.toInt, .string x.text, .int .i64 x.x.toInt, .int .i64 x.y.toInt] 29)
      have hbx : Blk (wr.alloc (.cells #[.bool x.null, .int .i64 x.int.toInt, .string x.text, .int .i64 x.x.toInt, .int .i64 x.y.toInt] 29)) wr.heap.size 29 x.cs := Blk.new wr 29 x.cs
      have hsA := hs.alloc (.cells #[.bool x.null, .int .i64 x.int.toInt, .string x.text, .int .i64 x.x.toInt, .int .i64 x.y.toInt] 29)
      have haA := ha.alloc (.cells #[.bool x.null, .int .i64 x.int.toInt, .string x.text, .int .i64 x.x.toInt, .int .i64 x.y.toInt] 29)
      have hmA := hm.alloc (.cells #[.bool x.null, .int .i64 x.int.toInt, .string x.text, .int .i64 x.x.toInt, .int .i64 x.y.toInt] 29)
      have hgA := World.grownBy_alloc wr (.cells #[.bool x.null, .int .i64 x.int.toInt, .string x.text, .int .i64 x.x.toInt, .int .i64 x.y.toInt] 29) none
      by_cases hx : x ∈ S
      · rw [decide_eq_true hx] at hh
        have hatx := Lib.hid (hat hx)
        rw [if_pos hx] at hS1
        clear hat hx
        replace hD := Lib.hid hD
        go_wp2_with (at_lookup; refine wpList_lookup_own_ok_int _ rfl _ _ 80 rfl 29 60 .u64 cellKeyed Try.underlying80 Try.underlying60 (zeroU64 _) W.heap.size k D rfl hmA _ kl rfl hkey ?_)
        intro z hz hwz
        obtain rfl : z = (ix : Int) := by
          rw [hatx.out] at hz
          injection hz with hz
          injection hz with _ hz
          exact hz.symm
        clear hz hwz
        obtain ⟨WA, hWA⟩ : ∃ WA, wr.alloc (.cells #[.bool x.null, .int .i64 x.int.toInt, .string x.text, .int .i64 x.x.toInt, .int .i64 x.y.toInt] 29) = WA := ⟨_, rfl⟩
        rw [hWA] at hka hbx hsA haA hmA hgA ⊢
        clear hWA c0 c1 c2 c3 c4
        have hszA := hka.size
        have hck : U64s [] (WA.alloc (.cells #[.int .u64 (ix : Nat)] 60)) (some ⟨WA.heap.size, 0, none⟩) 1 1 [UInt64.ofNat ix] :=
          (Blk.new WA 60 [.int .u64 (ix : Nat)]).rd (by simp) rfl (by omega) (by simp [maxLen]) (by simp only [List.map_cons, List.map_nil, vU64, hix.out]; rfl)
        go_wp2_with (at_builtin; refine wpList_append_rd rfl _ _ 57 rfl (W.heap.size + 1) 60 j0 (.int .u64 0) 1 8 Try.underlying57 gi gz0 gz1 gz2 rfl (by omega) (.slice B4 k d4) k _ rfl (haA.alloc _) rfl hck (vU64_one _) (by unfold maxLen; omega) (by omega) (by simp; omega) ?_)
        intro v' w4 ha4 hgr
        have hg14 := (World.grownBy_alloc WA (.cells #[.int .u64 (ix : Nat)] 60) none)
        have hs4 := (hsA.alloc (.cells #[.int .u64 (ix : Nat)] 60)).kept hgr (own_apart hsA haA (by decide))
        have hm4 := (hmA.alloc (.cells #[.int .u64 (ix : Nat)] 60)).kept hgr (fun e => by have := own_ge haA _ e.symm; omega)
        have hk4 : Keep [] W w4 := ((hkr.trans hka).alloc _).grown hgr (fun g hg => .inr (by have := own_ge haA g hg; omega))
        go_wp2
        go_roundw
        case rel =>
          refine ⟨k + 1, D, by omega, by go_num, ?_, ?_, hm4.mono (by omega), ?_, hk4⟩
          · rw [hS1.out]; exact hs4
          · rw [hU1.out, List.map_append]; exact ha4
          · rw [hS1.out]; exact hD.out
        case measure => simp [intOf]; omega
      · rw [decide_eq_false hx] at hh
        rw [if_neg hx] at hS1
        have hixl : ix = S.length := by rw [← hidx.out]; exact List.idxOf_eq_length hx
        have hput := mapIs_put hD x hx hkey
        clear hat
        go_wp2_with (at_lookup; refine wpList_lookup_own_ok_int _ rfl _ _ 80 rfl 29 60 .u64 cellKeyed Try.underlying80 Try.underlying60 (zeroU64 _) W.heap.size k D rfl hmA _ kl rfl hkey ?_)
        intro z hz hwz
        clear hz hwz
        obtain ⟨WA, hWA⟩ : ∃ WA, wr.alloc (.cells #[.bool x.null, .int .i64 x.int.toInt, .string x.text, .int .i64 x.x.toInt, .int .i64 x.y.toInt] 29) = WA := ⟨_, rfl⟩
        rw [hWA] at hka hbx hsA haA hmA hgA ⊢
        clear hWA c0 c1 c2 c3 c4
        have hszA := hka.size
        have hmlt := hm.lt
        have hwS : IntKind.u64.wrap (S.length : Int) = S.length := IntWalk.u64_in _ (by omega)
        have hbs : ∀ b ∈ (Value.slice B3 S.length d3).ownBlock.toList, W.heap.size + 1 ≤ b ∧ b < wr.heap.size := fun b hb => hs.lt b (by simpa using hb)
        subst hixl
        go_wp2_with fail
        refine wp_region_ords2 7 (Value.slice B3 S.length d3).ownBlock.toList (fun c w => c = 0 → w.ownsRow (W.heap.size + 1) 29 5 (.slice B3 S.length d3) S.length (S.flatMap Cell.cs)) [false, false, false, false, false, false, true]
          (.val (.map (some W.heap.size)) :: .val (cellVal x) :: .val (.int .u64 (S.length : Nat)) :: .val (.slice B3 S.length d3) :: .val (cellVal x) :: .spec (SlTo WA.heap.size 29 1 1 x.cs) ::
            .mutS (fun _ v w => w.ownsRow (W.heap.size + 1) 29 5 v (S.length + 1) (S.flatMap Cell.cs ++ x.cs)) :: []) (by kernel_rfl) rfl rfl (by kernel_rfl) ?_ (fun c w w' hC hk hc => own_keep (hC hc) hk (by simp)) (fun _ => hsA.drew) ?_
        · intro q t ht
          rcases q with _ | _ | _ | _ | _ | _ | _ | q
          · cases ht; exact trivial
          · cases ht; exact trivial
          · cases ht; exact trivial
          · cases ht; exact trivial
          · cases ht; exact trivial
          · cases ht; exact SlTo.lasts (fun b hb => by have := (hbs b hb).2; omega)
          · cases ht
            exact fun ds v w w' h1 hk => own_keep h1 hk (fun b hb => by change b ∈ [] at hb; cases hb)
          · simp at ht
        simp only [List.take_succ_cons, List.take_zero, List.drop_succ_cons, List.drop_zero]
        repeat ((first | (refine obls_cons (obl_skip (fun vals => by rfl) ?_) ?_; (exact rfl)) | (refine obls_cons (obl_val (fun vals => by rfl) (fun vals w hw hd => ?_)) ?_; (obtain ⟨c0, c1, c2, c3, c4⟩ := cellAtB (hbx.keep hw (fun hm => by have := (hbs _ hm).2; omega)); go_simp; exact rfl))); simp only [Slot.put, Slot.chain, Bool.false_eq_true, if_false, if_true, Nat.add_zero, Nat.zero_add, Nat.reduceAdd, Act.put, List.setIfInBounds_toArray, List.set_cons_succ, List.set_cons_zero])
        refine obls_cons (obl_make (v := fun _ w => .slice (some ⟨w.heap.size, 0, none⟩) 1 1) (w' := fun _ w => w.alloc (.cells (Cell.cs x).toArray 29)) (fun vals => by rfl) (fun vals w hw hd => ?_) (fun vals w hw => slTo_new hw.size)) ?_
        · go_simp; exact rfl
        simp only [Slot.put, Slot.chain, Bool.false_eq_true, if_false, if_true, Nat.add_zero, Nat.zero_add, Nat.reduceAdd, Act.put, List.setIfInBounds_toArray, List.set_cons_succ, List.set_cons_zero]
        refine obls_cons (obl_append (.tmp 32) (.tmp 34) 22 rfl (fun vals => by rfl) (W.heap.size + 1) 29 i0 (cellVal Cell.zero) 5 48 Try.underlying22 hi hz0 hz1 hz2 rfl (by omega) (.slice B3 S.length d3) S.length _ (fun vals => by rfl) (fun b hb => by simpa using hb) (fun w hC => hC rfl) (fun w (h : 0 + 1 = 0) => absurd h (by decide))
          (fun vals w hw hd => by
            obtain ⟨p, e1, e2, e3⟩ := hd 5 (by decide) _ rfl
            exact ⟨some ⟨p, 0, none⟩, 1, e1, e3.rd (X := []) (by simp) rfl (by omega) (by simp [maxLen]) rfl⟩) (by intro u hu; simp [Cell.cs] at hu; rcases hu with rfl | rfl | rfl | rfl | rfl <;> rfl) (by unfold maxLen; omega) (by omega) (by omega)) ?_
        simp only [Slot.put, Slot.chain, Bool.false_eq_true, if_false, if_true, Nat.add_zero, Nat.zero_add, Nat.reduceAdd, Act.put, List.setIfInBounds_toArray, List.set_cons_succ, List.set_cons_zero]
        refine obls_nil (fun vals w hw _ hd => ?_)
        have hs6 := hd 6 _ rfl
        replace hs6 : w.ownsRow (W.heap.size + 1) 29 5 (vals 6) (S.length + 1) (S.flatMap Cell.cs ++ x.cs) := hs6
        generalize vals 6 = v6 at *
        generalize vals 5 = v5 at *
        clear hd
        have hgw := grown_of_keep hw
        have hmw := hmA.kept hgw (fun e => by have := own_ge hs _ e.symm; omega)
        have haw := haA.kept hgw (own_apart haA hsA (by decide))
        have hkw : Keep [] W w := ((hkr.trans hka).cat hw).mono (fun b hb => .inr (by have := (hbs b (by simpa using hb)).1; omega))
        have hval : plainElem (H := Unit) Try.prog 60 (.int .u64 (S.length : Nat)) = some (.lit (.int .u64 (S.length : Nat)), []) := by
          unfold plainElem
          rw [Try.underlying60]
          simp [wf_u64 (show S.length < 18446744073709551616 by omega)]
        clear hw hgw hmA hsA haA hbx hka
        at_mapUpdate
        refine wpList_mapUpdate_own _ rfl _ _ _ 80 rfl 29 60 cellKeyed Try.underlying80 _ W.heap.size k D rfl hmw (by unfold maxLen; omega) _ _ kl rfl rfl hkey _ [] hval ?_
        intro WB hmB hgB
        have hsB := own_keep hs6 (keep_of_grown hgB) (by simp)
        have haB := own_keep haw (keep_of_grown hgB) (by simp)
        have hkB : Keep [] W WB := hkw.grown hgB (fun g hg => .inr (by simp at hg; omega))
        have hszB := hkB.size
        clear hmw haw hs6 hkw hgB
        have hck : U64s [] (WB.alloc (.cells #[.int .u64 (S.length : Nat)] 60)) (some ⟨WB.heap.size, 0, none⟩) 1 1 [UInt64.ofNat S.length] :=
          (Blk.new WB 60 [.int .u64 (S.length : Nat)]).rd (by simp) rfl (by omega) (by simp [maxLen]) (by simp only [List.map_cons, List.map_nil, vU64, hix.out]; rfl)
        simp only [Act.put]
        go_wp2_with (at_builtin; refine wpList_append_rd rfl _ _ 57 rfl (W.heap.size + 1) 60 j0 (.int .u64 0) 1 8 Try.underlying57 gi gz0 gz1 gz2 rfl (by omega) (.slice B4 k d4) k _ rfl (haB.alloc _) rfl hck (vU64_one _) (by unfold maxLen; omega) (by omega) (by simp; omega) ?_)
        intro v' w4 ha4 hgr
        have hg14 := (World.grownBy_alloc WB (.cells #[.int .u64 (S.length : Nat)] 60) none)
        have hs4 := (hsB.alloc (.cells #[.int .u64 (S.length : Nat)] 60)).kept hgr (own_apart hsB haB (by decide))
        have hm4 := (hmB.alloc (.cells #[.int .u64 (S.length : Nat)] 60)).kept hgr (fun e => by have := own_ge haB _ e.symm; omega)
        have hk4 : Keep [] W w4 := (hkB.alloc _).grown hgr (fun g hg => .inr (by have := own_ge haB g hg; omega))
        go_wp2
        go_roundw
        case rel =>
          refine ⟨k + 1, _, by omega, by go_num, ?_, ?_, hm4, ?_, hk4⟩
          · rw [hS1.out]; simpa [List.flatMap_append] using hs4
          · rw [hU1.out, List.map_append]; exact ha4
          · rw [hS1.out]; exact hput
        case measure => simp [intOf]; omega
    · have hkl : k = l.length := by omega
      subst hkl
      rw [List.take_length] at hs ha hD
      have i1' : ¬ ((l.length : Int) < (l.length : Int)) := by omega
      have hs1 := own_lower hs (Nat.le_succ W.heap.size)
      have ha1 := own_lower ha (Nat.le_succ W.heap.size)
      go_wp2
      go_ret2
      exact ⟨_, _, _, _, _, rfl, hkr, hs1, ha1⟩
end Go.Proofs.Ytejbfknhnhhlfaa

namespace Go.Proofs.Ytejbfknhnhhlfaa
open Go Go.RowKit
set_option maxRecDepth 10000
set_option linter.unusedVariables false
set_option linter.unusedSimpArgs false

/-- Slices of bytes that are read. -/
def Many (w : World) (vs : List Value) (bs : List (List UInt8)) : Prop := vs.length = bs.length ∧ ∀ i (h : i < vs.length) (h' : i < bs.length), ∃ A c, vs[i] = .slice A bs[i].length c ∧ Bys [] w A bs[i].length c bs[i]
theorem Many.pure {w w' : World} {vs : List Value} {bs : List (List UInt8)} (h : Many w vs bs) (hk : Keep [] w w') : Many w' vs bs :=
  ⟨h.1, fun i h1 h2 => by obtain ⟨A, c, e, hr⟩ := h.2 i h1 h2; exact ⟨A, c, e, hr.pure hk⟩⟩
def catLen (bs : List (List UInt8)) (k : Nat) : Nat := ((bs.take k).flatten).length
theorem catLen_succ (bs : List (List UInt8)) (k : Nat) (hk : k < bs.length) : catLen bs (k + 1) = catLen bs k + bs[k].length := by
  unfold catLen
  rw [List.take_succ_eq_append_getElem hk, List.flatten_append, List.length_append]
  simp [List.flatten]
theorem catLen_le (bs : List (List UInt8)) (k : Nat) : catLen bs k ≤ bs.flatten.length := by
  unfold catLen
  conv => rhs; rw [← List.take_append_drop k bs]
  simp only [List.flatten_append, List.length_append]
  omega

set_option maxHeartbeats 2000000 in
theorem concat_prog {X : List Nat} {A : Option Addr} {c : Nat} {vs : List Value} {bs : List (List UInt8)} (W : World) (h : Rd X W 1 A vs.length c vs) (hm : Many W vs bs) (hroom : bs.flatten.length ≤ 10000000000000) (hn : vs.length ≤ 1000000) :
    Calls Try.prog 58 #[.slice A vs.length c] W fun e W' => ∃ B k d, e = .returned (.slice B k d) ∧ Keep [] W W' ∧ W'.ownsRow W.heap.size 5 1 (.slice B k d) k (bs.flatten.map vU8) := by
  have hc := h.cap
  have hnc := h.le
  have hlen := Lib.hid hm.1
  obtain ⟨i0, hi, hz0, hz1, hz2⟩ := info_parts Try.infoU8
  have hcell : ∀ k (hk : k < vs.length), ∃ b off, A = some ⟨b, off, none⟩ ∧ ∀ w, Keep [] W w → w.cell? ⟨b, off + k, none⟩ = some vs[k] := fun k hk => by
    obtain ⟨b, off, e, _, _, _⟩ := h.2.2.2.1 (by omega)
    refine ⟨b, off, e, fun w hw => ?_⟩
    obtain ⟨b', off', e', _, _, hcc⟩ := (h.pure hw).2.2.2.1 (by omega)
    rw [e] at e'
    cases e'
    exact hcc k vs[k] (List.getElem?_eq_getElem hk)
  replace hcell := Lib.hid hcell
  obtain ⟨N, hN⟩ : ∃ N, Hid (bs.flatten.length = N) := ⟨_, rfl⟩
  rw [hN.out] at hroom
  go_enter Try.func58, Try.ntmps58
  go_wp2
  go_loopw [3, 11] (fun s i wr => ∃ k : Nat, k ≤ vs.length ∧ i = .int .i64 k ∧ s = .int .i64 (catLen bs k) ∧ Keep [] W wr) (fun _ i _ => vs.length - (intOf i).toNat)
  case atStart => exact ⟨0, Nat.zero_le _, rfl, by simp [catLen], Keep.refl _ _⟩
  case round =>
    obtain ⟨k, hk, rfl, rfl, hkr⟩ := hrel
    have hle := catLen_le bs k
    rw [hN.out] at hle
    by_cases hlt : k < vs.length
    · obtain ⟨b, off, rfl, hcl⟩ := hcell.out k hlt
      obtain ⟨A', c', hv, hr'⟩ := hm.2 k hlt (by have := hlen.out; omega)
      have hce := hcl _ hkr
      rw [hv] at hce
      have hsucc := Lib.hid (catLen_succ bs k (by have := hlen.out; omega))
      have hle2 := catLen_le bs (k + 1)
      rw [hsucc.out, hN.out] at hle2
      have hc' := hr'.cap
      have hn' := hr'.le
      generalize catLen bs k = z at *
      generalize hzl : bs[k].length = y at *
      replace hv := Lib.hid hv
      replace hzl := Lib.hid hzl
      have i0' : (0 : Int) ≤ (k : Int) := by omega
      have i1' : (k : Int) < (vs.length : Int) := by omega
      clear hcl
      go_wp2
      go_roundw
      case rel => exact ⟨k + 1, by omega, by go_num, by rw [hsucc.out]; go_num, hkr⟩
      case measure => simp [intOf]; omega
    · obtain rfl : k = vs.length := by omega
      have hcl0 : catLen bs vs.length = N := by unfold catLen; rw [hlen.out, List.take_length]; exact hN.out
      rw [hcl0]
      have G := Lib.hid (grow_bytes (base := W.heap.size) (n := 0) (c := 0) (B := none) (l := []) N wr (World.ownsRow_nil wr W.heap.size 5 1) (by omega) (by omega) hkr.size)
      replace hcl0 := Lib.hid hcl0
      go_wp2_with fail
      refine G.out.mono ?_
      rintro e w2 ⟨B2, d2, rfl, hk2, hown2⟩
      have hk12 := hkr.trans hk2
      clear G hlt hle hk
      obtain ⟨W2, hW2⟩ : ∃ W2, W2 = w2 := ⟨_, rfl⟩
      subst hW2
      go_wp2
      go_loopw [6, 27] (fun s i wr => ∃ (k : Nat) (q : List UInt8), k ≤ vs.length ∧ i = .int .i64 k ∧ wr.ownsRow W.heap.size 5 1 s q.length (q.map vU8) ∧ Hid ((bs.take k).flatten = q) ∧ Keep [] W wr) (fun _ i _ => vs.length - (intOf i).toNat)
      case atStart => exact ⟨0, [], Nat.zero_le _, rfl, hown2, rfl, hk12⟩
      case round =>
        obtain ⟨k, q, hk, rfl, hown, hq, hkr⟩ := hrel
        obtain ⟨B3, d3, rfl⟩ := own_form hown
        by_cases hlt : k < vs.length
        · obtain ⟨b, off, rfl, hcl⟩ := hcell.out k hlt
          have hkb : k < bs.length := by have := hlen.out; omega
          obtain ⟨A', c', hv, hr'⟩ := hm.2 k hlt hkb
          have hce := hcl _ hkr
          rw [hv] at hce
          have htk : Hid ((bs.take (k + 1)).flatten = q ++ bs[k]) := by
            unfold Hid
            rw [List.take_succ_eq_append_getElem hkb, List.flatten_append, hq.out]
            simp only [List.flatten_cons, List.flatten_nil, List.append_nil]
          have hle2 := catLen_le bs (k + 1)
          unfold catLen at hle2
          rw [htk.out, hN.out, List.length_append] at hle2
          have hrr := hr'.pure hkr
          have hszr := hkr.size
          replace hv := Lib.hid hv
          have i0' : (0 : Int) ≤ (k : Int) := by omega
          have i1' : (k : Int) < (vs.length : Int) := by omega
          generalize bs[k] = y at *
          clear hcl
          go_wp2_with (at_builtin; refine wpList_append_rd rfl _ _ 39 rfl W.heap.size 5 i0 (.int .u8 0) 1 1 Try.underlying39 hi hz0 hz1 hz2 rfl (by omega) (.slice B3 q.length d3) q.length _ rfl hown rfl hrr (vU8_one _) (by unfold maxLen; omega) (by omega) hszr ?_)
          intro v' w4 hown' hgr
          have hk4 := hkr.grown hgr (fun g hg => .inr (own_ge hown g hg))
          go_wp2
          go_roundw
          case rel =>
            refine ⟨k + 1, q ++ y, by omega, by go_num, ?_, htk, hk4⟩
            rw [List.length_append, List.map_append]
            exact hown'
          case measure => simp [intOf]; omega
        · obtain rfl : k = vs.length := by omega
          have hq2 : Hid (bs.flatten = q) := by
            have := hq.out
            rw [hlen.out, List.take_length] at this
            exact this
          go_wp2
          go_ret
          exact ⟨_, _, _, rfl, hkr, by rw [hq2.out]; exact hown⟩
end Go.Proofs.Ytejbfknhnhhlfaa

namespace Go.Proofs.Ytejbfknhnhhlfaa
open Go Go.RowKit Go.Maps
set_option maxRecDepth 10000
set_option linter.unusedVariables false
set_option linter.unusedSimpArgs false

theorem encB_len' (typ : Int) (l : List Cell) : (encB typ l).length ≤ 4400000000 := by
  unfold encB
  split
  · rename_i h
    obtain ⟨_, hl, hc⟩ := rightL_mem h
    split
    · rw [packB]
      split
      · rw [toBytes_length]; unfold sizeOf'; simp; omega
      · simp
    · have h1 := cellsB_len typ l (fun c hm => rightC_text (hc c hm))
      have h2 : 65546 * l.length ≤ 65546 * 65536 := Nat.mul_le_mul_left _ hl
      omega
  · simp

set_option maxHeartbeats 2000000 in
theorem dictEnc_prog {X : List Nat} {A : Option Addr} {n c : Nat} {l : List Cell} (typ : Int) (W : World) (h : Cells X W A n c l) :
    Calls Try.prog 32 #[.int .i64 typ, .slice A n c] W fun e W' => ∃ B m d, e = .returned (.tuple #[.slice B m d, .bool (rightL typ l)]) ∧ Keep [] W W' ∧ NewBys W W' B m d (if rightL typ l = true then dictB typ l else []) := by
  have hc := h.cap
  have hnc := h.le
  obtain rfl := h.len
  have E1 := encode_prog typ W h
  cases hR : rightL typ l with
  | false =>
    rw [hR] at E1
    have hv : Hid ((if false = true then dictB typ l else []) = []) := by unfold Hid; simp
    rw [hv.out]
    replace E1 := Lib.hid E1
    clear hR hv
    go_enter Try.func32, Try.ntmps32
    go_wp2_with fail
    refine E1.out.mono ?_
    rintro e w1 ⟨B1, m1, d1, rfl, hk1, _⟩
    go_wp2
    go_ret2
    exact ⟨none, 0, 0, rfl, hk1, fun Y _ => Rd.nil_ Y _ 1⟩
  | true =>
    rw [hR] at E1
    have hv : Hid ((if true = true then dictB typ l else []) = dictB typ l) := by unfold Hid; simp
    rw [hv.out]
    obtain ⟨_, hl, hcs⟩ := rightL_mem hR
    have hRs := Lib.hid (rightL_ent hR)
    have hel := (ent_ok l).le
    have ht : Hid (∀ x ∈ l, x.text.size ≤ maxLen) := fun x hx => Nat.le_trans (rightC_text (hcs x hx)) (by simp [maxLen])
    have hbl := encB_len' typ (entL l).1
    have hul := entU_len l
    have hrl := encB_len (l := entU l) (by omega)
    have hru : Hid (enc (entU l) = encR (entU l)) := by unfold Hid enc; rw [if_pos (by omega)]
    replace E1 := Lib.hid E1
    have hdv : Hid (dictB typ l = putB (entL l).1.length ++ putB (encB typ (entL l).1).length ++ encB typ (entL l).1 ++ encR (entU l)) := rfl
    rw [hdv.out]
    clear hR hv hdv hcs
    go_enter Try.func32, Try.ntmps32
    go_wp2_with fail
    refine E1.out.mono ?_
    rintro e w1 ⟨B1, m1, d1, rfl, hk1, _⟩
    have Q := Lib.hid (entries_prog w1 (h.pure hk1) (by omega) ht.out)
    go_wp2_with fail
    refine Q.out.mono ?_
    rintro e w2 ⟨B2, k2, d2, B3, d3, rfl, hk2, hs2, ha2⟩
    have hcs2 : Cells [] w2 B2 k2 d2 (entL l).1 := rd_of_own hs2 (by simp)
    obtain rfl := hcs2.len
    have E2 := encode_prog typ w2 hcs2
    rw [hRs.out] at E2
    replace E2 := Lib.hid E2
    have hus2 : U64s [] w2 B3 l.length d3 (entU l) := rd_of_own ha2 (by simp)
    generalize hs_ : (entL l).1 = s at *
    generalize hu_ : entU l = u at *
    replace hs_ := Lib.hid hs_
    replace hu_ := Lib.hid hu_
    clear hs2 ha2
    go_wp2_with fail
    refine E2.out.mono ?_
    rintro e w3 ⟨B4, m4, d4, rfl, hk3, hnew3⟩
    have hv3 : Bys [] w3 B4 m4 d4 (encB typ s) := hnew3 [] (by simp)
    obtain rfl := hv3.len1
    have E3 := Lib.hid (encodeR_prog w3 (hus2.pure hk3))
    go_wp2_with fail
    refine E3.out.mono ?_
    rintro e w4 ⟨B5, m5, d5, rfl, hk4, hown4⟩
    rw [hru.out] at hown4
    have hr4 : Bys [] w4 B5 m5 d5 (encR u) := rd_of_own hown4 (by simp)
    obtain rfl := hr4.len1
    have hv4 := hv3.pure hk4
    have hkA := ((hk1.trans hk2).trans hk3).trans hk4
    have hw1 : IntKind.u64.wrap (s.length : Int) = s.length := IntWalk.u64_in _ (by omega)
    have hw2 : IntKind.u64.wrap ((encB typ s).length : Int) = (encB typ s).length := IntWalk.u64_in _ (by omega)
    have P1 := Lib.hid (put_prog (X := []) (l := []) s.length w4 (Rd.nil_ [] w4 1) (by omega) (by omega))
    clear E1 E2 E3 Q hown4 hnew3 hv3
    generalize hv_ : encB typ s = v at *
    generalize hr_ : encR u = r at *
    replace hv_ := Lib.hid hv_
    replace hr_ := Lib.hid hr_
    go_wp2_with fail
    refine P1.out.mono ?_
    rintro e w5 ⟨B6, k6, d6, rfl, hk5, hown5⟩
    rw [List.nil_append] at hown5
    have hp5 : Bys [] w5 B6 k6 d6 (putB s.length) := rd_of_own hown5 (by simp)
    have hpl := putB_len s.length
    obtain rfl := hp5.len1
    have P2 := Lib.hid (put_prog v.length w5 hp5 (by omega) (by omega))
    have hpl2 := putB_len v.length
    clear hown5
    go_wp2_with fail
    refine P2.out.mono ?_
    rintro e w6 ⟨B7, k7, d7, rfl, hk6, hown6⟩
    have hp6 : Bys [] w6 B7 k7 d7 (putB s.length ++ putB v.length) := rd_of_own hown6 (by simp)
    obtain rfl := hp6.len1
    have hv6 := (hv4.pure hk5).pure hk6
    have hr6 := (hr4.pure hk5).pure hk6
    have hkB := (hkA.trans hk5).trans hk6
    clear hown6
    generalize hhead : putB s.length ++ putB v.length = hd at *
    have hhl : hd.length ≤ 20 := by rw [← hhead]; simp; omega
    have hka := (Keep.refl [] w6).alloc (.cells #[.slice B7 hd.length d7, .slice B4 v.length d4, .slice B5 r.length d5] 39)
    have hm : Many (w6.alloc (.cells #[.slice B7 hd.length d7, .slice B4 v.length d4, .slice B5 r.length d5] 39)) [.slice B7 hd.length d7, .slice B4 v.length d4, .slice B5 r.length d5] [hd, v, r] :=
      ⟨rfl, fun i h1 h2 => by
        match i, h1 with
        | 0, _ => exact ⟨B7, d7, rfl, hp6.pure hka⟩
        | 1, _ => exact ⟨B4, d4, rfl, hv6.pure hka⟩
        | 2, _ => exact ⟨B5, d5, rfl, hr6.pure hka⟩⟩
    have hrd : Rd [] (w6.alloc (.cells #[.slice B7 hd.length d7, .slice B4 v.length d4, .slice B5 r.length d5] 39)) 1 (some ⟨w6.heap.size, 0, none⟩) 3 3 [.slice B7 hd.length d7, .slice B4 v.length d4, .slice B5 r.length d5] :=
      (Blk.new w6 39 [.slice B7 hd.length d7, .slice B4 v.length d4, .slice B5 r.length d5]).rd (by simp) rfl (by omega) (by simp [maxLen]) rfl
    have Cc := Lib.hid (concat_prog (vs := [.slice B7 hd.length d7, .slice B4 v.length d4, .slice B5 r.length d5]) _ hrd hm (by simp; omega) (by simp))
    clear hm hrd P1 P2
    go_wp2_with fail
    refine Cc.out.mono ?_
    rintro e w7 ⟨B8, k8, d8, rfl, hk7, hown7⟩
    go_wp2
    go_ret2
    refine ⟨_, _, _, rfl, (hkB.trans hka).trans hk7, fun Y hY => ?_⟩
    have hb := rd_of_own (X := Y) hown7 (fun b hb => by have := hY b hb; have := hkB.size; simp; omega)
    rw [hs_.out, hu_.out, hv_.out, hr_.out, hhead]
    simpa [Bys, List.append_assoc] using hb
end Go.Proofs.Ytejbfknhnhhlfaa

namespace Go.Proofs.Ytejbfknhnhhlfaa
open Go Go.RowKit Go.Maps
set_option maxRecDepth 10000
set_option linter.unusedVariables false
set_option linter.unusedSimpArgs false

theorem lenC_most (s : Option (List UInt8)) (most : Int) : ((lenC s most).1 : Int) ≤ max most 0 := by
  unfold lenC
  split
  · split
    · simp only []; omega
    · simp only []; omega
  · simp only []; omega

def ReadPost (typ : Int) (b : List UInt8) (n : Int) (W : World) (e : Ending) (W' : World) : Prop :=
  ∃ B1 m1 d1 B2 m2 d2 out ok, e = .returned (.tuple #[.slice B1 m1 d1, .slice B2 m2 d2, .bool ok]) ∧ Keep [] W W' ∧ (dictHead typ b = none → ok = false) ∧
    ∀ s r, dictHead typ b = some (s, r) → DecOk r n out ok ∧ NewCs W W' B1 m1 d1 s ∧ NewU64s W W' B2 m2 d2 out
theorem ReadPost.no {typ : Int} {b : List UInt8} {n : Int} {W W' : World} (hk : Keep [] W W') (h : dictHead typ b = none) : ReadPost typ b n W (.returned (.tuple #[.slice none 0 0, .slice none 0 0, .bool false])) W' :=
  ⟨none, 0, 0, none, 0, 0, [], false, rfl, hk, fun _ => rfl, fun s r hs => by rw [h] at hs; cases hs⟩

set_option maxHeartbeats 2000000 in
theorem dread_prog {X : List Nat} {A : Option Addr} {m c : Nat} {b : List UInt8} (typ n : Int) (W : World) (h : Bys X W A m c b) (hroom : m ≤ 10000000000) (hn : -9223372036854775808 ≤ n ∧ n ≤ 9223372036854775807) :
    Calls Try.prog 59 #[.int .i64 typ, .slice A m c, .int .i64 n] W (ReadPost typ b n W) := by
  have hc := h.cap
  have hmc := h.le
  obtain rfl := h.len1
  obtain ⟨⟨x, s1⟩, E1⟩ : ∃ p, lenC (some b) 65536 = p := ⟨_, rfl⟩
  obtain ⟨⟨y, s2⟩, E2⟩ : ∃ p, lenC s1 b.length = p := ⟨_, rfl⟩
  obtain ⟨⟨v, s3⟩, E3⟩ : ∃ p, takeC s2 y = p := ⟨_, rfl⟩
  have hx : x ≤ 65536 := by have := lenC_most (some b) 65536; rw [E1] at this; simp only [] at this; omega
  have hy : y ≤ b.length := by have := lenC_most s1 b.length; rw [E2] at this; simp only [] at this; omega
  have hv : v.length ≤ y := by have := takeC_len s2 y; rw [E3] at this; simp only [] at this; omega
  have hh : dictHead typ b = (match s3 with | none => none | some r => match decV typ v x with | none => none | some s => some (s, r)) := by
    unfold dictHead
    rw [E1]
    simp only []
    rw [E2]
    simp only [E3]
    cases s3 <;> rfl
  have hr : ∀ r, s3 = some r → r.length ≤ b.length := by
    rintro r rfl
    obtain ⟨rfl, _⟩ := takeC_inv E3
    obtain ⟨rfl, _⟩ := lenC_inv E2
    obtain ⟨e, _⟩ := lenC_inv E1
    injection e with e
    rw [e]
    simp
    omega
  have C0 := Lib.hid (over_prog W h (by omega))
  go_enter Try.func59, Try.ntmps59
  go_wp2_with fail
  refine C0.out.mono ?_
  rintro e w1 ⟨g, rfl, hg, hk1, hcur1⟩
  have hsz1 := hk1.size
  have C1 := len_prog 65536 w1 hcur1 (by omega)
  rw [E1] at C1
  simp only [] at C1
  replace C1 := Lib.hid C1
  go_wp2_with fail
  refine C1.out.mono ?_
  rintro e w2 ⟨rfl, hk2, hcur2⟩
  have C2 := len_prog b.length w2 hcur2 (by omega)
  rw [E2] at C2
  simp only [] at C2
  replace C2 := Lib.hid C2
  go_wp2_with fail
  refine C2.out.mono ?_
  rintro e w3 ⟨rfl, hk3, hcur3⟩
  have C3 := take_prog y w3 hcur3 (by omega)
  rw [E3] at C3
  simp only [] at C3
  replace C3 := Lib.hid C3
  go_wp2_with fail
  refine C3.out.mono ?_
  rintro e w4 ⟨B4, m4, d4, rfl, hk4, hcur4, hown4⟩
  have hkg : Keep [g] w1 w4 := (hk2.trans hk3).trans hk4
  have hkW : Keep [] W w4 := hk1.after hkg (by simp; omega)
  have hv4 : Bys [] w4 B4 m4 d4 v := rd_of_own hown4 (by simp)
  obtain rfl := hv4.len1
  have C4 := bad_prog w4 hcur4
  clear C0 C1 C2 C3 hk2 hk3 hk4 hcur1 hcur2 hcur3 hown4
  cases s3 with
  | none =>
    rw [show (none : Option (List UInt8)).isNone = true from rfl] at C4
    replace C4 := Lib.hid C4
    replace hh := Lib.hid hh
    go_wp2_with fail
    refine C4.out.mono ?_
    rintro e w5 ⟨rfl, rfl⟩
    go_wp2
    go_ret3
    exact ReadPost.no hkW hh.out
  | some r =>
    have hrl := hr r rfl
    rw [show (some r).isNone = false from rfl] at C4
    replace C4 := Lib.hid C4
    simp only [] at hh
    have C5 := decode_prog typ x w4 hv4 (by omega) (by omega)
    unfold DecV at C5
    cases hD : decV typ v x with
    | none =>
      rw [hD] at C5 hh
      simp only [] at hh
      rw [show (none : Option (List Cell)).isSome = false from rfl] at C5
      replace C5 := Lib.hid C5
      replace hh := Lib.hid hh
      clear hD
      go_wp2_with fail
      refine C4.out.mono ?_
      rintro e w5 ⟨rfl, rfl⟩
      go_wp2_with fail
      refine C5.out.mono ?_
      rintro e w6 ⟨B6, m6, d6, rfl, hk6, hn6⟩
      go_wp2
      go_ret3
      exact ReadPost.no (hkW.trans hk6) hh.out
    | some s =>
      rw [hD] at C5 hh
      simp only [] at hh
      rw [show (some s).isSome = true from rfl, show (some s).getD [] = s from rfl] at C5
      replace C5 := Lib.hid C5
      replace hh := Lib.hid hh
      clear hD
      go_wp2_with fail
      refine C4.out.mono ?_
      rintro e w5 ⟨rfl, rfl⟩
      go_wp2_with fail
      refine C5.out.mono ?_
      rintro e w6 ⟨B6, m6, d6, rfl, hk6, hn6⟩
      have hcur6 := hcur4.pure hk6
      have C6 := Lib.hid (left_prog w6 hcur6)
      go_wp2_with fail
      refine C6.out.mono ?_
      rintro e w7 ⟨rfl, rfl⟩
      rw [show (some r).getD [] = r from rfl]
      have C7 := take_prog r.length w6 hcur6 (by omega)
      rw [show takeC (some r) r.length = (r, some []) from by unfold takeC; simp] at C7
      simp only [] at C7
      replace C7 := Lib.hid C7
      go_wp2_with fail
      refine C7.out.mono ?_
      rintro e w8 ⟨B8, m8, d8, rfl, hk8, hcur8, hown8⟩
      have hr8 : Bys [] w8 B8 m8 d8 r := rd_of_own hown8 (by simp)
      obtain rfl := hr8.len1
      have C8 := Lib.hid (decodeR_prog n w8 hr8 (by omega) hn)
      go_wp2_with fail
      refine C8.out.mono ?_
      rintro e w9 ⟨B9, m9, d9, out, ok, rfl, hk9, hn9, hdec⟩
      have hkg6 : Keep [g] w1 w8 := (hkg.trans hk6.nil).trans hk8
      have hkW8 : Keep [] W w8 := hk1.after hkg6 (by simp; omega)
      have hsz4 := hkW.size
      have hsz8 := hkW8.size
      go_wp2
      go_ret3
      refine ⟨_, _, _, _, _, _, out, ok, rfl, hkW8.trans hk9, fun h0 => (by rw [hh.out] at h0; cases h0), fun s' r' hsr => ?_⟩
      rw [hh.out] at hsr
      injection hsr with hsr
      injection hsr with e1 e2
      subst e1 e2
      refine ⟨hdec, fun Y hY => ?_, fun Y hY => hn9 Y (fun b hb => by have := hY b hb; omega)⟩
      have hc6 := hn6 (g :: Y) (fun b hb => by
        rcases List.mem_cons.1 hb with rfl | hb
        · have := hcur4.lt; omega
        · have := hY b hb; omega)
      have hc8 : Cells Y w8 B6 m6 d6 s := Rd.weaken (Rd.keep hc6 hk8 (by simp)) (fun b hb => .inl (by simp [hb]))
      exact hc8.pure hk9
end Go.Proofs.Ytejbfknhnhhlfaa

namespace Go.Proofs.Ytejbfknhnhhlfaa
open Go Go.RowKit Go.Maps
set_option maxRecDepth 10000
set_option linter.unusedVariables false
set_option linter.unusedSimpArgs false

/-- What Decode tells: a list that Encode writes as these bytes, if there is one. -/
def DictOk (typ : Int) (b : List UInt8) (n : Int) (out : List Cell) (ok : Bool) : Prop :=
  (ok = true → (out.length : Int) = n ∧ rightL typ out = true ∧ dictB typ out = b) ∧ (ok = false → out = []) ∧ ∀ l : List Cell, (l.length : Int) = n → rightL typ l = true → dictB typ l = b → ok = true ∧ out = l
theorem DictOk.same {typ : Int} {b : List UInt8} {n : Int} {o1 o2 : List Cell} {k1 k2 : Bool} (h1 : DictOk typ b n o1 k1) (h2 : DictOk typ b n o2 k2) : o1 = o2 ∧ k1 = k2 := by
  cases k1 with
  | true =>
    obtain ⟨e1, e2, e3⟩ := h1.1 rfl
    obtain ⟨h3, h4⟩ := h2.2.2 o1 e1 e2 e3
    exact ⟨h4.symm, h3.symm⟩
  | false =>
    cases k2 with
    | true =>
      obtain ⟨e1, e2, e3⟩ := h2.1 rfl
      obtain ⟨h3, h4⟩ := h1.2.2 o2 e1 e2 e3
      cases h3
    | false => exact ⟨by rw [h1.2.1 rfl, h2.2.1 rfl], rfl⟩
theorem DictOk.back {typ : Int} {l out : List Cell} {ok : Bool} (h : DictOk typ (dictB typ l) l.length out ok) (hR : rightL typ l = true) : ok = true ∧ out = l := h.2.2 l rfl hR rfl

def DictPost (typ : Int) (b : List UInt8) (n : Int) (W : World) (e : Ending) (W' : World) : Prop :=
  ∃ B m d out ok, e = .returned (.tuple #[.slice B m d, .bool ok]) ∧ Keep [] W W' ∧ NewCs W W' B m d out ∧ DictOk typ b n out ok
theorem DictPost.no {typ : Int} {b : List UInt8} {n : Int} {W W' : World} (hk : Keep [] W W') (h : ∀ l : List Cell, (l.length : Int) = n → rightL typ l = true → dictB typ l ≠ b) : DictPost typ b n W (.returned (.tuple #[.slice none 0 0, .bool false])) W' :=
  ⟨none, 0, 0, [], false, rfl, hk, fun Y _ => Rd.nil_ _ _ _, by simp, by simp, fun l h1 h2 h3 => absurd h3 (h l h1 h2)⟩

theorem pickL_snoc {s q : List Cell} {u : List UInt64} {k : Nat} (hk : k < u.length) (h : pickL s (u.take k) = some q) (hs : u[k].toNat < s.length) : pickL s (u.take (k + 1)) = some (q ++ [s[u[k].toNat]]) := by
  unfold pickL at h ⊢
  rw [List.take_succ_eq_append_getElem hk, List.mapM_append, h]
  simp [List.getElem?_eq_getElem hs]
theorem pickL_bad {s : List Cell} {u : List UInt64} {k : Nat} (hk : k < u.length) (hs : ¬ u[k].toNat < s.length) : pickL s u = none := by
  unfold pickL
  rw [← List.take_append_drop k u, List.drop_eq_getElem_cons hk, List.mapM_append, List.mapM_cons, List.getElem?_eq_none (by omega)]
  cases List.mapM (m := Option) (fun k : UInt64 => s[k.toNat]?) (u.take k) <;> rfl

set_option maxHeartbeats 2000000 in
theorem decodeD_prog {X : List Nat} {A : Option Addr} {m c : Nat} {b : List UInt8} (typ n : Int) (W : World) (h : Bys X W A m c b) (hroom : m ≤ 10000000000) (hn : -9223372036854775808 ≤ n ∧ n ≤ 9223372036854775807) :
    Calls Try.prog 33 #[.int .i64 typ, .slice A m c, .int .i64 n] W (DictPost typ b n W) := by
  have hc := h.cap
  have hmc := h.le
  obtain rfl := h.len1
  obtain ⟨i0, hi, hz0, hz1, hz2⟩ := info_parts Try.infoCell'
  have C0 := Lib.hid (dread_prog typ n W h hroom hn)
  have hback : ∀ l : List Cell, (l.length : Int) = n → rightL typ l = true → dictB typ l = b → dictHead typ b = some ((entL l).1, encR (entU l)) ∧ (entU l).length = l.length ∧ pickL (entL l).1 (entU l) = some l ∧ l.length ≤ 65536 := by
    rintro l h1 h2 rfl
    have hl := (rightL_mem h2).2.1
    exact ⟨dictHead_enc h2, entU_len l, pick_ent l hl, hl⟩
  replace hback := Lib.hid hback
  go_enter Try.func33, Try.ntmps33
  go_wp2_with fail
  refine C0.out.mono ?_
  rintro e w1 ⟨B1, m1, d1, B2, m2, d2, u, ok, rfl, hk1, hnone, hsome⟩
  cases ok with
  | false =>
    have hno : Hid (∀ l : List Cell, (l.length : Int) = n → rightL typ l = true → dictB typ l ≠ b) := fun l h1 h2 h3 => by
      obtain ⟨e1, e2, e3, e4⟩ := hback.out l h1 h2 h3
      have := ((hsome _ _ e1).1.2.2 (entU l) (by omega) (by omega) rfl).1
      cases this
    clear hsome hnone
    go_wp2
    go_ret2
    exact DictPost.no hk1 hno.out
  | true =>
    cases hD : dictHead typ b with
    | none => have := hnone hD; cases this
    | some sr =>
      obtain ⟨s, r⟩ := sr
      obtain ⟨hdec, hcs, hus⟩ := hsome s r hD
      have hlu := (hdec.1 rfl).1
      have hlu2 := (hdec.1 rfl).2.1
      have hb2 : Hid (∀ l : List Cell, (l.length : Int) = n → rightL typ l = true → dictB typ l = b → pickL s u = some l) := fun l h1 h2 h3 => by
        obtain ⟨e1, e2, e3, e4⟩ := hback.out l h1 h2 h3
        rw [hD] at e1
        injection e1 with e1
        injection e1 with e1 e5
        subst e1 e5
        have := (hdec.2.2 (entU l) (by omega) (by omega) rfl).2
        rw [this]
        exact e3
      have hcs1 := hcs [] (by simp)
      have hus1 := hus [] (by simp)
      obtain rfl := hcs1.len
      obtain rfl := hus1.len1
      have hsc := hcs1.cap
      have hsl := hcs1.le
      have huc := hus1.cap
      have hul := hus1.le
      clear hsome hnone hdec hcs hus hback hD
      replace hlu := Lib.hid hlu
      have hw1 := hk1.size
      have hws : IntKind.u64.wrap (s.length : Int) = s.length := IntWalk.u64_in _ (by have := hcs1.cap; have := hcs1.le; omega)
      go_wp2
      go_loopw [11, 28] (fun o i wr => ∃ (k : Nat) (q : List Cell), k ≤ u.length ∧ i = .int .i64 k ∧ q.length = k ∧ wr.ownsRow w1.heap.size 29 5 o k (q.flatMap Cell.cs) ∧ Hid (pickL s (u.take k) = some q) ∧ Keep [] w1 wr) (fun _ i _ => u.length - (intOf i).toNat)
      case atStart => exact ⟨0, [], Nat.zero_le _, rfl, rfl, World.ownsRow_nil _ _ _ _, rfl, Keep.refl _ _⟩
      case round =>
        obtain ⟨k, q, hk, rfl, hqk, hown, HP, hkeep⟩ := hrel
        obtain ⟨B3, d3, rfl⟩ := own_form hown
        have hkW := hk1.trans hkeep
        by_cases hlt : k < u.length
        · obtain ⟨bb, off, rfl, _, _, hcell⟩ := (hus1.pure hkeep).one (k := k) hlt
          have i0' : (0 : Int) ≤ (k : Int) := by omega
          have i1' : (k : Int) < (u.length : Int) := by omega
          unfold vU64 at hcell
          by_cases hin : u[k].toNat < s.length
          · have HP2 := Lib.hid (pickL_snoc hlt HP.out hin)
            obtain ⟨b5, off5, rfl, _, _, c0, c1, c2, c3, c4⟩ := Cells.at5 (hcs1.pure hkeep) hin
            generalize u[k] = y at *
            generalize s[y.toNat] = x at *
            have j1 : ((y.toNat : Nat) : Int) < (s.length : Int) := by omega
            have j0 : (0 : Int) ≤ ((y.toNat : Nat) : Int) := by omega
            have hge : decide ((s.length : Int) ≤ ((y.toNat : Nat) : Int)) = false := decide_eq_false (by omega)
            have hge2 : ¬ ((s.length : Int) ≤ ((y.toNat : Nat) : Int)) := by omega
            have hszA := hkeep.size
            have hck : Cells [] (wr.alloc (.cells #[.bool x.null, .int .i64 x.int.toInt, .string x.text, .int .i64 x.x.toInt, .int .i64 x.y.toInt] 29)) (some ⟨wr.heap.size, 0, none⟩) 1 1 [x] := by
              refine (Blk.new wr 29 [.bool x.null, .int .i64 x.int.toInt, .string x.text, .int .i64 x.x.toInt, .int .i64 x.y.toInt]).rd (by simp) ?_ (by omega) (by simp [maxLen]) ?_
              · simp [Cell.cs]
              · simp [Cell.cs, vI]
            go_wp2_with (at_builtin; refine wpList_append_rd rfl _ _ 22 rfl w1.heap.size 29 i0 (cellVal Cell.zero) 5 48 Try.underlying22 hi hz0 hz1 hz2 rfl (by omega) (.slice B3 k d3) k _ rfl (hown.alloc _) rfl hck (flat_one Cell.one [x]) (by have := hlu.out; unfold maxLen; omega) (by have := hlu.out; omega) (by simp; omega) ?_)
            intro v' w4 hown' hgr
            have hk4 : Keep [] w1 w4 := (hkeep.alloc _).grown hgr (fun g hg => .inr (own_ge hown g hg))
            clear hgr hown hck
            go_wp2
            go_roundw
            case rel =>
              refine ⟨k + 1, q ++ [x], by omega, by go_num, by simp [hqk], ?_, HP2, hk4⟩
              rw [List.flatMap_append]
              exact hown'
            case measure => simp [intOf]; omega
          · have HB := Lib.hid (pickL_bad hlt hin)
            generalize u[k] = y at *
            have hge : decide ((s.length : Int) ≤ ((y.toNat : Nat) : Int)) = true := decide_eq_true (by omega)
            have hge2 : (s.length : Int) ≤ ((y.toNat : Nat) : Int) := by omega
            have hno : Hid (∀ l : List Cell, (l.length : Int) = n → rightL typ l = true → dictB typ l ≠ b) := fun l h1 h2 h3 => by
              have := hb2.out l h1 h2 h3
              rw [HB.out] at this
              cases this
            go_wp2
            go_ret2
            exact DictPost.no hkW hno.out
        · obtain rfl : k = u.length := by omega
          rw [List.take_length] at HP
          have hql : Hid (q.length = u.length) := hqk
          have hcl : Cells [] wr B3 u.length d3 q := rd_of_own hown (by simp)
          have E1 := dictEnc_prog typ wr hcl
          have hnew : NewCs W wr B3 u.length d3 q := fun Y hY => rd_of_own hown (fun b hb => Nat.lt_of_lt_of_le (hY b hb) hw1)
          have hsame : Hid (∀ l : List Cell, (l.length : Int) = n → rightL typ l = true → dictB typ l = b → l = q) := fun l h1 h2 h3 => by
            have := hb2.out l h1 h2 h3
            rw [HP.out] at this
            injection this with this
            exact this.symm
          clear hcl hown hb2 hqk
          cases hR : rightL typ q with
          | false =>
            rw [hR] at E1
            have hno : Hid (∀ l : List Cell, (l.length : Int) = n → rightL typ l = true → dictB typ l ≠ b) := fun l h1 h2 h3 => by
              have := hsame.out l h1 h2 h3
              rw [this, hR] at h2
              cases h2
            replace E1 := Lib.hid E1
            clear hR
            go_wp2_with fail
            refine E1.out.mono ?_
            rintro e w2 ⟨B4, m4, d4, rfl, hk2, hn2⟩
            go_wp2
            go_ret2
            exact DictPost.no (hkW.trans hk2) hno.out
          | true =>
            rw [hR] at E1
            rw [if_pos rfl] at E1
            have hR' := Lib.hid hR
            replace E1 := Lib.hid E1
            clear hR
            go_wp2_with fail
            refine E1.out.mono ?_
            rintro e w2 ⟨B4, m4, d4, rfl, hk2, hn2⟩
            have hs1 := str_run (hn2 [] (by simp))
            have hs2 := str_run (h.pure (hkW.trans hk2))
            have hkW2 := hkW.trans hk2
            clear hn2 E1
            by_cases heq : dictB typ q = b
            · have hres : Hid (DictOk typ b n q true) := ⟨fun _ => ⟨by have := hlu.out; rw [hql.out]; omega, hR'.out, heq⟩, (fun h => by cases h), fun l h1 h2 h3 => ⟨rfl, (hsame.out l h1 h2 h3).symm⟩⟩
              have hbe : (dictB typ q == b) = true := by simpa using heq
              clear heq
              go_wp2
              go_ret2
              exact ⟨_, _, _, q, true, rfl, hkW2, fun Y hY => (hnew Y hY).pure hk2, hres.out⟩
            · have hbe : (dictB typ q == b) = false := by simpa using heq
              have hno : Hid (∀ l : List Cell, (l.length : Int) = n → rightL typ l = true → dictB typ l ≠ b) := fun l h1 h2 h3 => by
                have := hsame.out l h1 h2 h3
                subst this
                exact heq h3
              clear heq
              go_wp2
              go_ret2
              exact DictPost.no hkW2 hno.out
end Go.Proofs.Ytejbfknhnhhlfaa
