/-
  The walk of layer 10's Decode, the reference's.
-/
import Derived.Test.YtphgfhghbpndaaaRn11
namespace Go.Proofs.Ytphgfhghbpndaaa
open Go Go.RowKit
set_option linter.unusedVariables false
set_option linter.unusedSimpArgs false

/-- The reference takes no fewer than no bytes. -/
theorem restR {s : Option (List UInt8)} {m : Nat} (hm : m ≤ 65536) (x : List UInt8) (r : Option (List UInt8)) (h : takeC (takeC s 1).2 (max 0 (bytesLen (byteC s : Nat) (m : Nat))) = (x, r)) :
    (unpackOk x (byteC s : Nat) (m : Nat) = true → restC s m = (unpackL x (byteC s : Nat) (m : Nat), r)) ∧ (unpackOk x (byteC s : Nat) (m : Nat) = false → (restC s m).2 = none) := by
  by_cases hw : byteC s ≤ 64
  · have hb := bytesLen_nat (w := (byteC s : Int)) (n := (m : Int)) ⟨by omega, by omega, by omega, by omega⟩
    have he : max 0 (bytesLen (byteC s : Nat) (m : Nat)) = bytesLen (byteC s : Nat) (m : Nat) := by omega
    rw [he] at h
    unfold restC
    simp only []
    rw [h]
    refine ⟨fun hok => ?_, fun hok => ?_⟩
    · rw [if_pos hok]
    · rw [if_neg (by rw [hok]; simp)]
  · have hno : ∀ y : List UInt8, unpackOk y (byteC s : Nat) (m : Nat) = false := fun y => by
      unfold unpackOk
      rw [decide_eq_false_iff_not]
      omega
    refine ⟨fun hok => ?_, fun _ => ?_⟩
    · rw [hno] at hok; cases hok
    · unfold restC
      simp only []
      rw [if_neg (by rw [hno]; simp)]
theorem lenC_zero {s : Option (List UInt8)} {most : Int} {x : Nat} (h : lenC s most = (x, none)) : x = 0 := by
  rcases Nat.eq_zero_or_pos x with h0 | h0
  · exact h0
  · obtain ⟨t, h1, _⟩ := lenC_less h h0
    cases h1

/-- How much is left, and one more unless it is bad. -/
def curMore (w : World) (g : Nat) : Nat := match w.cell? ⟨g, 1, none⟩ with | some (.bool true) => 0 | _ => curLen w g + 1
def moreOf : Option (List UInt8) → Nat
  | none => 0
  | some l => l.length + 1
theorem Cur.more {t : TypeId} {w : World} {g : Nat} {s : Option (List UInt8)} (h : Cur t w g s) : curMore w g = moreOf s := by
  have hl := h.len
  obtain ⟨A, n, c, hb, hr, hn⟩ := h
  have hc1 := hb.cell 1
  unfold curMore
  rw [hc1, hl]
  cases s with
  | none => rfl
  | some l => rfl

set_option maxHeartbeats 8000000 in
set_option maxRecDepth 10000 in
theorem decode_ref {X : List Nat} {A : Option Addr} {m c : Nat} {b : List UInt8} (n : Int) (W : World) (h : Bys X W A m c b) (hroom : m ≤ 10000000000) (hn : -9223372036854775808 ≤ n ∧ n ≤ 9223372036854775807) :
    Calls Try.prog 16 #[.slice A m c, .int .i64 n] W (DecPost b n W) := by
  have hc := h.cap
  have hmc := h.le
  have hml := h.len1
  obtain ⟨i0, hi, hz0, hz1, hz2⟩ := info_parts Try.infoU64
  by_cases hn0 : n < 0
  · go_enter Try.func16, Try.ntmps16
    go_wp2
    go_ret2
    exact DecPost.no (Keep.refl _ _) (fun l hl => by omega)
  by_cases hbig : 65536 < n
  · have hn1 : decide (n < 0) = false := decide_eq_false hn0
    go_enter Try.func16, Try.ntmps16
    go_wp2
    go_ret2
    exact DecPost.no (Keep.refl _ _) (fun l hl => by omega)
  have hn1 : decide (n < 0) = false := decide_eq_false hn0
  obtain ⟨n, rfl⟩ : ∃ k : Nat, n = k := ⟨n.toNat, by omega⟩
  go_enter Try.func16, Try.ntmps16
  go_wp2
  obtain ⟨g, hg⟩ : ∃ g, Hid (g = W.heap.size) := ⟨_, rfl⟩
  have hcur1 : Cur 54 (W.alloc (.cells #[.slice A m c, .bool false] 54)) g (some b) := by
    refine ⟨A, m, c, ?_, ?_, by omega, fun a e h0 => ?_⟩
    · rw [hg.out]; exact Blk.new W _ [.slice A m c, .bool false]
    · exact (h.weaken (Y := [g]) (by simp [hg.out])).pure ((Keep.refl _ _).alloc _)
    · obtain ⟨b', off', e', hlt, _⟩ := h.2.2.2.1 h0
      rw [e] at e'
      cases e'
      rw [hg.out]
      exact hlt
  have hk1 : Keep [] W (W.alloc (.cells #[.slice A m c, .bool false] 54)) := (Keep.refl _ _).alloc _
  rw [← hg.out]
  generalize W.alloc (.cells #[.slice A m c, .bool false] 54) = w1 at *
  have hg1 := hcur1.lt
  have hgW : W.heap.size ≤ g := by have := hg.out; omega
  go_loopw [7] (fun o wr => ∃ (q : List UInt64) (s : Option (List UInt8)), q.length ≤ n ∧ wr.ownsRow w1.heap.size 34 1 o q.length (q.map vU64) ∧ Cur 54 wr g s ∧ Hid (InvD n b q s) ∧ Keep [] W wr ∧ w1.heap.size ≤ wr.heap.size) (fun _ wr => curMore wr g)
  case atStart => exact ⟨[], some b, by simp, World.ownsRow_nil _ _ _ _, hcur1, InvD.start n b, hk1, Nat.le_refl _⟩
  case round =>
    rename_i wr
    obtain ⟨q, s, hqn, hown, hcur, HI, hkeep, hsz⟩ := hrel
    obtain ⟨B0, d0, rfl⟩ := own_form hown
    have hmeas := Lib.hid hcur.more
    by_cases hs : s = some []
    · subst hs
      have hU : U64s [] wr B0 q.length d0 q := rd_of_own hown (by simp)
      have hen := Lib.hid (encode_ref wr hU)
      have hok6 : decide (q.length ≤ 65536) = true := decide_eq_true (by omega)
      have henc : Hid (enc q = encB q) := by unfold Hid enc; rw [if_pos (by omega)]
      go_wp2_with fail
      refine (end_ref wr hcur).mono ?_
      rintro e w2 ⟨rfl, rfl⟩
      rw [show decide ((some [] : Option (List UInt8)) = some []) = true from by simp]
      go_wp2_with fail
      refine hen.out.mono ?_
      rintro e w2 ⟨B2, k2, d2, rfl, hk2, hown2⟩
      rw [hok6]
      have hkW2 := hkeep.trans hk2
      have hs1 := str_run (rd_of_own (X := []) hown2 (by simp))
      have hs2 := str_run (h.pure hkW2)
      rw [henc.out] at hs1
      have hU2 : NewU64s W w2 B0 q.length d0 q := fun Y hY => ((rd_of_own (X := Y) hown (fun b hb => by have := hY b hb; have := hk1.size; omega) : U64s Y wr B0 q.length d0 q)).pure hk2
      have HE := Lib.hid HI.out.end_
      clear hen hown2
      by_cases hqn2 : q.length = n
      · subst hqn2
        by_cases heq : encB q = b
        · have hbe : (encB q == b) = true := by simpa using heq
          have hres : Hid (DecOk b (q.length : Nat) q true) := ⟨fun _ => ⟨by omega, by omega, heq⟩, (fun h => by cases h), fun l hl hn hb => ⟨rfl, (HE.out l (by omega) (by omega) hb).symm⟩⟩
          clear heq
          go_wp2
          go_ret2
          exact ⟨B0, _, d0, q, true, rfl, hkW2, hU2, hres.out⟩
        · have hbe : (encB q == b) = false := by simpa using heq
          have hno : Hid (∀ l : List UInt64, (l.length : Int) = (q.length : Int) → (q.length : Int) ≤ 65536 → encB l ≠ b) := fun l hl hn hb => heq (by rw [← HE.out l (by omega) (by omega) hb]; exact hb)
          clear heq
          go_wp2
          go_ret2
          exact DecPost.no hkW2 hno.out
      · have hne : ((q.length : Int) == (n : Int)) = false := by rw [beq_eq_false_iff_ne]; omega
        have hne2 : ¬ (q.length : Int) = (n : Int) := by omega
        have hno : Hid (∀ l : List UInt64, (l.length : Int) = (n : Int) → (n : Int) ≤ 65536 → encB l ≠ b) := fun l hl hn hb => hqn2 (by rw [← HE.out l (by omega) (by omega) hb]; omega)
        clear hqn2
        go_wp2
        go_ret2
        exact DecPost.no hkW2 hno.out
    · have hsne : Hid (s ≠ some []) := hs
      have hsd : decide (s = some []) = false := decide_eq_false hs
      have hql : (q.length : Int) ≤ (n : Int) := by omega
      clear hs
      go_wp2_with fail
      refine (end_ref wr hcur).mono ?_
      rintro e w2 ⟨rfl, rfl⟩
      rw [hsd]
      go_wp2_with fail
      refine (len_ref (2 * ((n : Int) - (q.length : Int)) + 1) wr hcur (by omega)).mono ?_
      rintro e w2 ⟨rfl, hk2, hcur2⟩
      obtain ⟨⟨hd, s2⟩, HL⟩ : ∃ p, Hid (lenC s (2 * ((n : Int) - (q.length : Int)) + 1) = p) := ⟨_, rfl⟩
      have hlt := (lenC_lt s (2 * ((n : Int) - (q.length : Int)) + 1))
      rw [HL.out] at hcur2 hlt ⊢
      simp only [] at hcur2 hlt
      have hkW2 : Keep [] W w2 := hkeep.after hk2 (by simp; omega)
      have hstep := Lib.hid (HI.out.step hsne.out)
      obtain ⟨Ac, nc, cc, hbc, hrc, hnc'⟩ := id hcur2
      have hc1 := hbc.cell 1
      simp only [List.getElem?_cons_zero, List.getElem?_cons_succ] at hc1
      clear hbc hrc hnc'
      have hne0 : ¬ (none : Option Addr) = some ⟨g, 0, none⟩ := by simp
      by_cases hlt2 : hd < 2
      · have hno : Hid (∀ l : List UInt64, (l.length : Int) = (n : Int) → (n : Int) ≤ 65536 → encB l ≠ b) := fun l hl hn => hstep.out.1 (by unfold stepD; simp only []; rw [HL.out]; simp only []; rw [if_pos hlt2]) l (by omega) (by omega)
        cases s2 with
        | none =>
          simp only [Option.isNone_none] at hc1
          go_wp2
          go_ret2
          exact DecPost.no hkW2 hno.out
        | some t =>
          simp only [Option.isNone_some] at hc1
          go_wp2
          go_ret2
          exact DecPost.no hkW2 hno.out
      · obtain ⟨t, rfl, htl, hdm⟩ := lenC_less HL.out (by omega)
        simp only [Option.isNone_some] at hc1
        have hmeas2 : t.length + 1 < curMore wr g := by
          rw [hmeas.out]
          cases s with
          | none => simp at htl
          | some l => simp [moreOf] at htl ⊢; omega
        have hhd : ((hd : Int) / 2 ≤ (n : Int) - (q.length : Int)) := by omega
        have hown2 := own_keep hown hk2 (by simp; omega)
        by_cases hodd : hd % 2 = 1
        · have hst : Hid (stepD n q s = some (q ++ (restC (some t) (hd / 2)).1, (restC (some t) (hd / 2)).2)) := by
            unfold Hid stepD; simp only []; rw [HL.out]; simp only []; rw [if_neg hlt2, if_pos hodd]
          have HI2 := Lib.hid (hstep.out.2 _ _ hst.out)
          have hodd2 : (hd : Int) % 2 = 1 := by omega
          clear hown hcur
          go_wp2_with fail
          refine (num_ref 1 w2 hcur2 (by omega)).mono ?_
          rintro e w3 ⟨rfl, hk3, hcur3⟩
          have hbl := byteC_lt (some t)
          rw [show num (takeC (some t) (1 : Nat)).1 = byteC (some t) from rfl]
          rw [show (((1 : Nat) : Int)) = 1 from rfl] at hcur3
          have HR := Lib.hid (restR (s := some t) (m := hd / 2) (by omega))
          have hrl := restC_le (some t) (hd / 2)
          simp only [Option.getD_some] at hrl
          obtain ⟨s1, HS1⟩ : ∃ y, Hid ((takeC (some t) 1).2 = y) := ⟨_, rfl⟩
          rw [HS1.out] at hcur3 HR
          obtain ⟨pr, HPR⟩ : ∃ y, Hid (restC (some t) (hd / 2) = y) := ⟨_, rfl⟩
          rw [HPR.out] at HI2 HR hrl
          obtain ⟨bw, HB⟩ : ∃ y, Hid (byteC (some t) = y) := ⟨_, rfl⟩
          rw [HB.out] at hbl HR ⊢
          clear hst
          have hown3 := own_keep hown2 hk3 (by simp; omega)
          have hby := Lib.hid (bytes_ref (bw : Int) ((hd / 2 : Nat) : Int) w3 (by omega) (by omega))
          have hbr := bytesLen_range (bw : Int) ((hd / 2 : Nat) : Int)
          obtain ⟨z, HZ⟩ : ∃ y, Hid (bytesLen (bw : Int) ((hd / 2 : Nat) : Int) = y) := ⟨_, rfl⟩
          rw [HZ.out] at hby hbr HR
          rw [show ((hd / 2 : Nat) : Int) = (hd : Int) / 2 from by omega] at hby
          go_wp2_with fail
          refine hby.out.mono ?_
          rintro e w4 ⟨rfl, rfl⟩
          clear hby
          have htk := Lib.hid (take_ref (max 0 z) w3 hcur3 (by omega))
          go_wp2_with fail
          refine htk.out.mono ?_
          rintro e w4 ⟨B4, k4, d4, rfl, hk4, hcur4, hown4b⟩
          clear htk
          obtain ⟨⟨x, s4⟩, HT⟩ : ∃ y, Hid (takeC s1 (max 0 z) = y) := ⟨_, rfl⟩
          rw [HT.out] at hcur4 hown4b
          have HR2 := Lib.hid (HR.out _ _ HT.out)
          have hx : Bys [] w4 B4 k4 d4 x := rd_of_own hown4b (by simp)
          have hown4 := own_keep hown3 hk4 (by simp; omega)
          have hup := unpack_ref_any (bw : Int) ((hd / 2 : Nat) : Int) w4 hx (by omega) (by omega)
          rw [show ((hd / 2 : Nat) : Int) = (hd : Int) / 2 from by omega] at hup HR2
          replace hup := Lib.hid hup
          clear hown4b hown3 hown2 HR
          go_wp2_with fail
          refine hup.out.mono ?_
          rintro e w5 ⟨B5, k5, d5, rfl, hk5, hnew5⟩
          clear hup
          have hsz4 := ((hk2.trans hk3).trans hk4).size
          have hsz5 := hk5.size
          have hkW5 : Keep [] W w5 := ((hkW2.after hk3 (by simp; omega)).after hk4 (by simp; omega)).trans hk5
          cases hok : unpackOk x (bw : Int) ((hd : Int) / 2) with
          | false =>
            have hno : Hid (∀ l : List UInt64, (l.length : Int) = (n : Int) → (n : Int) ≤ 65536 → encB l ≠ b) := fun l hl hn => by
              have h1 := HI2.out
              rw [HR2.out.2 hok] at h1
              exact h1.bad l (by omega) (by omega)
            clear hok
            go_wp2
            go_ret2
            exact DecPost.no hkW5 hno.out
          | true =>
            have hpr := HR2.out.1 hok
            subst hpr
            simp only [] at hrl HI2
            have hr5 : U64s [] w5 B5 k5 d5 (unpackL x (bw : Int) ((hd : Int) / 2)) := hnew5 [] (by simp)
            generalize unpackL x (bw : Int) ((hd : Int) / 2) = r at *
            clear hok HR2
            have hown5 := own_keep hown4 hk5 (by simp)
            have hk5l := hr5.len1
            have hcur5 := hcur4.pure hk5
            clear hown4 hcur4
            go_wp2_with (at_builtin; refine wpList_append_rd (o := ⟨some 91, _, _, _, _, _⟩) rfl _ _ 22 rfl w1.heap.size 34 i0 (.int .u64 0) 1 8 Try.underlying22 hi hz0 hz1 hz2 rfl (by omega) _ q.length _ rfl hown5 rfl hr5 (vU64_one r) (by unfold maxLen; omega) (by omega) (by omega) ?_)
            intro v6 w6 hown6 hgr
            have hk6 := keep_of_grown hgr
            have hoc := own_cells hown5
            have hcur6 := hcur5.keep hk6 (fun x hx => by have := (hoc x hx).1; omega)
            have hkW6 : Keep [] W w6 := hkW5.after hk6 (fun x hx => by have := (hoc x hx).1; have := hk1.size; omega)
            have hsz6 := hk6.size
            have hfin : Hid (w6.ownsRow w1.heap.size 34 1 v6 (q ++ r).length ((q ++ r).map vU64)) := by
              rw [Hid, List.length_append, List.map_append, hk5l]
              exact hown6
            obtain ⟨B6, d6, rfl⟩ := own_form hown6
            have hm6 : curMore w6 g < curMore wr g := by
              rw [hcur6.more]
              refine Nat.lt_of_le_of_lt ?_ hmeas2
              cases s4 with
              | none => simp [moreOf]
              | some y => simp [moreOf] at hrl ⊢; omega
            clear hown6 hgr hown5
            rw [show q.length + k5 = (q ++ r).length from by rw [List.length_append]; omega] at hfin ⊢
            go_wp2
            go_roundw
            case rel => exact ⟨q ++ r, s4, by rw [List.length_append]; omega, hfin.out, hcur6, HI2, hkW6, by omega⟩
            case measure => exact hm6
        · have hev : hd % 2 = 0 := by omega
          have hev2 : (hd : Int) % 2 = 0 := by omega
          have hst : Hid (stepD n q s = some (q ++ List.replicate (hd / 2) (UInt64.ofNat (getC (some t)).1), (getC (some t)).2)) := by
            unfold Hid stepD; simp only []; rw [HL.out]; simp only []; rw [if_neg hlt2, if_neg hodd]
          have HI2 := Lib.hid (hstep.out.2 _ _ hst.out)
          have hrl := getC_le (some t)
          have hx64 := getC_lt (some t)
          have hge := Lib.hid (get_ref w2 hcur2)
          generalize getC (some t) = pr at *
          obtain ⟨x, s3⟩ := pr
          simp only [Option.getD_some] at hrl hx64
          have hv : vU64 (UInt64.ofNat x) = .int .u64 (x : Int) := by
            unfold vU64
            rw [UInt64.toNat_ofNat', Nat.mod_eq_of_lt (by omega)]
          have hhalf : (0 : Int) < (hd : Int) / 2 := by omega
          obtain ⟨xv, hxv⟩ : ∃ y, Hid (UInt64.ofNat x = y) := ⟨_, rfl⟩
          rw [hxv.out] at HI2 hv
          replace hv := Lib.hid hv
          clear hown hcur hodd hst
          go_wp2_with fail
          refine hge.out.mono ?_
          rintro e w3 ⟨rfl, hk3, hcur3⟩
          have hown3 := own_keep hown2 hk3 (by simp; omega)
          have hsz3 := (hk2.trans hk3).size
          have hkW3 := hkW2.after hk3 (by simp; omega)
          clear hge hown2
          obtain ⟨H, hH⟩ : ∃ H, Hid (H = hd / 2) := ⟨_, rfl⟩
          have hH1 : (hd : Int) / 2 = (H : Int) := by have := hH.out; omega
          have hHn : q.length + H ≤ n := by omega
          rw [← hH.out] at HI2
          go_wp2
          obtain ⟨wo, rfl⟩ : ∃ wo : World, wo = wr := ⟨_, rfl⟩
          go_loopw [7, 10] (fun o i wi => ∃ j : Nat, j ≤ H ∧ i = .int .i64 j ∧ wi.ownsRow w1.heap.size 34 1 o (q.length + j) ((q ++ List.replicate j xv).map vU64) ∧ Cur 54 wi g s3 ∧ Keep [] W wi ∧ w3.heap.size ≤ wi.heap.size) (fun _ i _ => H - (intOf i).toNat)
          case atStart => exact ⟨0, by omega, rfl, by simpa using hown3, hcur3, hkW3, Nat.le_refl _⟩
          case round =>
            obtain ⟨j, hj, rfl, howni, hcuri, hkWi, hszi⟩ := hrel
            obtain ⟨Bi, di, rfl⟩ := own_form howni
            by_cases hlt3 : j < H
            · have hbk : U64s [] (wr.alloc (.cells #[.int .u64 (x : Int)] 34)) (some ⟨wr.heap.size, 0, none⟩) 1 1 [xv] := by
                refine (Blk.new wr 34 [.int .u64 (x : Int)]).rd (by simp) rfl (by omega) (by simp [maxLen]) ?_
                rw [← hv.out]; rfl
              have hka : Keep [] wr (wr.alloc (.cells #[.int .u64 (x : Int)] 34)) := (Keep.refl _ _).alloc _
              go_wp2_with (at_builtin; refine wpList_append_rd (o := ⟨some 68, _, _, _, _, _⟩) rfl _ _ 22 rfl w1.heap.size 34 i0 (.int .u64 0) 1 8 Try.underlying22 hi hz0 hz1 hz2 rfl (by omega) _ (q.length + j) _ rfl (howni.alloc (.cells #[.int .u64 (x : Int)] 34)) rfl hbk (vU64_one [xv]) (by unfold maxLen; omega) (by omega) (by simp; omega) ?_)
              intro v6 w6 hown6 hgr
              have hk6 := hka.cat (keep_of_grown hgr)
              rw [List.nil_append] at hk6
              have hoc := own_cells howni
              have hcur6 := hcuri.keep hk6 (fun x hx => by have := (hoc x hx).1; omega)
              have hkW6 : Keep [] W w6 := hkWi.after hk6 (fun x hx => by have := (hoc x hx).1; have := hk1.size; omega)
              have hsz6 := hk6.size
              have hfin : Hid (w6.ownsRow w1.heap.size 34 1 v6 (q.length + (j + 1)) ((q ++ List.replicate (j + 1) xv).map vU64)) := by
                rw [Hid, List.replicate_succ', ← List.append_assoc, List.map_append (l₁ := q ++ List.replicate j xv)]
                simpa [Nat.add_assoc] using hown6
              obtain ⟨B6, d6, rfl⟩ := own_form hown6
              clear hown6 hgr howni hbk
              go_wp2
              go_roundw
              case rel => exact ⟨j + 1, by omega, by go_num, by simpa [Nat.add_assoc] using hfin.out, hcur6, hkW6, by omega⟩
              case measure => simp [intOf]; omega
            · obtain rfl : j = H := by omega
              have hmi : curMore wr g < curMore wo g := by
                rw [hcuri.more]
                refine Nat.lt_of_le_of_lt ?_ hmeas2
                cases s3 with
                | none => simp [moreOf]
                | some y => simp [moreOf] at hrl ⊢; omega
              have hfin : Hid (wr.ownsRow w1.heap.size 34 1 (.slice Bi (q.length + j) di) (q ++ List.replicate j xv).length ((q ++ List.replicate j xv).map vU64)) := by
                rw [Hid, List.length_append, List.length_replicate]; exact howni
              go_wp2
              go_roundw
              case rel => exact ⟨q ++ List.replicate j xv, s3, by rw [List.length_append, List.length_replicate]; omega, hfin.out, hcuri, HI2, hkWi, by omega⟩
              case measure => exact hmi
end Go.Proofs.Ytphgfhghbpndaaa
