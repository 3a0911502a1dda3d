/-
  The walk of layer 10's Decode, the program's.
-/
import Derived.Test.YtphgfhghbpndaaaRn10
namespace Go.Proofs.Ytphgfhghbpndaaa
open Go Go.RowKit
set_option linter.unusedVariables false
set_option linter.unusedSimpArgs false

/-! ### less is left -/
theorem getF_less : ∀ (f k n : Nat) (l : List UInt8) (v : Nat) (r : List UInt8), getF f k n l = some (v, r) → r.length < l.length
  | 0, _, _, _, _, _, h => by simp [getF] at h
  | f + 1, k, n, [], _, _, h => by simp [getF] at h
  | f + 1, k, n, x :: l, v, r, h => by
    rw [getF] at h
    split at h
    · cases h
    · split at h
      · injection h with h
        injection h with h1 h2
        subst h2
        simp
      · have := getF_less f (k + 1) _ l v r h
        simp
        omega
theorem getC_less {s : Option (List UInt8)} {x : Nat} {t : List UInt8} (h : getC s = (x, some t)) : t.length < (s.getD []).length := by
  unfold getC at h
  split at h
  · rename_i v l h1
    obtain ⟨b, rfl, hb⟩ := Option.bind_eq_some_iff.1 h1
    injection h with h2 h3
    injection h3 with h3
    subst h3
    exact getF_less 10 0 0 b v l hb
  · injection h with h2 h3
    cases h3
theorem getC_le (s : Option (List UInt8)) : ((getC s).2.getD []).length ≤ (s.getD []).length := by
  obtain ⟨⟨x, t⟩, h⟩ : ∃ p, getC s = p := ⟨_, rfl⟩
  rw [h]
  cases t with
  | none => simp
  | some t => have := getC_less h; simp; omega
theorem lenC_less {s : Option (List UInt8)} {most : Int} {x : Nat} {r : Option (List UInt8)} (h : lenC s most = (x, r)) (hx : 0 < x) : ∃ t, r = some t ∧ t.length < (s.getD []).length ∧ (x : Int) ≤ most := by
  unfold lenC at h
  split at h
  · rename_i v l hg
    split at h
    · rename_i hf
      injection h with h1 h2
      subst h1 h2
      exact ⟨l, rfl, getC_less hg, hf.2⟩
    · injection h with h1 h2
      omega
  · injection h with h1 h2
    omega
theorem takeC_le (s : Option (List UInt8)) (k : Int) : ((takeC s k).2.getD []).length ≤ (s.getD []).length := by
  unfold takeC
  split
  · simp
  · split
    · simp
    · simp
theorem restC_le (s : Option (List UInt8)) (m : Nat) : ((restC s m).2.getD []).length ≤ (s.getD []).length ∧ (restC s m).1.length ≤ m := by
  unfold restC
  simp only []
  constructor
  · split
    · exact Nat.le_trans (takeC_le _ _) (takeC_le _ _)
    · simp
  · unfold unpackL
    split
    · simp [unpP]
    · simp
/-- How much is left, read off the cursor. -/
def curLen (w : World) (g : Nat) : Nat := match w.cell? ⟨g, 0, none⟩ with | some (.slice _ k _) => k | _ => 0
theorem Cur.len {t : TypeId} {w : World} {g : Nat} {s : Option (List UInt8)} (h : Cur t w g s) : curLen w g = (s.getD []).length := by
  obtain ⟨A, n, c, hb, hr, hn⟩ := h
  have hc0 := hb.cell 0
  unfold curLen
  rw [hc0]
  exact hr.len1.symm
theorem cell_len {w w' : World} {g : Nat} (h : w'.cell? ⟨g, 0, none⟩ = w.cell? ⟨g, 0, none⟩) : curLen w' g = curLen w g := by unfold curLen; rw [h]
theorem lenC_lt (s : Option (List UInt8)) (most : Int) : (lenC s most).1 < 2 ^ 64 := by
  have := getC_lt s
  unfold lenC
  split
  · rename_i v l h
    rw [h] at this
    split
    · exact this
    · decide
  · decide
theorem bits_and_i64 (a : Nat) (ha : a < 2 ^ 63) : bits .and .i64 (a : Int) 1 = ((a % 2 : Nat) : Int) := by
  show IntKind.i64.wrap ((BitVec.ofInt 64 (a : Int) &&& BitVec.ofInt 64 (1 : Int)).toNat : Int) = _
  rw [BitVec.toNat_and, BitVec.ofInt_natCast, show BitVec.ofInt 64 (1 : Int) = BitVec.ofNat 64 1 from rfl, BitVec.toNat_ofNat, BitVec.toNat_ofNat, Nat.mod_eq_of_lt (by omega), Nat.mod_eq_of_lt (by decide), Nat.and_one_is_mod, IntWalk.i64_in _ (by omega)]

def DecPost (b : List UInt8) (n : Int) (W : World) (e : Ending) (W' : World) : Prop :=
  ∃ B k d out ok, e = .returned (.tuple #[.slice B k d, .bool ok]) ∧ Keep [] W W' ∧ NewU64s W W' B k d out ∧ DecOk b n out ok
theorem DecPost.no {b : List UInt8} {n : Int} {W W' : World} (hk : Keep [] W W') (h : ∀ l : List UInt64, (l.length : Int) = n → n ≤ 65536 → encB l ≠ b) : DecPost b n W (.returned (.tuple #[.slice none 0 0, .bool false])) W' :=
  ⟨none, 0, 0, [], false, rfl, hk, fun Y hY => Rd.nil_ _ _ _, by simp, by simp, fun l hl hn hb => absurd hb (h l hl hn)⟩

set_option maxHeartbeats 8000000 in
set_option maxRecDepth 10000 in
theorem decode_prog {X : List Nat} {A : Option Addr} {m c : Nat} {b : List UInt8} (n : Int) (W : World) (h : Bys X W A m c b) (hroom : m ≤ 10000000000) (hn : -9223372036854775808 ≤ n ∧ n ≤ 9223372036854775807) :
    Calls Try.prog 15 #[.slice A m c, .int .i64 n] W (DecPost b n W) := by
  have hc := h.cap
  have hmc := h.le
  have hml := h.len1
  obtain ⟨i0, hi, hz0, hz1, hz2⟩ := info_parts Try.infoU64
  by_cases hn0 : n < 0
  · go_enter Try.func15, Try.ntmps15
    go_wp2
    go_ret2
    exact DecPost.no (Keep.refl _ _) (fun l hl => by omega)
  by_cases hbig : 65536 < n
  · have hn1 : decide (n < 0) = false := decide_eq_false hn0
    go_enter Try.func15, Try.ntmps15
    go_wp2
    go_ret2
    exact DecPost.no (Keep.refl _ _) (fun l hl => by omega)
  have hn1 : decide (n < 0) = false := decide_eq_false hn0
  obtain ⟨n, rfl⟩ : ∃ k : Nat, n = k := ⟨n.toNat, by omega⟩
  go_enter Try.func15, Try.ntmps15
  go_wp2_with fail
  refine (over_prog W h (by omega)).mono ?_
  rintro e w1 ⟨g, rfl, hgW, hk1, hcur1⟩
  have hg1 := hcur1.lt
  go_wp2
  go_loopw [7] (fun o wr => ∃ (q : List UInt64) (s : Option (List UInt8)), q.length ≤ n ∧ wr.ownsRow w1.heap.size 34 1 o q.length (q.map vU64) ∧ Cur 66 wr g s ∧ Hid (InvD n b q s) ∧ Keep [] W wr ∧ w1.heap.size ≤ wr.heap.size) (fun _ wr => curLen wr g)
  case atStart => exact ⟨[], some b, by simp, World.ownsRow_nil _ _ _ _, hcur1, InvD.start n b, hk1, Nat.le_refl _⟩
  case round =>
    rename_i wr
    obtain ⟨q, s, hqn, hown, hcur, HI, hkeep, hsz⟩ := hrel
    obtain ⟨B0, d0, rfl⟩ := own_form hown
    have hmeas := Lib.hid hcur.len
    by_cases hs : s.getD [] = []
    · have hl0 : ((s.getD []).length : Int) = 0 := by rw [hs]; rfl
      have hU : U64s [] wr B0 q.length d0 q := rd_of_own hown (by simp)
      have hen := Lib.hid (encode_prog wr hU)
      have hok6 : decide (q.length ≤ 65536) = true := decide_eq_true (by omega)
      have henc : Hid (enc q = encB q) := by unfold Hid enc; rw [if_pos (by omega)]
      have hd0 : decide ((0 : Int) < ((s.getD []).length : Int)) = false := decide_eq_false (by omega)
      go_wp2_with fail
      refine (left_prog wr hcur).mono ?_
      rintro e w2 ⟨rfl, rfl⟩
      rw [hl0]
      go_wp2_with fail
      refine hen.out.mono ?_
      rintro e w2 ⟨B2, k2, d2, rfl, hk2, hown2⟩
      rw [hok6]
      have hkW2 := hkeep.trans hk2
      have hs1 := str_run (rd_of_own (X := []) hown2 (by simp))
      have hs2 := str_run (h.pure hkW2)
      rw [henc.out] at hs1
      have hcur2 := hcur.pure hk2
      have hU2 : NewU64s W w2 B0 q.length d0 q := fun Y hY => ((rd_of_own (X := Y) hown (fun b hb => by have := hY b hb; have := hk1.size; omega) : U64s Y wr B0 q.length d0 q)).pure hk2
      clear hen hown2
      go_wp2_with fail
      refine (end_prog w2 hcur2).mono ?_
      rintro e w3 ⟨rfl, rfl⟩
      by_cases hsn : s = some []
      · subst hsn
        rw [show decide ((some [] : Option (List UInt8)) = some []) = true from by simp]
        have HE := Lib.hid HI.out.end_
        by_cases hqn2 : q.length = n
        · subst hqn2
          by_cases heq : encB q = b
          · have hbe : (encB q == b) = true := by simpa using heq
            have hres : Hid (DecOk b (q.length : Nat) q true) := ⟨fun _ => ⟨by omega, by omega, heq⟩, (fun h => by cases h), fun l hl hn hb => ⟨rfl, (HE.out l (by omega) (by omega) hb).symm⟩⟩
            clear heq
            go_wp2
            go_ret2
            exact ⟨B0, _, d0, q, true, rfl, hkW2, hU2, hres.out⟩
          · have hbe : (encB q == b) = false := by simpa using heq
            have hno : Hid (∀ l : List UInt64, (l.length : Int) = (q.length : Int) → (q.length : Int) ≤ 65536 → encB l ≠ b) := fun l hl hn hb => heq (by rw [← HE.out l (by omega) (by omega) hb]; exact hb)
            clear heq
            go_wp2
            go_ret2
            exact DecPost.no hkW2 hno.out
        · have hne : ((q.length : Int) == (n : Int)) = false := by rw [beq_eq_false_iff_ne]; omega
          have hne2 : ¬ (q.length : Int) = (n : Int) := by omega
          have hno : Hid (∀ l : List UInt64, (l.length : Int) = (n : Int) → (n : Int) ≤ 65536 → encB l ≠ b) := fun l hl hn hb => hqn2 (by rw [← HE.out l (by omega) (by omega) hb]; omega)
          clear hqn2
          go_wp2
          go_ret2
          exact DecPost.no hkW2 hno.out
      · rw [decide_eq_false hsn]
        obtain rfl : s = none := by
          cases s with
          | none => rfl
          | some l => exact absurd (by rw [show l = [] from hs]) hsn
        have HE := HI.out.bad
        have hno : Hid (∀ l : List UInt64, (l.length : Int) = (n : Int) → (n : Int) ≤ 65536 → encB l ≠ b) := fun l hl hn hb => HE l (by omega) (by omega) hb
        clear HE
        go_wp2
        go_ret2
        exact DecPost.no hkW2 hno.out
    · have hpos : (0 : Int) < ((s.getD []).length : Int) := by have := List.length_pos_iff.2 hs; omega
      have hsne : Hid (s ≠ some []) := by unfold Hid; rintro rfl; exact hs rfl
      have hql : (q.length : Int) ≤ (n : Int) := by omega
      clear hs
      go_wp2_with fail
      refine (left_prog wr hcur).mono ?_
      rintro e w2 ⟨rfl, rfl⟩
      go_wp2_with fail
      refine (len_prog (2 * ((n : Int) - (q.length : Int)) + 1) wr hcur (by omega)).mono ?_
      rintro e w2 ⟨rfl, hk2, hcur2⟩
      obtain ⟨⟨hd, s2⟩, HL⟩ : ∃ p, Hid (lenC s (2 * ((n : Int) - (q.length : Int)) + 1) = p) := ⟨_, rfl⟩
      have hlt := (lenC_lt s (2 * ((n : Int) - (q.length : Int)) + 1))
      rw [HL.out] at hcur2 hlt ⊢
      simp only [] at hcur2 hlt
      have hkW2 : Keep [] W w2 := hkeep.after hk2 (by simp; omega)
      have hstep := Lib.hid (HI.out.step hsne.out)
      by_cases hlt2 : hd < 2
      · have hno : Hid (∀ l : List UInt64, (l.length : Int) = (n : Int) → (n : Int) ≤ 65536 → encB l ≠ b) := fun l hl hn => hstep.out.1 (by unfold stepD; simp only []; rw [HL.out]; simp only []; rw [if_pos hlt2]) l (by omega) (by omega)
        go_wp2
        go_ret2
        exact DecPost.no hkW2 hno.out
      · obtain ⟨t, rfl, htl, hdm⟩ := lenC_less HL.out (by omega)
        have hmeas2 : t.length < curLen wr g := by rw [hmeas.out]; exact htl
        have hand := bits_and_i64 hd (by omega)
        by_cases hodd : hd % 2 = 1
        · have hst : Hid (stepD n q s = some (q ++ (restC (some t) (hd / 2)).1, (restC (some t) (hd / 2)).2)) := by
            unfold Hid stepD; simp only []; rw [HL.out]; simp only []; rw [if_neg hlt2, if_pos hodd]
          have HI2 := Lib.hid (hstep.out.2 _ _ hst.out)
          rw [hodd] at hand
          have hrl := restC_le (some t) (hd / 2)
          have hre := Lib.hid (rest_prog (hd / 2) w2 hcur2 (by omega))
          rw [show ((hd / 2 : Nat) : Int) = (hd : Int) / 2 from by omega] at hre
          generalize restC (some t) (hd / 2) = pr at *
          obtain ⟨r, s3⟩ := pr
          simp only [Option.getD_some] at hrl
          have hown2 := own_keep hown hk2 (by simp; omega)
          clear hown hcur
          go_wp2_with fail
          refine hre.out.mono ?_
          rintro e w3 ⟨B3, k3, d3, rfl, hk3, hcur3, hnew3⟩
          have hr3 : U64s [] w3 B3 k3 d3 r := hnew3 [] (by simp)
          have hown3 := own_keep hown2 hk3 (by simp; omega)
          have hsz3 := (hk2.trans hk3).size
          have hk3l := hr3.len1
          clear hre hown2 hcur2
          go_wp2_with (at_builtin; refine wpList_append_rd (o := ⟨some 56, _, _, _, _, _⟩) rfl _ _ 22 rfl w1.heap.size 34 i0 (.int .u64 0) 1 8 Try.underlying22 hi hz0 hz1 hz2 rfl (by omega) _ q.length _ rfl hown3 rfl hr3 (vU64_one r) (by unfold maxLen; omega) (by omega) (by omega) ?_)
          intro v4 w4 hown4 hgr
          have hk4 := keep_of_grown hgr
          have hoc := own_cells hown3
          have hcur4 := hcur3.keep hk4 (fun x hx => by have := (hoc x hx).1; omega)
          have hkW4 : Keep [] W w4 := ((hkW2.after hk3 (by simp; omega)).after hk4 (fun x hx => by have := (hoc x hx).1; have := hk1.size; omega))
          have hsz4 := hk4.size
          have hfin : Hid (w4.ownsRow w1.heap.size 34 1 v4 (q ++ r).length ((q ++ r).map vU64)) := by
            rw [Hid, List.length_append, List.map_append, hk3l]
            exact hown4
          obtain ⟨B4, d4, rfl⟩ := own_form hown4
          have hm4 : curLen w4 g < curLen wr g := by rw [hcur4.len]; omega
          clear hown4 hgr hown3
          rw [show q.length + k3 = (q ++ r).length from by rw [List.length_append]; omega] at hfin ⊢
          go_wp2
          go_roundw
          case rel => exact ⟨q ++ r, s3, by rw [List.length_append]; omega, hfin.out, hcur4, HI2, hkW4, by omega⟩
          case measure => exact hm4
        · have hev : hd % 2 = 0 := by omega
          have hst : Hid (stepD n q s = some (q ++ List.replicate (hd / 2) (UInt64.ofNat (getC (some t)).1), (getC (some t)).2)) := by
            unfold Hid stepD; simp only []; rw [HL.out]; simp only []; rw [if_neg hlt2, if_neg hodd]
          have HI2 := Lib.hid (hstep.out.2 _ _ hst.out)
          rw [hev] at hand
          have hrl := getC_le (some t)
          have hx64 := getC_lt (some t)
          have hge := Lib.hid (get_prog w2 hcur2)
          generalize getC (some t) = pr at *
          obtain ⟨x, s3⟩ := pr
          simp only [Option.getD_some] at hrl hx64
          have hown2 := own_keep hown hk2 (by simp; omega)
          have hv : vU64 (UInt64.ofNat x) = .int .u64 (x : Int) := by
            unfold vU64
            rw [UInt64.toNat_ofNat', Nat.mod_eq_of_lt (by omega)]
          have hhalf : (0 : Int) < (hd : Int) / 2 := by omega
          clear hown hcur hodd
          go_wp2_with fail
          refine hge.out.mono ?_
          rintro e w3 ⟨rfl, hk3, hcur3⟩
          have hown3 := own_keep hown2 hk3 (by simp; omega)
          have hka : Keep [] w3 (w3.alloc (.cells #[.int .u64 (x : Int)] 34)) := (Keep.refl _ _).alloc _
          have hbk : U64s [] (w3.alloc (.cells #[.int .u64 (x : Int)] 34)) (some ⟨w3.heap.size, 0, none⟩) 1 1 [UInt64.ofNat x] := by
            refine (Blk.new w3 34 [.int .u64 (x : Int)]).rd (by simp) rfl (by omega) (by simp [maxLen]) ?_
            rw [← hv]; rfl
          have hre := repeat_prog (hd / 2) _ hbk (by omega) (by omega)
          rw [show ((hd / 2 : Nat) : Int) = (hd : Int) / 2 from by omega] at hre
          replace hre := Lib.hid hre
          have hown3a := own_keep hown3 hka (by simp)
          have hcur3a := hcur3.pure hka
          have hsz3a := (hk2.trans hk3).size
          have hsz3b := hka.size
          clear hge hown2 hcur2 hv
          go_wp2_with fail
          refine hre.out.mono ?_
          rintro e w5 ⟨B3, d3, rfl, hk5, hnew3⟩
          generalize UInt64.ofNat x = xv at *
          generalize hr9 : List.replicate (hd / 2) xv = r at *
          have hrr : r.length = hd / 2 := by rw [← hr9, List.length_replicate]
          have hr3 : U64s [] w5 B3 (hd / 2) d3 r := hnew3 [] (by simp)
          have hown5 := own_keep hown3a hk5 (by simp)
          have hcur5 := hcur3a.pure hk5
          have hsz5 := hk5.size
          have hkW5 : Keep [] W w5 := ((hkW2.after hk3 (by simp; omega)).trans hka).trans hk5
          replace hr9 := Lib.hid hr9
          clear hre hown3 hown3a hcur3 hcur3a hbk
          go_wp2_with (at_builtin; refine wpList_append_rd (o := ⟨some 43, _, _, _, _, _⟩) rfl _ _ 22 rfl w1.heap.size 34 i0 (.int .u64 0) 1 8 Try.underlying22 hi hz0 hz1 hz2 rfl (by omega) _ q.length _ rfl hown5 rfl hr3 (vU64_one r) (by unfold maxLen; omega) (by omega) (by omega) ?_)
          intro v4 w4 hown4 hgr
          have hk4 := keep_of_grown hgr
          have hoc := own_cells hown5
          have hcur4 := hcur5.keep hk4 (fun x hx => by have := (hoc x hx).1; omega)
          have hkW4 : Keep [] W w4 := hkW5.after hk4 (fun x hx => by have := (hoc x hx).1; have := hk1.size; omega)
          have hsz4 := hk4.size
          have hfin : Hid (w4.ownsRow w1.heap.size 34 1 v4 (q ++ r).length ((q ++ r).map vU64)) := by
            rw [Hid, List.length_append, List.map_append, hrr]
            exact hown4
          obtain ⟨B4, d4, rfl⟩ := own_form hown4
          have hm4 : curLen w4 g < curLen wr g := by rw [hcur4.len]; omega
          clear hown4 hgr hown5
          rw [show q.length + hd / 2 = (q ++ r).length from by rw [List.length_append]; omega] at hfin ⊢
          go_wp2
          go_roundw
          case rel => exact ⟨q ++ r, s3, by rw [List.length_append]; omega, hfin.out, hcur4, HI2, hkW4, by omega⟩
          case measure => exact hm4
end Go.Proofs.Ytphgfhghbpndaaa
