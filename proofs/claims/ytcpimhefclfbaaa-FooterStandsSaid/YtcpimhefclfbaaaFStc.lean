/-
  A stat that is read, as plain laws: what was put is got, and what is got was put so.
  The walks of layer 15's functions: a stat that is read.
-/
import Derived.BigRegion
import Derived.Test.YtcpimhefclfbaaaFPlb
import Derived.Test.YtcpimhefclfbaaaFStb
namespace Go.Proofs.Ytcpimhefclfbaaa
open Go Go.RowKit
set_option linter.unusedVariables false
set_option linter.unusedSimpArgs false

/-- The stat that bytes begin with, and what is left then. -/
def getS (typ : Int) (s : Option (List UInt8)) : St × Option (List UInt8) :=
  if byteC (lenC s 65536).2 = 1 then
    match decV typ (takeC (lenC (takeC (lenC s 65536).2 1).2 262144).2 (lenC (takeC (lenC s 65536).2 1).2 262144).1).1 2 with
    | some [x, y] => if (takeC (lenC (takeC (lenC s 65536).2 1).2 262144).2 (lenC (takeC (lenC s 65536).2 1).2 262144).1).2.isSome = true ∧ rightS typ ⟨Int64.ofInt (lenC s 65536).1, true, x, y⟩ = true
        then (⟨Int64.ofInt (lenC s 65536).1, true, x, y⟩, (takeC (lenC (takeC (lenC s 65536).2 1).2 262144).2 (lenC (takeC (lenC s 65536).2 1).2 262144).1).2) else (St.zero, none)
    | _ => (St.zero, none)
  else if byteC (lenC s 65536).2 = 0 ∧ (takeC (lenC s 65536).2 1).2.isSome = true ∧ rightS typ ⟨Int64.ofInt (lenC s 65536).1, false, Cell.zero, Cell.zero⟩ = true
    then (⟨Int64.ofInt (lenC s 65536).1, false, Cell.zero, Cell.zero⟩, (takeC (lenC s 65536).2 1).2)
  else (St.zero, none)

theorem uN_nat {x : Int} (h0 : 0 ≤ x) (h1 : x ≤ 9223372036854775807) : (uN x : Int) = x := by unfold uN; omega
theorem rightS_fits {typ : Int} {s : St} (h : rightS typ s = true) : known typ = true ∧ 0 ≤ s.nulls.toInt ∧ s.nulls.toInt ≤ 65536 := by
  unfold rightS at h
  simp only [Bool.and_eq_true, decide_eq_true_eq] at h
  exact ⟨h.1.1.1, h.1.1.2, h.1.2⟩
theorem rightS_has {typ : Int} {s : St} (h : rightS typ s = true) (hh : s.has = true) : rightL typ [s.min, s.max] = true := by
  have hk := (rightS_fits h).1
  unfold rightS at h
  rw [if_pos hh] at h
  simp only [Bool.and_eq_true, decide_eq_true_eq] at h
  unfold rightL
  simp [hk, h.2.1.1, h.2.1.2]
theorem rightS_no {typ : Int} {s : St} (h : rightS typ s = true) (hh : s.has = false) : s.min = Cell.zero ∧ s.max = Cell.zero := by
  unfold rightS at h
  rw [if_neg (by simp [hh])] at h
  simp only [Bool.and_eq_true, decide_eq_true_eq] at h
  exact h.2
theorem nulls_back {s : St} (h0 : 0 ≤ s.nulls.toInt) (h1 : s.nulls.toInt ≤ 65536) : Int64.ofInt (uN s.nulls.toInt) = s.nulls := by
  rw [uN_nat h0 (by omega), ofInt_vI]

/-- What was put is got. -/
theorem getS_put {typ : Int} {s : St} (h : rightS typ s = true) (r : List UInt8) : getS typ (some (putS typ s ++ r)) = (s, some r) := by
  obtain ⟨hk, h0, h1⟩ := rightS_fits h
  have hu : (uN s.nulls.toInt : Int) ≤ 65536 := by rw [uN_nat h0 (by omega)]; exact h1
  unfold putS
  rw [if_pos h, List.append_assoc]
  unfold getS
  rw [lenC_put (uN_lt _) ⟨by omega, hu⟩]
  simp only []
  rw [nulls_back h0 h1]
  cases hh : s.has with
  | true =>
    have hl := encB2_len typ s.min s.max
    have hs : (⟨s.nulls, true, s.min, s.max⟩ : St) = s := by cases s; simp_all
    rw [if_pos rfl, List.append_assoc, List.append_assoc, List.singleton_append, byteC_cons, takeC_cons]
    simp only []
    rw [if_pos (by rfl), lenC_put (by omega) (by omega)]
    simp only []
    rw [takeC_app _ _ rfl]
    simp only []
    rw [show (2 : Int) = ([s.min, s.max] : List Cell).length from rfl, decV_enc (rightS_has h hh)]
    simp only []
    rw [hs, if_pos ⟨rfl, h⟩]
  | false =>
    obtain ⟨h2, h3⟩ := rightS_no h hh
    have hs : (⟨s.nulls, false, Cell.zero, Cell.zero⟩ : St) = s := by cases s; simp_all
    simp only [Bool.false_eq_true, if_false]
    rw [List.singleton_append, byteC_cons, takeC_cons]
    simp only []
    rw [if_neg (by decide), hs, if_pos ⟨by decide, rfl, h⟩]
/-- What is got was put so. -/
theorem getS_inv {typ : Int} {b r : List UInt8} {t : St} (h : getS typ (some b) = (t, some r)) : rightS typ t = true ∧ b = putS typ t ++ r := by
  unfold getS at h
  split at h
  · rename_i h1
    split at h
    · rename_i x y hd
      split at h
      · rename_i hr
        obtain ⟨hr1, hr2⟩ := hr
        simp only [Prod.mk.injEq] at h
        obtain ⟨h2, h3⟩ := h
        obtain ⟨h4, h5⟩ := takeC_inv (show takeC (lenC (takeC (lenC (some b) 65536).2 1).2 262144).2 (lenC (takeC (lenC (some b) 65536).2 1).2 262144).1 = ((takeC (lenC (takeC (lenC (some b) 65536).2 1).2 262144).2 (lenC (takeC (lenC (some b) 65536).2 1).2 262144).1).1, some r) by rw [← h3])
        generalize (takeC (lenC (takeC (lenC (some b) 65536).2 1).2 262144).2 (lenC (takeC (lenC (some b) 65536).2 1).2 262144).1).1 = z at *
        obtain ⟨h6, _⟩ := lenC_inv (show lenC (takeC (lenC (some b) 65536).2 1).2 262144 = ((lenC (takeC (lenC (some b) 65536).2 1).2 262144).1, some (z ++ r)) by rw [← h4])
        generalize (lenC (takeC (lenC (some b) 65536).2 1).2 262144).1 = m at *
        obtain ⟨q, h7, h8⟩ := byteC_inv h6
        obtain ⟨h9, _, _, h10⟩ := lenC_inv (show lenC (some b) 65536 = ((lenC (some b) 65536).1, some (q :: (putB m ++ (z ++ r)))) by rw [← h7])
        generalize (lenC (some b) 65536).1 = n at *
        obtain ⟨g1, g2, g3⟩ := decV_inv hd
        injection h9 with h9
        have hq : q = 1 := UInt8.toNat_inj.1 (by rw [← h8, h1]; rfl)
        have hm : m = z.length := by omega
        have hn : uN (Int64.ofInt (n : Int)).toInt = n := by
          rw [toI (by unfold isI64; omega)]
          unfold uN
          omega
        subst h2
        refine ⟨hr2, ?_⟩
        unfold putS
        rw [if_pos hr2, if_pos rfl]
        simp only []
        rw [g2, hn, ← hm, h9, hq]
        simp [List.append_assoc]
      · simp at h
    · simp at h
  · split at h
    · rename_i hr
      obtain ⟨hr0, hr1, hr2⟩ := hr
      simp only [Prod.mk.injEq] at h
      obtain ⟨h2, h3⟩ := h
      obtain ⟨q, h7, h8⟩ := byteC_inv h3
      obtain ⟨h9, _, _, h10⟩ := lenC_inv (show lenC (some b) 65536 = ((lenC (some b) 65536).1, some (q :: r)) by rw [← h7])
      generalize (lenC (some b) 65536).1 = n at *
      injection h9 with h9
      have hq : q = 0 := UInt8.toNat_inj.1 (by rw [← h8, hr0]; rfl)
      have hn : uN (Int64.ofInt (n : Int)).toInt = n := by
        rw [toI (by unfold isI64; omega)]
        unfold uN
        omega
      subst h2
      refine ⟨hr2, ?_⟩
      unfold putS
      rw [if_pos hr2, if_neg (by simp)]
      simp only []
      rw [hn, h9, hq]
      simp [List.append_assoc]
    · simp at h
theorem getS_none {typ : Int} {s : Option (List UInt8)} (h : (getS typ s).2 = none) : (getS typ s).1 = St.zero := by
  unfold getS at h ⊢
  split at h
  · rename_i h1
    rw [if_pos h1]
    split at h
    · rename_i x y hd
      split at h
      · rename_i hr
        simp only [] at h
        rw [h] at hr
        simp at hr
      · rename_i hr
        rw [if_neg hr]
    · rfl
  · rename_i h1
    rw [if_neg h1]
    split at h
    · rename_i hr
      simp only [] at h
      rw [h] at hr
      simp at hr
    · rename_i hr
      rw [if_neg hr]
end Go.Proofs.Ytcpimhefclfbaaa

namespace Go.Proofs.Ytcpimhefclfbaaa
open Go Go.RowKit
set_option maxRecDepth 10000
set_option linter.unusedVariables false
set_option linter.unusedSimpArgs false

theorem ofInt_nat64 {n : Nat} (h : n ≤ 65536) : (Int64.ofInt (n : Int)).toInt = n := toI (by unfold isI64; omega)

theorem at12 {w : World} {p : Nat} {t : TypeId} {c0 c1 c2 c3 c4 c5 c6 c7 c8 c9 c10 c11 : Value} (h : Blk w p t [c0, c1, c2, c3, c4, c5, c6, c7, c8, c9, c10, c11]) :
    w.cell? ⟨p, 0, none⟩ = some c0 ∧ w.cell? ⟨p, 1, none⟩ = some c1 ∧ w.cell? ⟨p, 2, none⟩ = some c2 ∧ w.cell? ⟨p, 3, none⟩ = some c3 ∧ w.cell? ⟨p, 4, none⟩ = some c4 ∧ w.cell? ⟨p, 5, none⟩ = some c5 ∧ w.cell? ⟨p, 6, none⟩ = some c6 ∧ w.cell? ⟨p, 7, none⟩ = some c7 ∧ w.cell? ⟨p, 8, none⟩ = some c8 ∧ w.cell? ⟨p, 9, none⟩ = some c9 ∧ w.cell? ⟨p, 10, none⟩ = some c10 ∧ w.cell? ⟨p, 11, none⟩ = some c11 :=
  ⟨h.cell 0, h.cell 1, h.cell 2, h.cell 3, h.cell 4, h.cell 5, h.cell 6, h.cell 7, h.cell 8, h.cell 9, h.cell 10, h.cell 11⟩

set_option maxHeartbeats 4000000 in
theorem statGet_prog {g : Nat} {s : Option (List UInt8)} (typ : Int) (W : World) (h : Cur 88 W g s) :
    Calls Try.prog 36 #[.pointer (some ⟨g, 0, none⟩), .int .i64 typ] W fun e W' => e = .returned (stVal (getS typ s).1) ∧ Keep [g] W W' ∧ Cur 88 W' g (getS typ s).2 := by
  have hg := h.lt
  obtain ⟨r, hr⟩ : ∃ r, Hid (getS typ s = r) := ⟨_, rfl⟩
  rw [hr.out]
  have hr' := hr.out
  unfold getS at hr'
  have hm1 := lenC_le s
  have L1 := fun w hc => len_prog (g := g) (s := s) 65536 w hc (by omega)
  generalize lenC s 65536 = n1 at *
  obtain ⟨n, s1⟩ := n1
  simp only [] at hr' hm1 L1
  have hnS := Lib.hid (ofInt_nat64 hm1)
  generalize Int64.ofInt (n : Int) = nS at *
  have B1 := fun w hc => byte_prog (g := g) (s := s1) w hc
  have hblt := byteC_lt s1
  generalize byteC s1 = b at *
  generalize (takeC s1 1).2 = s2 at *
  have hr2 := Lib.hid hr'
  clear hr' hr
  replace L1 := Lib.hid L1
  replace B1 := Lib.hid B1
  have hgn : W.heap.size ∉ [g] := by simp; omega
  have hlow : ∀ b ∈ [W.heap.size], g < b := by simp; omega
  replace hlow := Lib.hid hlow
  have hsS : ∀ w, (Go.sizeOf 52).run Try.prog w = .ok 12 w := Try.sizeOf52
  replace hsS := Lib.hid hsS
  have hb0 : Blk (W.alloc (.cells (St.cs St.zero).toArray 52)) W.heap.size 52 (St.cs St.zero) := Blk.new W 52 _
  have hk0 : Keep [g] W (W.alloc (.cells (St.cs St.zero).toArray 52)) := ((Keep.refl _ _).alloc _)
  go_enter Try.func36, Try.ntmps36
  go_wp2_with fail
  refine (L1.out _ (h.pure ((Keep.refl _ _).alloc _))).mono ?_
  rintro e w3 ⟨rfl, hk3, hc3⟩
  have hlt3 := hb0.lt
  have hk3' := hk0.trans hk3
  have hb3 := hb0.keep hk3 hgn
  replace hlt3 := hb3.lt
  clear hb0 hk0 L1
  have hb5 : Blk (w3.alloc (.cells #[.int .i64 n, .bool false, .bool false, .int .i64 0, .string { data := #[] }, .int .i64 0, .int .i64 0, .bool false, .int .i64 0, .string { data := #[] }, .int .i64 0, .int .i64 0] 52)) w3.heap.size 52 [.int .i64 n, .bool false, .bool false, .int .i64 0, .string { data := #[] }, .int .i64 0, .int .i64 0, .bool false, .int .i64 0, .string { data := #[] }, .int .i64 0, .int .i64 0] := Blk.new w3 52 _
  have hka := (Keep.refl [g] w3).alloc (.cells #[.int .i64 n, .bool false, .bool false, .int .i64 0, .string { data := #[] }, .int .i64 0, .int .i64 0, .bool false, .int .i64 0, .string { data := #[] }, .int .i64 0, .int .i64 0] 52)
  have hg3 := hc3.lt
  have hp3 := hk3'.size
  go_wp2_with fail
  refine (B1.out _ (hc3.pure ((Keep.refl _ _).alloc _))).mono ?_
  rintro e w4 ⟨he4, hk4, hc4⟩
  have hgn5 : w3.heap.size ∉ [g] := by simp; omega
  have hb4 := hb5.keep hk4 hgn5
  have hbr4 := (hb3.keep hka hgn).keep hk4 hgn
  have hk4' := (hk3'.trans hka).trans hk4
  clear hb3 hb5 hk3 hka hk3' hk4 B1
  by_cases b0 : b = 0
  · subst b0
    obtain rfl : e = .returned (.int .u8 0) := he4
    have Bd := Lib.hid (bad_prog w4 hc4)
    cases s2 with
    | none =>
      have v1 : Hid (r = (St.zero, none)) := by
        have := hr2.out
        rw [if_neg (by omega), if_neg (by simp)] at this
        exact this.symm
      go_wp2_with fail
      refine Bd.out.mono ?_
      rintro e w5 ⟨rfl, rfl⟩
      simp only [Option.isNone_none]
      go_wp2_with fail
      refine (fail_prog _ hc4).mono ?_
      rintro e w5 ⟨rfl, hk5, hc5⟩
      have hbr5 := Lib.hid (hbr4.keep hk5 hgn)
      go_wp2_with (refine wpList_store_blk (ty := 52) (n := 12) rfl rfl (hsS.out _) (v := .agg #[.int .i64 0, .bool false, .bool false, .int .i64 0, .string { data := #[] }, .int .i64 0, .int .i64 0, .bool false, .int .i64 0, .string { data := #[] }, .int .i64 0, .int .i64 0]) hbr5.out rfl rfl rfl (by simp) (by simp [Value.cells, Value.oneCell']) ?_)
      intro w6 hS6 hk6
      have hb6 : Blk w6 W.heap.size 52 [.int .i64 0, .bool false, .bool false, .int .i64 0, .string { data := #[] }, .int .i64 0, .int .i64 0, .bool false, .int .i64 0, .string { data := #[] }, .int .i64 0, .int .i64 0] := by simpa [Value.cells] using hS6
      have hk6' := (hk4'.trans hk5).after hk6 (by simp)
      have hc6 := hc5.keep hk6 hlow.out
      clear hS6
      go_wp2
      rw [v1.out]
      exact bodyPost_ret (ret_st rfl St.zero rfl hb6) rfl ⟨rfl, hk6', hc6⟩
    | some l2 =>
      have e5 : stVal ⟨nS, false, Cell.zero, Cell.zero⟩ = .agg #[.int .i64 n, .bool false, .bool false, .int .i64 0, .string { data := #[] }, .int .i64 0, .int .i64 0, .bool false, .int .i64 0, .string { data := #[] }, .int .i64 0, .int .i64 0] := by simp only [stVal, hnS.out]; try rfl
      have R := fun w => rightS_prog typ ⟨nS, false, Cell.zero, Cell.zero⟩ w
      rw [e5] at R
      replace e5 := Lib.hid e5
      cases hR : rightS typ ⟨nS, false, Cell.zero, Cell.zero⟩ with
      | false =>
        have v1 : Hid (r = (St.zero, none)) := by
          have := hr2.out
          rw [if_neg (by omega), if_neg (by simp [hR])] at this
          exact this.symm
        rw [hR] at R
        replace R := Lib.hid R
        clear hR
        go_wp2_with fail
        refine Bd.out.mono ?_
        rintro e w5 ⟨rfl, rfl⟩
        simp only [Option.isNone_some]
        obtain ⟨a0, a1, a2, a3, a4, a5, a6, a7, a8, a9, a10, a11⟩ := at12 hb4
        go_wp2_with fail
        refine (R.out _).mono ?_
        rintro e w5 ⟨rfl, hkR⟩
        go_wp2_with fail
        refine (fail_prog _ (hc4.pure hkR)).mono ?_
        rintro e w6 ⟨rfl, hk5, hc5⟩
        have hbr5 := Lib.hid ((hbr4.keep hkR (by simp)).keep hk5 hgn)
        clear a0 a1 a2 a3 a4 a5 a6 a7 a8 a9 a10 a11
        go_wp2_with (refine wpList_store_blk (ty := 52) (n := 12) rfl rfl (hsS.out _) (v := .agg #[.int .i64 0, .bool false, .bool false, .int .i64 0, .string { data := #[] }, .int .i64 0, .int .i64 0, .bool false, .int .i64 0, .string { data := #[] }, .int .i64 0, .int .i64 0]) hbr5.out rfl rfl rfl (by simp) (by simp [Value.cells, Value.oneCell']) ?_)
        intro w7 hS6 hk6
        have hb6 : Blk w7 W.heap.size 52 [.int .i64 0, .bool false, .bool false, .int .i64 0, .string { data := #[] }, .int .i64 0, .int .i64 0, .bool false, .int .i64 0, .string { data := #[] }, .int .i64 0, .int .i64 0] := by simpa [Value.cells] using hS6
        have hk6' := ((hk4'.trans hkR.nil).trans hk5).after hk6 (by simp)
        have hc6 := hc5.keep hk6 hlow.out
        clear hS6
        go_wp2
        rw [v1.out]
        exact bodyPost_ret (ret_st rfl St.zero rfl hb6) rfl ⟨rfl, hk6', hc6⟩
      | true =>
        have v1 : Hid (r = (⟨nS, false, Cell.zero, Cell.zero⟩, some l2)) := by
          have := hr2.out
          rw [if_neg (by omega), if_pos ⟨rfl, rfl, hR⟩] at this
          exact this.symm
        rw [hR] at R
        replace R := Lib.hid R
        clear hR
        go_wp2_with fail
        refine Bd.out.mono ?_
        rintro e w5 ⟨rfl, rfl⟩
        simp only [Option.isNone_some]
        obtain ⟨a0, a1, a2, a3, a4, a5, a6, a7, a8, a9, a10, a11⟩ := at12 hb4
        go_wp2_with fail
        refine (R.out _).mono ?_
        rintro e w5 ⟨rfl, hkR⟩
        clear a0 a1 a2 a3 a4 a5 a6 a7 a8 a9 a10 a11
        obtain ⟨a0, a1, a2, a3, a4, a5, a6, a7, a8, a9, a10, a11⟩ := at12 (hb4.keep hkR (by simp))
        have hbr5 := Lib.hid (hbr4.keep hkR (by simp))
        go_wp2_with (refine wpList_store_blk (ty := 52) (n := 12) rfl rfl (hsS.out _) (v := .agg #[.int .i64 n, .bool false, .bool false, .int .i64 0, .string { data := #[] }, .int .i64 0, .int .i64 0, .bool false, .int .i64 0, .string { data := #[] }, .int .i64 0, .int .i64 0]) hbr5.out rfl rfl rfl (by simp) (by simp [Value.cells, Value.oneCell']) ?_)
        intro w7 hS6 hk6
        have hb6 : Blk w7 W.heap.size 52 [.int .i64 n, .bool false, .bool false, .int .i64 0, .string { data := #[] }, .int .i64 0, .int .i64 0, .bool false, .int .i64 0, .string { data := #[] }, .int .i64 0, .int .i64 0] := by simpa [Value.cells] using hS6
        have hk6' := (hk4'.trans hkR.nil).after hk6 (by simp)
        have hc6 := (hc4.pure hkR).keep hk6 hlow.out
        clear hS6
        go_wp2
        rw [v1.out]
        exact bodyPost_ret (ret_st rfl ⟨nS, false, Cell.zero, Cell.zero⟩ rfl (by have e6 := e5.out; injection e6 with e6; injection e6 with e6; rw [show St.cs _ = _ from e6]; exact hb6)) rfl ⟨rfl, hk6', hc6⟩
  by_cases b1 : b = 1
  · subst b1
    obtain rfl : e = .returned (.int .u8 1) := he4
    clear b0
    have hr3 := hr2.out
    rw [if_pos rfl] at hr3
    clear hr2
    have L2 := fun w hc => len_prog (g := g) (s := s2) 262144 w hc (by omega)
    have hm2 := lenC_max s2 (most := 262144) (by omega)
    generalize lenC s2 262144 = n2 at *
    obtain ⟨m, s3⟩ := n2
    simp only [] at hr3 hm2 L2
    have T2 := fun w hc => take_prog (g := g) (s := s3) (m : Int) w hc (by omega)
    have htl := takeC_len s3 (m : Int)
    generalize takeC s3 (m : Int) = t2 at *
    obtain ⟨x, s4⟩ := t2
    simp only [] at hr3 htl T2
    have hxl : x.length ≤ 262144 := by omega
    clear htl
    replace L2 := Lib.hid L2
    replace T2 := Lib.hid T2
    replace hr3 := Lib.hid hr3
    go_wp2_with fail
    refine (L2.out _ hc4).mono ?_
    rintro e w5 ⟨rfl, hk5, hc5⟩
    have hb5 := hb4.keep hk5 hgn5
    have hbr5 := hbr4.keep hk5 hgn
    have hk5' := hk4'.trans hk5
    go_wp2_with fail
    refine (T2.out _ hc5).mono ?_
    rintro e w6 ⟨B6, m6, d6, rfl, hk6, hc6, hown6⟩
    have hb6 := hb5.keep hk6 hgn5
    have hbr6 := hbr5.keep hk6 hgn
    have hk6' := hk5'.trans hk6
    have hy6 : Bys [] w6 B6 m6 d6 x := rd_of_own hown6 (by simp)
    have hm6 := hy6.len1
    have D := decode_prog typ 2 w6 hy6 (by omega) (by omega)
    clear hb4 hbr4 hk4' hk5 hk5' hb5 hbr5 hc4 hc5 hown6 L2 T2 hk6
    cases hd : decV typ x 2 with
    | none =>
      have v1 : Hid (r = (St.zero, none)) := by
        have := hr3.out
        rw [hd] at this
        exact this.symm
      unfold DecV at D
      simp only [hd, Option.isSome_none, Option.getD_none] at D
      replace D := Lib.hid D
      clear hd
      go_wp2_with fail
      refine D.out.mono ?_
      rintro e w7 ⟨B7, k7, d7, rfl, hk7, _⟩
      go_wp2_with fail
      refine (fail_prog _ (hc6.pure hk7)).mono ?_
      rintro e w8 ⟨rfl, hk8, hc8⟩
      have hbr8 := Lib.hid ((hbr6.keep hk7 (by simp)).keep hk8 hgn)
      go_wp2_with (refine wpList_store_blk (ty := 52) (n := 12) rfl rfl (hsS.out _) (v := .agg #[.int .i64 0, .bool false, .bool false, .int .i64 0, .string { data := #[] }, .int .i64 0, .int .i64 0, .bool false, .int .i64 0, .string { data := #[] }, .int .i64 0, .int .i64 0]) hbr8.out rfl rfl rfl (by simp) (by simp [Value.cells, Value.oneCell']) ?_)
      intro w9 hS9 hk9
      have hb9 : Blk w9 W.heap.size 52 [.int .i64 0, .bool false, .bool false, .int .i64 0, .string { data := #[] }, .int .i64 0, .int .i64 0, .bool false, .int .i64 0, .string { data := #[] }, .int .i64 0, .int .i64 0] := by simpa [Value.cells] using hS9
      have hk9' := ((hk6'.trans hk7.nil).trans hk8).after hk9 (by simp)
      have hc9 := hc8.keep hk9 hlow.out
      clear hS9
      go_wp2
      rw [v1.out]
      exact bodyPost_ret (ret_st rfl St.zero rfl hb9) rfl ⟨rfl, hk9', hc9⟩
    | some l =>
      obtain ⟨hrl, _, hl2⟩ := decV_inv hd
      match l, hl2 with
      | [p, q], _ =>
      unfold DecV at D
      simp only [hd, Option.isSome_some, Option.getD_some] at D
      replace D := Lib.hid D
      go_wp2_with fail
      refine D.out.mono ?_
      rintro e w7 ⟨B7, k7, d7, rfl, hk7, hnew⟩
      have hsz6 := hb6.lt
      have hsz6' := hbr6.lt
      have hcs := hnew [w3.heap.size, W.heap.size] (by simp; omega)
      have hlen := hcs.len
      obtain rfl : k7 = 2 := by simpa using hlen.symm
      obtain ⟨bb, off, rfl, hbl, hbx, p0, p1, p2, p3, p4⟩ := hcs.at5 (k := 0) (by simp)
      obtain ⟨bb', off', he, _, _, q0, q1, q2, q3, q4⟩ := hcs.at5 (k := 1) (by simp)
      cases he
      simp at p0 p1 p2 p3 p4 q0 q1 q2 q3 q4
      have hb7 := hb6.keep hk7 (by simp)
      have hbr7 := hbr6.keep hk7 (by simp)
      have hk7' := hk6'.trans hk7.nil
      obtain ⟨a0, a1, a2, a3, a4, a5, a6, a7, a8, a9, a10, a11⟩ := at12 hb7
      have f1 := hb7.frozen
      replace f1 := Lib.hid f1
      have n1 : ¬ bb = w3.heap.size := by simp at hbx; omega
      have n2 : ¬ w3.heap.size = bb := by omega
      clear hnew hcs hlen hbl hb6 hbr6 hk6' hbx hsz6 hsz6' hrl hy6 hm6
      have g1 := f1.out 1
      have g2 := f1.out 2
      have g3 := f1.out 3
      have g4 := f1.out 4
      have g5 := f1.out 5
      have g6 := f1.out 6
      have g7 := f1.out 7
      have g8 := f1.out 8
      have g9 := f1.out 9
      have g10 := f1.out 10
      have g11 := f1.out 11
      go_wp2
      go_region
      obtain ⟨w8, hw8⟩ : ∃ w8, (([(1, .bool true), (2, .bool p.null), (3, .int .i64 p.int.toInt), (4, .string p.text), (5, .int .i64 p.x.toInt), (6, .int .i64 p.y.toInt), (7, .bool q.null), (8, .int .i64 q.int.toInt), (9, .string q.text), (10, .int .i64 q.x.toInt), (11, .int .i64 q.y.toInt)] : List (Nat × Value)).foldl (fun w x => w.setCell ⟨w3.heap.size, x.1, none⟩ x.2) w7).drew = w8 := ⟨_, rfl⟩
      have hb8 : Blk w8 w3.heap.size 52 [.int .i64 n, .bool true, .bool p.null, .int .i64 p.int.toInt, .string p.text, .int .i64 p.x.toInt, .int .i64 p.y.toInt, .bool q.null, .int .i64 q.int.toInt, .string q.text, .int .i64 q.x.toInt, .int .i64 q.y.toInt] := hw8 ▸ (stores_blk [(1, .bool true), (2, .bool p.null), (3, .int .i64 p.int.toInt), (4, .string p.text), (5, .int .i64 p.x.toInt), (6, .int .i64 p.y.toInt), (7, .bool q.null), (8, .int .i64 q.int.toInt), (9, .string q.text), (10, .int .i64 q.x.toInt), (11, .int .i64 q.y.toInt)] hb7).drew
      have hq8 : Keep [w3.heap.size] w7 w8 := hw8 ▸ (stores_keep (.inl (by simp)) [(1, .bool true), (2, .bool p.null), (3, .int .i64 p.int.toInt), (4, .string p.text), (5, .int .i64 p.x.toInt), (6, .int .i64 p.y.toInt), (7, .bool q.null), (8, .int .i64 q.int.toInt), (9, .string q.text), (10, .int .i64 q.x.toInt), (11, .int .i64 q.y.toInt)] (Keep.refl _ _)).drew
      simp only [List.foldl_cons, List.foldl_nil] at hw8
      rw [hw8]
      clear hw8
      have hbr8 := hbr7.keep hq8 (by simp; omega)
      have hk8' := hk7'.after hq8 (by simp; omega)
      have hc8 := (hc6.pure hk7).keep hq8 (by simp; omega)
      clear a0 a1 a2 a3 a4 a5 a6 a7 a8 a9 a10 a11 f1 g1 g2 g3 g4 g5 g6 g7 g8 g9 g10 g11 p0 p1 p2 p3 p4 q0 q1 q2 q3 q4 hb7 hbr7 hk7' hq8 hc6 D hk7
      have Bd := Lib.hid (bad_prog w8 hc8)
      replace hd := Lib.hid hd
      cases s4 with
      | none =>
        have v1 : Hid (r = (St.zero, none)) := by
          have := hr3.out
          rw [hd.out] at this
          simp only [] at this
          rw [if_neg (by simp)] at this
          exact this.symm
        go_wp2_with fail
        refine Bd.out.mono ?_
        rintro e w5 ⟨rfl, rfl⟩
        simp only [Option.isNone_none]
        go_wp2_with fail
        refine (fail_prog _ hc8).mono ?_
        rintro e w5 ⟨rfl, hk5, hc5⟩
        have hbr5 := Lib.hid (hbr8.keep hk5 hgn)
        go_wp2_with (refine wpList_store_blk (ty := 52) (n := 12) rfl rfl (hsS.out _) (v := .agg #[.int .i64 0, .bool false, .bool false, .int .i64 0, .string { data := #[] }, .int .i64 0, .int .i64 0, .bool false, .int .i64 0, .string { data := #[] }, .int .i64 0, .int .i64 0]) hbr5.out rfl rfl rfl (by simp) (by simp [Value.cells, Value.oneCell']) ?_)
        intro w6 hS6 hk6
        have hb6 : Blk w6 W.heap.size 52 [.int .i64 0, .bool false, .bool false, .int .i64 0, .string { data := #[] }, .int .i64 0, .int .i64 0, .bool false, .int .i64 0, .string { data := #[] }, .int .i64 0, .int .i64 0] := by simpa [Value.cells] using hS6
        have hk6' := (hk8'.trans hk5).after hk6 (by simp)
        have hc6 := hc5.keep hk6 hlow.out
        clear hS6
        go_wp2
        rw [v1.out]
        exact bodyPost_ret (ret_st rfl St.zero rfl hb6) rfl ⟨rfl, hk6', hc6⟩
      | some l4 =>
        have e5 : stVal ⟨nS, true, p, q⟩ = .agg #[.int .i64 n, .bool true, .bool p.null, .int .i64 p.int.toInt, .string p.text, .int .i64 p.x.toInt, .int .i64 p.y.toInt, .bool q.null, .int .i64 q.int.toInt, .string q.text, .int .i64 q.x.toInt, .int .i64 q.y.toInt] := by simp only [stVal, hnS.out]; try rfl
        have R := fun w => rightS_prog typ ⟨nS, true, p, q⟩ w
        rw [e5] at R
        replace e5 := Lib.hid e5
        cases hR : rightS typ ⟨nS, true, p, q⟩ with
        | false =>
          have v1 : Hid (r = (St.zero, none)) := by
            have := hr3.out
            rw [hd.out] at this
            simp only [] at this
            rw [if_neg (by simp [hR])] at this
            exact this.symm
          rw [hR] at R
          replace R := Lib.hid R
          clear hR
          go_wp2_with fail
          refine Bd.out.mono ?_
          rintro e w5 ⟨rfl, rfl⟩
          simp only [Option.isNone_some]
          obtain ⟨a0, a1, a2, a3, a4, a5, a6, a7, a8, a9, a10, a11⟩ := at12 hb8
          go_wp2_with fail
          refine (R.out _).mono ?_
          rintro e w5 ⟨rfl, hkR⟩
          go_wp2_with fail
          refine (fail_prog _ (hc8.pure hkR)).mono ?_
          rintro e w6 ⟨rfl, hk5, hc5⟩
          have hbr5 := Lib.hid ((hbr8.keep hkR (by simp)).keep hk5 hgn)
          clear a0 a1 a2 a3 a4 a5 a6 a7 a8 a9 a10 a11
          go_wp2_with (refine wpList_store_blk (ty := 52) (n := 12) rfl rfl (hsS.out _) (v := .agg #[.int .i64 0, .bool false, .bool false, .int .i64 0, .string { data := #[] }, .int .i64 0, .int .i64 0, .bool false, .int .i64 0, .string { data := #[] }, .int .i64 0, .int .i64 0]) hbr5.out rfl rfl rfl (by simp) (by simp [Value.cells, Value.oneCell']) ?_)
          intro w7 hS6 hk6
          have hb6 : Blk w7 W.heap.size 52 [.int .i64 0, .bool false, .bool false, .int .i64 0, .string { data := #[] }, .int .i64 0, .int .i64 0, .bool false, .int .i64 0, .string { data := #[] }, .int .i64 0, .int .i64 0] := by simpa [Value.cells] using hS6
          have hk6' := ((hk8'.trans hkR.nil).trans hk5).after hk6 (by simp)
          have hc6 := hc5.keep hk6 hlow.out
          clear hS6
          go_wp2
          rw [v1.out]
          exact bodyPost_ret (ret_st rfl St.zero rfl hb6) rfl ⟨rfl, hk6', hc6⟩
        | true =>
          have v1 : Hid (r = (⟨nS, true, p, q⟩, some l4)) := by
            have := hr3.out
            rw [hd.out] at this
            simp only [] at this
            rw [if_pos ⟨rfl, hR⟩] at this
            exact this.symm
          rw [hR] at R
          replace R := Lib.hid R
          clear hR
          go_wp2_with fail
          refine Bd.out.mono ?_
          rintro e w5 ⟨rfl, rfl⟩
          simp only [Option.isNone_some]
          obtain ⟨a0, a1, a2, a3, a4, a5, a6, a7, a8, a9, a10, a11⟩ := at12 hb8
          go_wp2_with fail
          refine (R.out _).mono ?_
          rintro e w5 ⟨rfl, hkR⟩
          clear a0 a1 a2 a3 a4 a5 a6 a7 a8 a9 a10 a11
          obtain ⟨a0, a1, a2, a3, a4, a5, a6, a7, a8, a9, a10, a11⟩ := at12 (hb8.keep hkR (by simp))
          have hbr5 := Lib.hid (hbr8.keep hkR (by simp))
          go_wp2_with (refine wpList_store_blk (ty := 52) (n := 12) rfl rfl (hsS.out _) (v := .agg #[.int .i64 n, .bool true, .bool p.null, .int .i64 p.int.toInt, .string p.text, .int .i64 p.x.toInt, .int .i64 p.y.toInt, .bool q.null, .int .i64 q.int.toInt, .string q.text, .int .i64 q.x.toInt, .int .i64 q.y.toInt]) hbr5.out rfl rfl rfl (by simp) (by simp [Value.cells, Value.oneCell']) ?_)
          intro w7 hS6 hk6
          have hb6 : Blk w7 W.heap.size 52 [.int .i64 n, .bool true, .bool p.null, .int .i64 p.int.toInt, .string p.text, .int .i64 p.x.toInt, .int .i64 p.y.toInt, .bool q.null, .int .i64 q.int.toInt, .string q.text, .int .i64 q.x.toInt, .int .i64 q.y.toInt] := by simpa [Value.cells] using hS6
          have hk6' := (hk8'.trans hkR.nil).after hk6 (by simp)
          have hc6 := (hc8.pure hkR).keep hk6 hlow.out
          clear hS6
          go_wp2
          rw [v1.out]
          exact bodyPost_ret (ret_st rfl ⟨nS, true, p, q⟩ rfl (by have e6 := e5.out; injection e6 with e6; injection e6 with e6; rw [show St.cs _ = _ from e6]; exact hb6)) rfl ⟨rfl, hk6', hc6⟩
  · have v1 : Hid (r = (St.zero, none)) := by
      have := hr2.out
      rw [if_neg b1, if_neg (by simp [b0])] at this
      exact this.symm
    have e0 : ((b : Int) == 0) = false := by rw [beq_eq_false_iff_ne]; omega
    have e1 : ((b : Int) == 1) = false := by rw [beq_eq_false_iff_ne]; omega
    subst he4
    clear b0 b1 hr2
    go_wp2_with fail
    refine (fail_prog _ hc4).mono ?_
    rintro e w5 ⟨rfl, hk5, hc5⟩
    have Bd := Lib.hid (bad_prog w5 hc5)
    have hbr5 := hbr4.keep hk5 hgn
    go_wp2_with fail
    refine Bd.out.mono ?_
    rintro e w6 ⟨rfl, rfl⟩
    simp only [Option.isNone_none]
    go_wp2_with fail
    refine (fail_prog _ hc5).mono ?_
    rintro e w6 ⟨rfl, hk6, hc6⟩
    have hbr6 := Lib.hid (hbr5.keep hk6 hgn)
    go_wp2_with (refine wpList_store_blk (ty := 52) (n := 12) rfl rfl (hsS.out _) (v := .agg #[.int .i64 0, .bool false, .bool false, .int .i64 0, .string { data := #[] }, .int .i64 0, .int .i64 0, .bool false, .int .i64 0, .string { data := #[] }, .int .i64 0, .int .i64 0]) hbr6.out rfl rfl rfl (by simp) (by simp [Value.cells, Value.oneCell']) ?_)
    intro w7 hS7 hk7
    have hb7 : Blk w7 W.heap.size 52 [.int .i64 0, .bool false, .bool false, .int .i64 0, .string { data := #[] }, .int .i64 0, .int .i64 0, .bool false, .int .i64 0, .string { data := #[] }, .int .i64 0, .int .i64 0] := by simpa [Value.cells] using hS7
    have hk7' := ((hk4'.trans hk5).trans hk6).after hk7 (by simp)
    have hc7 := hc6.keep hk7 hlow.out
    clear hS7
    go_wp2
    rw [v1.out]
    exact bodyPost_ret (ret_st rfl St.zero rfl hb7) rfl ⟨rfl, hk7', hc7⟩
end Go.Proofs.Ytcpimhefclfbaaa
