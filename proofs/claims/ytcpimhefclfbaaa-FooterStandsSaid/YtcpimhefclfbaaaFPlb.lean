/-
  The walks of layer 9's functions: a value of bytes.
  The walks of the reference's layer 9: a value of bytes.
  The walks of layer 9's functions: Decode.
  The walks of layer 9's functions: Decode, its loop.
  Values that are read, as plain laws: what was laid is read, and what is read was laid so.
  The walks of the reference's layer 9: Decode.
-/
import Derived.Test.YtcpimhefclfbaaaFPla
import Derived.Test.YtcpimhefclfbaaaFCu
namespace Go.Proofs.Ytcpimhefclfbaaa
open Go Go.RowKit
set_option maxRecDepth 10000
set_option linter.unusedVariables false
set_option linter.unusedSimpArgs false

theorem toI {x : Int} (h : isI64 x) : (Int64.ofInt x).toInt = x := by
  unfold isI64 at h
  exact Int64.toInt_ofInt_of_le (by omega) (by omega)
theorem wrap64_is (x : Int) : isI64 (wrap64 x) := by
  unfold isI64 wrap64
  have := Int.emod_nonneg (x + 9223372036854775808) (show (18446744073709551616 : Int) ≠ 0 by decide)
  have := Int.emod_lt_of_pos (x + 9223372036854775808) (show (0 : Int) < 18446744073709551616 by decide)
  omega
/-- The next value, and what is left then. -/
def cellT (typ : Int) (s : Option (List UInt8)) : Cell × Option (List UInt8) :=
  if typ = 0 then (⟨false, Int64.ofInt (wrap64 (num (takeC s 8).1)), ByteArray.empty, 0, 0⟩, (takeC s 8).2)
  else if typ = 2 then (⟨false, 0, ⟨(takeC (lenC s 65536).2 (lenC s 65536).1).1.toArray⟩, 0, 0⟩, (takeC (lenC s 65536).2 (lenC s 65536).1).2)
  else if typ = 3 then (⟨false, 0, ByteArray.empty, Int64.ofInt (zagZ (getC s).1), Int64.ofInt (zagZ (getC (getC s).2).1)⟩, (getC (getC s).2).2)
  else (⟨false, 0, ByteArray.empty, 0, Int64.ofInt (zagZ (getC s).1)⟩, (getC s).2)

theorem stores_keep {M : List Nat} {W w : World} {p : Nat} (hp : p ∈ M ∨ W.heap.size ≤ p) : ∀ (l : List (Nat × Value)) (_ : Keep M W w), Keep M W (l.foldl (fun w x => w.setCell ⟨p, x.1, none⟩ x.2) w)
  | [], h => h
  | x :: l, h => stores_keep (w := w.setCell ⟨p, x.1, none⟩ x.2) hp l (h.setCell hp _)
theorem stores_blk {p : Nat} {t : TypeId} : ∀ (l : List (Nat × Value)) {w : World} {cs : List Value} (_ : Blk w p t cs), Blk (l.foldl (fun w x => w.setCell ⟨p, x.1, none⟩ x.2) w) p t (l.foldl (fun cs x => cs.set x.1 x.2) cs)
  | [], _, _, h => h
  | x :: l, _, _, h => stores_blk l (h.set_ x.1 x.2)
theorem blk5 {w : World} {p : Nat} {t : TypeId} {a b c d e : Value} (h : Blk w p t [a, b, c, d, e]) :
    (w.cell? ⟨p, 0, none⟩ = some a ∧ w.cell? ⟨p, 1, none⟩ = some b ∧ w.cell? ⟨p, 2, none⟩ = some c ∧ w.cell? ⟨p, 3, none⟩ = some d ∧ w.cell? ⟨p, 4, none⟩ = some e) ∧
    (w.frozen? ⟨p, 0, none⟩ = false ∧ w.frozen? ⟨p, 1, none⟩ = false ∧ w.frozen? ⟨p, 2, none⟩ = false ∧ w.frozen? ⟨p, 3, none⟩ = false ∧ w.frozen? ⟨p, 4, none⟩ = false) :=
  ⟨⟨h.cell 0, h.cell 1, h.cell 2, h.cell 3, h.cell 4⟩, h.frozen 0, h.frozen 1, h.frozen 2, h.frozen 3, h.frozen 4⟩

theorem lenC_le (s : Option (List UInt8)) : (lenC s 65536).1 ≤ 65536 := by
  unfold lenC
  split
  · split
    · rename_i h; simp only []; omega
    · simp
  · simp

set_option maxHeartbeats 2000000 in
theorem takeCell_prog {g : Nat} {s : Option (List UInt8)} (typ : Int) (W : World) (h : Cur 88 W g s) :
    Calls Try.prog 77 #[.pointer (some ⟨g, 0, none⟩), .int .i64 typ] W fun e W' => e = .returned (cellVal (cellT typ s).1) ∧ Keep [g] W W' ∧ Cur 88 W' g (cellT typ s).2 := by
  have hg := h.lt
  obtain ⟨W2, hW2⟩ : ∃ W2, W.alloc (.cells #[.bool false, .int .i64 0, .string { data := #[] }, .int .i64 0, .int .i64 0] 50) = W2 := ⟨_, rfl⟩
  have hk2 : Keep [] W W2 := by rw [← hW2]; exact (Keep.refl _ _).alloc _
  have hb2 : Blk W2 W.heap.size 50 [.bool false, .int .i64 0, .string { data := #[] }, .int .i64 0, .int .i64 0] := by rw [← hW2]; exact Blk.new W 50 _
  have h2 := h.pure hk2
  have hgn : W.heap.size ∉ [g] := by simp; omega
  have hlow : ∀ b ∈ [W.heap.size], g < b := by simp; omega
  have hend : ∀ (w3 : World) (z : Option (List UInt8)) (cs0 cs1 : List Value) (l : List (Nat × Value)), Blk w3 W.heap.size 50 cs0 → Keep [g] W w3 → Cur 88 w3 g z →
      l.foldl (fun cs x => cs.set x.1 x.2) cs0 = cs1 →
      Blk (l.foldl (fun w x => w.setCell ⟨W.heap.size, x.1, none⟩ x.2) w3) W.heap.size 50 cs1 ∧ Keep [g] W (l.foldl (fun w x => w.setCell ⟨W.heap.size, x.1, none⟩ x.2) w3) ∧ Cur 88 (l.foldl (fun w x => w.setCell ⟨W.heap.size, x.1, none⟩ x.2) w3) g z := fun w3 z cs0 cs1 l hb hk hc he =>
    ⟨he ▸ stores_blk l hb, stores_keep (.inr (Nat.le_refl _)) l hk, hc.keep (stores_keep (M := [W.heap.size]) (.inl (by simp)) l (Keep.refl _ _)) hlow⟩
  replace hend := Lib.hid hend
  replace hlow := Lib.hid hlow
  by_cases h0 : typ = 0
  · have hv : Hid (cellT typ s = (⟨false, Int64.ofInt (wrap64 (num (takeC s 8).1)), ByteArray.empty, 0, 0⟩, (takeC s 8).2)) := by rw [Hid, cellT, if_pos h0]
    rw [hv.out]
    clear hv
    have C := u64_get W2 h2
    generalize num (takeC s 8).1 = n at *
    have hz := Lib.hid (toI (wrap64_is n))
    replace C := Lib.hid C
    subst h0
    go_enter Try.func77, Try.ntmps77
    go_wp2_with fail
    refine C.out.mono ?_
    rintro e w3 ⟨rfl, hk3, hcur⟩
    have hb3 := hb2.keep hk3 hgn
    obtain ⟨⟨c0, c1, c2, c3, c4⟩, f0, f1, f2, f3, f4⟩ := blk5 hb3
    go_wp2
    obtain ⟨e1, e2, e3⟩ := hend.out w3 _ _ _ [(1, .int .i64 (wrap64 n)), (0, .bool false), (1, .int .i64 (wrap64 n)), (2, .string { data := #[] }), (3, .int .i64 0), (4, .int .i64 0)] hb3 (hk2.nil.trans hk3) hcur rfl
    exact bodyPost_ret (ret_cell rfl ⟨false, Int64.ofInt (wrap64 n), ByteArray.empty, 0, 0⟩ rfl (by simp only [Cell.cs, vI, hz.out]; exact e1)) rfl ⟨rfl, e2, e3⟩
  by_cases h2' : typ = 2
  · have hv : Hid (cellT typ s = (⟨false, 0, ⟨(takeC (lenC s 65536).2 (lenC s 65536).1).1.toArray⟩, 0, 0⟩, (takeC (lenC s 65536).2 (lenC s 65536).1).2)) := by rw [Hid, cellT, if_neg h0, if_pos h2']
    rw [hv.out]
    clear hv h0
    subst h2'
    have C := len_prog 65536 W2 h2 (by omega)
    have hle := lenC_le s
    generalize (lenC s 65536).2 = s1 at *
    generalize (lenC s 65536).1 = n at *
    replace C := Lib.hid C
    go_enter Try.func77, Try.ntmps77
    go_wp2_with fail
    refine C.out.mono ?_
    rintro e w3 ⟨rfl, hk3, hcur⟩
    have C2 := Lib.hid (take_prog n w3 hcur (by omega))
    go_wp2_with fail
    refine C2.out.mono ?_
    rintro e w4 ⟨B, m, d, rfl, hk4, hcur4, hown⟩
    have hr4 : Bys [] w4 B m d (takeC s1 n).1 := rd_of_own hown (by simp)
    have hstr := fun w (h : Bys [] w B m d (takeC s1 n).1) => str_run h
    have hstr4 := hstr w4 hr4
    clear hstr hown
    have hb4 := (hb2.keep hk3 hgn).keep hk4 hgn
    obtain ⟨⟨c0, c1, c2, c3, c4⟩, f0, f1, f2, f3, f4⟩ := blk5 hb4
    go_wp2
    obtain ⟨e1, e2, e3⟩ := hend.out w4 _ _ _ [(2, .string ⟨(takeC s1 n).1.toArray⟩), (0, .bool false), (1, .int .i64 0), (2, .string ⟨(takeC s1 n).1.toArray⟩), (3, .int .i64 0), (4, .int .i64 0)] hb4 ((hk2.nil.trans hk3).trans hk4) hcur4 rfl
    exact bodyPost_ret (ret_cell rfl ⟨false, 0, ⟨(takeC s1 n).1.toArray⟩, 0, 0⟩ rfl e1) rfl ⟨rfl, e2, e3⟩
  by_cases h3 : typ = 3
  · have hv : Hid (cellT typ s = (⟨false, 0, ByteArray.empty, Int64.ofInt (zagZ (getC s).1), Int64.ofInt (zagZ (getC (getC s).2).1)⟩, (getC (getC s).2).2)) := by rw [Hid, cellT, if_neg h0, if_neg h2', if_pos h3]
    rw [hv.out]
    clear hv h0 h2'
    subst h3
    have C := get_prog W2 h2
    have hlt := getC_lt s
    have hlt2 := getC_lt (getC s).2
    generalize (getC s).1 = n at *
    generalize (getC s).2 = s1 at *
    have Z1 := fun w => zag_prog n w hlt
    have hz1 := Lib.hid (toI (zag_64 hlt))
    have Z2 := fun w => zag_prog (getC s1).1 w hlt2
    have hz2 := Lib.hid (toI (zag_64 hlt2))
    clear hlt hlt2
    generalize hm : (getC s1).1 = m at *
    replace hm := Lib.hid hm
    replace C := Lib.hid C
    replace Z1 := Lib.hid Z1
    replace Z2 := Lib.hid Z2
    go_enter Try.func77, Try.ntmps77
    go_wp2_with fail
    refine C.out.mono ?_
    rintro e w3 ⟨rfl, hk3, hcur⟩
    have hb3 := hb2.keep hk3 hgn
    obtain ⟨⟨c0, c1, c2, c3, c4⟩, f0, f1, f2, f3, f4⟩ := blk5 hb3
    go_wp2_with fail
    refine (Z1.out _).mono ?_
    rintro e w4 ⟨rfl, rfl⟩
    obtain ⟨i1, i2, i3⟩ := hend.out w3 _ _ _ [(3, .int .i64 (zagZ n))] hb3 (hk2.nil.trans hk3) hcur rfl
    simp only [List.foldl_cons, List.foldl_nil] at i1 i2 i3
    have C2 := get_prog _ i3
    rw [hm.out] at C2
    replace C2 := Lib.hid C2
    go_wp2_with fail
    refine C2.out.mono ?_
    rintro e w5 ⟨rfl, hk5, hcur5⟩
    have hb5 := i1.keep hk5 hgn
    obtain ⟨⟨d0, d1, d2, d3, d4⟩, g0, g1, g2, g3, g4⟩ := blk5 hb5
    clear c0 c1 c2 c3 c4 f0 f1 f2 f3 f4
    go_wp2_with fail
    refine (Z2.out _).mono ?_
    rintro e w6 ⟨rfl, rfl⟩
    go_wp2
    obtain ⟨e1, e2, e3⟩ := hend.out w5 _ _ _ [(4, .int .i64 (zagZ m)), (0, .bool false), (1, .int .i64 0), (2, .string { data := #[] }), (3, .int .i64 (zagZ n)), (4, .int .i64 (zagZ m))] hb5 (i2.trans hk5) hcur5 rfl
    exact bodyPost_ret (ret_cell rfl ⟨false, 0, ByteArray.empty, Int64.ofInt (zagZ n), Int64.ofInt (zagZ m)⟩ rfl (by simp only [Cell.cs, vI, hz1.out, hz2.out]; exact e1)) rfl ⟨rfl, e2, e3⟩
  · have hv : Hid (cellT typ s = (⟨false, 0, ByteArray.empty, 0, Int64.ofInt (zagZ (getC s).1)⟩, (getC s).2)) := by rw [Hid, cellT, if_neg h0, if_neg h2', if_neg h3]
    rw [hv.out]
    clear hv
    have C := get_prog W2 h2
    have hlt := getC_lt s
    generalize (getC s).1 = n at *
    have Z1 := fun w => zag_prog n w hlt
    have hz1 := Lib.hid (toI (zag_64 hlt))
    clear hlt
    replace C := Lib.hid C
    replace Z1 := Lib.hid Z1
    go_enter Try.func77, Try.ntmps77
    go_wp2_with fail
    refine C.out.mono ?_
    rintro e w3 ⟨rfl, hk3, hcur⟩
    have hb3 := hb2.keep hk3 hgn
    obtain ⟨⟨c0, c1, c2, c3, c4⟩, f0, f1, f2, f3, f4⟩ := blk5 hb3
    go_wp2_with fail
    refine (Z1.out _).mono ?_
    rintro e w4 ⟨rfl, rfl⟩
    go_wp2
    obtain ⟨e1, e2, e3⟩ := hend.out w3 _ _ _ [(4, .int .i64 (zagZ n)), (0, .bool false), (1, .int .i64 0), (2, .string { data := #[] }), (3, .int .i64 0), (4, .int .i64 (zagZ n))] hb3 (hk2.nil.trans hk3) hcur rfl
    exact bodyPost_ret (ret_cell rfl ⟨false, 0, ByteArray.empty, 0, Int64.ofInt (zagZ n)⟩ rfl (by simp only [Cell.cs, vI, hz1.out]; exact e1)) rfl ⟨rfl, e2, e3⟩
end Go.Proofs.Ytcpimhefclfbaaa

namespace Go.Proofs.Ytcpimhefclfbaaa
open Go Go.RowKit
set_option maxRecDepth 10000
set_option linter.unusedVariables false
set_option linter.unusedSimpArgs false

set_option maxHeartbeats 2000000 in
theorem one_ref {g : Nat} {s : Option (List UInt8)} (typ : Int) (W : World) (h : Cur 74 W g s)
    (ht : typ = 0 ∨ typ = 2 ∨ typ = 3) : Calls Try.prog 99 #[.int .i64 typ, .pointer (some ⟨g, 0, none⟩)] W fun e W' => e = .returned (cellVal (cellT typ s).1) ∧ Keep [g] W W' ∧ Cur 74 W' g (cellT typ s).2 := by
  have hg := h.lt
  obtain ⟨W2, hW2⟩ : ∃ W2, W.alloc (.cells #[.bool false, .int .i64 0, .string { data := #[] }, .int .i64 0, .int .i64 0] 50) = W2 := ⟨_, rfl⟩
  have hk2 : Keep [] W W2 := by rw [← hW2]; exact (Keep.refl _ _).alloc _
  have hb2 : Blk W2 W.heap.size 50 [.bool false, .int .i64 0, .string { data := #[] }, .int .i64 0, .int .i64 0] := by rw [← hW2]; exact Blk.new W 50 _
  have h2 := h.pure hk2
  have hgn : W.heap.size ∉ [g] := by simp; omega
  have hlow : ∀ b ∈ [W.heap.size], g < b := by simp; omega
  have hend : ∀ (w3 : World) (z : Option (List UInt8)) (cs0 cs1 : List Value) (l : List (Nat × Value)), Blk w3 W.heap.size 50 cs0 → Keep [g] W w3 → Cur 74 w3 g z →
      l.foldl (fun cs x => cs.set x.1 x.2) cs0 = cs1 →
      Blk (l.foldl (fun w x => w.setCell ⟨W.heap.size, x.1, none⟩ x.2) w3) W.heap.size 50 cs1 ∧ Keep [g] W (l.foldl (fun w x => w.setCell ⟨W.heap.size, x.1, none⟩ x.2) w3) ∧ Cur 74 (l.foldl (fun w x => w.setCell ⟨W.heap.size, x.1, none⟩ x.2) w3) g z := fun w3 z cs0 cs1 l hb hk hc he =>
    ⟨he ▸ stores_blk l hb, stores_keep (.inr (Nat.le_refl _)) l hk, hc.keep (stores_keep (M := [W.heap.size]) (.inl (by simp)) l (Keep.refl _ _)) hlow⟩
  replace hend := Lib.hid hend
  replace hlow := Lib.hid hlow
  by_cases h0 : typ = 0
  · have hv : Hid (cellT typ s = (⟨false, Int64.ofInt (wrap64 (num (takeC s 8).1)), ByteArray.empty, 0, 0⟩, (takeC s 8).2)) := by rw [Hid, cellT, if_pos h0]
    rw [hv.out]
    clear hv
    have C := num_ref 8 W2 h2 (by omega)
    simp only [Int.cast_ofNat_Int] at C
    generalize num (takeC s 8).1 = n at *
    have hz := Lib.hid (toI (wrap64_is n))
    replace C := Lib.hid C
    subst h0
    go_enter Try.func99, Try.ntmps99
    go_wp2_with fail
    refine C.out.mono ?_
    rintro e w3 ⟨rfl, hk3, hcur⟩
    have hb3 := hb2.keep hk3 hgn
    obtain ⟨⟨c0, c1, c2, c3, c4⟩, f0, f1, f2, f3, f4⟩ := blk5 hb3
    go_wp2
    obtain ⟨e1, e2, e3⟩ := hend.out w3 _ _ _ [(0, .bool false), (1, .int .i64 (wrap64 n)), (2, .string { data := #[] }), (3, .int .i64 0), (4, .int .i64 0)] hb3 (hk2.nil.trans hk3) hcur rfl
    exact bodyPost_ret (ret_cell rfl ⟨false, Int64.ofInt (wrap64 n), ByteArray.empty, 0, 0⟩ rfl (by simp only [Cell.cs, vI, hz.out]; exact e1)) rfl ⟨rfl, e2, e3⟩
  by_cases h2' : typ = 2
  · have hv : Hid (cellT typ s = (⟨false, 0, ⟨(takeC (lenC s 65536).2 (lenC s 65536).1).1.toArray⟩, 0, 0⟩, (takeC (lenC s 65536).2 (lenC s 65536).1).2)) := by rw [Hid, cellT, if_neg h0, if_pos h2']
    rw [hv.out]
    clear hv h0
    subst h2'
    have C := len_ref 65536 W2 h2 (by omega)
    have hle := lenC_le s
    generalize (lenC s 65536).2 = s1 at *
    generalize (lenC s 65536).1 = n at *
    replace C := Lib.hid C
    go_enter Try.func99, Try.ntmps99
    go_wp2_with fail
    refine C.out.mono ?_
    rintro e w3 ⟨rfl, hk3, hcur⟩
    have C2 := Lib.hid (take_ref n w3 hcur (by omega))
    go_wp2_with fail
    refine C2.out.mono ?_
    rintro e w4 ⟨B, m, d, rfl, hk4, hcur4, hown⟩
    have hr4 : Bys [] w4 B m d (takeC s1 n).1 := rd_of_own hown (by simp)
    have hstr := fun w (h : Bys [] w B m d (takeC s1 n).1) => str_run h
    have hstr4 := hstr w4 hr4
    clear hstr hown
    have hb4 := (hb2.keep hk3 hgn).keep hk4 hgn
    obtain ⟨⟨c0, c1, c2, c3, c4⟩, f0, f1, f2, f3, f4⟩ := blk5 hb4
    go_wp2
    obtain ⟨e1, e2, e3⟩ := hend.out w4 _ _ _ [(0, .bool false), (1, .int .i64 0), (2, .string ⟨(takeC s1 n).1.toArray⟩), (3, .int .i64 0), (4, .int .i64 0)] hb4 ((hk2.nil.trans hk3).trans hk4) hcur4 rfl
    exact bodyPost_ret (ret_cell rfl ⟨false, 0, ⟨(takeC s1 n).1.toArray⟩, 0, 0⟩ rfl e1) rfl ⟨rfl, e2, e3⟩
  obtain rfl : typ = 3 := by omega
  have hv : Hid (cellT 3 s = (⟨false, 0, ByteArray.empty, Int64.ofInt (zagZ (getC s).1), Int64.ofInt (zagZ (getC (getC s).2).1)⟩, (getC (getC s).2).2)) := rfl
  rw [hv.out]
  clear hv h0 h2' ht
  have C := get_ref W2 h2
  have hlt := getC_lt s
  have hlt2 := getC_lt (getC s).2
  generalize (getC s).1 = n at *
  generalize (getC s).2 = s1 at *
  have Z1 := fun w => zag_ref n w hlt
  have hz1 := Lib.hid (toI (zag_64 hlt))
  have Z2 := fun w => zag_ref (getC s1).1 w hlt2
  have hz2 := Lib.hid (toI (zag_64 hlt2))
  clear hlt hlt2
  generalize hm : (getC s1).1 = m at *
  replace hm := Lib.hid hm
  replace C := Lib.hid C
  replace Z1 := Lib.hid Z1
  replace Z2 := Lib.hid Z2
  go_enter Try.func99, Try.ntmps99
  go_wp2_with fail
  refine C.out.mono ?_
  rintro e w3 ⟨rfl, hk3, hcur⟩
  have C2 := get_ref _ hcur
  rw [hm.out] at C2
  replace C2 := Lib.hid C2
  go_wp2_with fail
  refine C2.out.mono ?_
  rintro e w5 ⟨rfl, hk5, hcur5⟩
  have hb5 := (hb2.keep hk3 hgn).keep hk5 hgn
  obtain ⟨⟨d0, d1, d2, d3, d4⟩, g0, g1, g2, g3, g4⟩ := blk5 hb5
  go_wp2_with fail
  refine (Z1.out _).mono ?_
  rintro e w6 ⟨rfl, rfl⟩
  go_wp2_with fail
  refine (Z2.out _).mono ?_
  rintro e w6 ⟨rfl, rfl⟩
  go_wp2
  obtain ⟨e1, e2, e3⟩ := hend.out w5 _ _ _ [(0, .bool false), (1, .int .i64 0), (2, .string { data := #[] }), (3, .int .i64 (zagZ n)), (4, .int .i64 (zagZ m))] hb5 ((hk2.nil.trans hk3).trans hk5) hcur5 rfl
  exact bodyPost_ret (ret_cell rfl ⟨false, 0, ByteArray.empty, Int64.ofInt (zagZ n), Int64.ofInt (zagZ m)⟩ rfl (by simp only [Cell.cs, vI, hz1.out, hz2.out]; exact e1)) rfl ⟨rfl, e2, e3⟩
end Go.Proofs.Ytcpimhefclfbaaa

namespace Go.Proofs.Ytcpimhefclfbaaa
open Go Go.RowKit
set_option maxRecDepth 10000
set_option linter.unusedVariables false
set_option linter.unusedSimpArgs false

theorem Try.infoCell' : (Try.prog.info? 50).map (fun i => (i.zero, i.size, i.bytes)) = some (some (cellVal Cell.zero), 5, 48) := by kernel_rfl
/-- Cells that are in no elder block. -/
abbrev NewCs (W W' : World) (B : Option Addr) (k d : Nat) (l : List Cell) : Prop := ∀ Y : List Nat, (∀ b ∈ Y, b < W.heap.size) → Cells Y W' B k d l
/-- A bool's cell. -/
def boolC (x : UInt64) : Cell := ⟨false, Int64.ofInt (wrap64 x.toNat), ByteArray.empty, 0, 0⟩
/-- So many values, as long as there are any. -/
def stepsT (typ : Int) : Nat → Option (List UInt8) → List Cell × Option (List UInt8)
  | 0, s => ([], s)
  | _ + 1, none => ([], none)
  | k + 1, some l => ((cellT typ (some l)).1 :: (stepsT typ k (cellT typ (some l)).2).1, (stepsT typ k (cellT typ (some l)).2).2)
/-- The values of bytes. -/
def decV (typ : Int) (b : List UInt8) (n : Int) : Option (List Cell) :=
  if typ = 1 then (if unpackOk b 1 n = true then some ((unpackL b 1 n).map boolC) else none)
  else if n < 0 ∨ 65536 < n then none
  else if (stepsT typ n.toNat (some b)).2 = some [] ∧ rightL typ (stepsT typ n.toNat (some b)).1 = true then some (stepsT typ n.toNat (some b)).1 else none
theorem stepsT_none (typ : Int) (k : Nat) : stepsT typ k none = ([], none) := by cases k <;> rfl
theorem boolC_cs (x : UInt64) : (boolC x).cs = [.bool false, .int .i64 (wrap64 x.toNat), .string ByteArray.empty, .int .i64 0, .int .i64 0] := by
  simp only [boolC, Cell.cs, vI, toI (wrap64_is _)]
  rfl

/-- What Decode answers. -/
def DecV (typ : Int) (b : List UInt8) (n : Int) (W : World) (e : Ending) (W' : World) : Prop := ∃ B m d, e = .returned (.tuple #[.slice B m d, .bool (decV typ b n).isSome]) ∧ Keep [] W W' ∧ NewCs W W' B m d ((decV typ b n).getD [])

set_option maxHeartbeats 1000000 in
theorem bools_prog {X : List Nat} {A : Option Addr} {m c : Nat} {b : List UInt8} (n : Int) (W : World) (h : Bys X W A m c b) (hn : -9223372036854775808 ≤ n ∧ n ≤ 9223372036854775807) :
    Calls Try.prog 76 #[.slice A m c, .int .i64 n] W (DecV 1 b n W) := by
  have hv : Hid ((decV 1 b n).isSome = unpackOk b 1 n ∧ (decV 1 b n).getD [] = (unpackL b 1 n).map boolC) := by
    unfold Hid decV
    rw [if_pos rfl]
    cases hu : unpackOk b 1 n with
    | true => rw [if_pos rfl]; exact ⟨rfl, rfl⟩
    | false => rw [if_neg (by simp)]; exact ⟨rfl, by unfold unpackL; rw [if_neg (by simp [hu])]; rfl⟩
  have hul : (unpackL b 1 n).length ≤ 65536 := by
    unfold unpackL
    split
    · rename_i hu
      rw [unpP_length]
      have := of_decide_eq_true hu
      omega
    · simp
  have U := unpack_prog_any 1 n W h (by omega) hn
  unfold DecV
  rw [hv.out.1, hv.out.2]
  clear hv
  obtain ⟨i0, hi, hz0, hz1, hz2⟩ := info_parts Try.infoCell'
  generalize unpackL b 1 n = l at *
  generalize unpackOk b 1 n = v at *
  replace U := Lib.hid U
  go_enter Try.func76, Try.ntmps76
  go_wp2_with fail
  refine U.out.mono ?_
  rintro e w1 ⟨B, k, d, rfl, hk1, hnew⟩
  have hl := hnew [] (by simp)
  have hcap := hl.cap
  obtain rfl := hl.len1
  clear hnew
  have hw1 := hk1.size
  go_wp2
  go_loopw [8, 19] (fun s i wr => ∃ k : Nat, k ≤ l.length ∧ i = .int .i64 k ∧ wr.ownsRow w1.heap.size 50 5 s k (((l.take k).map boolC).flatMap Cell.cs) ∧ Keep [] w1 wr) (fun _ i _ => l.length - (intOf i).toNat)
  case atStart => exact ⟨0, by omega, rfl, World.ownsRow_nil _ _ _ _, Keep.refl _ _⟩
  case round =>
    obtain ⟨k, hk, rfl, hown, hkeep⟩ := hrel
    have hsz := hkeep.size
    obtain ⟨B3, d3, rfl⟩ := own_form hown
    by_cases hlt : k < l.length
    · obtain ⟨bb, off, rfl, _, _, hcell⟩ := (hl.pure hkeep).one hlt
      unfold vU64 at hcell
      have hst : Hid (((l.take (k + 1)).map boolC).flatMap Cell.cs = ((l.take k).map boolC).flatMap Cell.cs ++ (boolC l[k]).cs) := by
        rw [Hid, List.take_succ_eq_append_getElem hlt, List.map_append, List.flatMap_append]; simp
      generalize l[k] = x at *
      generalize ((l.take k).map boolC).flatMap Cell.cs = q at *
      have hcs : Hid ((boolC x).cs = [.bool false, .int .i64 (wrap64 x.toNat), .string ByteArray.empty, .int .i64 0, .int .i64 0]) := boolC_cs x
      have hck : Cells [] (wr.alloc (.cells #[.bool false, .int .i64 (wrap64 x.toNat), .string { data := #[] }, .int .i64 0, .int .i64 0] 50)) (some ⟨wr.heap.size, 0, none⟩) 1 1 [boolC x] := by
        refine (Blk.new wr 50 [.bool false, .int .i64 (wrap64 x.toNat), .string ByteArray.empty, .int .i64 0, .int .i64 0]).rd (by simp) ?_ (by omega) (by simp [maxLen]) ?_
        · simp [hcs.out]
        · simp [hcs.out]
      go_wp2_with (at_builtin; refine wpList_append_rd rfl _ _ 85 rfl w1.heap.size 50 i0 (cellVal Cell.zero) 5 48 Try.underlying85 hi hz0 hz1 hz2 rfl (by omega) (.slice B3 k d3) k _ rfl (hown.alloc _) rfl hck (flat_one Cell.one [boolC x]) (by unfold maxLen; omega) (by omega) (by simp; omega) ?_)
      intro v' w3 hown' hgr
      have hk3 : Keep [] w1 w3 := (hkeep.alloc (.cells #[.bool false, .int .i64 (wrap64 x.toNat), .string { data := #[] }, .int .i64 0, .int .i64 0] 50)).grown hgr (fun g hg => .inr (own_ge hown g hg))
      clear hgr hown hck
      go_wp2
      go_roundw
      case rel =>
        refine ⟨k + 1, by omega, by go_num, ?_, hk3⟩
        rw [hst.out]
        simpa using hown'
      case measure => simp [intOf]; omega
    · obtain rfl : k = l.length := by omega
      go_wp2
      go_ret2
      refine ⟨_, _, _, rfl, hk1.trans hkeep, fun Y hY => ?_⟩
      have hr := rd_of_own hown (fun b hb => Nat.lt_of_lt_of_le (hY b hb) hw1)
      rw [List.take_length] at hr
      exact hr
theorem decode_no_prog {X : List Nat} {A : Option Addr} {m c : Nat} {b : List UInt8} (typ n : Int) (W : World) (h : Bys X W A m c b) (ht : typ ≠ 1) (hn : n < 0 ∨ 65536 < n) :
    Calls Try.prog 56 #[.int .i64 typ, .slice A m c, .int .i64 n] W (DecV typ b n W) := by
  have hv : Hid (decV typ b n = none) := by rw [Hid, decV, if_neg ht, if_pos hn]
  unfold DecV
  rw [hv.out]
  clear hv
  have ht1 : (typ == 1) = false := by simp [ht]
  replace ht := Lib.hid ht
  by_cases h0 : n < 0
  · clear hn
    go_enter Try.func56, Try.ntmps56
    go_wp2
    go_ret2
    exact ⟨none, 0, 0, rfl, Keep.refl _ _, fun Y _ => Rd.nil_ _ _ _⟩
  · have h1 : 65536 < n := by omega
    clear hn
    go_enter Try.func56, Try.ntmps56
    go_wp2
    go_ret2
    exact ⟨none, 0, 0, rfl, Keep.refl _ _, fun Y _ => Rd.nil_ _ _ _⟩
end Go.Proofs.Ytcpimhefclfbaaa

namespace Go.Proofs.Ytcpimhefclfbaaa
open Go Go.RowKit
set_option maxRecDepth 10000
set_option linter.unusedVariables false
set_option linter.unusedSimpArgs false

theorem stepsT_some (typ : Int) (N k : Nat) (l : List UInt8) (h : k < N) : stepsT typ (N - k) (some l) = ((cellT typ (some l)).1 :: (stepsT typ (N - (k + 1)) (cellT typ (some l)).2).1, (stepsT typ (N - (k + 1)) (cellT typ (some l)).2).2) := by
  rw [show N - k = (N - (k + 1)) + 1 from by omega]
  rfl
/-- k values are read of b, as q; s is left. -/
def Read (typ : Int) (b : List UInt8) (N k : Nat) (q : List Cell) (s : Option (List UInt8)) : Prop :=
  stepsT typ N (some b) = (q ++ (stepsT typ (N - k) s).1, (stepsT typ (N - k) s).2)
theorem read_start (typ : Int) (b : List UInt8) (N : Nat) : Read typ b N 0 [] (some b) := by simp [Read]
theorem read_step {typ : Int} {b : List UInt8} {N k : Nat} {q : List Cell} {l : List UInt8} (h : Read typ b N k q (some l)) (hk : k < N) : Read typ b N (k + 1) (q ++ [(cellT typ (some l)).1]) (cellT typ (some l)).2 := by
  unfold Read at h ⊢
  rw [h, stepsT_some typ N k l hk]
  simp
theorem read_none {typ : Int} {b : List UInt8} {N k : Nat} {q : List Cell} (h : Read typ b N k q none) : stepsT typ N (some b) = (q, none) := by
  unfold Read at h
  rw [h, stepsT_none]
  simp
theorem read_end {typ : Int} {b : List UInt8} {N : Nat} {q : List Cell} {s : Option (List UInt8)} (h : Read typ b N N q s) : stepsT typ N (some b) = (q, s) := by
  unfold Read at h
  rw [h, Nat.sub_self]
  simp [stepsT]
theorem decV_of {typ : Int} {b : List UInt8} {N : Nat} {q : List Cell} {s : Option (List UInt8)} (ht : typ ≠ 1) (hN : N ≤ 65536) (h : stepsT typ N (some b) = (q, s)) : decV typ b N = if s = some [] ∧ rightL typ q = true then some q else none := by
  unfold decV
  rw [if_neg ht, if_neg (by omega), Int.toNat_natCast, h]

set_option maxHeartbeats 2000000 in
theorem decode_yes_prog {X : List Nat} {A : Option Addr} {m c : Nat} {b : List UInt8} (typ : Int) (N : Nat) (W : World) (h : Bys X W A m c b) (hroom : m ≤ 10000000000000) (ht : typ ≠ 1) (hN : N ≤ 65536) :
    Calls Try.prog 56 #[.int .i64 typ, .slice A m c, .int .i64 N] W (DecV typ b N W) := by
  obtain ⟨v, hv⟩ : ∃ v, Hid (decV typ b N = v) := ⟨_, rfl⟩
  have hD : Hid (∀ q s, stepsT typ N (some b) = (q, s) → v = if s = some [] ∧ rightL typ q = true then some q else none) := fun q s hqs => by rw [← hv.out, decV_of ht hN hqs]
  unfold DecV
  rw [hv.out]
  clear hv
  have ht1 : (typ == 1) = false := by simp [ht]
  replace ht := Lib.hid ht
  obtain ⟨i0, hi, hz0, hz1, hz2⟩ := info_parts Try.infoCell'
  have C := Lib.hid (over_prog W h hroom)
  go_enter Try.func56, Try.ntmps56
  go_wp2_with fail
  refine C.out.mono ?_
  rintro e w1 ⟨g, rfl, hg, hk1, hcur1⟩
  have hw1 := hk1.size
  have hgl := hcur1.lt
  go_wp2
  go_loopw [9, 10] (fun t i wr => ∃ (k : Nat) (q : List Cell) (s : Option (List UInt8)), k ≤ N ∧ i = .int .i64 k ∧ Hid (q.length = k) ∧ wr.ownsRow w1.heap.size 50 5 t k (q.flatMap Cell.cs) ∧ Cur 88 wr g s ∧ Hid (Read typ b N k q s) ∧ Keep [g] w1 wr) (fun _ i _ => N - (intOf i).toNat)
  case atStart => exact ⟨0, [], some b, by omega, rfl, rfl, World.ownsRow_nil _ _ _ _, hcur1, read_start typ b N, Keep.refl _ _⟩
  case round =>
    obtain ⟨k, q, s, hk, rfl, hql, hown, hcur, HR, hkeep⟩ := hrel
    have hsz := hkeep.size
    have hW := hk1.after hkeep (by simp; omega)
    obtain ⟨B3, d3, rfl⟩ := own_form hown
    by_cases hlt : k < N
    · cases s with
      | some l =>
        have HR2 := Lib.hid (read_step HR.out hlt)
        have C2 := takeCell_prog typ wr hcur
        generalize hx : (cellT typ (some l)).1 = x at *
        generalize hs : (cellT typ (some l)).2 = s' at *
        clear hx hs
        have C1 := bad_prog wr hcur
        rw [show (some l).isNone = false from rfl] at C1
        replace C1 := Lib.hid C1
        replace C2 := Lib.hid C2
        go_wp2_with fail
        refine C1.out.mono ?_
        rintro e w2 ⟨rfl, rfl⟩
        go_wp2_with fail
        refine C2.out.mono ?_
        rintro e w3 ⟨rfl, hk3, hcur3⟩
        have hown3 := own_keep hown hk3 (by simp; omega)
        have hkk := hkeep.trans hk3
        have hck : Cells [] (w3.alloc (.cells #[.bool x.null, .int .i64 x.int.toInt, .string x.text, .int .i64 x.x.toInt, .int .i64 x.y.toInt] 50)) (some ⟨w3.heap.size, 0, none⟩) 1 1 [x] := by
          refine (Blk.new w3 50 [.bool x.null, .int .i64 x.int.toInt, .string x.text, .int .i64 x.x.toInt, .int .i64 x.y.toInt]).rd (by simp) ?_ (by omega) (by simp [maxLen]) ?_
          · simp [Cell.cs]
          · simp [Cell.cs, vI]
        have hsz3 := hkk.size
        go_wp2_with (at_builtin; refine wpList_append_rd rfl _ _ 85 rfl w1.heap.size 50 i0 (cellVal Cell.zero) 5 48 Try.underlying85 hi hz0 hz1 hz2 rfl (by omega) (.slice B3 k d3) k _ rfl (hown3.alloc _) rfl hck (flat_one Cell.one [x]) (by unfold maxLen; omega) (by omega) (by simp; omega) ?_)
        intro v' w4 hown' hgr
        have hkA : Keep [] w3 (w3.alloc (.cells #[.bool x.null, .int .i64 x.int.toInt, .string x.text, .int .i64 x.x.toInt, .int .i64 x.y.toInt] 50)) := (Keep.refl _ _).alloc _
        have hk4 : Keep [g] w1 w4 := (hkk.trans hkA.nil).grown hgr (fun g hg => .inr (own_ge hown3 g hg))
        have hcur4 : Cur 88 w4 g s' := by
          cases ho : (Value.slice B3 k d3).ownBlock with
          | none =>
            rw [ho] at hgr
            exact hcur3.pure (hkA.grown hgr (by simp))
          | some z =>
            rw [ho] at hgr
            have hz := own_ge hown3 z ho
            exact Cur.keep (M := [z]) hcur3 ((Keep.nil hkA).grown hgr (fun g' hg' => .inl (by cases hg'; simp))) (by simp; omega)
        clear hgr hown hown3 hck
        go_wp2
        go_roundw
        case rel =>
          refine ⟨k + 1, q ++ [x], s', by omega, by go_num, by simp [Hid, hql.out], ?_, hcur4, HR2, hk4⟩
          rw [List.flatMap_append]
          exact hown'
        case measure => simp [intOf]; omega
      | none =>
        have HD : Hid (v = none) := by rw [Hid, hD.out q none (read_none HR.out)]; simp
        have C1 := bad_prog wr hcur
        rw [show (none : Option (List UInt8)).isNone = true from rfl] at C1
        replace C1 := Lib.hid C1
        have C3 := end_prog wr hcur
        rw [show decide ((none : Option (List UInt8)) = some []) = false from rfl] at C3
        replace C3 := Lib.hid C3
        go_wp2_with fail
        refine C1.out.mono ?_
        rintro e w2 ⟨rfl, rfl⟩
        go_wp2_with fail
        refine C3.out.mono ?_
        rintro e w2 ⟨rfl, rfl⟩
        go_wp2
        go_ret2
        refine ⟨none, 0, 0, by rw [HD.out]; rfl, hW, fun Y _ => by rw [HD.out]; exact Rd.nil_ _ _ _⟩
    · obtain rfl : k = N := by omega
      have HD := Lib.hid (hD.out q s (read_end HR.out))
      have C3 := end_prog wr hcur
      by_cases he : s = some []
      · subst he
        rw [show decide (some ([] : List UInt8) = some []) = true from rfl] at C3
        replace C3 := Lib.hid C3
        have hcl : Cells [] wr B3 k d3 q := rd_of_own hown (by simp)
        have R := rightL_prog typ wr hcl
        cases hR : rightL typ q with
        | true =>
          rw [hR] at R
          have HD2 : Hid (v = some q) := by rw [Hid, HD.out, if_pos ⟨rfl, hR⟩]
          replace R := Lib.hid R
          clear hR HD
          go_wp2_with fail
          refine C3.out.mono ?_
          rintro e w2 ⟨rfl, rfl⟩
          go_wp2_with fail
          refine R.out.mono ?_
          rintro e w2 ⟨rfl, hk2⟩
          go_wp2
          go_ret2
          refine ⟨_, _, _, by rw [HD2.out]; rfl, hW.trans hk2, fun Y hY => by rw [HD2.out]; exact Rd.pure (rd_of_own hown (fun b hb => Nat.lt_of_lt_of_le (hY b hb) hw1)) hk2⟩
        | false =>
          rw [hR] at R
          have HD2 : Hid (v = none) := by rw [Hid, HD.out, if_neg (by simp [hR])]
          replace R := Lib.hid R
          clear hR HD
          go_wp2_with fail
          refine C3.out.mono ?_
          rintro e w2 ⟨rfl, rfl⟩
          go_wp2_with fail
          refine R.out.mono ?_
          rintro e w2 ⟨rfl, hk2⟩
          go_wp2
          go_ret2
          refine ⟨none, 0, 0, by rw [HD2.out]; rfl, hW.trans hk2, fun Y _ => by rw [HD2.out]; exact Rd.nil_ _ _ _⟩
      · have HD2 : Hid (v = none) := by rw [Hid, HD.out, if_neg (by simp [he])]
        rw [decide_eq_false he] at C3
        replace C3 := Lib.hid C3
        clear he HD
        go_wp2_with fail
        refine C3.out.mono ?_
        rintro e w2 ⟨rfl, rfl⟩
        go_wp2
        go_ret2
        refine ⟨none, 0, 0, by rw [HD2.out]; rfl, hW, fun Y _ => by rw [HD2.out]; exact Rd.nil_ _ _ _⟩

theorem decode_prog {X : List Nat} {A : Option Addr} {m c : Nat} {b : List UInt8} (typ n : Int) (W : World) (h : Bys X W A m c b) (hroom : m ≤ 10000000000000) (hn : -9223372036854775808 ≤ n ∧ n ≤ 9223372036854775807) :
    Calls Try.prog 56 #[.int .i64 typ, .slice A m c, .int .i64 n] W (DecV typ b n W) := by
  by_cases ht : typ = 1
  · subst ht
    have C := Lib.hid (bools_prog n W h hn)
    go_enter Try.func56, Try.ntmps56
    go_wp2_with fail
    refine C.out.mono ?_
    rintro e w1 ⟨B, k, d, rfl, hk1, hnew⟩
    go_wp2
    go_ret2
    exact ⟨B, k, d, rfl, hk1, hnew⟩
  · by_cases hb : n < 0 ∨ 65536 < n
    · exact decode_no_prog typ n W h ht hb
    · obtain ⟨N, rfl⟩ : ∃ N : Nat, n = N := ⟨n.toNat, by omega⟩
      exact decode_yes_prog typ N W h hroom ht (by omega)
end Go.Proofs.Ytcpimhefclfbaaa

namespace Go.Proofs.Ytcpimhefclfbaaa
open Go Go.RowKit
set_option linter.unusedVariables false
set_option linter.unusedSimpArgs false

theorem uN_wrap (n : Nat) (h : n < 2 ^ 64) : uN (wrap64 n) = n := by
  unfold uN wrap64
  omega
theorem ofInt_vI (x : Int64) : Int64.ofInt x.toInt = x := Int64.toInt_inj.1 (toI ⟨i64_lo x, i64_hi x⟩)
theorem wrap_uN' (x : Int64) : wrap64 (uN x.toInt : Nat) = x.toInt := conv_uN _ ⟨i64_lo x, i64_hi x⟩

/-- What is read of a value's bytes is the value. -/
theorem cellT_put {typ : Int} {c : Cell} (h : rightC typ false c = true) (h1 : typ ≠ 1) (r : List UInt8) : cellT typ (some (cellB typ c ++ r)) = (c, some r) := by
  have hk := (rightC_known h).1
  have hn := (rightC_known h).2
  have ht := rightC_text h
  unfold known at hk
  simp at hk
  by_cases h0 : typ = 0
  · subst h0
    rw [rightC_0 hn] at h
    have hc := of_decide_eq_true h
    have hl : ((8 : Int)) = (lowB (uN c.int.toInt)).length := by rw [lowB, lowF_len]; rfl
    unfold cellT cellB
    rw [if_pos rfl, if_pos rfl, takeC_app _ _ hl]
    simp only []
    rw [num_lowB (uN_lt _), wrap_uN', ofInt_vI, ← hc]
  · by_cases h2 : typ = 2
    · subst h2
      rw [rightC_2 hn] at h
      simp at h
      unfold cellT cellB
      rw [if_neg (by omega), if_pos rfl, if_neg (by omega), if_neg (by omega), List.append_assoc, lenC_put (by omega) (by omega)]
      simp only []
      rw [takeC_app _ _ (by rfl)]
      simp only [Array.toArray_toList]
      rw [← h.1]
    · obtain rfl : typ = 3 := by omega
      rw [rightC_3 hn] at h
      simp at h
      have zx : isI64 c.x.toInt := ⟨i64_lo _, i64_hi _⟩
      have zy : isI64 c.y.toInt := ⟨i64_lo _, i64_hi _⟩
      unfold cellT cellB
      rw [if_neg (by omega), if_neg (by omega), if_pos rfl, if_neg (by omega), if_pos rfl, List.append_assoc, getC_put (zig_lt zx)]
      simp only []
      rw [getC_put (zig_lt zy)]
      simp only [zag_zig, ofInt_vI]
      rw [← h.2]
/-- What is read as a value was laid so. -/
theorem cellT_inv {typ : Int} {b r : List UInt8} (h1 : typ ≠ 1) (hk : known typ = true) (h : (cellT typ (some b)).2 = some r) : b = cellB typ (cellT typ (some b)).1 ++ r := by
  unfold known at hk
  simp at hk
  by_cases h0 : typ = 0
  · subst h0
    unfold cellT at h ⊢
    rw [if_pos rfl] at h ⊢
    simp only [] at h
    obtain ⟨h2, h3⟩ := takeC_inv (show takeC (some b) 8 = ((takeC (some b) 8).1, some r) by rw [← h])
    generalize (takeC (some b) 8).1 = x at *
    injection h2 with h2
    have hx : lowF 8 (num x) = x := by
      have := lowF_num x
      rwa [show x.length = 8 from by omega] at this
    have hlt : num x < 2 ^ 64 := num_lt64 x (by omega)
    unfold cellB
    rw [if_pos rfl, toI (wrap64_is _), uN_wrap _ hlt, lowB, hx]
    exact h2
  · by_cases h2 : typ = 2
    · subst h2
      unfold cellT at h ⊢
      rw [if_neg (by omega), if_pos rfl] at h ⊢
      simp only [] at h
      obtain ⟨h3, h4⟩ := takeC_inv (show takeC (lenC (some b) 65536).2 (lenC (some b) 65536).1 = ((takeC (lenC (some b) 65536).2 (lenC (some b) 65536).1).1, some r) by rw [← h])
      obtain ⟨h5, _⟩ := lenC_inv (show lenC (some b) 65536 = ((lenC (some b) 65536).1, some ((takeC (lenC (some b) 65536).2 (lenC (some b) 65536).1).1 ++ r)) by rw [← h3])
      generalize (takeC (lenC (some b) 65536).2 (lenC (some b) 65536).1).1 = x at *
      generalize (lenC (some b) 65536).1 = n at *
      injection h5 with h5
      unfold cellB
      rw [if_neg (by omega), if_neg (by omega)]
      have hs : (ByteArray.mk x.toArray).size = n := by show x.toArray.size = n; simp; omega
      simp only [hs]
      rw [List.append_assoc]
      exact h5
    · obtain rfl : typ = 3 := by omega
      unfold cellT at h ⊢
      rw [if_neg (by omega), if_neg (by omega), if_pos rfl] at h ⊢
      simp only [] at h
      obtain ⟨h3, h4⟩ := getC_inv (show getC (getC (some b)).2 = ((getC (getC (some b)).2).1, some r) by rw [← h])
      obtain ⟨h5, h6⟩ := getC_inv (show getC (some b) = ((getC (some b)).1, some (putB (getC (getC (some b)).2).1 ++ r)) by rw [← h3])
      generalize (getC (getC (some b)).2).1 = v at *
      generalize (getC (some b)).1 = u at *
      injection h5 with h5
      unfold cellB
      rw [if_neg (by omega), if_pos rfl, toI (zag_64 h6), toI (zag_64 h4), zig_zag, zig_zag, List.append_assoc]
      exact h5

theorem stepsT_put {typ : Int} (h1 : typ ≠ 1) : ∀ (l : List Cell) (_ : ∀ c ∈ l, rightC typ false c = true) (r : List UInt8), stepsT typ l.length (some (l.flatMap (cellB typ) ++ r)) = (l, some r)
  | [], _, r => rfl
  | c :: l, h, r => by
    rw [List.flatMap_cons, List.append_assoc, List.length_cons, stepsT, cellT_put (h c (by simp)) h1]
    simp only []
    rw [stepsT_put h1 l (fun d hd => h d (by simp [hd])) r]
theorem stepsT_inv {typ : Int} (h1 : typ ≠ 1) (hk : known typ = true) : ∀ (n : Nat) (b : List UInt8) (l : List Cell) (r : List UInt8), stepsT typ n (some b) = (l, some r) → b = l.flatMap (cellB typ) ++ r ∧ l.length = n
  | 0, b, l, r, h => by
    rw [stepsT] at h
    simp only [Prod.mk.injEq, Option.some.injEq] at h
    obtain ⟨rfl, rfl⟩ := h
    exact ⟨rfl, rfl⟩
  | n + 1, b, l, r, h => by
    rw [stepsT] at h
    simp only [Prod.mk.injEq] at h
    obtain ⟨h2, h3⟩ := h
    cases hs : (cellT typ (some b)).2 with
    | none => rw [hs, stepsT_none] at h3; cases h3
    | some r' =>
      rw [hs] at h2 h3
      obtain ⟨h4, h5⟩ := stepsT_inv h1 hk n r' (stepsT typ n (some r')).1 r (by rw [← h3])
      have h6 := cellT_inv h1 hk hs
      rw [← h2]
      refine ⟨?_, by simp [h5]⟩
      rw [List.flatMap_cons, List.append_assoc, ← h4]
      exact h6

theorem bitU_boolC (x : UInt64) : bitU (boolC x) = x := by
  apply UInt64.toNat_inj.1
  rw [bitU_nat]
  show uN (Int64.ofInt (wrap64 x.toNat)).toInt = _
  rw [toI (wrap64_is _), uN_wrap _ x.toNat_lt]
theorem boolC_bitU {c : Cell} (h : rightC 1 false c = true) : boolC (bitU c) = c := by
  have hn := (rightC_known h).2
  rw [rightC_1 hn] at h
  simp at h
  unfold boolC
  rw [bitU_nat, wrap_uN', ofInt_vI, ← h.1]
theorem boolC_right {x : UInt64} (h : x.toNat < 2) : rightC 1 false (boolC x) = true := by
  rw [rightC_1 rfl]
  have hi : (boolC x).int.toInt = x.toNat := by
    show (Int64.ofInt (wrap64 x.toNat)).toInt = _
    rw [toI (wrap64_is _)]
    unfold wrap64
    omega
  rw [hi]
  simp [boolC]
  omega

/-- What was encoded is decoded as it was. -/
theorem decV_enc {typ : Int} {l : List Cell} (h : rightL typ l = true) : decV typ (encB typ l) l.length = some l := by
  obtain ⟨hk, hl, hc⟩ := rightL_mem h
  unfold decV encB
  rw [if_pos h]
  by_cases h1 : typ = 1
  · subst h1
    rw [if_pos rfl, if_pos rfl]
    obtain ⟨h2, h3, _⟩ := unpack_pack (bits_ok h)
    rw [List.length_map] at h2 h3
    rw [if_pos h2, h3, List.map_map]
    congr 1
    conv => rhs; rw [← List.map_id l]
    exact List.map_congr_left fun c hm => boolC_bitU (hc c hm)
  · rw [if_neg h1, if_neg (by omega), if_neg h1, Int.toNat_natCast]
    have := stepsT_put h1 l hc []
    rw [List.append_nil] at this
    rw [this]
    simp [h]
/-- What is decoded was encoded so. -/
theorem decV_inv {typ : Int} {b : List UInt8} {n : Int} {l : List Cell} (h : decV typ b n = some l) : rightL typ l = true ∧ encB typ l = b ∧ (l.length : Int) = n := by
  unfold decV at h
  by_cases h1 : typ = 1
  · subst h1
    rw [if_pos rfl] at h
    split at h
    · rename_i hu
      injection h with h
      have hn := of_decide_eq_true hu
      obtain ⟨h2, h3, h4, h5⟩ := pack_unpack hu
      have hw := (width_le_iff (unpackL b 1 n) 1).1 (by omega)
      generalize unpackL b 1 n = q at *
      subst h
      have hr : rightL 1 (q.map boolC) = true := by
        unfold rightL
        simp only [Bool.and_eq_true, decide_eq_true_eq, List.length_map, List.all_eq_true]
        refine ⟨⟨rfl, by omega⟩, fun c hc => ?_⟩
        obtain ⟨x, hx, rfl⟩ := List.mem_map.1 hc
        exact boolC_right (by simpa using hw x hx)
      refine ⟨hr, ?_, by simpa using h4⟩
      unfold encB
      rw [if_pos hr, if_pos rfl, List.map_map]
      rw [show (bitU ∘ boolC) = id from funext fun x => bitU_boolC x, List.map_id]
      exact h3
    · cases h
  · rw [if_neg h1] at h
    split at h
    · cases h
    · rename_i hn
      split at h
      · rename_i h2
        injection h with h
        obtain ⟨h3, h4⟩ := h2
        obtain ⟨hk, hl, hc⟩ := rightL_mem h4
        obtain ⟨h5, h6⟩ := stepsT_inv h1 hk n.toNat b (stepsT typ n.toNat (some b)).1 [] (by rw [← h3])
        rw [List.append_nil] at h5
        generalize (stepsT typ n.toNat (some b)).1 = q at *
        subst h
        refine ⟨h4, ?_, by omega⟩
        unfold encB
        rw [if_pos h4, if_neg h1]
        exact h5.symm
      · cases h
end Go.Proofs.Ytcpimhefclfbaaa

namespace Go.Proofs.Ytcpimhefclfbaaa
open Go Go.RowKit
set_option maxRecDepth 10000
set_option linter.unusedVariables false
set_option linter.unusedSimpArgs false

theorem cur_lit {X : List Nat} {A : Option Addr} {m c : Nat} {b : List UInt8} (W : World) (h : Bys X W A m c b) (hroom : m ≤ 10000000000000) :
    Cur 74 (W.alloc (.cells #[.slice A m c, .bool false] 74)) W.heap.size (some b) := by
  have hk1 : Keep [] W (W.alloc (.cells #[.slice A m c, .bool false] 74)) := (Keep.refl _ _).alloc _
  have hlow : ∀ a, A = some a → 0 < m → a.block < W.heap.size := fun a e h0 => by
    obtain ⟨b', off', e', hlt, _⟩ := h.2.2.2.1 h0
    rw [e] at e'
    cases e'
    exact hlt
  refine ⟨A, m, c, Blk.new W 74 [.slice A m c, .bool false], ?_, hroom, hlow⟩
  refine ⟨h.1, h.2.1, h.2.2.1, fun h0 => ?_, h.2.2.2.2⟩
  obtain ⟨b', off', e', hlt, hb', hc⟩ := (h.pure hk1).2.2.2.1 h0
  have := hlow _ e' h0
  exact ⟨b', off', e', hlt, by simp at this ⊢; omega, hc⟩
theorem curIs {w : World} {g : Nat} {s : Option (List UInt8)} (h : Cur 74 w g s) : w.cell? ⟨g, 1, none⟩ = some (.bool s.isNone) := by
  obtain ⟨A, n, c, hb, hr, hn⟩ := h
  exact hb.cell 1
theorem decV_bad {typ : Int} {b : List UInt8} {n : Int} (h : typ < 0 ∨ 3 < typ ∨ n < 0 ∨ 65536 < n) : decV typ b n = none := by
  unfold decV
  split
  · rename_i h1
    rw [if_neg]
    intro hu
    have := of_decide_eq_true hu
    omega
  · split
    · rfl
    · rw [if_neg]
      rintro ⟨_, h2⟩
      have := (rightL_mem h2).1
      simp only [known, Bool.and_eq_true, decide_eq_true_eq] at this
      omega

set_option maxHeartbeats 1000000 in
theorem decode_bad_ref {X : List Nat} {A : Option Addr} {m c : Nat} {b : List UInt8} (typ n : Int) (W : World) (h : Bys X W A m c b) (hbad : typ < 0 ∨ 3 < typ ∨ n < 0 ∨ 65536 < n) :
    Calls Try.prog 78 #[.int .i64 typ, .slice A m c, .int .i64 n] W (DecV typ b n W) := by
  unfold DecV
  rw [decV_bad hbad]
  by_cases h1 : typ < 0
  · clear hbad
    go_enter Try.func78, Try.ntmps78
    go_wp2
    go_ret2
    exact ⟨none, 0, 0, rfl, Keep.refl _ _, fun Y _ => Rd.nil_ _ _ _⟩
  by_cases h2 : 3 < typ
  · clear hbad
    go_enter Try.func78, Try.ntmps78
    go_wp2
    go_ret2
    exact ⟨none, 0, 0, rfl, Keep.refl _ _, fun Y _ => Rd.nil_ _ _ _⟩
  by_cases h3 : n < 0
  · clear hbad
    go_enter Try.func78, Try.ntmps78
    go_wp2
    go_ret2
    exact ⟨none, 0, 0, rfl, Keep.refl _ _, fun Y _ => Rd.nil_ _ _ _⟩
  · have h4 : 65536 < n := by omega
    clear hbad
    go_enter Try.func78, Try.ntmps78
    go_wp2
    go_ret2
    exact ⟨none, 0, 0, rfl, Keep.refl _ _, fun Y _ => Rd.nil_ _ _ _⟩

set_option maxHeartbeats 1000000 in
theorem decode_bools_ref {X : List Nat} {A : Option Addr} {m c : Nat} {b : List UInt8} (n : Int) (W : World) (h : Bys X W A m c b) (hn : 0 ≤ n ∧ n ≤ 65536) :
    Calls Try.prog 78 #[.int .i64 1, .slice A m c, .int .i64 n] W (DecV 1 b n W) := by
  have hv : Hid ((decV 1 b n).isSome = unpackOk b 1 n ∧ (decV 1 b n).getD [] = (unpackL b 1 n).map boolC) := by
    unfold Hid decV
    rw [if_pos rfl]
    cases hu : unpackOk b 1 n with
    | true => rw [if_pos rfl]; exact ⟨rfl, rfl⟩
    | false => rw [if_neg (by simp)]; exact ⟨rfl, by unfold unpackL; rw [if_neg (by simp [hu])]; rfl⟩
  have hul : (unpackL b 1 n).length ≤ 65536 := by
    unfold unpackL
    split
    · rename_i hu
      rw [unpP_length]
      have := of_decide_eq_true hu
      omega
    · simp
  have U := unpack_ref_any 1 n W h (by omega) (by omega)
  unfold DecV
  rw [hv.out.1, hv.out.2]
  clear hv
  obtain ⟨i0, hi, hz0, hz1, hz2⟩ := info_parts Try.infoCell'
  generalize unpackL b 1 n = l at *
  generalize unpackOk b 1 n = v at *
  replace U := Lib.hid U
  go_enter Try.func78, Try.ntmps78
  go_wp2_with fail
  refine U.out.mono ?_
  rintro e w1 ⟨B, k, d, rfl, hk1, hnew⟩
  have hl := hnew [] (by simp)
  have hcap := hl.cap
  obtain rfl := hl.len1
  clear hnew
  have hw1 := hk1.size
  go_wp2
  go_loopw [8, 11] (fun s i wr => ∃ k : Nat, k ≤ l.length ∧ i = .int .i64 k ∧ wr.ownsRow w1.heap.size 50 5 s k (((l.take k).map boolC).flatMap Cell.cs) ∧ Keep [] w1 wr) (fun _ i _ => l.length - (intOf i).toNat)
  case atStart => exact ⟨0, by omega, rfl, World.ownsRow_nil _ _ _ _, Keep.refl _ _⟩
  case round =>
    obtain ⟨k, hk, rfl, hown, hkeep⟩ := hrel
    have hsz := hkeep.size
    obtain ⟨B3, d3, rfl⟩ := own_form hown
    by_cases hlt : k < l.length
    · obtain ⟨bb, off, rfl, _, _, hcell⟩ := (hl.pure hkeep).one hlt
      unfold vU64 at hcell
      have hst : Hid (((l.take (k + 1)).map boolC).flatMap Cell.cs = ((l.take k).map boolC).flatMap Cell.cs ++ (boolC l[k]).cs) := by
        rw [Hid, List.take_succ_eq_append_getElem hlt, List.map_append, List.flatMap_append]; simp
      generalize l[k] = x at *
      generalize ((l.take k).map boolC).flatMap Cell.cs = q at *
      have hcs : Hid ((boolC x).cs = [.bool false, .int .i64 (wrap64 x.toNat), .string ByteArray.empty, .int .i64 0, .int .i64 0]) := boolC_cs x
      have hck : Cells [] (wr.alloc (.cells #[.bool false, .int .i64 (wrap64 x.toNat), .string { data := #[] }, .int .i64 0, .int .i64 0] 50)) (some ⟨wr.heap.size, 0, none⟩) 1 1 [boolC x] := by
        refine (Blk.new wr 50 [.bool false, .int .i64 (wrap64 x.toNat), .string ByteArray.empty, .int .i64 0, .int .i64 0]).rd (by simp) ?_ (by omega) (by simp [maxLen]) ?_
        · simp [hcs.out]
        · simp [hcs.out]
      go_wp2_with (at_builtin; refine wpList_append_rd rfl _ _ 85 rfl w1.heap.size 50 i0 (cellVal Cell.zero) 5 48 Try.underlying85 hi hz0 hz1 hz2 rfl (by omega) (.slice B3 k d3) k _ rfl (hown.alloc _) rfl hck (flat_one Cell.one [boolC x]) (by unfold maxLen; omega) (by omega) (by simp; omega) ?_)
      intro v' w3 hown' hgr
      have hk3 : Keep [] w1 w3 := (hkeep.alloc (.cells #[.bool false, .int .i64 (wrap64 x.toNat), .string { data := #[] }, .int .i64 0, .int .i64 0] 50)).grown hgr (fun g hg => .inr (own_ge hown g hg))
      clear hgr hown hck
      go_wp2
      go_roundw
      case rel =>
        refine ⟨k + 1, by omega, by go_num, ?_, hk3⟩
        rw [hst.out]
        simpa using hown'
      case measure => simp [intOf]; omega
    · obtain rfl : k = l.length := by omega
      go_wp2
      go_ret2
      refine ⟨_, _, _, rfl, hk1.trans hkeep, fun Y hY => ?_⟩
      have hr := rd_of_own hown (fun b hb => Nat.lt_of_lt_of_le (hY b hb) hw1)
      rw [List.take_length] at hr
      exact hr
set_option maxHeartbeats 2000000 in
theorem decode_yes_ref {X : List Nat} {A : Option Addr} {m c : Nat} {b : List UInt8} (typ : Int) (N : Nat) (W : World) (h : Bys X W A m c b) (hroom : m ≤ 10000000000000) (ht : typ = 0 ∨ typ = 2 ∨ typ = 3) (hN : N ≤ 65536) :
    Calls Try.prog 78 #[.int .i64 typ, .slice A m c, .int .i64 N] W (DecV typ b N W) := by
  obtain ⟨v, hv⟩ : ∃ v, Hid (decV typ b N = v) := ⟨_, rfl⟩
  have hD : Hid (∀ q s, stepsT typ N (some b) = (q, s) → v = if s = some [] ∧ rightL typ q = true then some q else none) := fun q s hqs => by rw [← hv.out, decV_of (by omega) hN hqs]
  unfold DecV
  rw [hv.out]
  clear hv
  have ht1 : (typ == 1) = false := by rw [beq_eq_false_iff_ne]; omega
  have ht2 : ¬ typ < 0 ∧ typ ≤ 3 := by omega
  replace ht := Lib.hid ht
  obtain ⟨i0, hi, hz0, hz1, hz2⟩ := info_parts Try.infoCell'
  have hcur1 := cur_lit W h hroom
  obtain ⟨w1, hW1⟩ : ∃ w1, W.alloc (.cells #[.slice A m c, .bool false] 74) = w1 := ⟨_, rfl⟩
  rw [hW1] at hcur1
  have hk1 : Keep [] W w1 := by rw [← hW1]; exact (Keep.refl _ _).alloc _
  obtain ⟨g, hgd⟩ : ∃ g, W.heap.size = g := ⟨_, rfl⟩
  rw [hgd] at hcur1
  have hg : W.heap.size ≤ g := by omega
  go_enter Try.func78, Try.ntmps78
  have hw1 := hk1.size
  have hgl := hcur1.lt
  go_wp2
  go_loopw [8, 13] (fun t i wr => ∃ (k : Nat) (q : List Cell) (s : Option (List UInt8)), k ≤ N ∧ i = .int .i64 k ∧ Hid (q.length = k) ∧ wr.ownsRow w1.heap.size 50 5 t k (q.flatMap Cell.cs) ∧ Cur 74 wr g s ∧ Hid (Read typ b N k q s) ∧ Keep [g] w1 wr) (fun _ i _ => N - (intOf i).toNat)
  case atStart => exact ⟨0, [], some b, by omega, rfl, rfl, World.ownsRow_nil _ _ _ _, hcur1, read_start typ b N, Keep.refl _ _⟩
  case round =>
    obtain ⟨k, q, s, hk, rfl, hql, hown, hcur, HR, hkeep⟩ := hrel
    have hsz := hkeep.size
    have hW := hk1.after hkeep (by simp; omega)
    obtain ⟨B3, d3, rfl⟩ := own_form hown
    by_cases hlt : k < N
    · cases s with
      | some l =>
        have HR2 := Lib.hid (read_step HR.out hlt)
        have C2 := one_ref typ wr hcur ht.out
        generalize hx : (cellT typ (some l)).1 = x at *
        generalize hs : (cellT typ (some l)).2 = s' at *
        clear hx hs
        have C1 := curIs hcur
        rw [show (some l).isNone = false from rfl] at C1
        replace C2 := Lib.hid C2
        go_wp2_with fail
        refine C2.out.mono ?_
        rintro e w3 ⟨rfl, hk3, hcur3⟩
        have hown3 := own_keep hown hk3 (by simp; omega)
        have hkk := hkeep.trans hk3
        have hck : Cells [] (w3.alloc (.cells #[.bool x.null, .int .i64 x.int.toInt, .string x.text, .int .i64 x.x.toInt, .int .i64 x.y.toInt] 50)) (some ⟨w3.heap.size, 0, none⟩) 1 1 [x] := by
          refine (Blk.new w3 50 [.bool x.null, .int .i64 x.int.toInt, .string x.text, .int .i64 x.x.toInt, .int .i64 x.y.toInt]).rd (by simp) ?_ (by omega) (by simp [maxLen]) ?_
          · simp [Cell.cs]
          · simp [Cell.cs, vI]
        have hsz3 := hkk.size
        go_wp2_with (at_builtin; refine wpList_append_rd rfl _ _ 85 rfl w1.heap.size 50 i0 (cellVal Cell.zero) 5 48 Try.underlying85 hi hz0 hz1 hz2 rfl (by omega) (.slice B3 k d3) k _ rfl (hown3.alloc _) rfl hck (flat_one Cell.one [x]) (by unfold maxLen; omega) (by omega) (by simp; omega) ?_)
        intro v' w4 hown' hgr
        have hkA : Keep [] w3 (w3.alloc (.cells #[.bool x.null, .int .i64 x.int.toInt, .string x.text, .int .i64 x.x.toInt, .int .i64 x.y.toInt] 50)) := (Keep.refl _ _).alloc _
        have hk4 : Keep [g] w1 w4 := (hkk.trans hkA.nil).grown hgr (fun g hg => .inr (own_ge hown3 g hg))
        have hcur4 : Cur 74 w4 g s' := by
          cases ho : (Value.slice B3 k d3).ownBlock with
          | none =>
            rw [ho] at hgr
            exact hcur3.pure (hkA.grown hgr (by simp))
          | some z =>
            rw [ho] at hgr
            have hz := own_ge hown3 z ho
            exact Cur.keep (M := [z]) hcur3 ((Keep.nil hkA).grown hgr (fun g' hg' => .inl (by cases hg'; simp))) (by simp; omega)
        clear hgr hown hown3 hck
        go_wp2
        go_roundw
        case rel =>
          refine ⟨k + 1, q ++ [x], s', by omega, by go_num, by simp [Hid, hql.out], ?_, hcur4, HR2, hk4⟩
          rw [List.flatMap_append]
          exact hown'
        case measure => simp [intOf]; omega
      | none =>
        have HD : Hid (v = none) := by rw [Hid, hD.out q none (read_none HR.out)]; simp
        have C1 := curIs hcur
        rw [show (none : Option (List UInt8)).isNone = true from rfl] at C1
        have C3 := end_ref wr hcur
        rw [show decide ((none : Option (List UInt8)) = some []) = false from rfl] at C3
        replace C3 := Lib.hid C3
        have hcl : Cells [] wr B3 k d3 q := rd_of_own hown (by simp)
        have R := Lib.hid (fine_ref typ wr hcl)
        go_wp2_with fail
        refine C3.out.mono ?_
        rintro e w2 ⟨rfl, rfl⟩
        go_wp2_with fail
        refine R.out.mono ?_
        rintro e w2 ⟨rfl, hk2⟩
        go_wp2
        go_ret2
        refine ⟨none, 0, 0, by rw [HD.out]; rfl, hW.trans hk2, fun Y _ => by rw [HD.out]; exact Rd.nil_ _ _ _⟩
    · obtain rfl : k = N := by omega
      have HD := Lib.hid (hD.out q s (read_end HR.out))
      have C3 := end_ref wr hcur
      by_cases he : s = some []
      · subst he
        rw [show decide (some ([] : List UInt8) = some []) = true from rfl] at C3
        replace C3 := Lib.hid C3
        have hcl : Cells [] wr B3 k d3 q := rd_of_own hown (by simp)
        have R := fine_ref typ wr hcl
        cases hR : rightL typ q with
        | true =>
          rw [hR] at R
          have HD2 : Hid (v = some q) := by rw [Hid, HD.out, if_pos ⟨rfl, hR⟩]
          replace R := Lib.hid R
          clear hR HD
          go_wp2_with fail
          refine C3.out.mono ?_
          rintro e w2 ⟨rfl, rfl⟩
          go_wp2_with fail
          refine R.out.mono ?_
          rintro e w2 ⟨rfl, hk2⟩
          go_wp2
          go_ret2
          refine ⟨_, _, _, by rw [HD2.out]; rfl, hW.trans hk2, fun Y hY => by rw [HD2.out]; exact Rd.pure (rd_of_own hown (fun b hb => Nat.lt_of_lt_of_le (hY b hb) hw1)) hk2⟩
        | false =>
          rw [hR] at R
          have HD2 : Hid (v = none) := by rw [Hid, HD.out, if_neg (by simp [hR])]
          replace R := Lib.hid R
          clear hR HD
          go_wp2_with fail
          refine C3.out.mono ?_
          rintro e w2 ⟨rfl, rfl⟩
          go_wp2_with fail
          refine R.out.mono ?_
          rintro e w2 ⟨rfl, hk2⟩
          go_wp2
          go_ret2
          refine ⟨none, 0, 0, by rw [HD2.out]; rfl, hW.trans hk2, fun Y _ => by rw [HD2.out]; exact Rd.nil_ _ _ _⟩
      · have HD2 : Hid (v = none) := by rw [Hid, HD.out, if_neg (by simp [he])]
        rw [decide_eq_false he] at C3
        replace C3 := Lib.hid C3
        clear he HD
        have hcl : Cells [] wr B3 k d3 q := rd_of_own hown (by simp)
        have R := Lib.hid (fine_ref typ wr hcl)
        go_wp2_with fail
        refine C3.out.mono ?_
        rintro e w2 ⟨rfl, rfl⟩
        go_wp2_with fail
        refine R.out.mono ?_
        rintro e w2 ⟨rfl, hk2⟩
        go_wp2
        go_ret2
        refine ⟨none, 0, 0, by rw [HD2.out]; rfl, hW.trans hk2, fun Y _ => by rw [HD2.out]; exact Rd.nil_ _ _ _⟩

theorem decode_ref {X : List Nat} {A : Option Addr} {m c : Nat} {b : List UInt8} (typ n : Int) (W : World) (h : Bys X W A m c b) (hroom : m ≤ 10000000000000) :
    Calls Try.prog 78 #[.int .i64 typ, .slice A m c, .int .i64 n] W (DecV typ b n W) := by
  by_cases hb : typ < 0 ∨ 3 < typ ∨ n < 0 ∨ 65536 < n
  · exact decode_bad_ref typ n W h hb
  · obtain ⟨N, rfl⟩ : ∃ N : Nat, n = N := ⟨n.toNat, by omega⟩
    by_cases ht : typ = 1
    · subst ht
      exact decode_bools_ref N W h (by omega)
    · exact decode_yes_ref typ N W h hroom (by omega) (by omega)
end Go.Proofs.Ytcpimhefclfbaaa
