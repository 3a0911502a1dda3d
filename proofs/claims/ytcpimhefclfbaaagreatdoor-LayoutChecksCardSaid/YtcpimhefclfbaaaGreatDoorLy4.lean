/-
  What is over rows: layout.Over.
-/
import Derived.Test.YtcpimhefclfbaaaGreatDoorLy3
import Derived.Laws.EntriesVeiled
namespace Go.Proofs.YtcpimhefclfbaaaGreatDoor
open Go Go.RowKit
set_option maxRecDepth 10000
set_option linter.unusedVariables false
set_option linter.unusedSimpArgs false

theorem ret_ii {a b a' b' : Int} (h : a = a') (h' : b = b') : Ending.returned (.tuple #[.int .i64 a, .int .i64 b]) = .returned (.tuple #[.int .i64 a', .int .i64 b']) := by rw [h, h']
theorem idxI_is (f : Int × Int → Bool) (l : List (Int × Int)) : (idxI f l = -1 ∧ l.findIdx? f = none) ∨ ∃ k : Nat, k < l.length ∧ idxI f l = k ∧ l.findIdx? f = some k := by
  unfold idxI
  cases h : l.findIdx? f with
  | none => exact .inl ⟨rfl, rfl⟩
  | some k => exact .inr ⟨k, (List.findIdx?_eq_some_iff_getElem.1 h).1, rfl, rfl⟩

set_option maxHeartbeats 2000000 in
theorem over_prog {X : List Nat} {A : Option Addr} {n c : Nat} {l : List (Int × Int)} (x y : Int) (W : World) (h : Sps X W A n c l) :
    Calls Tryz.prog 12 #[.slice A n c, .int .i64 x, .int .i64 y] W fun e W' => e = .returned (.tuple #[.int .i64 ((overL l x y).1 : Nat), .int .i64 ((overL l x y).2 : Nat)]) ∧ Keep [] W W' := by
  have hc := h.cap
  have hnc := h.le
  obtain rfl := h.len
  obtain ⟨a, ha⟩ : ∃ a, Hid ((overL l x y).1 = a) := ⟨_, rfl⟩
  obtain ⟨b, hb⟩ : ∃ b, Hid ((overL l x y).2 = b) := ⟨_, rfl⟩
  rw [ha.out, hb.out]
  have hka : Keep [] W (((W.alloc (.cells #[.int .i64 x] 3)).alloc (.cells #[.int .i64 y] 3)).alloc (.cells #[.func (.func 17) #[] #[.pointer (some ⟨W.heap.size + 1, 0, none⟩), .pointer (some ⟨W.heap.size, 0, none⟩)]] 42)) := (((Keep.refl _ _).alloc _).alloc _).alloc _
  have h4a : Blk (((W.alloc (.cells #[.int .i64 x] 3)).alloc (.cells #[.int .i64 y] 3)).alloc (.cells #[.func (.func 17) #[] #[.pointer (some ⟨W.heap.size + 1, 0, none⟩), .pointer (some ⟨W.heap.size, 0, none⟩)]] 42)) W.heap.size 3 [.int .i64 x] := ((Blk.new W 3 [.int .i64 x]).alloc _).alloc _
  have h5a : Blk (((W.alloc (.cells #[.int .i64 x] 3)).alloc (.cells #[.int .i64 y] 3)).alloc (.cells #[.func (.func 17) #[] #[.pointer (some ⟨W.heap.size + 1, 0, none⟩), .pointer (some ⟨W.heap.size, 0, none⟩)]] 42)) (W.heap.size + 1) 3 [.int .i64 y] := by
    have := (Blk.new (W.alloc (.cells #[.int .i64 x] 3)) 3 [.int .i64 y]).alloc (.cells #[.func (.func 17) #[] #[.pointer (some ⟨W.heap.size + 1, 0, none⟩), .pointer (some ⟨W.heap.size, 0, none⟩)]] 42)
    simpa using this
  have h8a : Blk (((W.alloc (.cells #[.int .i64 x] 3)).alloc (.cells #[.int .i64 y] 3)).alloc (.cells #[.func (.func 17) #[] #[.pointer (some ⟨W.heap.size + 1, 0, none⟩), .pointer (some ⟨W.heap.size, 0, none⟩)]] 42)) (W.heap.size + 1 + 1) 42 [.func (.func 17) #[] #[.pointer (some ⟨W.heap.size + 1, 0, none⟩), .pointer (some ⟨W.heap.size, 0, none⟩)]] := by
    have := Blk.new ((W.alloc (.cells #[.int .i64 x] 3)).alloc (.cells #[.int .i64 y] 3)) 42 [.func (.func 17) #[] #[.pointer (some ⟨W.heap.size + 1, 0, none⟩), .pointer (some ⟨W.heap.size, 0, none⟩)]]
    simpa using this
  obtain ⟨W3, hW3⟩ : ∃ W3, Hid ((((W.alloc (.cells #[.int .i64 x] 3)).alloc (.cells #[.int .i64 y] 3)).alloc (.cells #[.func (.func 17) #[] #[.pointer (some ⟨W.heap.size + 1, 0, none⟩), .pointer (some ⟨W.heap.size, 0, none⟩)]] 42)) = W3) := ⟨_, rfl⟩
  have hk3 : Keep [] W W3 := by rw [← hW3.out]; exact hka
  have h4 : Blk W3 W.heap.size 3 [.int .i64 x] := by rw [← hW3.out]; exact h4a
  have h5 : Blk W3 (W.heap.size + 1) 3 [.int .i64 y] := by rw [← hW3.out]; exact h5a
  have h8 : Blk W3 (W.heap.size + 1 + 1) 42 [.func (.func 17) #[] #[.pointer (some ⟨W.heap.size + 1, 0, none⟩), .pointer (some ⟨W.heap.size, 0, none⟩)]] := by rw [← hW3.out]; exact h8a
  clear hka h4a h5a h8a
  have I1 := Lib.hid (index1_prog x y _ _ W3 (h.pure hk3) h4 h5)
  have c8 := h8.cell 0
  simp only [List.getElem?_cons_zero] at c8
  rcases idxI_is (ovr x y) l with ⟨e1, e2⟩ | ⟨k, hk, e1, e2⟩
  · rw [e1] at I1
    have ha0 : a = 0 := by rw [← ha.out, overL, e2]
    have hb0 : b = 0 := by rw [← hb.out, overL, e2]
    clear e1 e2 ha hb
    subst ha0 hb0
    have I1' := I1.out
    rw [← hW3.out] at I1'
    replace I1' := Lib.hid I1'
    go_enter Tryz.func12, Tryz.ntmps12
    go_wp2_with fail
    refine I1'.out.mono ?_
    rintro e w1 ⟨rfl, hk1⟩
    rw [hW3.out] at hk1
    clear I1 I1'
    go_wp2
    go_ret2
    exact ⟨rfl, hk3.trans hk1⟩
  · rw [e1] at I1
    have hdr := fun w (hw : Keep [] W w) => Rd.dropF (k := k) (d := c - k) spC_len (h.pure hw) (by omega) rfl
    rw [if_neg (show ¬ c = k by omega)] at hdr
    replace hdr := Lib.hid hdr
    have I2 := Lib.hid (fun w (hw : Keep [] W3 w) => index2_prog x y W.heap.size (W.heap.size + 1) (W.heap.size + 1 + 1) w (hdr.out w (hk3.trans hw)) (h4.keep hw (by simp)) (h5.keep hw (by simp)) (h8.keep hw (by simp)))
    have hkn : ¬ ((k : Int) < 0) := by omega
    have hk0 : (0 : Int) ≤ (k : Int) := by omega
    have hk1' : (k : Int) ≤ (l.length : Int) := by omega
    have hk2' : (k : Int) ≤ (c : Int) := by omega
    have hkn' : k ≤ l.length := by omega
    have hkc' : k ≤ c := by omega
    rcases idxI_is (fun p => !ovr x y p) (l.drop k) with ⟨g1, g2⟩ | ⟨m, hm, g1, g2⟩
    · rw [g1] at I2
      have ha0 : a = k := by rw [← ha.out, overL, e2]; simp only [g2]
      have hb0 : b = l.length := by rw [← hb.out, overL, e2]; simp only [g2]
      clear e1 e2 ha hb g1 g2
      subst ha0 hb0
      have I1' := I1.out
      rw [← hW3.out] at I1'
      replace I1' := Lib.hid I1'
      go_enter Tryz.func12, Tryz.ntmps12
      go_wp2_with fail
      refine I1'.out.mono ?_
      rintro e w1 ⟨rfl, hk1⟩
      rw [hW3.out] at hk1
      have c8' := (h8.keep hk1 (by simp)).cell 0
      simp only [List.getElem?_cons_zero] at c8'
      go_wp2_with fail
      refine (I2.out w1 hk1).mono ?_
      rintro e w2 ⟨rfl, hk2⟩
      clear I1 I1' I2
      go_wp2
      go_ret2
      exact ⟨rfl, (hk3.trans hk1).trans hk2⟩
    · rw [g1] at I2
      rw [List.length_drop] at hm
      have ha0 : a = k := by rw [← ha.out, overL, e2]; simp only [g2]
      have hb0 : Hid (b = k + m) := by rw [Hid, ← hb.out, overL, e2]; simp only [g2]
      have hkm : (k : Int) + (m : Int) = (b : Int) := by have := hb0.out; omega
      have hbw : IntKind.i64.wrap (b : Int) = (b : Int) := IntWalk.i64_in _ (by have := hb0.out; omega)
      have hmn : ¬ ((m : Int) < 0) := by omega
      clear e1 e2 ha hb g1 g2
      subst ha0
      have I1' := I1.out
      rw [← hW3.out] at I1'
      replace I1' := Lib.hid I1'
      go_enter Tryz.func12, Tryz.ntmps12
      go_wp2_with fail
      refine I1'.out.mono ?_
      rintro e w1 ⟨rfl, hk1⟩
      rw [hW3.out] at hk1
      have c8' := (h8.keep hk1 (by simp)).cell 0
      simp only [List.getElem?_cons_zero] at c8'
      go_wp2_with fail
      refine (I2.out w1 hk1).mono ?_
      rintro e w2 ⟨rfl, hk2⟩
      clear I1 I1' I2
      go_wp2
      go_ret2
      exact ⟨rfl, (hk3.trans hk1).trans hk2⟩
end Go.Proofs.YtcpimhefclfbaaaGreatDoor
