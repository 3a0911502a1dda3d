/-
  What is over rows: layout.Over, by slices.IndexFunc and its two closures.
-/
import Derived.Test.YtcpimhefclfbaaaGreatDoorLy1
namespace Go.Proofs.YtcpimhefclfbaaaGreatDoor
open Go Go.RowKit
set_option maxRecDepth 10000
set_option linter.unusedVariables false
set_option linter.unusedSimpArgs false

def spV (p : Int × Int) : Value := .agg #[.int .i64 p.1, .int .i64 p.2]
/-- The place of the first that is so, or -1. -/
def idxI (f : Int × Int → Bool) (l : List (Int × Int)) : Int := match l.findIdx? f with | none => -1 | some k => k
theorem idxI_none {f : Int × Int → Bool} {l : List (Int × Int)} (h : ∀ p ∈ l, f p = false) : idxI f l = -1 := by
  unfold idxI
  rw [List.findIdx?_eq_none_iff.2 h]
theorem idxI_at {f : Int × Int → Bool} {l : List (Int × Int)} {k : Nat} (hk : k < l.length) (h : ∀ p ∈ l.take k, f p = false) (hf : f l[k] = true) : idxI f l = k := by
  unfold idxI
  rw [List.findIdx?_eq_some_iff_getElem.2 ⟨hk, hf, fun j hj => ?_⟩]
  rw [h _ (List.mem_take_iff_getElem.2 ⟨j, by omega, rfl⟩)]
  simp

set_option maxHeartbeats 1000000 in
theorem over1_prog (x y : Int) (p : Int × Int) (B4 B5 : Nat) (W : World) (h4 : Blk W B4 3 [.int .i64 x]) (h5 : Blk W B5 3 [.int .i64 y]) :
    Calls Tryz.prog 17 #[spV p, .pointer (some ⟨B5, 0, none⟩), .pointer (some ⟨B4, 0, none⟩)] W fun e W' => e = .returned (.bool (ovr x y p)) ∧ Keep [] W W' := by
  obtain ⟨a, b⟩ := p
  unfold spV ovr
  simp only []
  have hk := (Keep.refl [] W).alloc (.cells #[.int .i64 a, .int .i64 b] 38)
  have c4 := (h4.keep hk (by simp)).cell 0
  have c5 := (h5.keep hk (by simp)).cell 0
  simp only [List.getElem?_cons_zero] at c4 c5
  obtain ⟨v, hv⟩ : ∃ v, Hid ((decide (a < y) && (decide (x < b) && decide (x < y))) = v) := ⟨_, rfl⟩
  rw [hv.out]
  by_cases q1 : a < y
  · by_cases q2 : x < b
    · by_cases q3 : x < y
      · have e := Lib.hid (show v = true by rw [← hv.out]; simp [q1, q2, q3])
        go_enter Tryz.func17, Tryz.ntmps17
        go_wp2
        go_ret
        exact ⟨ret_b e.out.symm, hk⟩
      · have e := Lib.hid (show v = false by rw [← hv.out]; simp [q3])
        go_enter Tryz.func17, Tryz.ntmps17
        go_wp2
        go_ret
        exact ⟨ret_b e.out.symm, hk⟩
    · have e := Lib.hid (show v = false by rw [← hv.out]; simp [q2])
      go_enter Tryz.func17, Tryz.ntmps17
      go_wp2
      go_ret
      exact ⟨ret_b e.out.symm, hk⟩
  · have e := Lib.hid (show v = false by rw [← hv.out]; simp [q1])
    go_enter Tryz.func17, Tryz.ntmps17
    go_wp2
    go_ret
    exact ⟨ret_b e.out.symm, hk⟩

set_option maxHeartbeats 1000000 in
theorem over2_prog (x y : Int) (p : Int × Int) (B4 B5 B8 : Nat) (W : World) (h4 : Blk W B4 3 [.int .i64 x]) (h5 : Blk W B5 3 [.int .i64 y])
    (h8 : Blk W B8 42 [.func (.func 17) #[] #[.pointer (some ⟨B5, 0, none⟩), .pointer (some ⟨B4, 0, none⟩)]]) :
    Calls Tryz.prog 19 #[spV p, .pointer (some ⟨B8, 0, none⟩)] W fun e W' => e = .returned (.bool (!ovr x y p)) ∧ Keep [] W W' := by
  have hk := (Keep.refl [] W).alloc (.cells #[.int .i64 p.1, .int .i64 p.2] 38)
  have c8 := (h8.keep hk (by simp)).cell 0
  simp only [List.getElem?_cons_zero] at c8
  have C := Lib.hid (over1_prog x y p B4 B5 _ (h4.keep hk (by simp)) (h5.keep hk (by simp)))
  obtain ⟨v, hv⟩ : ∃ v, ovr x y p = v := ⟨_, rfl⟩
  rw [hv] at C ⊢
  clear hv
  unfold spV at C ⊢
  go_enter Tryz.func19, Tryz.ntmps19
  go_wp2_with fail
  refine C.out.mono ?_
  rintro e w1 ⟨rfl, hk1⟩
  clear C
  go_wp2
  go_ret
  exact ⟨rfl, hk.trans hk1⟩

set_option maxHeartbeats 2000000 in
theorem index1_prog {X : List Nat} {A : Option Addr} {n c : Nat} {l : List (Int × Int)} (x y : Int) (B4 B5 : Nat) (W : World) (h : Sps X W A n c l)
    (h4 : Blk W B4 3 [.int .i64 x]) (h5 : Blk W B5 3 [.int .i64 y]) :
    Calls Tryz.prog 18 #[.slice A n c, .func (.func 17) #[] #[.pointer (some ⟨B5, 0, none⟩), .pointer (some ⟨B4, 0, none⟩)]] W fun e W' => e = .returned (.int .i64 (idxI (ovr x y) l)) ∧ Keep [] W W' := by
  have hn := h.len
  have hc := h.cap
  have hnc := h.le
  obtain rfl := hn
  obtain ⟨f, hf⟩ : ∃ f : Int × Int → Bool, Hid (f = (ovr x y)) := ⟨_, rfl⟩
  rw [← hf.out]
  have C : Hid (∀ p w, Keep [] W w → Calls Tryz.prog 17 (#[spV p] ++ #[.pointer (some ⟨B5, 0, none⟩), .pointer (some ⟨B4, 0, none⟩)]) w fun e w' => e = .returned (.bool (f p)) ∧ Keep [] w w') := fun p w hw => by
    rw [hf.out]
    exact over1_prog x y p B4 B5 w (h4.keep hw (by simp)) (h5.keep hw (by simp))
  clear hf
  go_enter Tryz.func18, Tryz.ntmps18
  go_wp2
  go_loopw [8] (fun i wr => ∃ k : Nat, k ≤ l.length ∧ i = .int .i64 k ∧ Hid (∀ p ∈ l.take k, f p = false) ∧ Keep [] W wr) (fun i _ => l.length - (intOf i).toNat)
  case atStart => exact ⟨0, by omega, rfl, by simp [Hid], Keep.refl _ _⟩
  case round =>
    obtain ⟨m, hm, rfl, HN, hkeep⟩ := hrel
    by_cases hlt : m < l.length
    · obtain ⟨b, off, rfl, _, _, hc0, hc1⟩ := Sps.at2 (h.pure hkeep) hlt
      have hnl := Lib.hid (idxI_at (f := f) hlt HN.out)
      have HN2 : Hid (f l[m] = false → ∀ p ∈ l.take (m + 1), f p = false) := by
        intro h p hp
        rw [List.take_succ_eq_append_getElem hlt, List.mem_append] at hp
        rcases hp with hp | hp
        · exact HN.out p hp
        · simp at hp; subst hp; exact h
      generalize l[m] = p at *
      have C1 := C.out p wr hkeep
      unfold spV at C1
      generalize f p = v at *
      replace C1 := Lib.hid C1
      go_wp2_with fail
      refine C1.out.mono ?_
      rintro e w1 ⟨rfl, hk1⟩
      clear C1
      cases v with
      | true =>
        have hnl2 := Lib.hid (hnl.out rfl)
        go_wp2
        go_ret
        exact ⟨ret_i hnl2.out.symm, hkeep.trans hk1⟩
      | false =>
        have HN3 := Lib.hid (HN2.out rfl)
        go_wp2
        go_roundw
        case rel => exact ⟨m + 1, by omega, by go_num, HN3, hkeep.trans hk1⟩
        case measure => simp [intOf]; omega
    · have hnl := Lib.hid (idxI_none (f := f) (l := l) (by have := HN.out; rwa [List.take_of_length_le (by omega)] at this))
      go_wp2
      go_ret
      exact ⟨ret_i hnl.out.symm, hkeep⟩

set_option maxHeartbeats 2000000 in
theorem index2_prog {X : List Nat} {A : Option Addr} {n c : Nat} {l : List (Int × Int)} (x y : Int) (B4 B5 B8 : Nat) (W : World) (h : Sps X W A n c l)
    (h4 : Blk W B4 3 [.int .i64 x]) (h5 : Blk W B5 3 [.int .i64 y])
    (h8 : Blk W B8 42 [.func (.func 17) #[] #[.pointer (some ⟨B5, 0, none⟩), .pointer (some ⟨B4, 0, none⟩)]]) :
    Calls Tryz.prog 18 #[.slice A n c, .func (.func 19) #[] #[.pointer (some ⟨B8, 0, none⟩)]] W fun e W' => e = .returned (.int .i64 (idxI (fun p => !ovr x y p) l)) ∧ Keep [] W W' := by
  have hn := h.len
  have hc := h.cap
  have hnc := h.le
  obtain rfl := hn
  obtain ⟨f, hf⟩ : ∃ f : Int × Int → Bool, Hid (f = (fun p => !ovr x y p)) := ⟨_, rfl⟩
  rw [← hf.out]
  have C : Hid (∀ p w, Keep [] W w → Calls Tryz.prog 19 (#[spV p] ++ #[.pointer (some ⟨B8, 0, none⟩)]) w fun e w' => e = .returned (.bool (f p)) ∧ Keep [] w w') := fun p w hw => by
    rw [hf.out]
    exact over2_prog x y p B4 B5 B8 w (h4.keep hw (by simp)) (h5.keep hw (by simp)) (h8.keep hw (by simp))
  clear hf
  go_enter Tryz.func18, Tryz.ntmps18
  go_wp2
  go_loopw [8] (fun i wr => ∃ k : Nat, k ≤ l.length ∧ i = .int .i64 k ∧ Hid (∀ p ∈ l.take k, f p = false) ∧ Keep [] W wr) (fun i _ => l.length - (intOf i).toNat)
  case atStart => exact ⟨0, by omega, rfl, by simp [Hid], Keep.refl _ _⟩
  case round =>
    obtain ⟨m, hm, rfl, HN, hkeep⟩ := hrel
    by_cases hlt : m < l.length
    · obtain ⟨b, off, rfl, _, _, hc0, hc1⟩ := Sps.at2 (h.pure hkeep) hlt
      have hnl := Lib.hid (idxI_at (f := f) hlt HN.out)
      have HN2 : Hid (f l[m] = false → ∀ p ∈ l.take (m + 1), f p = false) := by
        intro h p hp
        rw [List.take_succ_eq_append_getElem hlt, List.mem_append] at hp
        rcases hp with hp | hp
        · exact HN.out p hp
        · simp at hp; subst hp; exact h
      generalize l[m] = p at *
      have C1 := C.out p wr hkeep
      unfold spV at C1
      generalize f p = v at *
      replace C1 := Lib.hid C1
      go_wp2_with fail
      refine C1.out.mono ?_
      rintro e w1 ⟨rfl, hk1⟩
      clear C1
      cases v with
      | true =>
        have hnl2 := Lib.hid (hnl.out rfl)
        go_wp2
        go_ret
        exact ⟨ret_i hnl2.out.symm, hkeep.trans hk1⟩
      | false =>
        have HN3 := Lib.hid (HN2.out rfl)
        go_wp2
        go_roundw
        case rel => exact ⟨m + 1, by omega, by go_num, HN3, hkeep.trans hk1⟩
        case measure => simp [intOf]; omega
    · have hnl := Lib.hid (idxI_none (f := f) (l := l) (by have := HN.out; rwa [List.take_of_length_le (by omega)] at this))
      go_wp2
      go_ret
      exact ⟨ret_i hnl.out.symm, hkeep⟩
end Go.Proofs.YtcpimhefclfbaaaGreatDoor
