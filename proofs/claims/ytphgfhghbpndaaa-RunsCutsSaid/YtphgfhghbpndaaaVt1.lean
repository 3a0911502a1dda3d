/-
  The walks of layer 4's functions, part 1: Clone, Grow, of bytes.
-/
import Derived.Test.YtphgfhghbpndaaaBp6
import Derived.Test.YtphgfhghbpndaaaVar
import Derived.Test.YtphgfhghbpndaaaMem
import Derived.Lib.SliceRun
import Derived.Lib.AppendZerosOnto
namespace Go.Proofs.Ytphgfhghbpndaaa
open Go Go.RowKit
set_option linter.unusedVariables false
set_option linter.unusedSimpArgs false


set_option maxHeartbeats 400000 in
theorem clone_bytes {X : List Nat} {A : Option Addr} {n c : Nat} {l : List UInt8} (W : World) (h : Bys X W A n c l) (hroom : n ≤ 20000000000000) :
    Calls Try.prog 43 #[.slice A n c] W fun e W' => ∃ B d, e = .returned (.slice B n d) ∧ Keep [] W W' ∧ W'.ownsRow W.heap.size 5 1 (.slice B n d) n (l.map vU8) := by
  have hc := h.cap
  have hnc := h.le
  obtain ⟨i0, hi, hz0, hz1, hz2⟩ := info_parts Try.infoU8
  cases A with
  | none =>
    obtain ⟨rfl, hx⟩ := h.none_nil
    obtain rfl := h.2.2.2.2 rfl
    have hnil := fun w : World => Lib.run_eql_slice_nil (P := Try.prog) w 24 5 none 0 0 0 0 Try.underlying24
    have HX := Lib.hid hx
    clear hx
    go_enter Try.func43, Try.ntmps43
    go_wp2
    go_ret
    exact ⟨none, 0, rfl, Keep.refl _ _, by rw [HX.out]; exact World.ownsRow_nil _ _ _ _⟩
  | some a =>
    have hnil := fun w : World => Lib.run_eql_slice_nil (P := Try.prog) w 24 5 (some a) n c 0 0 Try.underlying24
    go_enter Try.func43, Try.ntmps43
    go_wp2_with (at_builtin; refine wpList_append_rd rfl _ _ 24 rfl W.heap.size 5 i0 (.int .u8 0) 1 1 Try.underlying24 hi hz0 hz1 hz2 rfl (by omega) _ 0 [] rfl (World.ownsRow_lit W #[] 0 (Nat.le_refl _) (by simp [maxLen]) (by simp)) rfl (h.pure ((Keep.refl [] W).alloc _)) (vU8_one l) (by unfold maxLen; omega) (by omega) (by simp) ?_)
    intro v' w1 hown hgr
    obtain ⟨B, d, rfl⟩ := own_form hown
    have hk : Keep [] W w1 := ((Keep.refl [] W).alloc (.cells #[] 5)).grown hgr (by simp [Value.ownBlock])
    clear hgr
    go_wp2
    go_ret
    refine ⟨B, d, rfl, hk, ?_⟩
    simpa using hown

set_option maxHeartbeats 2000000 in
theorem grow_bytes {base n c : Nat} {B : Option Addr} {l : List UInt8} (k : Nat) (W : World) (h : W.ownsRow base 5 1 (.slice B n c) n (l.map vU8)) (hk : k ≤ 1000) (hroom : n ≤ 20000000000000) (hb : base ≤ W.heap.size) :
    Calls Try.prog 42 #[.slice B n c, .int .i64 k] W fun e W' => ∃ B' d, e = .returned (.slice B' n d) ∧ Keep [] W W' ∧ W'.ownsRow base 5 1 (.slice B' n d) n (l.map vU8) := by
  have hr : Bys [] W B n c l := rd_of_own h (by simp)
  have hc := hr.cap
  have hnc := hr.le
  have hl := hr.len1
  have h1 : ¬ ((k : Int) < 0) := by omega
  have h2 : wrap64 ((c : Int) - (n : Int)) = (c : Int) - (n : Int) := by unfold wrap64; omega
  have h3 : wrap64 ((k : Int) - ((c : Int) - (n : Int))) = (k : Int) - ((c : Int) - (n : Int)) := by unfold wrap64; omega
  by_cases hroom2 : n + k ≤ c
  · have h4 : ¬ ((k : Int) - ((c : Int) - (n : Int)) > 0) := by omega
    go_enter Try.func42, Try.ntmps42
    go_wp2
    go_ret
    exact ⟨B, c, rfl, Keep.refl _ _, h⟩
  · obtain ⟨i0, hi, hz0, hz1, hz2⟩ := info_parts Try.infoU8
    have h4 : (k : Int) - ((c : Int) - (n : Int)) > 0 := by omega
    obtain ⟨cs, hcl, hcs, htk, hnil⟩ : ∃ cs : List Value, cs.length = c ∧ (∀ a, B = some a → ∀ j v, cs[j]? = some v → W.cell? (a.add j) = some v) ∧ cs.take n = l.map vU8 ∧ (B = none → c = 0) := by
      rcases h.2 with ⟨hv, h0⟩ | ⟨g, cap, cur, hv, hbg, hg, hncap, hcm, hsz, ht⟩
      · injection hv with e1 e2 e3
        subst e1 e3
        exact ⟨[], rfl, fun a h => (by cases h), (by rw [List.eq_nil_of_length_eq_zero (hl.trans h0)]; simp), fun _ => rfl⟩
      · injection hv with e1 e2 e3
        subst e1 e3
        refine ⟨cur.toList, by simpa using hsz, fun a ha j v hj => ?_, by simpa using ht, fun h => by cases h⟩
        injection ha with ha
        subst ha
        rw [addr_add, Nat.zero_add, cell_of_row W g j cur 5 (0, 0) hg]
        simpa using hj
    have hck : c + (n + k - c) = n + k := by omega
    have hold : (Builtin.firstCells i0.size c (.slice B c c)).run Try.prog W.drew = .ok cs.toArray W.drew := by
      rw [hz1]
      cases B with
      | none =>
        have h0 := hnil rfl
        subst h0
        have hc0 : cs = [] := List.length_eq_zero_iff.1 hcl
        rw [hc0]
        exact run_firstCells_none W.drew 1 0 0 0
      | some a => exact run_firstCells_some W.drew 1 c a c c cs (by simpa using hcl) (fun j v hj => hcs a rfl j v hj)
    have hrz : ∀ ty, (Builtin.append_ #[24, 3] ty #[.slice B c c, .int .i64 ((k : Int) - ((c : Int) - (n : Int)))]).run Try.prog W =
        .ok (.slice (some ⟨W.heap.size, 0, none⟩) (n + k) (grownCap W (n + k) c 5)) (W.drew.alloc (.cells (cs.toArray ++ Builtin.zeroCells (Value.int .u8 0).cells (n + k - c) ++ Builtin.zeroCells (Value.int .u8 0).cells (grownCap W (n + k) c 5 - (n + k))) 5)) := fun ty => by
      have h := Lib.run_append_grow_zeros W 24 3 ty 5 i0 (.int .u8 0) .i64 .i64 Try.underlying24 Try.underlying3 hi hz0 B c c cs hold (n + k - c) (by omega) (by omega) (by omega) (by omega)
        (by rw [hz2]; omega)
        (by rw [hck]; exact growslice_fits (by omega) (by rw [hz2]; omega))
      rw [hck] at h
      rw [show (k : Int) - ((c : Int) - (n : Int)) = ((n + k - c : Nat) : Int) by omega]
      exact h
    have hGn : n + k ≤ grownCap W (n + k) c 5 := grownCap_ge W _ _ _
    have hGm := grownCap_le_maxLen W (n + k) c 5 (by unfold maxLen; omega)
    obtain ⟨G, hG⟩ : ∃ G, G = grownCap W (n + k) c 5 := ⟨_, rfl⟩
    rw [← hG] at hrz hGn hGm
    have hG63 : G ≤ 9223372036854775807 := by unfold maxLen at hGm; omega
    obtain ⟨Z, hZ⟩ : ∃ Z, Z = cs.toArray ++ Builtin.zeroCells (Value.int .u8 0).cells (n + k - c) ++ Builtin.zeroCells (Value.int .u8 0).cells (G - (n + k)) := ⟨_, rfl⟩
    rw [← hZ] at hrz
    have hfin : Keep [] W (W.drew.alloc (.cells Z 5)) ∧ (W.drew.alloc (.cells Z 5)).ownsRow base 5 1 (.slice (some ⟨W.heap.size, 0, none⟩) n G) n (l.map vU8) := by
      refine ⟨((Keep.refl [] W).drew).alloc _, by simpa using hl, .inr ⟨W.heap.size, G, Z, rfl, hb, heap_alloc_new W.drew _, by omega, hGm, ?_, ?_⟩⟩
      · rw [hZ]
        simp [size_zeroCells, Value.cells, hcl]
        omega
      · rw [hZ, ← htk]
        simp only [Array.toList_append, List.append_assoc]
        rw [Nat.mul_one, List.take_append_of_le_length (by simp [hcl]; omega)]
    replace hfin := Lib.hid hfin
    clear hold hck hG hcs hcl hr h htk hZ
    go_enter Try.func42, Try.ntmps42
    cases B with
    | none =>
      have h0 := hnil rfl
      subst h0
      obtain rfl : n = 0 := by omega
      go_wp2_with (at_builtin; refine Lib.wpList_append_run _ rfl _ _ _ _ rfl _ _ rfl rfl _ _ (hrz _) ?_)
      go_ret
      exact ⟨_, G, rfl, hfin.out⟩
    | some a =>
      obtain ⟨ab, ao, asp⟩ := a
      go_wp2_with (at_builtin; refine Lib.wpList_append_run _ rfl _ _ _ _ rfl _ _ rfl rfl _ _ (hrz _) ?_)
      go_ret
      exact ⟨_, G, rfl, hfin.out⟩
end Go.Proofs.Ytphgfhghbpndaaa
