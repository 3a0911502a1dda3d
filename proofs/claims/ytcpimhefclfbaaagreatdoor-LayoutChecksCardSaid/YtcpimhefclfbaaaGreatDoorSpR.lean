/-
  Two rows of spans are compared: hypostyleref18.Spans.
-/
import Derived.Test.YtcpimhefclfbaaaGreatDoorSp
import Derived.Test.YtcpimhefclfbaaaGreatDoorCeq
namespace Go.Proofs.YtcpimhefclfbaaaGreatDoor
open Go Go.RowKit
set_option maxRecDepth 10000
set_option linter.unusedVariables false
set_option linter.unusedSimpArgs false

theorem equal_span (d : Nat) (a b i j : Int) (w : World) : (Op.equalIn (d + 3) 38 (.agg #[.int .i64 a, .int .i64 b]) (.agg #[.int .i64 i, .int .i64 j])).run Tryz.prog w = .ok (a == i && b == j) w := by
  have hu : Tryz.prog.underlying 38 = some (.struct (Tryz.prog.fieldsOf 38)) := by kernel_rfl
  rw [run_equalIn_agg w (d + 2) _ _ _ hu Tryz.stoodInHeld38]
  simp only [Program.fieldsOf, Tryz.underlying38]
  go_simp
  by_cases h1 : a = i <;> by_cases h2 : b = j <;> simp [h1, h2]
theorem neq_span (x y : Int × Int) (w : World) : (binOp .neq 38 (.agg #[.int .i64 x.1, .int .i64 x.2]) (.agg #[.int .i64 y.1, .int .i64 y.2])).run Tryz.prog w = .ok (.bool (decide (x ≠ y))) w := by
  rw [run_neq_struct, show (10000 : Nat) = 9997 + 3 from rfl, equal_span]
  by_cases h : x = y
  · subst h; simp
  · rw [decide_eq_true h]
    apply congrArg (fun z => Result.ok (Value.bool z) w)
    apply Classical.byContradiction
    intro hc
    simp at hc
    exact h (Prod.ext hc.1 hc.2)
theorem eql_span (x y : Int × Int) (w : World) : (binOp .eql 38 (.agg #[.int .i64 x.1, .int .i64 x.2]) (.agg #[.int .i64 y.1, .int .i64 y.2])).run Tryz.prog w = .ok (.bool (decide (x = y))) w := by
  rw [run_eql_struct, show (10000 : Nat) = 9997 + 3 from rfl, equal_span]
  by_cases h : x = y
  · subst h; simp
  · rw [decide_eq_false h]
    apply congrArg (fun z => Result.ok (Value.bool z) w)
    apply Classical.byContradiction
    intro hc
    simp at hc
    exact h (Prod.ext hc.1 hc.2)
set_option maxHeartbeats 1000000 in
theorem sameSp_ref {X Y : List Nat} {A B : Option Addr} {n c m d : Nat} {l r : List (Int × Int)} (W : World) (h : Sps X W A n c l) (h' : Sps Y W B m d r) :
    Calls Tryz.prog 14 #[.slice A n c, .slice B m d] W fun e W' => e = .returned (.bool (decide (l = r))) ∧ Keep [] W W' := by
  have hn := h.len
  have hc := h.cap
  have hnc := h.le
  have hn' := h'.len
  have hc' := h'.cap
  have hnc' := h'.le
  obtain rfl := hn
  obtain rfl := hn'
  have HP : ∃ v : Bool, Hid (v = decide (l = r)) := ⟨_, rfl⟩
  obtain ⟨v, HP⟩ := HP
  rw [← HP.out]
  by_cases hne : l.length = r.length
  · have hne' : ((l.length : Int) != (r.length : Int)) = false := by simp [hne]
    have hle : l.length ≤ r.length ∧ r.length ≤ l.length := by omega
    have HL := Lib.hid hne
    clear hne
    go_enter Tryz.func14, Tryz.ntmps14
    go_wp2
    go_loopw [5] (fun i w => ∃ k : Nat, k ≤ l.length ∧ i = .int .i64 k ∧ Hid (l.take k = r.take k) ∧ Keep [] W w) (fun i _ => l.length - (intOf i).toNat)
    case atStart => exact ⟨0, by omega, rfl, rfl, Keep.refl _ _⟩
    case round =>
      rename_i wr
      obtain ⟨k, hk, rfl, HE, hkeep⟩ := hrel
      by_cases hlt : k < l.length
      · have hlt' : k < r.length := by omega
        obtain ⟨b, off, rfl, hb1, hb2, hc0, hc1⟩ := Sps.at2 (h.pure hkeep) hlt
        obtain ⟨b', off', rfl, hb1', hb2', hd0, hd1⟩ := Sps.at2 (h'.pure hkeep) hlt'
        by_cases heq : l[k] = r[k]
        · have hneq : ∀ w, (binOp .neq 38 (.agg #[.int .i64 l[k].1, .int .i64 l[k].2]) (.agg #[.int .i64 r[k].1, .int .i64 r[k].2])).run Tryz.prog w = .ok (.bool false) w := fun w => by rw [neq_span]; simp [heq]
          have HE2 : Hid (l.take (k + 1) = r.take (k + 1)) := by
            unfold Hid
            rw [List.take_succ_eq_append_getElem hlt, List.take_succ_eq_append_getElem (by omega), HE.out, heq]
          clear heq
          go_wp2
          go_quiet (fail)
          go_wp2
          go_roundw
          case rel => exact ⟨k + 1, by omega, by go_num, HE2, hkeep.drewN _⟩
          case measure => simp [intOf]; omega
        · have hneq : ∀ w, (binOp .neq 38 (.agg #[.int .i64 l[k].1, .int .i64 l[k].2]) (.agg #[.int .i64 r[k].1, .int .i64 r[k].2])).run Tryz.prog w = .ok (.bool true) w := fun w => by rw [neq_span]; simp [heq]
          have hv : Hid (v = false) := by
            rw [Hid, HP.out]
            exact decide_eq_false (fun h => heq (by subst h; rfl))
          clear heq
          go_wp2
          go_quiet (fail)
          go_wp2
          go_ret
          exact ⟨ret_b hv.out.symm, hkeep.drewN _⟩
      · have hv : Hid (v = true) := by
          rw [Hid, HP.out]
          refine decide_eq_true ?_
          have := HE.out
          rwa [List.take_of_length_le (by omega), List.take_of_length_le (by omega)] at this
        go_wp2
        go_ret
        exact ⟨ret_b hv.out.symm, hkeep⟩
  · have hv : Hid (v = false) := by
      rw [Hid, HP.out]
      exact decide_eq_false (fun h => hne (by rw [h]))
    have hne' : ((l.length : Int) != (r.length : Int)) = true := by rw [bne_iff_ne]; omega
    clear hne
    go_enter Tryz.func14, Tryz.ntmps14
    go_wp2
    go_ret
    exact ⟨ret_b hv.out.symm, Keep.refl _ _⟩
end Go.Proofs.YtcpimhefclfbaaaGreatDoor
