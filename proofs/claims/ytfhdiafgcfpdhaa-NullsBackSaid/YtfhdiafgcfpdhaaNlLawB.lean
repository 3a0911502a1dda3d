/-
  The walk of layer 8's main statement.
-/
import Derived.Test.YtfhdiafgcfpdhaaNlLaws
namespace Go.Proofs.Ytfhdiafgcfpdhaa
open Go Go.RowKit
set_option linter.unusedVariables false
set_option linter.unusedSimpArgs false

set_option maxHeartbeats 2000000 in
theorem NullsBack_walk (A : Option Addr) (m c : Nat) (l : List Cell) (W : World) (h : Cells [] W A m c l) :
    Calls Try.prog 9 #[.slice A m c] W fun e W' => e = .returned (.bool true) ∧ Below W.heap.size W W' := by
  have hc := h.cap
  have hnc := h.le
  obtain rfl := h.len
  go_enter Try.func9, Try.ntmps9
  go_wp2_with fail
  refine (small08 W).mono ?_
  rintro e w1 ⟨rfl, hk⟩
  go_wp2_with fail
  refine (few_prog w1 (h.pure hk)).mono ?_
  rintro e w2 ⟨⟨v, rfl, hv⟩, hk2⟩
  have hk12 := hk.trans hk2
  cases v with
  | false =>
    go_wp2
    go_ret
    exact ⟨rfl, hk12.below⟩
  | true =>
    have hr := hv rfl
    clear hv
    obtain ⟨hj, hcn⟩ := split_back (l := l) (by omega)
    go_wp2_with fail
    refine (split_prog w2 (h.pure hk12)).mono ?_
    rintro e w3 ⟨B1, n1, d1, B2, n2, d2, rfl, hk3, hb1, hb2⟩
    have hk13 := hk12.trans hk3
    replace hb1 := hb1 [] (by simp)
    replace hb2 := hb2 [] (by simp)
    obtain rfl := hb2.len
    have hd2 := hb2.cap
    have hle2 := hb2.le
    go_wp2_with fail
    refine (join_prog l.length w3 hb1 hb2 (by omega)).mono ?_
    rintro e w4 ⟨B3, n3, d3, rfl, hk4, hb3⟩
    rw [hj] at hb3 ⊢
    replace hb3 : Cells [] w4 B3 n3 d3 (l.map Cell.norm) := hb3 [] (by simp)
    obtain rfl : l.length = n3 := by have := hb3.len; simpa using this
    have hd3 := hb3.cap
    have hle3 := hb3.le
    have hk14 := hk13.trans hk4
    have hsm : (some (l.map Cell.norm)).isSome = true := rfl
    rw [hsm]
    clear hj hsm
    go_wp2_with fail
    refine (count_prog l.length w4 (hb1.pure hk4) (by omega)).mono ?_
    rintro e w5 ⟨rfl, hk5⟩
    rw [hcn]
    clear hcn
    have hb5 := hb3.pure hk5
    have h5 := h.pure (hk14.trans hk5)
    have hk15 := hk14.trans hk5
    clear hk5 hb1 hb2 hb3 hk12 hk13 hk14
    go_wp2
    go_loopw [9] (fun i wr => ∃ k : Nat, k ≤ l.length ∧ i = .int .i64 k ∧ Keep [] w5 wr) (fun i _ => l.length - (intOf i).toNat)
    case atStart => exact ⟨0, by omega, rfl, Keep.refl _ _⟩
    case round =>
      obtain ⟨k, hk', rfl, hkeep⟩ := hrel
      by_cases hlt : k < l.length
      · obtain ⟨b, off, rfl, hbl, _, hc0, hc1, hc2, hc3, hc4⟩ := Cells.at5 (h5.pure hkeep) hlt
        obtain ⟨b', off', rfl, hbl', _, hd0, hd1, hd2', hd3', hd4⟩ := Cells.at5 (hb5.pure hkeep) (k := k) (by simp; omega)
        have hmap : (l.map Cell.norm)[k]'(by simp; omega) = l[k].norm := by simp
        rw [hmap] at hd0 hd1 hd2' hd3' hd4
        generalize l[k] = x at *
        cases hx : x.null with
        | true =>
          rw [show x.norm = Cell.nil from by simp [Cell.norm, hx]] at hd0 hd1 hd2' hd3' hd4
          rw [hx] at hc0
          replace hd0 : wr.cell? ⟨b', off' + k * 5, none⟩ = some (.bool true) := hd0
          replace hd1 : wr.cell? ⟨b', off' + k * 5 + 1, none⟩ = some (.int .i64 0) := hd1
          replace hd2' : wr.cell? ⟨b', off' + k * 5 + 2, none⟩ = some (.string ⟨#[]⟩) := hd2'
          replace hd3' : wr.cell? ⟨b', off' + k * 5 + 3, none⟩ = some (.int .i64 0) := hd3'
          replace hd4 : wr.cell? ⟨b', off' + k * 5 + 4, none⟩ = some (.int .i64 0) := hd4
          have hneq : ∀ w, (binOp .neq 47 (.agg #[.bool true, .int .i64 0, .string ⟨#[]⟩, .int .i64 0, .int .i64 0]) (.agg #[.bool true, .int .i64 0, .string ⟨#[]⟩, .int .i64 0, .int .i64 0])).run Try.prog w = .ok (.bool false) w := fun w => by rw [neq_cell_raw]; simp
          clear hx
          go_wp2
          go_quiet (fail)
          go_wp2
          go_roundw
          case rel => exact ⟨k + 1, by omega, by go_num, (hkeep.alloc _).drewN _⟩
          case measure => simp [intOf]; omega
        | false =>
          rw [show x.norm = x from by simp [Cell.norm, hx]] at hd0 hd1 hd2' hd3' hd4
          rw [hx] at hc0 hd0
          have hneq : ∀ w, (binOp .neq 47 (.agg #[.bool false, .int .i64 x.int.toInt, .string x.text, .int .i64 x.x.toInt, .int .i64 x.y.toInt]) (.agg #[.bool false, .int .i64 x.int.toInt, .string x.text, .int .i64 x.x.toInt, .int .i64 x.y.toInt])).run Try.prog w = .ok (.bool false) w := fun w => by rw [neq_cell_raw]; simp
          clear hx
          go_wp2
          go_quiet (fail)
          go_wp2
          go_roundw
          case rel => exact ⟨k + 1, by omega, by go_num, (hkeep.alloc _).drewN _⟩
          case measure => simp [intOf]; omega
      · obtain rfl : k = l.length := by omega
        go_wp2
        go_ret
        exact ⟨rfl, (hk15.trans hkeep).below⟩
end Go.Proofs.Ytfhdiafgcfpdhaa
