/-
  The comparison of two rows of cells, and the reference's Join.
-/
import Derived.Test.YtfhdiafgcfpdhaaNl5
import Derived.Laws.StructEq
namespace Go.Proofs.Ytfhdiafgcfpdhaa
open Go Go.RowKit
set_option linter.unusedVariables false
set_option linter.unusedSimpArgs false

theorem Cell.ext' {x y : Cell} (h0 : x.null = y.null) (h1 : x.int.toInt = y.int.toInt) (h2 : x.text = y.text) (h3 : x.x.toInt = y.x.toInt) (h4 : x.y.toInt = y.y.toInt) : x = y := by
  cases x; cases y
  simp only [Int64.toInt_inj] at h1 h3 h4
  simp_all
theorem text_eq (a b : ByteArray) : a.toList = b.toList ↔ a = b :=
  ⟨fun e => by
    cases a; cases b
    simp only [ByteArray.toList_eq, Array.toList_inj] at e
    exact congrArg _ e, fun e => by rw [e]⟩

theorem equal_cell (d : Nat) (a b : Bool) (i j : Int) (s t : ByteArray) (x y u v : Int) (w : World) : (Op.equalIn (d + 3) 47 (.agg #[.bool a, .int .i64 i, .string s, .int .i64 x, .int .i64 y]) (.agg #[.bool b, .int .i64 j, .string t, .int .i64 u, .int .i64 v])).run Try.prog w =
    .ok (a == b && (i == j && (decide (s = t) && (x == u && y == v)))) w := by
  have hu : Try.prog.underlying 47 = some (.struct (Try.prog.fieldsOf 47)) := by kernel_rfl
  rw [run_equalIn_agg w (d + 2) _ _ _ hu Try.stoodInHeld47]
  simp only [Program.fieldsOf, Try.underlying47]
  go_simp
  simp only [text_eq]
  by_cases h1 : a = b <;> by_cases h2 : i = j <;> by_cases h3 : s = t <;> by_cases h4 : x = u <;> by_cases h5 : y = v <;> simp [h1, h2, h3, h4, h5]
theorem neq_cell_raw (a b : Bool) (i j : Int) (s t : ByteArray) (x y u v : Int) (w : World) : (binOp .neq 47 (.agg #[.bool a, .int .i64 i, .string s, .int .i64 x, .int .i64 y]) (.agg #[.bool b, .int .i64 j, .string t, .int .i64 u, .int .i64 v])).run Try.prog w =
    .ok (.bool (!(a == b && (i == j && (decide (s = t) && (x == u && y == v)))))) w := by
  rw [run_neq_struct, show (10000 : Nat) = 9997 + 3 from rfl, equal_cell]
  rfl

theorem neq_cell (x y : Cell) (w : World) : (binOp .neq 47 (cellVal x) (cellVal y)).run Try.prog w = .ok (.bool (decide (x ≠ y))) w := by
  rw [cellVal, cellVal, neq_cell_raw]
  congr 2
  by_cases h : x = y
  · subst h; simp
  · rw [decide_eq_true h]
    apply Classical.byContradiction
    intro hc
    simp at hc
    exact h (Cell.ext' hc.1 hc.2.1 hc.2.2.1 hc.2.2.2.1 hc.2.2.2.2)

set_option maxHeartbeats 1000000 in
theorem cells_ref {X Y : List Nat} {A B : Option Addr} {n c m d : Nat} {l r : List Cell} (W : World) (h : Cells X W A n c l) (h' : Cells Y W B m d r) :
    Calls Try.prog 29 #[.slice A n c, .slice B m d] W fun e W' => e = .returned (.bool (decide (l = r))) ∧ Keep [] W W' := by
  have hn := h.len
  have hc := h.cap
  have hnc := h.le
  have hn' := h'.len
  have hc' := h'.cap
  have hnc' := h'.le
  obtain rfl := hn
  obtain rfl := hn'
  have HP : ∃ v : Bool, Hid (v = decide (l = r)) := ⟨_, rfl⟩
  obtain ⟨v, HP⟩ := HP
  rw [← HP.out]
  by_cases hne : l.length = r.length
  · have hne' : ((l.length : Int) != (r.length : Int)) = false := by simp [hne]
    have hle : l.length ≤ r.length ∧ r.length ≤ l.length := by omega
    have HL := Lib.hid hne
    clear hne
    go_enter Try.func29, Try.ntmps29
    go_wp2
    go_loopw [5] (fun i w => ∃ k : Nat, k ≤ l.length ∧ i = .int .i64 k ∧ Hid (l.take k = r.take k) ∧ Keep [] W w) (fun i _ => l.length - (intOf i).toNat)
    case atStart => exact ⟨0, by omega, rfl, rfl, Keep.refl _ _⟩
    case round =>
      rename_i wr
      obtain ⟨k, hk, rfl, HE, hkeep⟩ := hrel
      by_cases hlt : k < l.length
      · have hlt' : k < r.length := by omega
        obtain ⟨b, off, rfl, hb1, hb2, hc0, hc1, hc2, hc3, hc4⟩ := Cells.at5 (h.pure hkeep) hlt
        obtain ⟨b', off', rfl, hb1', hb2', hd0, hd1, hd2, hd3, hd4⟩ := Cells.at5 (h'.pure hkeep) hlt'
        by_cases heq : l[k] = r[k]
        · have hneq : ∀ w, (binOp .neq 47 (cellVal l[k]) (cellVal r[k])).run Try.prog w = .ok (.bool false) w := fun w => by rw [neq_cell]; simp [heq]
          have HE2 : Hid (l.take (k + 1) = r.take (k + 1)) := by
            unfold Hid
            rw [List.take_succ_eq_append_getElem hlt, List.take_succ_eq_append_getElem (by omega), HE.out, heq]
          clear heq
          go_wp2
          go_quiet (fail)
          go_wp2
          go_roundw
          case rel => exact ⟨k + 1, by omega, by go_num, HE2, hkeep.drewN _⟩
          case measure => simp [intOf]; omega
        · have hneq : ∀ w, (binOp .neq 47 (cellVal l[k]) (cellVal r[k])).run Try.prog w = .ok (.bool true) w := fun w => by rw [neq_cell]; simp [heq]
          have hv : Hid (v = false) := by
            rw [Hid, HP.out]
            exact decide_eq_false (fun h => heq (by subst h; rfl))
          clear heq
          go_wp2
          go_quiet (fail)
          go_wp2
          go_ret
          exact ⟨ret_b hv.out.symm, hkeep.drewN _⟩
      · have hv : Hid (v = true) := by
          rw [Hid, HP.out]
          refine decide_eq_true ?_
          have := HE.out
          rwa [List.take_of_length_le (by omega), List.take_of_length_le (by omega)] at this
        go_wp2
        go_ret
        exact ⟨ret_b hv.out.symm, hkeep⟩
  · have hv : Hid (v = false) := by
      rw [Hid, HP.out]
      exact decide_eq_false (fun h => hne (by rw [h]))
    have hne' : ((l.length : Int) != (r.length : Int)) = true := by rw [bne_iff_ne]; omega
    clear hne
    go_enter Try.func29, Try.ntmps29
    go_wp2
    go_ret
    exact ⟨ret_b hv.out.symm, Keep.refl _ _⟩
end Go.Proofs.Ytfhdiafgcfpdhaa
