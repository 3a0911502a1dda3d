/-
  The walks of layer 8's functions, part 1: the predicate, IndexFunc.
-/
import Derived.Test.YtfhdiafgcfpdhaaBp6
import Derived.Test.YtfhdiafgcfpdhaaCell
namespace Go.Proofs.Ytfhdiafgcfpdhaa
open Go Go.RowKit
set_option linter.unusedVariables false
set_option linter.unusedSimpArgs false

/-- A cell as a value, written out. -/
abbrev cellVal (c : Cell) : Value := .agg #[.bool c.null, .int .i64 c.int.toInt, .string c.text, .int .i64 c.x.toInt, .int .i64 c.y.toInt]

set_option maxHeartbeats 400000 in
theorem isNull_prog (c : Cell) (W : World) : Calls Try.prog 37 #[cellVal c] W fun e W' => e = .returned (.bool c.null) ∧ Keep [] W W' := by
  go_enter Try.func37, Try.ntmps37
  go_wp2
  go_ret
  exact ⟨rfl, (Keep.refl _ _).alloc _⟩

/-- The place of the first null, or -1. -/
def firstNull : List Cell → Int
  | [] => -1
  | c :: l => if c.null then 0 else if firstNull l < 0 then -1 else firstNull l + 1

theorem firstNull_ge : ∀ l : List Cell, -1 ≤ firstNull l
  | [] => by simp [firstNull]
  | c :: l => by
    have := firstNull_ge l
    rw [firstNull]
    split
    · omega
    · split <;> omega
theorem firstNull_none : ∀ (l : List Cell), (∀ c ∈ l, c.null = false) → firstNull l = -1
  | [], _ => rfl
  | c :: l, h => by
    rw [firstNull, h c (by simp), firstNull_none l (fun d hd => h d (by simp [hd]))]
    rfl
theorem firstNull_at : ∀ (l : List Cell) (k : Nat) (hk : k < l.length), (∀ c ∈ l.take k, c.null = false) → l[k].null = true → firstNull l = k
  | [], _, hk, _, _ => absurd hk (by simp)
  | c :: l, 0, _, _, h => by
    have h : c.null = true := h
    rw [firstNull, h]
    rfl
  | c :: l, k + 1, hk, hn, h => by
    have ih := firstNull_at l k (by simpa using hk) (fun d hd => hn d (by simp [hd])) (by simpa using h)
    rw [firstNull, hn c (by simp), ih]
    simp
    omega

set_option maxHeartbeats 400000 in
theorem indexFunc_prog {X : List Nat} {A : Option Addr} {n c : Nat} {l : List Cell} (W : World) (h : Cells X W A n c l) :
    Calls Try.prog 38 #[.slice A n c, .func (.func 37) #[] #[]] W fun e W' => e = .returned (.int .i64 (firstNull l)) ∧ Keep [] W W' := by
  have hn := h.len
  have hc := h.cap
  have hnc := h.le
  obtain rfl := hn
  go_enter Try.func38, Try.ntmps38
  go_wp2
  go_loopw [8] (fun i wr => ∃ k : Nat, k ≤ l.length ∧ i = .int .i64 k ∧ Hid (∀ c ∈ l.take k, c.null = false) ∧ Keep [] W wr) (fun i _ => l.length - (intOf i).toNat)
  case atStart => exact ⟨0, by omega, rfl, by simp [Hid], Keep.refl _ _⟩
  case round =>
    obtain ⟨k, hk, rfl, HN, hkeep⟩ := hrel
    by_cases hlt : k < l.length
    · obtain ⟨b, off, rfl, _, _, hc0, hc1, hc2, hc3, hc4⟩ := Cells.at5 (h.pure hkeep) hlt
      have hnl := Lib.hid (firstNull_at l k hlt HN.out)
      have HN2 : Hid (l[k].null = false → ∀ c ∈ l.take (k + 1), c.null = false) := by
        intro h c hc
        rw [List.take_succ_eq_append_getElem hlt, List.mem_append] at hc
        rcases hc with hc | hc
        · exact HN.out c hc
        · simp at hc; subst hc; exact h
      generalize l[k] = x at *
      go_wp2_with fail
      refine (isNull_prog x wr).mono ?_
      rintro e w1 ⟨rfl, hk1⟩
      cases hx : x.null with
      | true =>
        have hnl2 := Lib.hid (hnl.out hx)
        clear hx
        go_wp2
        go_ret
        exact ⟨ret_i hnl2.out.symm, hkeep.trans hk1⟩
      | false =>
        have HN3 := Lib.hid (HN2.out hx)
        clear hx
        go_wp2
        go_roundw
        case rel => exact ⟨k + 1, by omega, by go_num, HN3, hkeep.trans hk1⟩
        case measure => simp [intOf]; omega
    · have hnl := Lib.hid (firstNull_none l (by have := HN.out; rwa [List.take_of_length_le (by omega)] at this))
      go_wp2
      go_ret
      exact ⟨ret_i hnl.out.symm, hkeep⟩
end Go.Proofs.Ytfhdiafgcfpdhaa
