/-
  Layer 8's statements: Few, and the small case.
-/
import Derived.Test.YtfhdiafgcfpdhaaNl8
import Derived.Test.YtfhdiafgcfpdhaaBpLaws
namespace Go.Proofs.Ytfhdiafgcfpdhaa
open Go Go.RowKit
set_option linter.unusedVariables false
set_option linter.unusedSimpArgs false

def FewSays (n : Nat) (e : Ending) : Prop := ∃ v : Bool, e = .returned (.bool v) ∧ (v = true → n ≤ 300)

set_option maxHeartbeats 1000000 in
theorem few_prog {X : List Nat} {A : Option Addr} {n c : Nat} {l : List Cell} (W : World) (h : Cells X W A n c l) :
    Calls Try.prog 24 #[.slice A n c] W fun e W' => FewSays l.length e ∧ Keep [] W W' := by
  have hc := h.cap
  have hnc := h.le
  obtain rfl := h.len
  go_enter Try.func24, Try.ntmps24
  go_wp2
  go_loop [3, 4] (fun s i => ∃ (k : Nat) (z : Int), k ≤ l.length ∧ i = .int .i64 k ∧ s = .int .i64 z) (fun _ i => l.length - (intOf i).toNat)
  case atStart => exact ⟨0, _, by omega, rfl, rfl⟩
  case round =>
    obtain ⟨k, z, hk, rfl, rfl⟩ := hrel
    by_cases hlt : k < l.length
    · obtain ⟨b, off, rfl, _, _, hc0, hc1, hc2, hc3, hc4⟩ := Cells.at5 h hlt
      go_wp2
      go_round
      case rel => exact ⟨k + 1, _, by omega, by go_num, rfl⟩
      case measure => simp [intOf]; omega
    · obtain rfl : k = l.length := by omega
      by_cases h3 : l.length ≤ 300
      · by_cases hz : z ≤ 3000
        all_goals
          go_wp2
          go_ret
          exact ⟨⟨_, rfl, fun _ => h3⟩, Keep.refl _ _⟩
      · go_wp2
        go_ret
        exact ⟨⟨_, rfl, fun h => by cases h⟩, Keep.refl _ _⟩

set_option maxHeartbeats 2000000 in
theorem small08 (W : World) : Calls Try.prog 23 #[] W fun e W' => e = .returned (.bool true) ∧ Keep [] W W' := by
  go_enter Try.func23, Try.ntmps23
  go_wp2_with fail
  have hk0 : Keep [] W (W.alloc (.cells #[.bool true, .int .i64 0, .string ByteArray.empty, .int .i64 0, .int .i64 0, .bool false, .int .i64 5, .string ByteArray.empty, .int .i64 0, .int .i64 0] 47)) := (Keep.refl _ _).alloc _
  refine (split_prog (X := []) (l := [Cell.nil, ⟨false, 5, ByteArray.empty, 0, 0⟩]) _ ((Blk.new W 47 _).rd (by simp) rfl (by omega) (by simp [maxLen]) rfl)).mono ?_
  rintro e w1 ⟨B1, m1, d1, B2, m2, d2, rfl, hk1, hb1, hb2⟩
  rw [show splitBits [Cell.nil, ⟨false, 5, ByteArray.empty, 0, 0⟩] = [2] from by decide] at hb1
  rw [show splitRest [Cell.nil, ⟨false, 5, ByteArray.empty, 0, 0⟩] = [⟨false, 5, ByteArray.empty, 0, 0⟩] from by decide] at hb2
  replace hb1 := hb1 [] (by simp)
  replace hb2 := hb2 [] (by simp)
  go_wp2_with fail
  refine (join_prog (X := []) 2 _ hb1 hb2 (by omega)).mono ?_
  rintro e w2 ⟨B3, m3, d3, rfl, hk2, hb3⟩
  rw [show (join [2] [⟨false, 5, ByteArray.empty, 0, 0⟩] 2).isSome = true from by decide]
  replace hb3 := hb3 [] (by simp)
  rw [show (join [2] [⟨false, 5, ByteArray.empty, 0, 0⟩] 2).getD [] = [Cell.nil, ⟨false, 5, ByteArray.empty, 0, 0⟩] from by decide] at hb3
  go_wp2_with fail
  refine (join_prog (X := []) (rest := []) 2 _ (hb1.pure hk2) (Rd.nil_ [] _ _) (by omega)).mono ?_
  rintro e w3 ⟨B4, m4, d4, rfl, hk3, hb4⟩
  rw [show (join [2] [] 2).isSome = false from by decide]
  clear hb4
  go_wp2_with fail
  refine (join_prog (X := []) (b := [0]) 2 _ ((Blk.new w3 5 _).rd (by simp) rfl (by omega) (by simp [maxLen]) rfl) (((hb2.pure hk2).pure hk3).pure ((Keep.refl _ _).alloc _)) (by omega)).mono ?_
  rintro e w4 ⟨B5, m5, d5, rfl, hk4, hb5⟩
  rw [show (join [0] [⟨false, 5, ByteArray.empty, 0, 0⟩] 2).isSome = false from by decide]
  clear hb5
  have h14 : Keep [] w1 w4 := ((hk2.trans hk3).alloc _).trans hk4
  have h24 : Keep [] w2 w4 := (hk3.alloc _).trans hk4
  replace hb1 := hb1.pure h14
  replace hb2 := hb2.pure h14
  replace hb3 := hb3.pure h24
  obtain rfl : m2 = 1 := by have := Cells.len hb2; simpa using this.symm
  obtain rfl : m3 = 2 := by have := Cells.len hb3; simpa using this.symm
  have hs1 := str_run hb1
  obtain ⟨b2, off2, rfl, _, _, hc0, hc1, hc2, hc3, hc4⟩ := Cells.at5 hb2 (k := 0) (by simp)
  obtain ⟨b3, off3, rfl, _, _, hd0, hd1, hd2, hd3, hd4⟩ := Cells.at5 hb3 (k := 0) (by simp)
  obtain ⟨b3', off3', he3, _, _, he0, he1, he2, he3', he4⟩ := Cells.at5 hb3 (k := 1) (by simp)
  injection he3 with he3
  injection he3 with h1 h2
  subst h1 h2
  have hall : Keep [] W w4 := (hk0.trans hk1).trans h14
  replace hc1 : w4.cell? ⟨b2, off2 + 1, none⟩ = some (.int .i64 5) := hc1
  replace hd0 : w4.cell? ⟨b3, off3, none⟩ = some (.bool true) := hd0
  replace he1 : w4.cell? ⟨b3, off3 + 5 + 1, none⟩ = some (.int .i64 5) := he1
  clear hk1 hk2 hk3 hk4 h14 h24 hc0 hc2 hc3 hc4 hd1 hd2 hd3 hd4 he0 he2 he3' he4 hb2 hb3 hk0
  go_wp2_with fail
  refine (count_prog (X := []) 2 _ hb1 (by omega)).mono ?_
  rintro e w5 ⟨rfl, hk5⟩
  rw [show countN [2] 2 = 1 from by decide]
  go_wp2_with fail
  refine (count_prog (X := []) 1 _ (hb1.pure hk5) (by omega)).mono ?_
  rintro e w6 ⟨rfl, hk6⟩
  rw [show countN [2] 1 = -1 from by decide]
  go_wp2
  go_ret
  exact ⟨rfl, (hall.trans hk5).trans hk6⟩
end Go.Proofs.Ytfhdiafgcfpdhaa
