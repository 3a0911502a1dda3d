/-
  Rows that are cut into spans: layout.Cut, and the document's.
-/
import Derived.Test.YtcpimhefclfbaaaGreatDoorSp
import Derived.Test.YtcpimhefclfbaaaGreatDoorLyP
namespace Go.Proofs.YtcpimhefclfbaaaGreatDoor
open Go Go.RowKit
set_option maxRecDepth 10000
set_option linter.unusedVariables false
set_option linter.unusedSimpArgs false

set_option maxHeartbeats 8000000 in
theorem cut_prog (a t s : Int) (W : World) (ha : -9223372036854775808 ≤ a ∧ a ≤ 9223372036854775807) (ht : -9223372036854775808 ≤ t ∧ t ≤ 9223372036854775807) (hs : -9223372036854775808 ≤ s ∧ s ≤ 9223372036854775807) :
    Calls Tryz.prog 10 #[.int .i64 a, .int .i64 t, .int .i64 s] W (SpansPost (cutL a t s) W) := by
  obtain ⟨i0, hi, hz0, hz1, hz2⟩ := info_parts Tryz.infoSp
  obtain ⟨v, hv⟩ : ∃ v, Hid (cutL a t s = v) := ⟨_, rfl⟩
  rw [hv.out]
  have vbad : (a < 0 ∨ 65536 < t ∨ s < 1) → Hid (v = []) := fun h => by rw [Hid, ← hv.out, cutL, if_pos h]
  replace vbad := Lib.hid vbad
  by_cases q1 : a < 0
  · have v1 := vbad.out (.inl q1)
    go_enter Tryz.func10, Tryz.ntmps10
    go_wp2
    go_ret
    exact SpansPost.nil v1.out (Keep.refl _ _)
  by_cases q2 : 65536 < t
  · have v1 := vbad.out (.inr (.inl q2))
    go_enter Tryz.func10, Tryz.ntmps10
    go_wp2
    go_ret
    exact SpansPost.nil v1.out (Keep.refl _ _)
  by_cases q3 : s < 1
  · have v1 := vbad.out (.inr (.inr q3))
    go_enter Tryz.func10, Tryz.ntmps10
    go_wp2
    go_ret
    exact SpansPost.nil v1.out (Keep.refl _ _)
  have hv2 : Hid (v = cutR a t s) := by rw [Hid, ← hv.out, cutL, if_neg (by omega)]
  clear hv vbad
  go_enter Tryz.func10, Tryz.ntmps10
  go_wp2
  go_loopw [7, 8] (fun o x w => ∃ (y : Int) (q : List (Int × Int)), x = .int .i64 y ∧ a ≤ y ∧ Hid ((q.length : Int) ≤ y - a ∧ (y ≤ t ∨ q = [])) ∧ w.ownsRow W.heap.size 38 2 o q.length (q.flatMap spC) ∧ Hid (v = q ++ cutR y t s) ∧ Keep [] W w) (fun _ x _ => (t - intOf x).toNat)
  case atStart => exact ⟨a, [], rfl, Int.le_refl _, by rw [Hid]; simp, World.ownsRow_nil _ _ _ _, hv2, Keep.refl _ _⟩
  case round =>
    obtain ⟨y, q, rfl, hay, hql, hO, HV, hk⟩ := hrel
    by_cases hlt : y < t
    · have HS := HV.out
      rw [cutR_step (by omega) hlt] at HS
      obtain ⟨A3, d3, rfl⟩ := own_form hO
      obtain ⟨m, hm⟩ : ∃ m, Hid (min s (t - y) = m) := ⟨_, rfl⟩
      rw [hm.out] at HS
      obtain ⟨Y, hY⟩ : ∃ Y, y + m = Y := ⟨_, rfl⟩
      rw [hY] at HS
      obtain ⟨D, hD⟩ : ∃ D, t - y = D := ⟨_, rfl⟩
      have hm' := hm.out
      have hY0 : y < Y ∧ Y ≤ t := by omega
      have hDw : IntKind.i64.wrap D = D := IntWalk.i64_in _ (by omega)
      have hYw : IntKind.i64.wrap Y = Y := IntWalk.i64_in _ (by omega)
      have hq65 : q.length < 65536 := by have := hql.out; omega
      replace HS := Lib.hid HS
      have hmi : (D < s ∧ m = D) ∨ (¬ D < s ∧ m = s) := by omega
      replace hY0 := Lib.hid hY0
      clear hm' hm HV
      have step : ∀ (w : World) (v' : Value) (w' : World), w = wr → True := fun _ _ _ _ => trivial
      clear step
      rcases hmi with ⟨h2, rfl⟩ | ⟨h2, rfl⟩
      · have hck : Rd [] (wr.alloc (.cells #[.int .i64 y, .int .i64 Y] 38)) 2 (some ⟨wr.heap.size, 0, none⟩) 1 1 (([(y, Y)] : List (Int × Int)).flatMap spC) := (Blk.new wr 38 [.int .i64 y, .int .i64 Y]).rd (by simp) rfl (by omega) (by simp [maxLen]) rfl
        have hsz := hk.size
        go_wp2_with (at_builtin; refine wpList_append_rd rfl _ _ 24 rfl W.heap.size 38 i0 (.agg #[.int .i64 0, .int .i64 0]) 2 16 Tryz.underlying24 hi hz0 hz1 hz2 rfl (by omega) (.slice A3 q.length d3) q.length _ rfl (hO.alloc _) rfl hck (by intro u hu; simp [spC] at hu; rcases hu with rfl | rfl <;> rfl) (by unfold maxLen; omega) (by omega) (by simp; omega) ?_)
        intro v' wf hown' hgr
        have hkf : Keep [] W wf := (hk.alloc _).grown hgr (fun x hx => .inr (own_ge hO x hx))
        clear hck hgr
        go_wp2
        go_roundw
        case rel => exact ⟨Y, q ++ [(y, Y)], rfl, by have := hY0.out; omega, by (have h1 := hql.out; have h2 := hY0.out; rw [Hid]; simp; omega), by rw [List.flatMap_append, List.length_append]; exact hown', by rw [Hid, HS.out]; simp, hkf⟩
        case measure => simp [intOf]; have := hY0.out; omega
      · have hck : Rd [] (wr.alloc (.cells #[.int .i64 y, .int .i64 Y] 38)) 2 (some ⟨wr.heap.size, 0, none⟩) 1 1 (([(y, Y)] : List (Int × Int)).flatMap spC) := (Blk.new wr 38 [.int .i64 y, .int .i64 Y]).rd (by simp) rfl (by omega) (by simp [maxLen]) rfl
        have hsz := hk.size
        go_wp2_with (at_builtin; refine wpList_append_rd rfl _ _ 24 rfl W.heap.size 38 i0 (.agg #[.int .i64 0, .int .i64 0]) 2 16 Tryz.underlying24 hi hz0 hz1 hz2 rfl (by omega) (.slice A3 q.length d3) q.length _ rfl (hO.alloc _) rfl hck (by intro u hu; simp [spC] at hu; rcases hu with rfl | rfl <;> rfl) (by unfold maxLen; omega) (by omega) (by simp; omega) ?_)
        intro v' wf hown' hgr
        have hkf : Keep [] W wf := (hk.alloc _).grown hgr (fun x hx => .inr (own_ge hO x hx))
        clear hck hgr
        go_wp2
        go_roundw
        case rel => exact ⟨Y, q ++ [(y, Y)], rfl, by have := hY0.out; omega, by (have h1 := hql.out; have h2 := hY0.out; rw [Hid]; simp; omega), by rw [List.flatMap_append, List.length_append]; exact hown', by rw [Hid, HS.out]; simp, hkf⟩
        case measure => simp [intOf]; have := hY0.out; omega
    · have HS : Hid (v = q) := by rw [Hid, HV.out, cutR_end hlt]; simp
      obtain ⟨A3, d3, rfl⟩ := own_form hO
      clear HV
      go_wp2
      go_ret
      exact ⟨_, _, _, rfl, hk, fun Y hY => by rw [HS.out]; exact rd_of_own hO hY⟩
end Go.Proofs.YtcpimhefclfbaaaGreatDoor
