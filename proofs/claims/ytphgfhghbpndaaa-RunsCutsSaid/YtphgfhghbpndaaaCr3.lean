/-
  The walk of the reference's Put.
-/
import Derived.Test.YtphgfhghbpndaaaCr2
namespace Go.Proofs.Ytphgfhghbpndaaa
open Go Go.RowKit
set_option linter.unusedVariables false
set_option linter.unusedSimpArgs false

set_option maxHeartbeats 1000000 in
set_option maxRecDepth 10000 in
theorem put_ref {X : List Nat} {A : Option Addr} {m c : Nat} {l : List UInt8} (n : Nat) (W : World) (h : Bys X W A m c l) (hn : n < 2 ^ 64) (hroom : m ≤ 10000000000000) :
    Calls Try.prog 23 #[.slice A m c, .int .u64 (n : Int)] W fun e W' => ∃ B k d, e = .returned (.slice B k d) ∧ Keep [] W W' ∧ W'.ownsRow W.heap.size 5 1 (.slice B k d) k ((l ++ putB n).map vU8) := by
  have hc := h.cap
  have hnc := h.le
  obtain ⟨i0, hi, hz0, hz1, hz2⟩ := info_parts Try.infoU8
  obtain rfl := h.len1
  go_enter Try.func23, Try.ntmps23
  go_wp2_with (at_builtin; refine wpList_append_rd (o := ⟨some 8, _, _, _, _, _⟩) rfl _ _ 24 rfl W.heap.size 5 i0 (.int .u8 0) 1 1 Try.underlying24 hi hz0 hz1 hz2 rfl (by omega) _ 0 [] rfl (World.ownsRow_lit W #[] 0 (Nat.le_refl _) (by simp [maxLen]) (by simp)) rfl (h.pure ((Keep.refl [] W).alloc (.cells #[] 5))) (vU8_one l) (by unfold maxLen; omega) (by omega) (by simp) ?_)
  intro v' w2 hown2' hgr
  obtain ⟨B2, d2, rfl⟩ := own_form hown2'
  have hk12 : Keep [] W w2 := ((Keep.refl [] W).alloc (.cells #[] 5)).grown hgr (by simp [Value.ownBlock])
  have hown2 : w2.ownsRow W.heap.size 5 1 (.slice B2 l.length d2) l.length (l.map vU8) := by simpa using hown2'
  have hd2 : d2 ≤ 9223372036854775807 := (rd_of_own (X := []) hown2 (by simp)).cap
  clear hgr hown2'
  go_wp2
  go_loopw [5, 1] (fun s v wr => ∃ (z f : Nat) (q : List UInt8), v = .int .u64 (z : Int) ∧ z < 18446744073709551616 ∧ Hid (Laid n q f z) ∧ wr.ownsRow W.heap.size 5 1 s (l.length + q.length) ((l ++ q).map vU8) ∧ Keep [] W wr) (fun _ v _ => (intOf v).toNat)
  case atStart => exact ⟨n, 10, [], rfl, by omega, laid_start hn, by simpa using hown2, hk12⟩
  case round =>
    obtain ⟨z, f, q, rfl, hz, HL, hown, hkeep⟩ := hrel
    have hql := laid_len HL.out
    have hsz := hkeep.size
    obtain ⟨B3, d3, rfl⟩ := own_form hown
    by_cases hge : 128 ≤ z
    · obtain ⟨HL2, hf⟩ := laid_step HL.out hge
      obtain ⟨y, hy⟩ : ∃ y, z % 128 + 128 = y := ⟨_, rfl⟩
      rw [hy] at HL2
      have hor : (z : Int) % 128 + 128 = (y : Int) := by omega
      have hy2 : y < 256 := by omega
      have hyB : (UInt8.ofNat y).toNat = y := by rw [UInt8.toNat_ofNat']; omega
      have hdv : (z : Int) / 128 = ((z / 128 : Nat) : Int) := by omega
      have hlt2 : z / 128 < z := by omega
      have hz2' : z / 128 < 18446744073709551616 := by omega
      generalize hzz : z / 128 = z' at *
      replace HL2 := Lib.hid HL2
      have hyB' := Lib.hid hyB
      clear hy hyB hzz
      have hbk : Bys [] (wr.alloc (.cells #[.int .u8 (y : Int)] 5)) (some ⟨wr.heap.size, 0, none⟩) 1 1 [UInt8.ofNat y] := by
        refine (Blk.new wr 5 [.int .u8 (y : Int)]).rd (by simp) rfl (by omega) (by simp [maxLen]) ?_
        simp [vU8, hyB'.out]
      go_wp2_with (at_builtin; refine wpList_append_rd rfl _ _ 24 rfl W.heap.size 5 i0 (.int .u8 0) 1 1 Try.underlying24 hi hz0 hz1 hz2 rfl (by omega) (.slice B3 (l.length + q.length) d3) (l.length + q.length) _ rfl (hown.alloc _) rfl hbk (vU8_one [UInt8.ofNat y]) (by unfold maxLen; omega) (by omega) (by simp; omega) ?_)
      intro v' w3 hown' hgr
      have hk3 : Keep [] W w3 := (hkeep.alloc (.cells #[.int .u8 (y : Int)] 5)).grown hgr (fun g hg => .inr (own_ge hown g hg))
      clear hgr hown hbk
      go_wp2
      go_roundw
      case rel =>
        refine ⟨z', f - 1, q ++ [UInt8.ofNat y], by go_num, hz2', HL2, ?_, hk3⟩
        simpa [Nat.add_assoc] using hown'
      case measure => simp [intOf]; omega
    · have HE := Lib.hid (laid_end HL.out (by omega))
      have hmz : (z : Int) % 256 = (z : Int) := by omega
      have hyB' : Hid ((UInt8.ofNat z).toNat = z) := by unfold Hid; rw [UInt8.toNat_ofNat']; omega
      have hbk : Bys [] (wr.alloc (.cells #[.int .u8 (z : Int)] 5)) (some ⟨wr.heap.size, 0, none⟩) 1 1 [UInt8.ofNat z] := by
        refine (Blk.new wr 5 [.int .u8 (z : Int)]).rd (by simp) rfl (by omega) (by simp [maxLen]) ?_
        simp [vU8, hyB'.out]
      go_wp2_with (at_builtin; refine wpList_append_rd rfl _ _ 24 rfl W.heap.size 5 i0 (.int .u8 0) 1 1 Try.underlying24 hi hz0 hz1 hz2 rfl (by omega) (.slice B3 (l.length + q.length) d3) (l.length + q.length) _ rfl (hown.alloc _) rfl hbk (vU8_one [UInt8.ofNat z]) (by unfold maxLen; omega) (by omega) (by simp; omega) ?_)
      intro v' w3 hown' hgr
      have hk3 : Keep [] W w3 := (hkeep.alloc (.cells #[.int .u8 (z : Int)] 5)).grown hgr (fun g hg => .inr (own_ge hown g hg))
      clear hgr hown hbk
      obtain ⟨B4, d4, rfl⟩ := own_form hown'
      go_wp2
      go_ret
      refine ⟨B4, _, d4, rfl, hk3, ?_⟩
      rw [HE.out]
      simpa using hown'
end Go.Proofs.Ytphgfhghbpndaaa
