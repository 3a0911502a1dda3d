/-
  The small case of layer 11's statements comes out right.
-/
import Derived.Test.YtejbfknhnhhlfaaFDx
import Derived.Test.YtejbfknhnhhlfaaFRc
import Derived.Test.YtejbfknhnhhlfaaFDl
namespace Go.Proofs.Ytejbfknhnhhlfaa
open Go Go.RowKit
set_option maxRecDepth 10000
set_option linter.unusedVariables false
set_option linter.unusedSimpArgs false

def dA : Cell := ⟨false, 0, ⟨#[97]⟩, 0, 0⟩
def dB : Cell := ⟨false, 0, ⟨#[98]⟩, 0, 0⟩
theorem d_ent : entL [dA, dB, dA] = ([dA, dB], [0, 1, 0]) := by decide +kernel
theorem d_entU : entU [dA, dB, dA] = [0, 1, 0] := by unfold entU; rw [d_ent]; rfl
theorem d_right : rightL 2 [dA, dB, dA] = true := by decide +kernel
theorem d_not : rightL 0 [dA, dB, dA] = false := by decide +kernel
theorem d_bytes : dictB 2 [dA, dB, dA] = [2, 4, 1, 97, 1, 98, 7, 1, 2] := by decide +kernel
theorem d_no {out : List Cell} {ok : Bool} (h : DictOk 2 [2, 4, 1, 97, 1, 98, 7, 1, 2] 2 out ok) : ok = false := by
  cases ok with
  | false => rfl
  | true =>
    obtain ⟨h1, h2, h3⟩ := h.1 rfl
    have e1 := dictHead_enc h2
    have e2 := dictHead_enc d_right
    rw [h3] at e1
    rw [d_bytes] at e2
    rw [e1] at e2
    injection e2 with e2
    injection e2 with e3 e4
    rw [d_entU] at e4
    have hn := noD_spec 100 [] (some [7, 1, 2]) (InvD.start 2 [7, 1, 2]) (by decide +kernel)
    have e5 : encR [0, 1, 0] = [7, 1, 2] := by decide +kernel
    rw [e5] at e4
    exact absurd e4 (hn (entU out) (by rw [entU_len]; omega) (by omega))

theorem cell_of_flat {w : World} {B : Option Addr} {m d : Nat} (h : Cells [] w B m d [dA, dB]) : m = 2 := by simpa using h.len.symm

set_option maxHeartbeats 4000000 in
theorem small11 (W : World) : Calls Try.prog 31 #[] W fun e W' => e = .returned (.bool true) ∧ Keep [] W W' := by
  have ht : Hid (∀ x ∈ [dA, dB, dA], x.text.size ≤ maxLen) := by
    intro x hx
    simp only [List.mem_cons, List.not_mem_nil, or_false] at hx
    rcases hx with rfl | rfl | rfl <;> simp [dA, dB, maxLen, ByteArray.size]
  go_enter Try.func31, Try.ntmps31
  go_wp2_with fail
  obtain ⟨W1, hW1⟩ : ∃ W1, W.alloc (.cells #[.bool false, .int .i64 0, .string { data := #[97] }, .int .i64 0, .int .i64 0, .bool false, .int .i64 0, .string { data := #[98] }, .int .i64 0, .int .i64 0, .bool false, .int .i64 0, .string { data := #[97] }, .int .i64 0, .int .i64 0] 29) = W1 := ⟨_, rfl⟩
  have hl : Cells [] W1 (some ⟨W.heap.size, 0, none⟩) 3 3 [dA, dB, dA] := by rw [← hW1]; exact (Blk.new W 29 _).rd (by simp) rfl (by omega) (by simp [maxLen]) rfl
  have hk0 : Keep [] W W1 := by rw [← hW1]; exact (Keep.refl _ _).alloc _
  rw [hW1]
  clear hW1
  have C1 := entries_prog W1 hl (by omega) ht.out
  rw [d_ent, d_entU] at C1
  replace C1 := Lib.hid C1
  go_wp2_with fail
  refine C1.out.mono ?_
  rintro e w1 ⟨B1, m1, d1, B2, d2, rfl, hk1, ho1, ho2⟩
  have hs1 : Cells [] w1 B1 m1 d1 [dA, dB] := rd_of_own ho1 (by simp)
  have hu1 : U64s [] w1 B2 3 d2 [0, 1, 0] := rd_of_own ho2 (by simp)
  obtain rfl := cell_of_flat hs1
  have C2 := dictEnc_prog 2 w1 (hl.pure hk1)
  rw [d_right, if_pos rfl, d_bytes] at C2
  replace C2 := Lib.hid C2
  clear ho1 ho2 C1
  go_wp2_with fail
  refine C2.out.mono ?_
  rintro e w2 ⟨B3, m3, d3, rfl, hk2, hn2⟩
  have hb2 : Bys [] w2 B3 m3 d3 [2, 4, 1, 97, 1, 98, 7, 1, 2] := hn2 [] (by simp)
  obtain rfl : m3 = 9 := by simpa using hb2.len1.symm
  have C3 := Lib.hid (decodeD_prog 2 3 w2 hb2 (by omega) (by omega))
  clear hn2 C2
  go_wp2_with fail
  refine C3.out.mono ?_
  rintro e w3 ⟨B4, m4, d4, o4, k4, rfl, hk3, hn3, hd3⟩
  obtain ⟨rfl, rfl⟩ := hd3.2.2 [dA, dB, dA] rfl d_right d_bytes
  have hx3 : Cells [] w3 B4 m4 d4 [dA, dB, dA] := hn3 [] (by simp)
  obtain rfl : m4 = 3 := by simpa using hx3.len.symm
  have C4 := Lib.hid (decodeD_prog 2 2 w3 (hb2.pure hk3) (by omega) (by omega))
  clear hn3 hd3 C3
  go_wp2_with fail
  refine C4.out.mono ?_
  rintro e w4 ⟨B5, m5, d5, o5, k5, rfl, hk4, hn4, hd4⟩
  obtain rfl := d_no hd4
  have C5 := dictEnc_prog 0 w4 (((hl.pure hk1).pure hk2).pure hk3 |>.pure hk4)
  rw [d_not] at C5
  replace C5 := Lib.hid C5
  clear hn4 hd4 C4
  go_wp2_with fail
  refine C5.out.mono ?_
  rintro e w5 ⟨B6, m6, d6, rfl, hk5, hn5⟩
  have hk25 : Keep [] w1 w5 := ((hk2.trans hk3).trans hk4).trans hk5
  have hkW : Keep [] W w5 := (hk0.trans hk1).trans hk25
  have hs5 := hs1.pure hk25
  have hu5 := hu1.pure hk25
  have hx5 := (hx3.pure hk4).pure hk5
  have hl5 := (hl.pure hk1).pure hk25
  obtain ⟨b, off, rfl, _, _, c0, c1, c2, c3, c4⟩ := Cells.at5 (k := 1) hs5 (by simp)
  simp [dB] at c2
  have hb5 := hb2.pure ((hk3.trans hk4).trans hk5)
  have hka : Keep [] w5 (w5.alloc (.cells #[.int .u64 0, .int .u64 1, .int .u64 0] 60)) := (Keep.refl _ _).alloc _
  have hsame := Lib.hid (same_ref (X := []) (Y := []) (m := 3) (d := 3) (l := [0, 1, 0]) (r := [0, 1, 0]) _ (hu5.pure hka) ((Blk.new w5 60 [.int .u64 0, .int .u64 1, .int .u64 0]).rd (by simp) rfl (by omega) (by simp [maxLen]) rfl))
  clear hn5 C5 hs1 hu1 hx3 hl hs5 c0 c1 c3 c4 hb2
  go_wp2_with fail
  refine hsame.out.mono ?_
  rintro e w6 ⟨rfl, hk6⟩
  simp only [decide_true]
  have hk56 := hka.trans hk6
  have hst := str_run (hb5.pure hk56)
  have hc := Lib.hid (cells_ref w6 (hx5.pure hk56) (hl5.pure hk56))
  clear hsame
  go_wp2_with fail
  refine hc.out.mono ?_
  rintro e w7 ⟨rfl, hk7⟩
  simp only [decide_true]
  go_wp2
  go_ret
  exact ⟨rfl, (hkW.trans hk56).trans hk7⟩
end Go.Proofs.Ytejbfknhnhhlfaa
