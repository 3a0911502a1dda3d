/-
  The walks of layer 15's functions: a stat's bytes.
  The walks of the reference's layer 15: a stat's bytes.
-/
import Derived.Test.YtcpimhefclfbaaaFSta
namespace Go.Proofs.Ytcpimhefclfbaaa
open Go Go.RowKit
set_option maxRecDepth 10000
set_option linter.unusedVariables false
set_option linter.unusedSimpArgs false

/-- A stat's bytes. -/
def putS (typ : Int) (s : St) : List UInt8 :=
  if rightS typ s = true then putB (uN s.nulls.toInt) ++ (if s.has = true then [1] ++ putB (encB typ [s.min, s.max]).length ++ encB typ [s.min, s.max] else [0]) else []
theorem encB2_len (typ : Int) (a b : Cell) : (encB typ [a, b]).length ≤ 140000 := by
  unfold encB
  split
  · rename_i h
    obtain ⟨_, _, hc⟩ := rightL_mem h
    split
    · rw [packB]
      split
      · rw [toBytes_length]; simp [sizeOf']
      · simp
    · have := cellsB_len typ [a, b] (fun c hcm => rightC_text (hc c hcm))
      simp at this ⊢
      omega
  · simp

set_option maxHeartbeats 2000000 in
theorem statPut_prog {X : List Nat} {A : Option Addr} {m c : Nat} {l : List UInt8} (typ : Int) (s : St) (W : World) (h : Bys X W A m c l) (hroom : m ≤ 1000000000000) :
    Calls Try.prog 25 #[.slice A m c, .int .i64 typ, stVal s] W fun e W' => ∃ B k d, e = .returned (.slice B k d) ∧ Keep [] W W' ∧ W'.ownsRow W.heap.size 5 1 (.slice B k d) k ((l ++ putS typ s).map vU8) := by
  obtain ⟨v, hv⟩ : ∃ v, Hid (putS typ s = v) := ⟨_, rfl⟩
  rw [hv.out]
  obtain ⟨i0, hi, hz0, hz1, hz2⟩ := info_parts Try.infoU8
  have hlen := h.len1
  have hk0 : Keep [] W (W.alloc (.cells #[.int .i64 s.nulls.toInt, .bool s.has, .bool s.min.null, .int .i64 s.min.int.toInt, .string s.min.text, .int .i64 s.min.x.toInt, .int .i64 s.min.y.toInt, .bool s.max.null, .int .i64 s.max.int.toInt, .string s.max.text, .int .i64 s.max.x.toInt, .int .i64 s.max.y.toInt] 52)) := (Keep.refl _ _).alloc _
  have hb0 : Blk (W.alloc (.cells #[.int .i64 s.nulls.toInt, .bool s.has, .bool s.min.null, .int .i64 s.min.int.toInt, .string s.min.text, .int .i64 s.min.x.toInt, .int .i64 s.min.y.toInt, .bool s.max.null, .int .i64 s.max.int.toInt, .string s.max.text, .int .i64 s.max.x.toInt, .int .i64 s.max.y.toInt] 52)) W.heap.size 52 s.cs := Blk.new W 52 _
  have R := rightS_prog typ s (W.alloc (.cells #[.int .i64 s.nulls.toInt, .bool s.has, .bool s.min.null, .int .i64 s.min.int.toInt, .string s.min.text, .int .i64 s.min.x.toInt, .int .i64 s.min.y.toInt, .bool s.max.null, .int .i64 s.max.int.toInt, .string s.max.text, .int .i64 s.max.x.toInt, .int .i64 s.max.y.toInt] 52))
  cases hR : rightS typ s with
  | false =>
    rw [hR] at R
    have v1 : Hid (v = []) := by rw [Hid, ← hv.out, putS, if_neg (by simp [hR])]
    replace R := Lib.hid R
    clear hR hv
    go_enter Try.func25, Try.ntmps25
    go_wp2_with fail
    refine R.out.mono ?_
    rintro e w3 ⟨rfl, hk3⟩
    go_wp2_with fail
    refine (clone_bytes w3 ((h.pure hk0).pure hk3) (by omega)).mono ?_
    rintro e w4 ⟨B1, d1, rfl, hk4, hown4⟩
    go_wp2
    go_ret
    refine ⟨_, _, _, rfl, (hk0.trans hk3).trans hk4, ?_⟩
    rw [v1.out, List.append_nil]
    exact own_lower hown4 (hk0.trans hk3).size
  | true =>
    rw [hR] at R
    have hl1 := putB_len (uN s.nulls.toInt)
    cases hh : s.has with
    | false =>
      have v1 : Hid (v = putB (uN s.nulls.toInt) ++ [0]) := by rw [Hid, ← hv.out, putS, if_pos hR, if_neg (by simp [hh])]
      clear hR hv
      have hsv : stVal s = .agg #[.int .i64 s.nulls.toInt, .bool false, .bool s.min.null, .int .i64 s.min.int.toInt, .string s.min.text, .int .i64 s.min.x.toInt, .int .i64 s.min.y.toInt, .bool s.max.null, .int .i64 s.max.int.toInt, .string s.max.text, .int .i64 s.max.x.toInt, .int .i64 s.max.y.toInt] := by rw [stVal, hh]
      rw [hh] at hk0 hb0 R
      rw [hsv] at R
      clear hsv
      replace R := Lib.hid R
      go_enter Try.func25, Try.ntmps25
      go_wp2_with fail
      refine R.out.mono ?_
      rintro e w3 ⟨rfl, hk3⟩
      have hk03 := hk0.trans hk3
      have hb3 := hb0.keep hk3 (by simp)
      obtain ⟨a0, a1, a2, a3, a4, a5, a6, a7, a8, a9, a10, a11⟩ := stAt hb3
      have P := put_prog (uN s.nulls.toInt) w3 (h.pure hk03) (uN_lt _) (by omega)
      rw [← wrap_uN] at P
      replace P := Lib.hid P
      go_wp2_with fail
      refine P.out.mono ?_
      rintro e w4 ⟨B1, k1, d1, rfl, hk4, hown4⟩
      have hk1 := (rd_of_own (X := []) hown4 (by simp) : Bys [] w4 B1 k1 d1 _).len1
      rw [List.length_append] at hk1
      have hk04 := hk03.trans hk4
      have ho4 := own_lower hown4 hk03.size
      obtain ⟨a0, a1, a2, a3, a4, a5, a6, a7, a8, a9, a10, a11⟩ := stAt (hb3.keep hk4 (by simp))
      replace hk1 := Lib.hid hk1
      replace hl1 := Lib.hid hl1
      replace hlen := Lib.hid hlen
      have hk1' : k1 ≤ 1000000000010 := by have e1 := hk1.out; have e2 := hl1.out; have e3 := hlen.out; omega
      have hck : Bys [] (w4.alloc (.cells #[.int .u8 0] 5)) (some ⟨w4.heap.size, 0, none⟩) 1 1 [0] := (Blk.new w4 5 [.int .u8 0]).rd (by simp) rfl (by omega) (by simp [maxLen]) rfl
      have hsz4 := hk04.size
      clear hown4
      go_wp2_with (at_builtin; refine wpList_append_rd rfl _ _ 28 rfl W.heap.size 5 i0 (.int .u8 0) 1 1 Try.underlying28 hi hz0 hz1 hz2 rfl (by omega) (.slice B1 k1 d1) k1 _ rfl (ho4.alloc _) rfl hck (vU8_one [0]) (by unfold maxLen; omega) (by omega) (by simp; omega) ?_)
      intro v' w5 hown5 hgr
      have hk5 := (hk04.alloc (.cells #[.int .u8 0] 5)).grown hgr (fun g hg => .inr (own_ge ho4 g hg))
      obtain ⟨B5, d5, rfl⟩ := own_form hown5
      go_wp2
      go_ret
      refine ⟨_, _, _, rfl, hk5, ?_⟩
      rw [v1.out, ← List.append_assoc, List.map_append]
      simpa using hown5
    | true =>
      have v1 : Hid (v = putB (uN s.nulls.toInt) ++ ([1] ++ putB (encB typ [s.min, s.max]).length ++ encB typ [s.min, s.max])) := by rw [Hid, ← hv.out, putS, if_pos hR, if_pos hh]
      have hel := encB2_len typ s.min s.max
      have hel2 := putB_len (encB typ [s.min, s.max]).length
      clear hR hv
      have hsv : stVal s = .agg #[.int .i64 s.nulls.toInt, .bool true, .bool s.min.null, .int .i64 s.min.int.toInt, .string s.min.text, .int .i64 s.min.x.toInt, .int .i64 s.min.y.toInt, .bool s.max.null, .int .i64 s.max.int.toInt, .string s.max.text, .int .i64 s.max.x.toInt, .int .i64 s.max.y.toInt] := by rw [stVal, hh]
      rw [hh] at hk0 hb0 R
      rw [hsv] at R
      clear hsv
      replace R := Lib.hid R
      go_enter Try.func25, Try.ntmps25
      go_wp2_with fail
      refine R.out.mono ?_
      rintro e w3 ⟨rfl, hk3⟩
      have hk03 := hk0.trans hk3
      have hb3 := hb0.keep hk3 (by simp)
      obtain ⟨a0, a1, a2, a3, a4, a5, a6, a7, a8, a9, a10, a11⟩ := stAt hb3
      have P := put_prog (uN s.nulls.toInt) w3 (h.pure hk03) (uN_lt _) (by omega)
      rw [← wrap_uN] at P
      replace P := Lib.hid P
      go_wp2_with fail
      refine P.out.mono ?_
      rintro e w4 ⟨B1, k1, d1, rfl, hk4, hown4⟩
      have hk1 := (rd_of_own (X := []) hown4 (by simp) : Bys [] w4 B1 k1 d1 _).len1
      rw [List.length_append] at hk1
      have hk04 := hk03.trans hk4
      have ho4 := own_lower hown4 hk03.size
      have hk1' : k1 ≤ 1000000000010 := by omega
      obtain ⟨a0, a1, a2, a3, a4, a5, a6, a7, a8, a9, a10, a11⟩ := stAt (hb3.keep hk4 (by simp))
      have hcc : Cells [] (w4.alloc (.cells #[.bool s.min.null, .int .i64 s.min.int.toInt, .string s.min.text, .int .i64 s.min.x.toInt, .int .i64 s.min.y.toInt, .bool s.max.null, .int .i64 s.max.int.toInt, .string s.max.text, .int .i64 s.max.x.toInt, .int .i64 s.max.y.toInt] 50)) (some ⟨w4.heap.size, 0, none⟩) 2 2 [s.min, s.max] := (Blk.new w4 50 [.bool s.min.null, .int .i64 s.min.int.toInt, .string s.min.text, .int .i64 s.min.x.toInt, .int .i64 s.min.y.toInt, .bool s.max.null, .int .i64 s.max.int.toInt, .string s.max.text, .int .i64 s.max.x.toInt, .int .i64 s.max.y.toInt]).rd (by simp) (by simp [Cell.cs]) (by omega) (by simp [maxLen]) (by simp [Cell.cs, vI])
      have En := Lib.hid (encode_prog typ _ hcc)
      have hka := (Keep.refl [] w4).alloc (.cells #[.bool s.min.null, .int .i64 s.min.int.toInt, .string s.min.text, .int .i64 s.min.x.toInt, .int .i64 s.min.y.toInt, .bool s.max.null, .int .i64 s.max.int.toInt, .string s.max.text, .int .i64 s.max.x.toInt, .int .i64 s.max.y.toInt] 50)
      replace hk1 := Lib.hid hk1
      replace hl1 := Lib.hid hl1
      replace hlen := Lib.hid hlen
      replace hel := Lib.hid hel
      replace hel2 := Lib.hid hel2
      clear hown4 hcc
      go_wp2_with fail
      refine En.out.mono ?_
      rintro e w5 ⟨Bx, mx, dx, rfl, hk5, hnew⟩
      generalize encB typ [s.min, s.max] = x at *
      have hk45 := hka.trans hk5
      have ho5 := own_keep ho4 hk45 (by simp)
      have hrx : Bys (Value.slice B1 k1 d1).ownBlock.toList w5 Bx mx dx x := hnew _ (fun b hb => by
        have hb' : (Value.slice B1 k1 d1).ownBlock = some b := by simpa using hb
        have := (World.ownsRow.lt ho4 b hb').2
        simp; omega)
      clear hnew
      have hmx := hrx.len1
      obtain rfl := hmx
      have hwx : IntKind.u64.wrap (x.length : Int) = x.length := IntWalk.u64_in _ (by have := hel.out; omega)
      have hk05 := hk04.trans hk45
      have hsz5 := hk05.size
      have hck : Bys [] (w5.alloc (.cells #[.int .u8 1] 5)) (some ⟨w5.heap.size, 0, none⟩) 1 1 [1] := (Blk.new w5 5 [.int .u8 1]).rd (by simp) rfl (by omega) (by simp [maxLen]) rfl
      clear ho4
      go_wp2_with (at_builtin; refine wpList_append_rd rfl _ _ 28 rfl W.heap.size 5 i0 (.int .u8 0) 1 1 Try.underlying28 hi hz0 hz1 hz2 rfl (by omega) (.slice B1 k1 d1) k1 _ rfl (ho5.alloc _) rfl hck (vU8_one [1]) (by unfold maxLen; omega) (by omega) (by simp; omega) ?_)
      intro v' w6 hown6 hgr
      have hk6 := (hk05.alloc (.cells #[.int .u8 1] 5)).grown hgr (fun g hg => .inr (own_ge ho5 g hg))
      have hrx6 : Bys (Value.slice B1 k1 d1).ownBlock.toList w6 Bx x.length dx x := (hrx.pure ((Keep.refl _ _).alloc _)).keep (keep_of_grown hgr) (fun b hb => .inl hb)
      obtain ⟨B6, d6, rfl⟩ := own_form hown6
      have hr6 : Bys [] w6 B6 (k1 + 1) d6 (l ++ putB (uN s.nulls.toInt) ++ [1]) := by
        have := rd_of_own (X := []) hown6 (by simp)
        simpa [Bys, List.append_assoc] using this
      have P2 := Lib.hid (put_prog x.length w6 hr6 (by have := hel.out; omega) (by omega))
      clear hown6 hgr hck hrx ho5
      go_wp2_with fail
      refine P2.out.mono ?_
      rintro e w7 ⟨B7, k7, d7, rfl, hk7, hown7⟩
      have hk07 := hk6.trans hk7
      have ho7 := own_lower hown7 hk6.size
      have hk7l := (rd_of_own (X := []) hown7 (by simp) : Bys [] w7 B7 k7 d7 _).len1
      rw [List.length_append, List.length_append, List.length_append] at hk7l
      have hk7' : k7 ≤ 1000000000100 := by have e1 := hk1.out; have e2 := hl1.out; have e3 := hlen.out; have e4 := hel2.out; simp only [List.length_singleton] at hk7l; omega
      have hrx7 := hrx6.pure hk7
      have hxl := hel.out
      clear hown7
      go_wp2_with (at_builtin; refine wpList_append_rd rfl _ _ 28 rfl W.heap.size 5 i0 (.int .u8 0) 1 1 Try.underlying28 hi hz0 hz1 hz2 rfl (by omega) (.slice B7 k7 d7) k7 _ rfl ho7 rfl hrx7 (vU8_one x) (by unfold maxLen; omega) (by omega) hk07.size ?_)
      intro v' w8 hown8 hgr8
      have hk8 := hk07.grown hgr8 (fun g hg => .inr (own_ge ho7 g hg))
      obtain ⟨B8, d8, rfl⟩ := own_form hown8
      go_wp2
      go_ret
      refine ⟨_, _, _, rfl, hk8, ?_⟩
      rw [v1.out]
      simpa [List.append_assoc] using hown8
end Go.Proofs.Ytcpimhefclfbaaa

namespace Go.Proofs.Ytcpimhefclfbaaa
open Go Go.RowKit
set_option maxRecDepth 10000
set_option linter.unusedVariables false
set_option linter.unusedSimpArgs false

set_option maxHeartbeats 2000000 in
theorem statPut_ref {X : List Nat} {A : Option Addr} {m c : Nat} {l : List UInt8} (typ : Int) (s : St) (W : World) (h : Bys X W A m c l) (hroom : m ≤ 1000000000000) :
    Calls Try.prog 28 #[.slice A m c, .int .i64 typ, stVal s] W fun e W' => ∃ B k d, e = .returned (.slice B k d) ∧ Keep [] W W' ∧ W'.ownsRow W.heap.size 5 1 (.slice B k d) k ((l ++ putS typ s).map vU8) := by
  obtain ⟨v, hv⟩ : ∃ v, Hid (putS typ s = v) := ⟨_, rfl⟩
  rw [hv.out]
  obtain ⟨i0, hi, hz0, hz1, hz2⟩ := info_parts Try.infoU8
  have hlen := h.len1
  cases hR : rightS typ s with
  | false =>
    have v1 : Hid (v = []) := by rw [Hid, ← hv.out, putS, if_neg (by simp [hR])]
    cases hh : s.has with
    | false =>
      have hk0 : Keep [] W (W.alloc (.cells #[.int .i64 s.nulls.toInt, .bool false, .bool s.min.null, .int .i64 s.min.int.toInt, .string s.min.text, .int .i64 s.min.x.toInt, .int .i64 s.min.y.toInt, .bool s.max.null, .int .i64 s.max.int.toInt, .string s.max.text, .int .i64 s.max.x.toInt, .int .i64 s.max.y.toInt] 52)) := (Keep.refl _ _).alloc _
      have hb0 : Blk (W.alloc (.cells #[.int .i64 s.nulls.toInt, .bool false, .bool s.min.null, .int .i64 s.min.int.toInt, .string s.min.text, .int .i64 s.min.x.toInt, .int .i64 s.min.y.toInt, .bool s.max.null, .int .i64 s.max.int.toInt, .string s.max.text, .int .i64 s.max.x.toInt, .int .i64 s.max.y.toInt] 52)) W.heap.size 52 s.cs := by
        simp only [St.cs, hh]
        exact Blk.new W 52 _
      have hsv : stVal s = .agg #[.int .i64 s.nulls.toInt, .bool false, .bool s.min.null, .int .i64 s.min.int.toInt, .string s.min.text, .int .i64 s.min.x.toInt, .int .i64 s.min.y.toInt, .bool s.max.null, .int .i64 s.max.int.toInt, .string s.max.text, .int .i64 s.max.x.toInt, .int .i64 s.max.y.toInt] := by rw [stVal, hh]
      have hR1 : ∀ w, Calls Try.prog 49 #[.int .i64 typ, .agg #[.int .i64 s.nulls.toInt, .bool false, .bool s.min.null, .int .i64 s.min.int.toInt, .string s.min.text, .int .i64 s.min.x.toInt, .int .i64 s.min.y.toInt, .bool s.max.null, .int .i64 s.max.int.toInt, .string s.max.text, .int .i64 s.max.x.toInt, .int .i64 s.max.y.toInt]] w fun e W' => e = .returned (.bool false) ∧ Keep [] w W' := fun w => by
        have := rightS_ref typ s w
        rw [hR, hsv] at this
        exact this
      clear hsv hR hv
      replace hR1 := Lib.hid hR1
      go_enter Try.func28, Try.ntmps28
      have hown0 : ((W.alloc (.cells #[.int .i64 s.nulls.toInt, .bool false, .bool s.min.null, .int .i64 s.min.int.toInt, .string s.min.text, .int .i64 s.min.x.toInt, .int .i64 s.min.y.toInt, .bool s.max.null, .int .i64 s.max.int.toInt, .string s.max.text, .int .i64 s.max.x.toInt, .int .i64 s.max.y.toInt] 52)).alloc (.cells #[] 5)).ownsRow W.heap.size 5 1 (.slice (some ⟨W.heap.size + 1, 0, none⟩) 0 0) 0 [] := by
        have := World.ownsRow_lit (W.alloc (.cells #[.int .i64 s.nulls.toInt, .bool false, .bool s.min.null, .int .i64 s.min.int.toInt, .string s.min.text, .int .i64 s.min.x.toInt, .int .i64 s.min.y.toInt, .bool s.max.null, .int .i64 s.max.int.toInt, .string s.max.text, .int .i64 s.max.x.toInt, .int .i64 s.max.y.toInt] 52)) (base := W.heap.size) (e := 5) (size := 1) #[] 0 hk0.size (by simp [maxLen]) (by simp)
        rw [World.size_alloc] at this
        exact this
      go_wp2_with (at_builtin; refine wpList_append_rd (o := ⟨some 13, _, _, _, _, _⟩) rfl _ _ 28 rfl W.heap.size 5 i0 (.int .u8 0) 1 1 Try.underlying28 hi hz0 hz1 hz2 rfl (by omega) _ 0 [] rfl hown0 rfl ((h.pure hk0).pure ((Keep.refl [] _).alloc (.cells #[] 5))) (vU8_one l) (by unfold maxLen; omega) (by omega) ((hk0.alloc (.cells #[] 5)).size) ?_)
      intro v' w2 hown2' hgr
      obtain ⟨B2, d2, rfl⟩ := own_form hown2'
      have hk02 : Keep [] W w2 := (hk0.alloc (.cells #[] 5)).grown hgr (by simp [Value.ownBlock])
      have hkb : Keep [] (W.alloc (.cells #[.int .i64 s.nulls.toInt, .bool false, .bool s.min.null, .int .i64 s.min.int.toInt, .string s.min.text, .int .i64 s.min.x.toInt, .int .i64 s.min.y.toInt, .bool s.max.null, .int .i64 s.max.int.toInt, .string s.max.text, .int .i64 s.max.x.toInt, .int .i64 s.max.y.toInt] 52)) w2 := ((Keep.refl [] (W.alloc (.cells #[.int .i64 s.nulls.toInt, .bool false, .bool s.min.null, .int .i64 s.min.int.toInt, .string s.min.text, .int .i64 s.min.x.toInt, .int .i64 s.min.y.toInt, .bool s.max.null, .int .i64 s.max.int.toInt, .string s.max.text, .int .i64 s.max.x.toInt, .int .i64 s.max.y.toInt] 52))).alloc (.cells #[] 5)).grown hgr (by simp [Value.ownBlock])
      have hb2 := hb0.keep hkb (by simp)
      have hown2 : w2.ownsRow W.heap.size 5 1 (.slice B2 m d2) m (l.map vU8) := by simpa [hlen] using hown2'
      clear hgr hown2' hkb hb0
      obtain ⟨a0, a1, a2, a3, a4, a5, a6, a7, a8, a9, a10, a11⟩ := stAt hb2
      go_wp2_with fail
      refine (hR1.out _).mono ?_
      rintro e w3 ⟨rfl, hk3⟩
      have hk03 := hk02.trans hk3
      have hb3 := hb2.keep hk3 (by simp)
      have ho3 := own_keep hown2 hk3 (by simp)
      have hr3 : Bys [] w3 B2 m d2 l := rd_of_own ho3 (by simp)
      go_wp2
      go_ret
      refine ⟨_, _, _, rfl, hk03, ?_⟩
      rw [v1.out, List.append_nil]
      exact ho3
    | true =>
      have hk0 : Keep [] W (W.alloc (.cells #[.int .i64 s.nulls.toInt, .bool true, .bool s.min.null, .int .i64 s.min.int.toInt, .string s.min.text, .int .i64 s.min.x.toInt, .int .i64 s.min.y.toInt, .bool s.max.null, .int .i64 s.max.int.toInt, .string s.max.text, .int .i64 s.max.x.toInt, .int .i64 s.max.y.toInt] 52)) := (Keep.refl _ _).alloc _
      have hb0 : Blk (W.alloc (.cells #[.int .i64 s.nulls.toInt, .bool true, .bool s.min.null, .int .i64 s.min.int.toInt, .string s.min.text, .int .i64 s.min.x.toInt, .int .i64 s.min.y.toInt, .bool s.max.null, .int .i64 s.max.int.toInt, .string s.max.text, .int .i64 s.max.x.toInt, .int .i64 s.max.y.toInt] 52)) W.heap.size 52 s.cs := by
        simp only [St.cs, hh]
        exact Blk.new W 52 _
      have hsv : stVal s = .agg #[.int .i64 s.nulls.toInt, .bool true, .bool s.min.null, .int .i64 s.min.int.toInt, .string s.min.text, .int .i64 s.min.x.toInt, .int .i64 s.min.y.toInt, .bool s.max.null, .int .i64 s.max.int.toInt, .string s.max.text, .int .i64 s.max.x.toInt, .int .i64 s.max.y.toInt] := by rw [stVal, hh]
      have hR1 : ∀ w, Calls Try.prog 49 #[.int .i64 typ, .agg #[.int .i64 s.nulls.toInt, .bool true, .bool s.min.null, .int .i64 s.min.int.toInt, .string s.min.text, .int .i64 s.min.x.toInt, .int .i64 s.min.y.toInt, .bool s.max.null, .int .i64 s.max.int.toInt, .string s.max.text, .int .i64 s.max.x.toInt, .int .i64 s.max.y.toInt]] w fun e W' => e = .returned (.bool false) ∧ Keep [] w W' := fun w => by
        have := rightS_ref typ s w
        rw [hR, hsv] at this
        exact this
      clear hsv hR hv
      replace hR1 := Lib.hid hR1
      go_enter Try.func28, Try.ntmps28
      have hown0 : ((W.alloc (.cells #[.int .i64 s.nulls.toInt, .bool true, .bool s.min.null, .int .i64 s.min.int.toInt, .string s.min.text, .int .i64 s.min.x.toInt, .int .i64 s.min.y.toInt, .bool s.max.null, .int .i64 s.max.int.toInt, .string s.max.text, .int .i64 s.max.x.toInt, .int .i64 s.max.y.toInt] 52)).alloc (.cells #[] 5)).ownsRow W.heap.size 5 1 (.slice (some ⟨W.heap.size + 1, 0, none⟩) 0 0) 0 [] := by
        have := World.ownsRow_lit (W.alloc (.cells #[.int .i64 s.nulls.toInt, .bool true, .bool s.min.null, .int .i64 s.min.int.toInt, .string s.min.text, .int .i64 s.min.x.toInt, .int .i64 s.min.y.toInt, .bool s.max.null, .int .i64 s.max.int.toInt, .string s.max.text, .int .i64 s.max.x.toInt, .int .i64 s.max.y.toInt] 52)) (base := W.heap.size) (e := 5) (size := 1) #[] 0 hk0.size (by simp [maxLen]) (by simp)
        rw [World.size_alloc] at this
        exact this
      go_wp2_with (at_builtin; refine wpList_append_rd (o := ⟨some 13, _, _, _, _, _⟩) rfl _ _ 28 rfl W.heap.size 5 i0 (.int .u8 0) 1 1 Try.underlying28 hi hz0 hz1 hz2 rfl (by omega) _ 0 [] rfl hown0 rfl ((h.pure hk0).pure ((Keep.refl [] _).alloc (.cells #[] 5))) (vU8_one l) (by unfold maxLen; omega) (by omega) ((hk0.alloc (.cells #[] 5)).size) ?_)
      intro v' w2 hown2' hgr
      obtain ⟨B2, d2, rfl⟩ := own_form hown2'
      have hk02 : Keep [] W w2 := (hk0.alloc (.cells #[] 5)).grown hgr (by simp [Value.ownBlock])
      have hkb : Keep [] (W.alloc (.cells #[.int .i64 s.nulls.toInt, .bool true, .bool s.min.null, .int .i64 s.min.int.toInt, .string s.min.text, .int .i64 s.min.x.toInt, .int .i64 s.min.y.toInt, .bool s.max.null, .int .i64 s.max.int.toInt, .string s.max.text, .int .i64 s.max.x.toInt, .int .i64 s.max.y.toInt] 52)) w2 := ((Keep.refl [] (W.alloc (.cells #[.int .i64 s.nulls.toInt, .bool true, .bool s.min.null, .int .i64 s.min.int.toInt, .string s.min.text, .int .i64 s.min.x.toInt, .int .i64 s.min.y.toInt, .bool s.max.null, .int .i64 s.max.int.toInt, .string s.max.text, .int .i64 s.max.x.toInt, .int .i64 s.max.y.toInt] 52))).alloc (.cells #[] 5)).grown hgr (by simp [Value.ownBlock])
      have hb2 := hb0.keep hkb (by simp)
      have hown2 : w2.ownsRow W.heap.size 5 1 (.slice B2 m d2) m (l.map vU8) := by simpa [hlen] using hown2'
      clear hgr hown2' hkb hb0
      obtain ⟨a0, a1, a2, a3, a4, a5, a6, a7, a8, a9, a10, a11⟩ := stAt hb2
      go_wp2_with fail
      refine (hR1.out _).mono ?_
      rintro e w3 ⟨rfl, hk3⟩
      have hk03 := hk02.trans hk3
      have hb3 := hb2.keep hk3 (by simp)
      have ho3 := own_keep hown2 hk3 (by simp)
      have hr3 : Bys [] w3 B2 m d2 l := rd_of_own ho3 (by simp)
      go_wp2
      go_ret
      refine ⟨_, _, _, rfl, hk03, ?_⟩
      rw [v1.out, List.append_nil]
      exact ho3
  | true =>
    have hl1 := putB_len (uN s.nulls.toInt)
    cases hh : s.has with
    | false =>
      have v1 : Hid (v = putB (uN s.nulls.toInt) ++ [0]) := by rw [Hid, ← hv.out, putS, if_pos hR, if_neg (by simp [hh])]
      have hk0 : Keep [] W (W.alloc (.cells #[.int .i64 s.nulls.toInt, .bool false, .bool s.min.null, .int .i64 s.min.int.toInt, .string s.min.text, .int .i64 s.min.x.toInt, .int .i64 s.min.y.toInt, .bool s.max.null, .int .i64 s.max.int.toInt, .string s.max.text, .int .i64 s.max.x.toInt, .int .i64 s.max.y.toInt] 52)) := (Keep.refl _ _).alloc _
      have hb0 : Blk (W.alloc (.cells #[.int .i64 s.nulls.toInt, .bool false, .bool s.min.null, .int .i64 s.min.int.toInt, .string s.min.text, .int .i64 s.min.x.toInt, .int .i64 s.min.y.toInt, .bool s.max.null, .int .i64 s.max.int.toInt, .string s.max.text, .int .i64 s.max.x.toInt, .int .i64 s.max.y.toInt] 52)) W.heap.size 52 s.cs := by
        simp only [St.cs, hh]
        exact Blk.new W 52 _
      have hsv : stVal s = .agg #[.int .i64 s.nulls.toInt, .bool false, .bool s.min.null, .int .i64 s.min.int.toInt, .string s.min.text, .int .i64 s.min.x.toInt, .int .i64 s.min.y.toInt, .bool s.max.null, .int .i64 s.max.int.toInt, .string s.max.text, .int .i64 s.max.x.toInt, .int .i64 s.max.y.toInt] := by rw [stVal, hh]
      have hR1 : ∀ w, Calls Try.prog 49 #[.int .i64 typ, .agg #[.int .i64 s.nulls.toInt, .bool false, .bool s.min.null, .int .i64 s.min.int.toInt, .string s.min.text, .int .i64 s.min.x.toInt, .int .i64 s.min.y.toInt, .bool s.max.null, .int .i64 s.max.int.toInt, .string s.max.text, .int .i64 s.max.x.toInt, .int .i64 s.max.y.toInt]] w fun e W' => e = .returned (.bool true) ∧ Keep [] w W' := fun w => by
        have := rightS_ref typ s w
        rw [hR, hsv] at this
        exact this
      clear hsv hR hv
      replace hR1 := Lib.hid hR1
      go_enter Try.func28, Try.ntmps28
      have hown0 : ((W.alloc (.cells #[.int .i64 s.nulls.toInt, .bool false, .bool s.min.null, .int .i64 s.min.int.toInt, .string s.min.text, .int .i64 s.min.x.toInt, .int .i64 s.min.y.toInt, .bool s.max.null, .int .i64 s.max.int.toInt, .string s.max.text, .int .i64 s.max.x.toInt, .int .i64 s.max.y.toInt] 52)).alloc (.cells #[] 5)).ownsRow W.heap.size 5 1 (.slice (some ⟨W.heap.size + 1, 0, none⟩) 0 0) 0 [] := by
        have := World.ownsRow_lit (W.alloc (.cells #[.int .i64 s.nulls.toInt, .bool false, .bool s.min.null, .int .i64 s.min.int.toInt, .string s.min.text, .int .i64 s.min.x.toInt, .int .i64 s.min.y.toInt, .bool s.max.null, .int .i64 s.max.int.toInt, .string s.max.text, .int .i64 s.max.x.toInt, .int .i64 s.max.y.toInt] 52)) (base := W.heap.size) (e := 5) (size := 1) #[] 0 hk0.size (by simp [maxLen]) (by simp)
        rw [World.size_alloc] at this
        exact this
      go_wp2_with (at_builtin; refine wpList_append_rd (o := ⟨some 13, _, _, _, _, _⟩) rfl _ _ 28 rfl W.heap.size 5 i0 (.int .u8 0) 1 1 Try.underlying28 hi hz0 hz1 hz2 rfl (by omega) _ 0 [] rfl hown0 rfl ((h.pure hk0).pure ((Keep.refl [] _).alloc (.cells #[] 5))) (vU8_one l) (by unfold maxLen; omega) (by omega) ((hk0.alloc (.cells #[] 5)).size) ?_)
      intro v' w2 hown2' hgr
      obtain ⟨B2, d2, rfl⟩ := own_form hown2'
      have hk02 : Keep [] W w2 := (hk0.alloc (.cells #[] 5)).grown hgr (by simp [Value.ownBlock])
      have hkb : Keep [] (W.alloc (.cells #[.int .i64 s.nulls.toInt, .bool false, .bool s.min.null, .int .i64 s.min.int.toInt, .string s.min.text, .int .i64 s.min.x.toInt, .int .i64 s.min.y.toInt, .bool s.max.null, .int .i64 s.max.int.toInt, .string s.max.text, .int .i64 s.max.x.toInt, .int .i64 s.max.y.toInt] 52)) w2 := ((Keep.refl [] (W.alloc (.cells #[.int .i64 s.nulls.toInt, .bool false, .bool s.min.null, .int .i64 s.min.int.toInt, .string s.min.text, .int .i64 s.min.x.toInt, .int .i64 s.min.y.toInt, .bool s.max.null, .int .i64 s.max.int.toInt, .string s.max.text, .int .i64 s.max.x.toInt, .int .i64 s.max.y.toInt] 52))).alloc (.cells #[] 5)).grown hgr (by simp [Value.ownBlock])
      have hb2 := hb0.keep hkb (by simp)
      have hown2 : w2.ownsRow W.heap.size 5 1 (.slice B2 m d2) m (l.map vU8) := by simpa [hlen] using hown2'
      clear hgr hown2' hkb hb0
      obtain ⟨a0, a1, a2, a3, a4, a5, a6, a7, a8, a9, a10, a11⟩ := stAt hb2
      go_wp2_with fail
      refine (hR1.out _).mono ?_
      rintro e w3 ⟨rfl, hk3⟩
      have hk03 := hk02.trans hk3
      have hb3 := hb2.keep hk3 (by simp)
      have ho3 := own_keep hown2 hk3 (by simp)
      have hr3 : Bys [] w3 B2 m d2 l := rd_of_own ho3 (by simp)
      obtain ⟨a0, a1, a2, a3, a4, a5, a6, a7, a8, a9, a10, a11⟩ := stAt hb3
      have P := put_ref (uN s.nulls.toInt) w3 hr3 (uN_lt _) (by omega)
      rw [← wrap_uN] at P
      replace P := Lib.hid P
      go_wp2_with fail
      refine P.out.mono ?_
      rintro e w4 ⟨B1, k1, d1, rfl, hk4, hown4⟩
      have hk1 := (rd_of_own (X := []) hown4 (by simp) : Bys [] w4 B1 k1 d1 _).len1
      rw [List.length_append] at hk1
      have hk04 := hk03.trans hk4
      have ho4 := own_lower hown4 hk03.size
      obtain ⟨a0, a1, a2, a3, a4, a5, a6, a7, a8, a9, a10, a11⟩ := stAt (hb3.keep hk4 (by simp))
      replace hk1 := Lib.hid hk1
      replace hl1 := Lib.hid hl1
      replace hlen := Lib.hid hlen
      have hk1' : k1 ≤ 1000000000010 := by have e1 := hk1.out; have e2 := hl1.out; have e3 := hlen.out; omega
      have hck : Bys [] (w4.alloc (.cells #[.int .u8 0] 5)) (some ⟨w4.heap.size, 0, none⟩) 1 1 [0] := (Blk.new w4 5 [.int .u8 0]).rd (by simp) rfl (by omega) (by simp [maxLen]) rfl
      have hsz4 := hk04.size
      clear hown4
      go_wp2_with (at_builtin; refine wpList_append_rd rfl _ _ 28 rfl W.heap.size 5 i0 (.int .u8 0) 1 1 Try.underlying28 hi hz0 hz1 hz2 rfl (by omega) (.slice B1 k1 d1) k1 _ rfl (ho4.alloc _) rfl hck (vU8_one [0]) (by unfold maxLen; omega) (by omega) (by simp; omega) ?_)
      intro v' w5 hown5 hgr
      have hk5 := (hk04.alloc (.cells #[.int .u8 0] 5)).grown hgr (fun g hg => .inr (own_ge ho4 g hg))
      obtain ⟨B5, d5, rfl⟩ := own_form hown5
      go_wp2
      go_ret
      refine ⟨_, _, _, rfl, hk5, ?_⟩
      rw [v1.out, ← List.append_assoc, List.map_append]
      simpa using hown5
    | true =>
      have v1 : Hid (v = putB (uN s.nulls.toInt) ++ ([1] ++ putB (encB typ [s.min, s.max]).length ++ encB typ [s.min, s.max])) := by rw [Hid, ← hv.out, putS, if_pos hR, if_pos hh]
      have hel := encB2_len typ s.min s.max
      have hel2 := putB_len (encB typ [s.min, s.max]).length
      have hk0 : Keep [] W (W.alloc (.cells #[.int .i64 s.nulls.toInt, .bool true, .bool s.min.null, .int .i64 s.min.int.toInt, .string s.min.text, .int .i64 s.min.x.toInt, .int .i64 s.min.y.toInt, .bool s.max.null, .int .i64 s.max.int.toInt, .string s.max.text, .int .i64 s.max.x.toInt, .int .i64 s.max.y.toInt] 52)) := (Keep.refl _ _).alloc _
      have hb0 : Blk (W.alloc (.cells #[.int .i64 s.nulls.toInt, .bool true, .bool s.min.null, .int .i64 s.min.int.toInt, .string s.min.text, .int .i64 s.min.x.toInt, .int .i64 s.min.y.toInt, .bool s.max.null, .int .i64 s.max.int.toInt, .string s.max.text, .int .i64 s.max.x.toInt, .int .i64 s.max.y.toInt] 52)) W.heap.size 52 s.cs := by
        simp only [St.cs, hh]
        exact Blk.new W 52 _
      have hsv : stVal s = .agg #[.int .i64 s.nulls.toInt, .bool true, .bool s.min.null, .int .i64 s.min.int.toInt, .string s.min.text, .int .i64 s.min.x.toInt, .int .i64 s.min.y.toInt, .bool s.max.null, .int .i64 s.max.int.toInt, .string s.max.text, .int .i64 s.max.x.toInt, .int .i64 s.max.y.toInt] := by rw [stVal, hh]
      have hR1 : ∀ w, Calls Try.prog 49 #[.int .i64 typ, .agg #[.int .i64 s.nulls.toInt, .bool true, .bool s.min.null, .int .i64 s.min.int.toInt, .string s.min.text, .int .i64 s.min.x.toInt, .int .i64 s.min.y.toInt, .bool s.max.null, .int .i64 s.max.int.toInt, .string s.max.text, .int .i64 s.max.x.toInt, .int .i64 s.max.y.toInt]] w fun e W' => e = .returned (.bool true) ∧ Keep [] w W' := fun w => by
        have := rightS_ref typ s w
        rw [hR, hsv] at this
        exact this
      clear hsv hR hv
      replace hR1 := Lib.hid hR1
      go_enter Try.func28, Try.ntmps28
      have hown0 : ((W.alloc (.cells #[.int .i64 s.nulls.toInt, .bool true, .bool s.min.null, .int .i64 s.min.int.toInt, .string s.min.text, .int .i64 s.min.x.toInt, .int .i64 s.min.y.toInt, .bool s.max.null, .int .i64 s.max.int.toInt, .string s.max.text, .int .i64 s.max.x.toInt, .int .i64 s.max.y.toInt] 52)).alloc (.cells #[] 5)).ownsRow W.heap.size 5 1 (.slice (some ⟨W.heap.size + 1, 0, none⟩) 0 0) 0 [] := by
        have := World.ownsRow_lit (W.alloc (.cells #[.int .i64 s.nulls.toInt, .bool true, .bool s.min.null, .int .i64 s.min.int.toInt, .string s.min.text, .int .i64 s.min.x.toInt, .int .i64 s.min.y.toInt, .bool s.max.null, .int .i64 s.max.int.toInt, .string s.max.text, .int .i64 s.max.x.toInt, .int .i64 s.max.y.toInt] 52)) (base := W.heap.size) (e := 5) (size := 1) #[] 0 hk0.size (by simp [maxLen]) (by simp)
        rw [World.size_alloc] at this
        exact this
      go_wp2_with (at_builtin; refine wpList_append_rd (o := ⟨some 13, _, _, _, _, _⟩) rfl _ _ 28 rfl W.heap.size 5 i0 (.int .u8 0) 1 1 Try.underlying28 hi hz0 hz1 hz2 rfl (by omega) _ 0 [] rfl hown0 rfl ((h.pure hk0).pure ((Keep.refl [] _).alloc (.cells #[] 5))) (vU8_one l) (by unfold maxLen; omega) (by omega) ((hk0.alloc (.cells #[] 5)).size) ?_)
      intro v' w2 hown2' hgr
      obtain ⟨B2, d2, rfl⟩ := own_form hown2'
      have hk02 : Keep [] W w2 := (hk0.alloc (.cells #[] 5)).grown hgr (by simp [Value.ownBlock])
      have hkb : Keep [] (W.alloc (.cells #[.int .i64 s.nulls.toInt, .bool true, .bool s.min.null, .int .i64 s.min.int.toInt, .string s.min.text, .int .i64 s.min.x.toInt, .int .i64 s.min.y.toInt, .bool s.max.null, .int .i64 s.max.int.toInt, .string s.max.text, .int .i64 s.max.x.toInt, .int .i64 s.max.y.toInt] 52)) w2 := ((Keep.refl [] (W.alloc (.cells #[.int .i64 s.nulls.toInt, .bool true, .bool s.min.null, .int .i64 s.min.int.toInt, .string s.min.text, .int .i64 s.min.x.toInt, .int .i64 s.min.y.toInt, .bool s.max.null, .int .i64 s.max.int.toInt, .string s.max.text, .int .i64 s.max.x.toInt, .int .i64 s.max.y.toInt] 52))).alloc (.cells #[] 5)).grown hgr (by simp [Value.ownBlock])
      have hb2 := hb0.keep hkb (by simp)
      have hown2 : w2.ownsRow W.heap.size 5 1 (.slice B2 m d2) m (l.map vU8) := by simpa [hlen] using hown2'
      clear hgr hown2' hkb hb0
      obtain ⟨a0, a1, a2, a3, a4, a5, a6, a7, a8, a9, a10, a11⟩ := stAt hb2
      go_wp2_with fail
      refine (hR1.out _).mono ?_
      rintro e w3 ⟨rfl, hk3⟩
      have hk03 := hk02.trans hk3
      have hb3 := hb2.keep hk3 (by simp)
      have ho3 := own_keep hown2 hk3 (by simp)
      have hr3 : Bys [] w3 B2 m d2 l := rd_of_own ho3 (by simp)
      obtain ⟨a0, a1, a2, a3, a4, a5, a6, a7, a8, a9, a10, a11⟩ := stAt hb3
      have P := put_ref (uN s.nulls.toInt) w3 hr3 (uN_lt _) (by omega)
      rw [← wrap_uN] at P
      replace P := Lib.hid P
      go_wp2_with fail
      refine P.out.mono ?_
      rintro e w4 ⟨B1, k1, d1, rfl, hk4, hown4⟩
      have hk1 := (rd_of_own (X := []) hown4 (by simp) : Bys [] w4 B1 k1 d1 _).len1
      rw [List.length_append] at hk1
      have hk04 := hk03.trans hk4
      have ho4 := own_lower hown4 hk03.size
      have hk1' : k1 ≤ 1000000000010 := by omega
      obtain ⟨a0, a1, a2, a3, a4, a5, a6, a7, a8, a9, a10, a11⟩ := stAt (hb3.keep hk4 (by simp))
      have hcc : Cells [] (w4.alloc (.cells #[.bool s.min.null, .int .i64 s.min.int.toInt, .string s.min.text, .int .i64 s.min.x.toInt, .int .i64 s.min.y.toInt, .bool s.max.null, .int .i64 s.max.int.toInt, .string s.max.text, .int .i64 s.max.x.toInt, .int .i64 s.max.y.toInt] 50)) (some ⟨w4.heap.size, 0, none⟩) 2 2 [s.min, s.max] := (Blk.new w4 50 [.bool s.min.null, .int .i64 s.min.int.toInt, .string s.min.text, .int .i64 s.min.x.toInt, .int .i64 s.min.y.toInt, .bool s.max.null, .int .i64 s.max.int.toInt, .string s.max.text, .int .i64 s.max.x.toInt, .int .i64 s.max.y.toInt]).rd (by simp) (by simp [Cell.cs]) (by omega) (by simp [maxLen]) (by simp [Cell.cs, vI])
      have En := Lib.hid (encode_ref typ _ hcc)
      have hka := (Keep.refl [] w4).alloc (.cells #[.bool s.min.null, .int .i64 s.min.int.toInt, .string s.min.text, .int .i64 s.min.x.toInt, .int .i64 s.min.y.toInt, .bool s.max.null, .int .i64 s.max.int.toInt, .string s.max.text, .int .i64 s.max.x.toInt, .int .i64 s.max.y.toInt] 50)
      replace hk1 := Lib.hid hk1
      replace hl1 := Lib.hid hl1
      replace hlen := Lib.hid hlen
      replace hel := Lib.hid hel
      replace hel2 := Lib.hid hel2
      clear hown4 hcc
      go_wp2_with fail
      refine En.out.mono ?_
      rintro e w5 ⟨Bx, mx, dx, rfl, hk5, hnew⟩
      generalize encB typ [s.min, s.max] = x at *
      have hk45 := hka.trans hk5
      have ho5 := own_keep ho4 hk45 (by simp)
      have hrx : Bys (Value.slice B1 k1 d1).ownBlock.toList w5 Bx mx dx x := hnew _ (fun b hb => by
        have hb' : (Value.slice B1 k1 d1).ownBlock = some b := by simpa using hb
        have := (World.ownsRow.lt ho4 b hb').2
        simp; omega)
      clear hnew
      have hmx := hrx.len1
      obtain rfl := hmx
      have hwx : IntKind.u64.wrap (x.length : Int) = x.length := IntWalk.u64_in _ (by have := hel.out; omega)
      have hk05 := hk04.trans hk45
      have hsz5 := hk05.size
      have hck : Bys [] (w5.alloc (.cells #[.int .u8 1] 5)) (some ⟨w5.heap.size, 0, none⟩) 1 1 [1] := (Blk.new w5 5 [.int .u8 1]).rd (by simp) rfl (by omega) (by simp [maxLen]) rfl
      clear ho4
      go_wp2_with (at_builtin; refine wpList_append_rd rfl _ _ 28 rfl W.heap.size 5 i0 (.int .u8 0) 1 1 Try.underlying28 hi hz0 hz1 hz2 rfl (by omega) (.slice B1 k1 d1) k1 _ rfl (ho5.alloc _) rfl hck (vU8_one [1]) (by unfold maxLen; omega) (by omega) (by simp; omega) ?_)
      intro v' w6 hown6 hgr
      have hk6 := (hk05.alloc (.cells #[.int .u8 1] 5)).grown hgr (fun g hg => .inr (own_ge ho5 g hg))
      have hrx6 : Bys (Value.slice B1 k1 d1).ownBlock.toList w6 Bx x.length dx x := (hrx.pure ((Keep.refl _ _).alloc _)).keep (keep_of_grown hgr) (fun b hb => .inl hb)
      obtain ⟨B6, d6, rfl⟩ := own_form hown6
      have hr6 : Bys [] w6 B6 (k1 + 1) d6 (l ++ putB (uN s.nulls.toInt) ++ [1]) := by
        have := rd_of_own (X := []) hown6 (by simp)
        simpa [Bys, List.append_assoc] using this
      have P2 := Lib.hid (put_ref x.length w6 hr6 (by have := hel.out; omega) (by omega))
      clear hown6 hgr hck hrx ho5
      go_wp2_with fail
      refine P2.out.mono ?_
      rintro e w7 ⟨B7, k7, d7, rfl, hk7, hown7⟩
      have hk07 := hk6.trans hk7
      have ho7 := own_lower hown7 hk6.size
      have hk7l := (rd_of_own (X := []) hown7 (by simp) : Bys [] w7 B7 k7 d7 _).len1
      rw [List.length_append, List.length_append, List.length_append] at hk7l
      have hk7' : k7 ≤ 1000000000100 := by have e1 := hk1.out; have e2 := hl1.out; have e3 := hlen.out; have e4 := hel2.out; simp only [List.length_singleton] at hk7l; omega
      have hrx7 := hrx6.pure hk7
      have hxl := hel.out
      clear hown7
      go_wp2_with (at_builtin; refine wpList_append_rd rfl _ _ 28 rfl W.heap.size 5 i0 (.int .u8 0) 1 1 Try.underlying28 hi hz0 hz1 hz2 rfl (by omega) (.slice B7 k7 d7) k7 _ rfl ho7 rfl hrx7 (vU8_one x) (by unfold maxLen; omega) (by omega) hk07.size ?_)
      intro v' w8 hown8 hgr8
      have hk8 := hk07.grown hgr8 (fun g hg => .inr (own_ge ho7 g hg))
      obtain ⟨B8, d8, rfl⟩ := own_form hown8
      go_wp2
      go_ret
      refine ⟨_, _, _, rfl, hk8, ?_⟩
      rw [v1.out]
      simpa [List.append_assoc] using hown8
end Go.Proofs.Ytcpimhefclfbaaa
