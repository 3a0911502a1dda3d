/-
  The walk of layer 8's statement on parts.
-/
import Derived.Test.YtfhdiafgcfpdhaaNlLaws
namespace Go.Proofs.Ytfhdiafgcfpdhaa
open Go Go.RowKit
set_option linter.unusedVariables false
set_option linter.unusedSimpArgs false

section
variable {P : Program} {w : World} {ops : Array Oper} {rest : List Oper} {o : Oper} {a : Act} {K : Act → World → Prop} {Q : Exit → Act → World → Prop} {E : Prop}
theorem wpList_append_rd_want (hw : Region.wanted o (yielded ops a.tmps) = true) (s x : Operand) (t : TypeId)
    (ho : o.op = .call { callee := .builtin .append, args := #[s, x], argTypes := #[t, t] })
    (base : Nat) (e : TypeId) (i : TypeInfo) (z : Value) (size bytes : Nat) (ht : P.underlying t = some (.slice e)) (hi : P.info? e = some i) (hz : i.zero = some z)
    (hsize : i.size = size) (hby : i.bytes = bytes) (hzs : z.cells.size = size) (hsz : 0 < size)
    (v : Value) (n : Nat) (xs : List Value) (hs : a.eval s = v) (hown : w.ownsRow base e size v n xs)
    {X : List Nat} {A : Option Addr} {m c : Nat} {news : List Value} (hx : a.eval x = .slice A m c) (hr : Rd X w size A m c news) (h1 : ∀ u ∈ news, u.oneCell' = true)
    (h63 : n + m ≤ maxLen) (hbytes : (n + m) * bytes ≤ 140737488355328) (hbase : base ≤ w.heap.size)
    (h : ∀ v' w', w'.ownsRow base e size v' (n + m) (xs ++ news) → w.grownBy w' v.ownBlock → wpList P ops Q rest (a.put o.dst v') w') : wpList P ops Q (o :: rest) a w :=
  wpList_step fun _ hK => by
    rw [if_pos hw]
    exact wp_append_rd s x t ho base e i z size bytes ht hi hz hsize hby hzs hsz v n xs hs hown hx hr h1 h63 hbytes hbase fun v' w' h2 h3 => hK _ _ (h v' w' h2 h3)
end

theorem splitBits_len (l : List Cell) : (splitBits l).length ≤ 65536 := by
  unfold splitBits
  split
  · rename_i hl
    rw [(unpack_pack (bits_ok l hl)).2.2]
    simp [sizeOf']
    omega
  · simp

theorem own_empty (w : World) (t : TypeId) (size : Nat) : (w.alloc (.cells #[] t)).ownsRow w.heap.size t size (.slice (some ⟨w.heap.size, 0, none⟩) 0 0) 0 [] :=
  ⟨by simp, .inr ⟨w.heap.size, 0, #[], rfl, Nat.le_refl _, heap_alloc_new w _, Nat.le_refl _, by simp [maxLen], by simp, by simp⟩⟩

set_option maxHeartbeats 2000000 in
theorem NullsParts_walk (A : Option Addr) (m c : Nat) (a : List Cell) (A2 : Option Addr) (m2 c2 : Nat) (b : List Cell) (W : World) (h : Cells [] W A m c a) (h2 : Cells [] W A2 m2 c2 b) :
    Calls Try.prog 12 #[.slice A m c, .slice A2 m2 c2] W fun e W' => e = .returned (.bool true) ∧ Below W.heap.size W W' := by
  have hc := h.cap
  have hnc := h.le
  obtain rfl := h.len
  have hc' := h2.cap
  have hnc' := h2.le
  obtain rfl := h2.len
  obtain ⟨i0, hi, hy0, hy1, hy2⟩ := info_parts Try.infoCell
  go_enter Try.func12, Try.ntmps12
  go_wp2_with fail
  refine (small08 W).mono ?_
  rintro e w1 ⟨rfl, hk⟩
  go_wp2_with fail
  refine (few_prog w1 (h.pure hk)).mono ?_
  rintro e w2 ⟨⟨v, rfl, hv⟩, hk2⟩
  have hk12 := hk.trans hk2
  go_wp2_with fail
  refine (few_prog w2 (h2.pure hk12)).mono ?_
  rintro e w3 ⟨⟨v2, rfl, hv2⟩, hk3⟩
  have hk13 := hk12.trans hk3
  cases v with
  | false =>
    go_wp2
    go_ret
    exact ⟨rfl, hk13.below⟩
  | true =>
    cases v2 with
    | false =>
      go_wp2
      go_ret
      exact ⟨rfl, hk13.below⟩
    | true =>
      have hr := hv rfl
      have hr2 := hv2 rfl
      clear hv hv2
      obtain ⟨q, hq, hqm⟩ : ∃ q, a.length / 8 * 8 = q ∧ q % 8 = 0 := ⟨_, rfl, by omega⟩
      have hqa : q ≤ a.length := by omega
      have hq3 : (a.length : Int) / 8 * 8 = q := by omega
      have hak : Cells [] W A q c (a.take q) := Rd.takeF Cell.len h hqa
      replace hqm := Lib.hid hqm
      clear hq
      generalize ha : a.take q = a' at hak
      have hal : a'.length = q := by rw [← ha]; simp; omega
      clear ha
      go_wp2_with fail
      refine (split_prog w3 (hak.pure hk13)).mono ?_
      rintro e w4 ⟨B1, n1, d1, B2, n2, d2, rfl, hk4, hb1, hb2⟩
      have hk14 := hk13.trans hk4
      replace hb1 := hb1 [] (by simp)
      replace hb2 := hb2 [] (by simp)
      go_wp2_with fail
      refine (split_prog w4 (h2.pure hk14)).mono ?_
      rintro e w5 ⟨B3, n3, d3, B4, n4, d4, rfl, hk5, hb3, hb4⟩
      have hk15 := hk14.trans hk5
      replace hb3 := hb3 [] (by simp)
      replace hb4 := hb4 [] (by simp)
      have hb1' := hb1.pure hk5
      have hb2' := hb2.pure hk5
      clear hb1 hb2 hk4 hk5 hk2 hk3
      have hw5 := hk15.size
      go_wp2_with (at_builtin; refine wpList_append_rd (o := ⟨some 45, _, _, _, _, _⟩) rfl _ _ 37 rfl w5.heap.size 47 i0 (cellVal Cell.zero) 5 48 Try.underlying37 hi hy0 hy1 hy2 rfl (by omega) _ 0 [] rfl (own_empty w5 47 5) rfl (hak.pure (hk15.alloc (.cells #[] 47))) (flat_one Cell.one a') (by unfold maxLen; omega) (by omega) (by simp) ?_)
      intro v6 w6 hown6 hgr
      have hk56 : Keep [] w5 w6 := ((Keep.refl [] w5).alloc (.cells #[] 47)).grown hgr (fun g hg => .inr (by simp [Value.ownBlock] at hg; omega))
      clear hgr
      have hk16 := hk15.trans hk56
      have hw6 := hk56.size
      go_wp2_with (at_builtin; refine wpList_append_rd (o := ⟨some 47, _, _, _, _, _⟩) rfl _ _ 37 rfl w5.heap.size 47 i0 (cellVal Cell.zero) 5 48 Try.underlying37 hi hy0 hy1 hy2 rfl (by omega) v6 q _ rfl hown6 rfl (h2.pure hk16) (flat_one Cell.one b) (by unfold maxLen; omega) (by omega) hw6 ?_)
      intro v7 w7 hown7 hgr
      have hk67 : Keep [] w5 w7 := hk56.grown hgr (fun g hg => .inr (own_ge hown6 g hg))
      clear hgr hown6
      rw [← List.flatMap_append] at hown7
      obtain ⟨B7, d7, rfl⟩ := own_form hown7
      have hab : Cells [] w7 B7 (q + b.length) d7 (a' ++ b) := rd_of_own hown7 (by simp)
      clear hown7
      have hk17 := hk15.trans hk67
      go_wp2_with fail
      refine (split_prog w7 hab).mono ?_
      rintro e w8 ⟨B8, n8, d8, B9, n9, d9, rfl, hk8, hb8, hb9⟩
      obtain ⟨hp1, hp2⟩ := split_parts (a := a') (b := b) (by rw [hal]; exact hqm.out) (by rw [List.length_append]; omega)
      rw [hp1] at hb8
      rw [hp2] at hb9
      clear hp1 hp2 hab
      have hk58 := hk67.trans hk8
      have hk18 := hk17.trans hk8
      have hs8 := str_run (hb8 [] (by simp))
      have hs1 := str_run (hb1'.pure hk58)
      have hs3 := str_run (hb3.pure hk58)
      have hbb : Hid ((⟨(splitBits a').toArray⟩ : ByteArray) ++ ⟨(splitBits b).toArray⟩ = ⟨(splitBits a' ++ splitBits b).toArray⟩) := by
        unfold Hid
        apply ByteArray.ext
        simp
      rw [← hbb.out] at hs8
      clear hbb
      have hz1 : (⟨(splitBits a').toArray⟩ : ByteArray).size ≤ 65536 := splitBits_len a'
      have hz2 : (⟨(splitBits b).toArray⟩ : ByteArray).size ≤ 65536 := splitBits_len b
      generalize (⟨(splitBits a').toArray⟩ : ByteArray) = s1 at *
      generalize (⟨(splitBits b).toArray⟩ : ByteArray) = s2 at *
      have hn2 : n2 ≤ 65536 := by have := Cells.len hb2'; have : (splitRest a').length ≤ a'.length := (by unfold splitRest; split <;> simp [there]; exact List.length_filter_le _ _); omega
      have hn4 : n4 ≤ 65536 := by have := Cells.len hb4; have : (splitRest b).length ≤ b.length := (by unfold splitRest; split <;> simp [there]; exact List.length_filter_le _ _); omega
      go_wp2_with (at_builtin; refine wpList_append_rd_want (o := ⟨some 66, _, _, _, _, _⟩) (by first | rfl | go_simp) _ _ 37 rfl w8.heap.size 47 i0 (cellVal Cell.zero) 5 48 Try.underlying37 hi hy0 hy1 hy2 rfl (by omega) _ 0 [] rfl (own_empty w8 47 5) rfl (hb2'.pure (hk58.alloc (.cells #[] 47))) (flat_one Cell.one (splitRest a')) (by unfold maxLen; omega) (by omega) (by simp) ?_)
      intro v9 w9 hown9 hgr
      have hk89 : Keep [] w8 w9 := ((Keep.refl [] w8).alloc (.cells #[] 47)).grown hgr (fun g hg => .inr (by simp [Value.ownBlock] at hg; omega))
      clear hgr
      have hw9 := hk89.size
      have hk59 := hk58.trans hk89
      go_wp2_with (at_builtin; refine wpList_append_rd_want (o := ⟨some 68, _, _, _, _, _⟩) (by first | rfl | go_simp) _ _ 37 rfl w8.heap.size 47 i0 (cellVal Cell.zero) 5 48 Try.underlying37 hi hy0 hy1 hy2 rfl (by omega) v9 n2 _ rfl hown9 rfl (hb4.pure hk59) (flat_one Cell.one (splitRest b)) (by unfold maxLen; omega) (by omega) hw9 ?_)
      intro v10 w10 hown10 hgr
      have hk810 : Keep [] w8 w10 := hk89.grown hgr (fun g hg => .inr (own_ge hown9 g hg))
      clear hgr hown9
      rw [← List.flatMap_append] at hown10
      obtain ⟨B10, d10, rfl⟩ := own_form hown10
      have hab : Cells [] w10 B10 (n2 + n4) d10 (splitRest a' ++ splitRest b) := rd_of_own hown10 (by simp)
      clear hown10
      go_wp2_with fail
      refine (cells_ref w10 ((hb9 [] (by simp)).pure hk810) hab).mono ?_
      rintro e w11 ⟨rfl, hk11⟩
      rw [dec_refl]
      go_wp2
      go_ret
      exact ⟨rfl, ((hk18.trans hk810).trans hk11).below⟩
end Go.Proofs.Ytfhdiafgcfpdhaa
