/-
  The walks of layer 8's functions, part 2: Clone, DeleteFunc.
-/
import Derived.Test.YtfhdiafgcfpdhaaNl1
import Derived.Test.YtfhdiafgcfpdhaaMem
namespace Go.Proofs.Ytfhdiafgcfpdhaa
open Go Go.RowKit
set_option linter.unusedVariables false
set_option linter.unusedSimpArgs false

theorem Try.infoCell : (Try.prog.info? 47).map (fun i => (i.zero, i.size, i.bytes)) = some (some (cellVal Cell.zero), 5, 48) := by kernel_rfl

set_option maxHeartbeats 400000 in
theorem clone_prog {X : List Nat} {A : Option Addr} {n c : Nat} {l : List Cell} (W : World) (h : Cells X W A n c l) (hroom : n ≤ 2000000000000) :
    Calls Try.prog 36 #[.slice A n c] W fun e W' => ∃ B d, e = .returned (.slice B n d) ∧ Keep [] W W' ∧ W'.ownsRow W.heap.size 47 5 (.slice B n d) n (l.flatMap Cell.cs) := by
  have hc := h.cap
  have hnc := h.le
  obtain ⟨i0, hi, hz0, hz1, hz2⟩ := info_parts Try.infoCell
  cases A with
  | none =>
    obtain ⟨rfl, hx⟩ := h.none_nil
    obtain rfl := h.2.2.2.2 rfl
    have hnil := fun w : World => Lib.run_eql_slice_nil (P := Try.prog) w 37 47 none 0 0 0 0 Try.underlying37
    have HX := Lib.hid hx
    clear hx
    go_enter Try.func36, Try.ntmps36
    go_wp2
    go_ret
    exact ⟨none, 0, rfl, Keep.refl _ _, by rw [HX.out]; exact World.ownsRow_nil _ _ _ _⟩
  | some a =>
    have hnil := fun w : World => Lib.run_eql_slice_nil (P := Try.prog) w 37 47 (some a) n c 0 0 Try.underlying37
    go_enter Try.func36, Try.ntmps36
    go_wp2_with (at_builtin; refine wpList_append_rd rfl _ _ 37 rfl W.heap.size 47 i0 (cellVal Cell.zero) 5 48 Try.underlying37 hi hz0 hz1 hz2 rfl (by omega) _ 0 [] rfl (World.ownsRow_lit W #[] 0 (Nat.le_refl _) (by simp [maxLen]) (by simp)) rfl (h.pure ((Keep.refl [] W).alloc _)) (flat_one Cell.one l) (by unfold maxLen; omega) (by omega) (by simp) ?_)
    intro v' w1 hown hgr
    obtain ⟨B, d, rfl⟩ := own_form hown
    have hk : Keep [] W w1 := ((Keep.refl [] W).alloc (.cells #[] 47)).grown hgr (by simp [Value.ownBlock])
    clear hgr
    go_wp2
    go_ret
    refine ⟨B, d, rfl, hk, ?_⟩
    simpa using hown

/-- What is left when the nulls are gone. -/
def there (l : List Cell) : List Cell := l.filter fun c => !c.null

theorem there_take_null {l : List Cell} {k : Nat} (hk : k < l.length) (h : l[k].null = true) : there (l.take (k + 1)) = there (l.take k) := by
  rw [there, there, List.take_succ_eq_append_getElem hk, List.filter_append]
  simp [h]
theorem there_take_some {l : List Cell} {k : Nat} (hk : k < l.length) (h : l[k].null = false) : there (l.take (k + 1)) = there (l.take k) ++ [l[k]] := by
  rw [there, there, List.take_succ_eq_append_getElem hk, List.filter_append]
  simp [h]
theorem there_none {l : List Cell} (h : firstNull l = -1) : there l = l := by
  induction l with
  | nil => rfl
  | cons c l ih =>
    rw [firstNull] at h
    cases hc : c.null with
    | true => rw [hc] at h; simp at h
    | false =>
      rw [hc] at h
      simp only [Bool.false_eq_true, if_false] at h
      have : firstNull l = -1 := by
        split at h
        · rename_i h2
          have := firstNull_ge l
          omega
        · omega
      have ih := ih this
      rw [there] at ih
      rw [there, List.filter_cons, hc, ih]
      rfl
theorem there_first {l : List Cell} {k : Nat} (h : firstNull l = (k : Int)) : k < l.length ∧ there (l.take (k + 1)) = l.take k := by
  induction l generalizing k with
  | nil => simp [firstNull] at h
  | cons c l ih =>
    rw [firstNull] at h
    cases hc : c.null with
    | true =>
      rw [hc] at h
      simp at h
      obtain rfl : k = 0 := by omega
      simp [there, hc]
    | false =>
      rw [hc] at h
      simp only [Bool.false_eq_true, if_false] at h
      split at h
      · omega
      · obtain ⟨k', rfl⟩ : ∃ k', k = k' + 1 := ⟨k - 1, by omega⟩
        have := ih (k := k') (by omega)
        refine ⟨by simp; omega, ?_⟩
        have h2 := this.2
        rw [there] at h2
        rw [there, List.take_succ_cons, List.take_succ_cons, List.filter_cons, hc, h2]
        rfl

set_option maxHeartbeats 1000000 in
theorem deleteFunc_prog {base n d : Nat} {B : Option Addr} {l : List Cell} (W : World) (h : W.ownsRow base 47 5 (.slice B n d) n (l.flatMap Cell.cs)) (hroom : n ≤ 2000000000000) (hd : d ≤ 9223372036854775807) :
    Calls Try.prog 35 #[.slice B n d, .func (.func 37) #[] #[]] W
      fun e W' => ∃ m, e = .returned (.slice B m d) ∧ (∃ M : List Nat, (∀ b ∈ M, base ≤ b) ∧ Keep M W W') ∧ W'.ownsRow base 47 5 (.slice B m d) m ((there l).flatMap Cell.cs) := by
  have hrd : Cells [] W B n d l := rd_of_own h (by simp)
  have hn := hrd.len
  have hnd := hrd.le
  obtain rfl := hn
  have hge := firstNull_ge l
  by_cases hnone : firstNull l = -1
  · have hth := Lib.hid (there_none hnone)
    replace hnone := Lib.hid hnone
    go_enter Try.func35, Try.ntmps35
    go_wp2_with fail
    refine (indexFunc_prog W hrd).mono ?_
    rintro e w1 ⟨rfl, hk1⟩
    rw [hnone.out]
    go_wp2
    go_ret
    exact ⟨l.length, rfl, ⟨[], by simp, hk1⟩, by rw [hth.out]; exact own_keep h hk1 (by simp)⟩
  · obtain ⟨k, hk⟩ : ∃ k : Nat, firstNull l = (k : Int) := ⟨(firstNull l).toNat, by omega⟩
    obtain ⟨hkl, hkt⟩ := there_first hk
    obtain ⟨h1, h2⟩ := h
    rcases h2 with ⟨hv, hn0⟩ | ⟨g, cap, cur, hv, hbg, hg, hnc, hcm, hcs, ht⟩
    · omega
    injection hv with e1 e2 e3
    subst e1 e3
    obtain ⟨cs, rfl⟩ : ∃ cs : List Value, cur = cs.toArray := ⟨cur.toList, by simp⟩
    have hb : Blk W g 47 cs := hg
    simp only [List.size_toArray] at hcs ht
    have hcell : ∀ j (hj : j < l.length) t, t < 5 → cs[j * 5 + t]? = l[j].cs[t]? := by
      intro j hj t ht5
      have h3 := flat_get Cell.len l j t hj ht5
      rw [← ht, List.getElem?_take_of_lt] at h3
      · exact h3
      · have := Nat.mul_le_mul_right 5 (show j + 1 ≤ l.length from hj)
        omega
    have htake : ∀ j, j ≤ l.length → cs.take (j * 5) = (l.take j).flatMap Cell.cs := by
      intro j hj
      rw [← flat_take Cell.len, ← ht, List.take_take, Nat.min_eq_left (Nat.mul_le_mul_right 5 hj)]
    replace ht : Hid _ := Lib.hid ht
    replace hk : Hid _ := Lib.hid hk
    replace hcell : Hid _ := Lib.hid hcell
    replace htake : Hid _ := Lib.hid htake
    replace hkt : Hid _ := Lib.hid hkt
    replace hcs : Hid _ := Lib.hid hcs
    replace h1 : Hid _ := Lib.hid h1
    clear hnone hg
    go_enter Try.func35, Try.ntmps35
    go_wp2_with fail
    refine (indexFunc_prog W hrd).mono ?_
    rintro e w1 ⟨rfl, hk1⟩
    rw [hk.out]
    have hk0 : ((k : Int) == -1) = false := by rw [beq_eq_false_iff_ne]; omega
    replace hb := hb.keep hk1 (by simp)
    have hkg : Keep [g] W w1 := hk1.nil
    clear hk1
    go_wp2
    go_loopw [5, 6] (fun a b wr => ∃ (i j : Nat) (ds : List Value), i < j ∧ j ≤ l.length ∧ a = .int .i64 i ∧ b = .int .i64 j ∧ Blk wr g 47 ds ∧
      Hid (ds.length = cs.length ∧ ds.take (i * 5) = (there (l.take j)).flatMap Cell.cs ∧ ds.drop (j * 5) = cs.drop (j * 5) ∧ (there (l.take j)).length = i) ∧ Keep [g] W wr) (fun _ b _ => l.length - (intOf b).toNat)
    case atStart =>
      refine ⟨k, k + 1, cs, by omega, by omega, rfl, by go_num, hb, ⟨rfl, ?_, rfl, ?_⟩, hkg⟩
      · rw [hkt.out]; exact htake.out k (by omega)
      · rw [hkt.out]; simp; omega
    case round =>
      obtain ⟨i, j, ds, hij, hj, rfl, rfl, hbr, HD, hkeep⟩ := hrel
      by_cases hlt : j < l.length
      · have hread : ∀ t, t < 5 → wr.cell? ⟨g, j * 5 + t, none⟩ = l[j].cs[t]? := by
          intro t ht5
          rw [hbr.cell, ← hcell.out j hlt t ht5]
          have h4 := congrArg (fun z => z[t]?) HD.out.2.2.1
          simpa [List.getElem?_drop] using h4
        have hc0 := hread 0 (by omega)
        have hc1 := hread 1 (by omega)
        have hc2 := hread 2 (by omega)
        have hc3 := hread 3 (by omega)
        have hc4 := hread 4 (by omega)
        clear hread
        simp only [Cell.cs, vI, List.getElem?_cons_zero, List.getElem?_cons_succ, Nat.add_zero] at hc0 hc1 hc2 hc3 hc4
        have hnull := Lib.hid (there_take_null hlt)
        have hsome := Lib.hid (there_take_some hlt)
        generalize l[j] = x at hc0 hc1 hc2 hc3 hc4 hnull hsome
        have hfit : j * 5 + 5 ≤ ds.length := by
          have h5 := HD.out.1
          have h6 := hcs.out
          have := Nat.mul_le_mul_right 5 (show j + 1 ≤ l.length from hlt)
          omega
        go_wp2_with fail
        refine (isNull_prog x _).mono ?_
        rintro e w2 ⟨rfl, hk2⟩
        have hka : Keep [] wr w2 := ((Keep.refl [] wr).alloc _).trans hk2
        have hlv : Blk w2 wr.heap.size 47 x.cs := Blk.keep (Blk.new wr 47 x.cs) hk2 (by simp)
        have hbr2 := hbr.keep hka (by simp)
        cases hx : x.null with
        | true =>
          have hnull2 := Lib.hid (hnull.out hx)
          clear hx
          go_wp2
          go_roundw
          case rel =>
            refine ⟨i, j + 1, ds, by omega, by omega, rfl, by go_num, hbr2, ⟨HD.out.1, ?_, ?_, ?_⟩, hkeep.trans hka.nil⟩
            · rw [hnull2.out]; exact HD.out.2.1
            · rw [Nat.add_mul, ← List.drop_drop, ← List.drop_drop, HD.out.2.2.1]
            · rw [hnull2.out]; exact HD.out.2.2.2
          case measure => simp [intOf]; omega
        | false =>
          have hsome2 := Lib.hid (hsome.out hx)
          clear hx
          have hv0 := hlv.cell 0
          have hv1 := hlv.cell 1
          have hv2 := hlv.cell 2
          have hv3 := hlv.cell 3
          have hv4 := hlv.cell 4
          simp only [Cell.cs, vI, List.getElem?_cons_zero, List.getElem?_cons_succ] at hv0 hv1 hv2 hv3 hv4
          go_wp2_with (refine wpList_store_blk rfl rfl (n := 5) (Try.sizeOf47 _) (v := .agg #[.bool x.null, .int .i64 x.int.toInt, .string x.text, .int .i64 x.x.toInt, .int .i64 x.y.toInt]) hbr2 (off := i * 5) rfl rfl rfl (by omega) (by simp [Value.cells, Value.oneCell']) ?_)
          intro w3 hb3 hk3
          have hb4 : Blk w3 g 47 (ds.take (i * 5) ++ x.cs ++ ds.drop (i * 5 + 5)) := by simpa [Cell.cs, vI] using hb3
          clear hb3
          go_wp2
          go_roundw
          case rel =>
            have hil : (ds.take (i * 5)).length = i * 5 := by rw [List.length_take, Nat.min_eq_left (by omega)]
            have hil2 : (ds.take (i * 5) ++ x.cs).length = i * 5 + 5 := by rw [List.length_append, hil]; rfl
            refine ⟨i + 1, j + 1, _, by omega, by omega, by go_num, by go_num, hb4, ⟨?_, ?_, ?_, ?_⟩, (hkeep.trans hka.nil).trans hk3⟩
            · rw [List.length_append, hil2, List.length_drop, ← HD.out.1]; omega
            · rw [Nat.add_mul, Nat.one_mul, ← hil2, List.take_left, hsome2.out, List.flatMap_append, HD.out.2.1]
              simp
            · rw [List.drop_append, hil2, List.drop_of_length_le (by rw [hil2]; omega), List.nil_append, List.drop_drop, show i * 5 + 5 + ((j + 1) * 5 - (i * 5 + 5)) = j * 5 + 5 from by omega,
                show (j + 1) * 5 = j * 5 + 5 from by omega, ← List.drop_drop, ← List.drop_drop, HD.out.2.2.1]
            · rw [hsome2.out, List.length_append, HD.out.2.2.2]; rfl
          case measure => simp [intOf]; omega
      · obtain rfl : j = l.length := by omega
        have hfit : l.length * 5 ≤ ds.length := by
          have h5 := HD.out.1
          have h6 := hcs.out
          omega
        go_wp2_with (refine wpList_clear_blk rfl rfl (size := 5) Try.underlying37 (Try.zeroValue47 _) rfl (by simp [Value.cells, Value.oneCell']) rfl hbr (k := i * 5) ?_ (by omega) ?_)
        intro w3 es hb3 htk hlen hk3
        replace htk := Lib.hid htk
        replace hlen := Lib.hid hlen
        go_wp2
        go_ret
        have hD := HD.out
        rw [List.take_length] at hD
        refine ⟨i, rfl, ⟨[g], by simpa using hbg, hkeep.trans hk3⟩, ?_, .inr ⟨g, d, es.toArray, rfl, hbg, hb3, by omega, hcm, ?_, ?_⟩⟩
        · rw [flat_len Cell.len, hD.2.2.2]
        · have h6 := hcs.out
          have h7 := hlen.out
          simp only [List.size_toArray]
          omega
        · rw [htk.out, hD.2.1]
end Go.Proofs.Ytfhdiafgcfpdhaa
