/-
  Which columns may be: cell.Cols.
  Which columns may be, as the document has it: hypostyleref07.Cols.
  Columns as bytes: schema.Put, and the document's.
  How many bytes a footer has, at most: no program here.
-/
import Derived.Maps.Own
import Derived.Maps.OwnOps
import Derived.Maps.OwnSet
import Derived.Maps.Views
import Derived.Deep.DeepCutAuto
import Derived.Lib.AppendStr
import Derived.Test.YtcpimhefclfbaaaFFA
import Derived.Test.YtcpimhefclfbaaaFO
import Derived.Test.YtcpimhefclfbaaaFCr
namespace Go.Proofs.Ytcpimhefclfbaaa
open Go Go.RowKit Go.Maps
set_option maxRecDepth 10000
set_option linter.unusedVariables false
set_option linter.unusedSimpArgs false

theorem zeroI64 (w : World) : (zeroValue 3).run Try.prog w = .ok (.int .i64 0) w := by kernel_rfl
/-- A map that counts names: one of each that was seen. -/
def CountIs (D : DataW Unit) (seen : List ByteArray) : Prop := IsMap D ∧ ∀ (s : ByteArray) kl, keyOf Try.prog 9 (.string s) = some kl → D.atKey kl (.lit (.int .i64 0)) = .lit (.int .i64 (if seenB seen s = true then 1 else 0))
theorem countIs_empty : CountIs (.map []) [] := ⟨isMap_empty, fun s kl _ => by simp [DataW.atKey, seenB]⟩
theorem countIs_put {D : DataW Unit} {seen : List ByteArray} (h : CountIs D seen) (s : ByteArray) {kl : Lit} (hk : keyOf Try.prog 9 (.string s) = some kl) : CountIs (D.put kl (.lit (.int .i64 1))) (seen ++ [s]) := by
  have K := string_keyed Try.underlying9
  refine ⟨h.1.put _ _, fun d kd hd => ?_⟩
  by_cases he : d = s
  · subst he
    rw [hk] at hd
    injection hd with hd
    subst hd
    rw [atKey_put_same h.1 (K.key hk)]
    simp [seenB]
  · have hne : kd ≠ kl := by
      rintro rfl
      have := K.inj hd hk
      injection this with this
      exact he this
    rw [atKey_put_other hne, h.2 d kd hd]
    have : seenB (seen ++ [s]) d = seenB seen d := by
      unfold seenB
      rw [List.any_append]
      simp [Ne.symm he]
    rw [this]
theorem empty_iff (s : ByteArray) : s = { data := #[] } ↔ s.size = 0 := by
  constructor
  · rintro rfl; rfl
  · intro h
    cases s with
    | mk d =>
      have : d = #[] := Array.eq_empty_of_size_eq_zero h
      rw [this]
theorem empty_name (s : ByteArray) : s.toList.isEmpty = decide (s.size = 0) := by
  rw [ByteArray.toList_eq]
  show s.data.toList.isEmpty = decide (s.data.size = 0)
  rw [← Array.length_toList]
  cases s.data.toList <;> simp
theorem colAt {w : World} {p : Nat} {t : TypeId} {c : Col} (h : Blk w p t c.cs) : w.cell? ⟨p, 0, none⟩ = some (.string c.name) ∧ w.cell? ⟨p, 1, none⟩ = some (.int .i64 c.typ.toInt) ∧ w.cell? ⟨p, 2, none⟩ = some (.bool c.null) :=
  ⟨h.cell 0, h.cell 1, h.cell 2⟩

set_option maxHeartbeats 4000000 in
theorem cols_prog {X : List Nat} {A : Option Addr} {n c : Nat} {l : List Col} (W : World) (h : Cols X W A n c l) (ht : ∀ x ∈ l, x.name.size ≤ maxLen) :
    Calls Try.prog 29 #[.slice A n c] W fun e W' => e = .returned (.int .i64 (colsE l)) ∧ Keep [] W W' := by
  have hc := h.cap
  have hnc := h.le
  obtain rfl : l.length = n := h.len
  replace ht := Lib.hid ht
  obtain ⟨v, hv⟩ : ∃ v, Hid (colsE l = v) := ⟨_, rfl⟩
  rw [hv.out]
  have hmm := @run_makeMap Try.prog
  by_cases h64 : 64 < l.length
  · have hv' : Hid (v = 4) := by rw [Hid, ← hv.out, colsE, if_pos h64]
    go_enter Try.func29, Try.ntmps29
    go_wp2
    go_ret
    exact ⟨ret_i hv'.out.symm, Keep.refl _ _⟩
  · have hv' : Hid (v = colsF [] l) := by rw [Hid, ← hv.out, colsE, if_neg h64]
    go_enter Try.func29, Try.ntmps29
    go_wp2
    go_loopw [12] (fun i wr => ∃ (k : Nat) (D : DataW Unit) (seen : List ByteArray), k ≤ l.length ∧ i = .int .i64 k ∧ wr.ownsMap Try.prog 9 (plainElem Try.prog 3) W.heap.size k D ∧ CountIs D seen ∧ Hid (v = colsF seen (l.drop k)) ∧ Keep [] W wr) (fun i _ => l.length - (intOf i).toNat)
    case atStart => exact ⟨0, .map [], [], Nat.zero_le _, rfl, World.ownsMap_made _ _ _ _, countIs_empty, hv', (Keep.refl _ _).alloc _⟩
    case round =>
      obtain ⟨k, D, seen, hk, rfl, hm, hD, HV, hkr⟩ := hrel
      by_cases hlt : k < l.length
      · obtain ⟨b, off, rfl, _, _, c0, c1, c2⟩ := Cols.at3 (h.pure hkr) hlt
        have HV2 := Lib.hid (HV.out.trans (colsF_at l seen k hlt))
        have hsz := ht.out _ (List.getElem_mem hlt)
        generalize l[k] = x at *
        have K := string_keyed Try.underlying9
        obtain ⟨kl, hkey⟩ : ∃ kl, keyOf Try.prog 9 (.string x.name) = some kl := ⟨_, WideMaps.keyOf_string_mk Try.underlying9 hsz⟩
        have hka : Keep [] W (wr.alloc (.cells #[.string x.name, .int .i64 x.typ.toInt, .bool x.null] 56)) := hkr.alloc _
        have hbx : Blk (wr.alloc (.cells #[.string x.name, .int .i64 x.typ.toInt, .bool x.null] 56)) wr.heap.size 56 x.cs := Blk.new wr 56 _
        have hmA := hm.alloc (.cells #[.string x.name, .int .i64 x.typ.toInt, .bool x.null] 56)
        have hmlt := hm.lt
        obtain ⟨q, hrun, hat, hwc⟩ := hmA.lookup_int K Try.underlying86 Try.underlying3 (zeroI64 _) hkey
        have hq : q = (if seenB seen x.name = true then 1 else 0) := by
          rw [hD.2 x.name kl hkey] at hat
          injection hat with hat
          injection hat with _ hat
          exact hat.symm
        have hq2 : 0 ≤ q ∧ q ≤ 1 := by rw [hq]; split <;> omega
        replace hq := Lib.hid hq
        have i0' : (0 : Int) ≤ (k : Int) := by omega
        have i1' : (k : Int) < (l.length : Int) := by omega
        clear hat hwc
        have hval : plainElem (H := Unit) Try.prog 3 (.int .i64 (q + 1)) = some (.lit (.int .i64 (q + 1)), []) := plainElem_int Try.underlying3 (by simp [Lit.wf, IntKind.min, IntKind.max, IntKind.signed, IntKind.bits]; omega)
        go_wp2_with (at_mapUpdate; refine wpList_mapUpdate_own _ rfl _ _ _ 86 rfl 9 3 K Try.underlying86 _ W.heap.size k D rfl hmA (by unfold maxLen; omega) _ _ kl rfl rfl hkey _ [] hval ?_)
        intro WB hmB hgB
        have hbB : Blk WB wr.heap.size 56 x.cs := (hgB.block wr.heap.size hbx.lt (by simp; omega)).trans hbx
        obtain ⟨d0, d1, d2⟩ := colAt hbB
        have hkB : Keep [] W WB := hka.grown hgB (fun g hg => .inr (by simp at hg; omega))
        obtain ⟨q', hrun', hat', hwc'⟩ := hmB.lookup_int K Try.underlying86 Try.underlying3 (zeroI64 _) hkey
        have hq' : q' = q + 1 := by
          rw [atKey_put_same hD.1 (K.key hkey)] at hat'
          injection hat' with hat'
          injection hat' with _ hat'
          exact hat'.symm
        subst hq'
        clear hat' hwc' hrun hbx hmA c0 c1 c2
        by_cases h0 : x.name.size = 0
        · have h0' : x.name.toList.isEmpty = true := by rw [empty_name, decide_eq_true h0]
          have hv1 : Hid (v = 1) := by rw [Hid, HV2.out, if_pos (.inl h0)]
          go_wp2
          go_ret
          exact ⟨ret_i hv1.out.symm, hkB⟩
        · have h0' : x.name.toList.isEmpty = false := by rw [empty_name, decide_eq_false h0]
          by_cases h1 : 100 < x.name.size
          · have hv1 : Hid (v = 1) := by rw [Hid, HV2.out, if_pos (.inr (.inl h1))]
            go_wp2
            go_ret
            exact ⟨ret_i hv1.out.symm, hkB⟩
          · cases hs : seenB seen x.name with
            | true =>
              have hv1 : Hid (v = 1) := by rw [Hid, HV2.out, if_pos (.inr (.inr hs))]
              have hq1 : q = 1 := by have := hq.out; rw [hs] at this; exact this
              have hq3 : 1 < q + 1 := by omega
              clear hs hq1
              go_wp2
              go_ret
              exact ⟨ret_i hv1.out.symm, hkB⟩
            | false =>
              have hc0 : ¬ (x.name.size = 0 ∨ 100 < x.name.size ∨ seenB seen x.name = true) := by
                rw [hs]
                rintro (h | h | h)
                · exact h0 h
                · exact h1 h
                · cases h
              have hq1 : q = 0 := by have := hq.out; rw [hs] at this; exact this
              have hq3 : ¬ (1 < q + 1) := by omega
              by_cases t0 : x.typ.toInt < 0
              · have hv1 : Hid (v = 3) := by rw [Hid, HV2.out, if_neg hc0, if_pos (.inl t0)]
                clear hs hc0 hq1
                go_wp2
                go_ret
                exact ⟨ret_i hv1.out.symm, hkB⟩
              · by_cases t1 : 3 < x.typ.toInt
                · have hv1 : Hid (v = 3) := by rw [Hid, HV2.out, if_neg hc0, if_pos (.inr t1)]
                  clear hs hc0 hq1
                  go_wp2
                  go_ret
                  exact ⟨ret_i hv1.out.symm, hkB⟩
                · have hv1 : Hid (v = colsF (seen ++ [x.name]) (l.drop (k + 1))) := by rw [Hid, HV2.out, if_neg hc0, if_neg (show ¬ (x.typ.toInt < 0 ∨ 3 < x.typ.toInt) by omega)]
                  have hD2 : CountIs (D.put kl (.lit (.int .i64 (q + 1)))) (seen ++ [x.name]) := by rw [hq1]; exact countIs_put hD x.name hkey
                  clear hs hc0 hq1
                  go_wp2
                  go_roundw
                  case rel => exact ⟨k + 1, _, _, by omega, by go_num, hmB, hD2, hv1, hkB⟩
                  case measure => simp [intOf]; omega
      · obtain rfl : k = l.length := by omega
        have hv1 : Hid (v = 0) := by rw [Hid, HV.out, List.drop_length]; rfl
        go_wp2
        go_ret
        exact ⟨ret_i hv1.out.symm, hkr⟩
end Go.Proofs.Ytcpimhefclfbaaa

namespace Go.Proofs.Ytcpimhefclfbaaa
open Go Go.RowKit Go.Maps
set_option maxRecDepth 10000
set_option linter.unusedVariables false
set_option linter.unusedSimpArgs false

def namesTo (l : List Col) (k : Nat) : List ByteArray := (l.take k).map Col.name
theorem namesTo_succ {l : List Col} {k : Nat} (hk : k < l.length) : namesTo l (k + 1) = namesTo l k ++ [l[k].name] := by
  unfold namesTo
  rw [List.take_succ_eq_append_getElem hk, List.map_append]
  rfl
theorem seenB_succ {l : List Col} {k : Nat} (hk : k < l.length) (s : ByteArray) : seenB (namesTo l (k + 1)) s = (seenB (namesTo l k) s || decide (l[k].name = s)) := by
  rw [namesTo_succ hk]
  unfold seenB
  rw [List.any_append]
  simp

set_option maxHeartbeats 4000000 in
theorem cols_ref {X : List Nat} {A : Option Addr} {n c : Nat} {l : List Col} (W : World) (h : Cols X W A n c l) :
    Calls Try.prog 31 #[.slice A n c] W fun e W' => e = .returned (.int .i64 (colsE l)) ∧ Keep [] W W' := by
  have hc := h.cap
  have hnc := h.le
  obtain rfl : l.length = n := h.len
  obtain ⟨v, hv⟩ : ∃ v, Hid (colsE l = v) := ⟨_, rfl⟩
  rw [hv.out]
  by_cases h64 : 64 < l.length
  · have hv' : Hid (v = 4) := by rw [Hid, ← hv.out, colsE, if_pos h64]
    go_enter Try.func31, Try.ntmps31
    go_wp2
    go_ret
    exact ⟨ret_i hv'.out.symm, Keep.refl _ _⟩
  · have hv' : Hid (v = colsF [] l) := by rw [Hid, ← hv.out, colsE, if_neg h64]
    go_enter Try.func31, Try.ntmps31
    go_wp2
    go_loopw [3] (fun i wr => ∃ k : Nat, k ≤ l.length ∧ i = .int .i64 k ∧ Hid (v = colsF (namesTo l k) (l.drop k)) ∧ Keep [] W wr) (fun i _ => l.length - (intOf i).toNat)
    case atStart => exact ⟨0, Nat.zero_le _, rfl, hv', Keep.refl _ _⟩
    case round =>
      obtain ⟨k, hk, rfl, HV, hkr⟩ := hrel
      by_cases hlt : k < l.length
      · obtain ⟨b, off, rfl, _, _, c0, c1, c2⟩ := Cols.at3 (h.pure hkr) hlt
        have HV2 := Lib.hid (HV.out.trans (colsF_at l _ k hlt))
        have HN := Lib.hid (namesTo_succ hlt)
        have hcell : ∀ j (hj : j < l.length) w, Keep [] wr w → w.cell? ⟨b, off + j * 3, none⟩ = some (.string l[j].name) ∧ w.cell? ⟨b, off + j * 3 + 1, none⟩ = some (.int .i64 l[j].typ.toInt) := fun j hj w hw => by
          obtain ⟨b', off', e', _, _, g0, g1, g2⟩ := Cols.at3 (h.pure (hkr.trans hw)) hj
          cases e'
          exact ⟨g0, g1⟩
        replace hcell := Lib.hid hcell
        generalize hx : l[k] = x at *
        have i0' : (0 : Int) ≤ (k : Int) := by omega
        have i1' : (k : Int) < (l.length : Int) := by omega
        have he := empty_name x.name
        obtain ⟨b0, hb0⟩ : ∃ b0 : Bool, Hid (b0 = decide (x.name.size = 0 ∨ 100 < x.name.size)) := ⟨_, rfl⟩
        replace hx := Lib.hid hx
        replace he := Lib.hid he
        replace HV := Lib.hid HV
        go_upto_region 6 with (fail)
        go_cut [4] (fun v wx => v = .bool b0 ∧ wx = wr)
        case first =>
          by_cases h0 : x.name.size = 0
          · have h0' : x.name.toList.isEmpty = true := by rw [he.out, decide_eq_true h0]
            have hb1 : b0 = true := by rw [hb0.out, decide_eq_true (.inl h0)]
            subst hb1
            go_wp2
            go_meet
            exact ⟨rfl, rfl⟩
          · have h0' : x.name.toList.isEmpty = false := by rw [he.out, decide_eq_false h0]
            by_cases h1 : 100 < x.name.size
            · have hb1 : b0 = true := by rw [hb0.out, decide_eq_true (.inr h1)]
              subst hb1
              go_wp2
              go_meet
              exact ⟨congrArg Value.bool (decide_eq_true (by omega)), rfl⟩
            · have hb1 : b0 = false := by rw [hb0.out, decide_eq_false (by rintro (h | h); exact h0 h; exact h1 h)]
              subst hb1
              go_wp2
              go_meet
              exact ⟨congrArg Value.bool (decide_eq_false (by omega)), rfl⟩
        case rest =>
        obtain ⟨rfl, hwc⟩ := hcut
        replace hwc := hwc.symm
        subst hwc
        have hw1 : Hid (v = if b0 = true ∨ seenB (namesTo l k) x.name = true then 1 else if x.typ.toInt < 0 ∨ 3 < x.typ.toInt then 3 else colsF (namesTo l k ++ [x.name]) (l.drop (k + 1))) := by
          rw [Hid, HV2.out, hb0.out]
          congr 1
          simp [or_assoc]
        clear HV2 HV hb0 he
        go_wp2
        go_loopw [4, 5] (fun vb j w => ∃ (q : Nat) (b1 : Bool), q ≤ k ∧ j = .int .i64 q ∧ vb = .bool b1 ∧ Hid (b1 = (b0 || seenB (namesTo l q) x.name)) ∧ Keep [] wr w) (fun _ j _ => k - (intOf j).toNat)
        case atStart => exact ⟨0, b0, Nat.zero_le _, rfl, rfl, by simp [Hid, namesTo, seenB], Keep.refl _ _⟩
        case round =>
          obtain ⟨q, b1, hq, rfl, rfl, hb1, hkq⟩ := hrel
          by_cases hqk : q < k
          · have hql : q < l.length := by omega
            obtain ⟨d0, d1⟩ := hcell.out q hql _ hkq
            obtain ⟨e0, e1⟩ := hcell.out k hlt _ hkq
            have hs := Lib.hid (seenB_succ hql x.name)
            rw [hx.out] at e0
            have iq0 : (0 : Int) ≤ (q : Int) := by omega
            have iq1 : (q : Int) < (l.length : Int) := by omega
            cases b1 with
            | true =>
              go_wp2
              go_quiet (fail)
              go_wp2
              go_roundw
              case rel => exact ⟨q + 1, true, by omega, by go_num, rfl, by rw [Hid, hs.out, ← Bool.or_assoc, ← hb1.out]; rfl, hkq.drewN _⟩
              case measure => simp [intOf]; omega
            | false =>
              generalize l[q] = y at *
              by_cases hey : y.name = x.name
              · have htl : y.name.toList = x.name.toList := by rw [hey]
                have hb2 : Hid (true = (b0 || seenB (namesTo l (q + 1)) x.name)) := by rw [Hid, hs.out, ← Bool.or_assoc, ← hb1.out, decide_eq_true hey]; rfl
                clear hey
                go_wp2
                go_quiet (fail)
                go_wp2
                go_roundw
                case rel => exact ⟨q + 1, true, by omega, by go_num, rfl, hb2, hkq.drewN _⟩
                case measure => simp [intOf]; omega
              · have htl : (y.name.toList == x.name.toList) = false := by rw [beq_eq_false_iff_ne]; exact fun e => hey ((text_eq _ _).1 e)
                have hb2 : Hid (false = (b0 || seenB (namesTo l (q + 1)) x.name)) := by rw [Hid, hs.out, ← Bool.or_assoc, ← hb1.out, decide_eq_false hey]; rfl
                clear hey
                go_wp2
                go_quiet (fail)
                go_wp2
                go_roundw
                case rel => exact ⟨q + 1, false, by omega, by go_num, rfl, hb2, hkq.drewN _⟩
                case measure => simp [intOf]; omega
          · obtain rfl : q = k := by omega
            have hkq' := hkr.trans hkq
            obtain ⟨e0, e1⟩ := hcell.out q hlt _ hkq
            rw [hx.out] at e1
            cases b1 with
            | true =>
              have hv1 : Hid (v = 1) := by
                rw [Hid, hw1.out, if_pos]
                have := hb1.out
                simpa using this.symm
              go_wp2
              go_ret
              exact ⟨ret_i hv1.out.symm, hkq'⟩
            | false =>
              have hc0 : ¬ (b0 = true ∨ seenB (namesTo l q) x.name = true) := by
                have := hb1.out
                simpa using this.symm
              by_cases t0 : x.typ.toInt < 0
              · have hv1 : Hid (v = 3) := by rw [Hid, hw1.out, if_neg hc0, if_pos (.inl t0)]
                clear hc0
                go_wp2
                go_ret
                exact ⟨ret_i hv1.out.symm, hkq'⟩
              · by_cases t1 : 3 < x.typ.toInt
                · have hv1 : Hid (v = 3) := by rw [Hid, hw1.out, if_neg hc0, if_pos (.inr t1)]
                  clear hc0
                  go_wp2
                  go_ret
                  exact ⟨ret_i hv1.out.symm, hkq'⟩
                · have hv1 : Hid (v = colsF (namesTo l (q + 1)) (l.drop (q + 1))) := by rw [Hid, hw1.out, if_neg hc0, if_neg (show ¬ (x.typ.toInt < 0 ∨ 3 < x.typ.toInt) by omega), HN.out]
                  clear hc0
                  go_wp2
                  go_roundw
                  case rel => exact ⟨q + 1, by omega, by go_num, hv1, hkq'⟩
                  case measure => simp [intOf]; omega
      · obtain rfl : k = l.length := by omega
        have hv1 : Hid (v = 0) := by rw [Hid, HV.out, List.drop_length]; rfl
        go_wp2
        go_ret
        exact ⟨ret_i hv1.out.symm, hkr⟩
end Go.Proofs.Ytcpimhefclfbaaa

namespace Go.Proofs.Ytcpimhefclfbaaa
open Go Go.RowKit
set_option maxRecDepth 10000
set_option linter.unusedVariables false
set_option linter.unusedSimpArgs false

theorem colB_len {c : Col} (h : c.name.size ≤ 100) : (colB c).length ≤ 112 := by
  have h1 := putB_len c.name.size
  have h2 := size_toList c.name
  unfold colB
  simp only [List.length_append, List.length_cons, List.length_nil]
  omega
theorem colsB_flat {l : List Col} (h : ∀ c ∈ l, c.name.size ≤ 100) : (l.flatMap colB).length ≤ 112 * l.length := by
  induction l with
  | nil => simp
  | cons c l ih =>
    have h1 := colB_len (h c (by simp))
    have h2 := ih (fun d hd => h d (by simp [hd]))
    rw [List.flatMap_cons, List.length_append, List.length_cons]
    omega
theorem colsB_len (l : List Col) : (colsB l).length ≤ 7200 := by
  unfold colsB
  split
  · rename_i h
    have h1 := colsE_len h
    have h2 := colsB_flat (fun c hc => (colsE_mem h c hc).2.1)
    have h3 := putB_len l.length
    rw [List.length_append]
    omega
  · simp
/-- A row of bytes of the call's own. -/
def OwnU8 (base : Nat) (xs : List UInt8) (_ : List Value) (v : Value) (w : World) : Prop := ∃ B k d, v = .slice B k d ∧ k = xs.length ∧ w.ownsRow base 5 1 (.slice B k d) k (xs.map vU8)
theorem OwnU8.lasts {base : Nat} {xs : List UInt8} : (Slot.spec (OwnU8 base xs)).lasts [] := fun _ _ _ _ ⟨B, k, d, h1, h2, h3⟩ hk => ⟨B, k, d, h1, h2, own_keep h3 hk (by simp)⟩
theorem own_len {w : World} {base k : Nat} {v : Value} {t : TypeId} {xs : List UInt8} (h : w.ownsRow base t 1 v k (xs.map vU8)) : k = xs.length := by have := h.1; simpa using this.symm
theorem OwnU8.of {P : Program} {f : FuncId} {args : Array Value} {w : World} {base : Nat} {xs : List UInt8} (h : Calls P f args w fun e W' => ∃ B k d, e = .returned (.slice B k d) ∧ Keep [] w W' ∧ W'.ownsRow w.heap.size 5 1 (.slice B k d) k (xs.map vU8)) (hb : base ≤ w.heap.size) (ds : List Value) :
    Calls P f args w fun e w' => ∃ v, e = .returned v ∧ Keep [] w w' ∧ OwnU8 base xs ds v w' :=
  h.mono fun e w' ⟨B, k, d, h1, h2, h3⟩ => ⟨_, h1, h2, B, k, d, rfl, own_len h3, own_lower h3 hb⟩

/-- A row of the call's own, and a block of another type. -/
theorem own_blk {w : World} {base : Nat} {e t : TypeId} {size n g : Nat} {v : Value} {xs cs : List Value} (h : w.ownsRow base e size v n xs) (hb : Blk w g t cs) (hne : t ≠ e) : v.ownBlock ≠ some g := by
  rcases h.2 with ⟨rfl, _⟩ | ⟨g', cap', cur', rfl, _, hg', _⟩
  · simp [Value.ownBlock]
  · intro he
    have : g' = g := by simpa [Value.ownBlock] using he
    subst this
    unfold Blk at hb
    rw [hb] at hg'
    injection hg' with hg'
    injection hg' with _ ht
    exact hne ht
set_option maxHeartbeats 4000000 in
theorem schemaPut_prog {X Y : List Nat} {A B : Option Addr} {m c n d : Nat} {b : List UInt8} {l : List Col} (W : World) (h : Bys X W A m c b) (hroom : m ≤ 1000000000) (hl : Cols Y W B n d l) (ht : ∀ x ∈ l, x.name.size ≤ maxLen) :
    Calls Try.prog 22 #[.slice A m c, .slice B n d] W fun e W' => ∃ B k d, e = .returned (.slice B k d) ∧ Keep [] W W' ∧ W'.ownsRow W.heap.size 5 1 (.slice B k d) k ((b ++ colsB l).map vU8) := by
  have hlc := hl.cap
  have hlnc := hl.le
  obtain rfl : l.length = n := hl.len
  have hbl := h.len1
  obtain ⟨i0, hi, hz0, hz1, hz2⟩ := info_parts Try.infoU8
  have C := cols_prog W hl ht
  obtain ⟨v, hv⟩ : ∃ v, Hid (colsB l = v) := ⟨_, rfl⟩
  rw [hv.out]
  by_cases hE : colsE l = 0
  · have hv' : Hid (v = putB l.length ++ l.flatMap colB) := by rw [Hid, ← hv.out, colsB, if_pos hE]
    have hmem := Lib.hid (colsE_mem hE)
    have hlen := colsE_len hE
    rw [hE] at C
    have hpl := putB_len l.length
    have hwl : IntKind.u64.wrap (l.length : Int) = l.length := IntWalk.u64_in _ (by omega)
    replace C := Lib.hid C
    clear hE hv
    go_enter Try.func22, Try.ntmps22
    go_wp2_with fail
    refine C.out.mono ?_
    rintro e w1 ⟨rfl, hk1⟩
    have P := Lib.hid (put_prog l.length w1 (h.pure hk1) (by omega) (by omega))
    go_wp2_with fail
    refine P.out.mono ?_
    rintro e w2 ⟨B2, m2, d2, rfl, hk2, hown2⟩
    have hk12 := hk1.trans hk2
    have ho2 := own_lower hown2 hk1.size
    clear hown2 P C
    go_wp2
    go_loopw [0, 20] (fun s i wr => ∃ (k : Nat) (q : List UInt8), k ≤ l.length ∧ i = .int .i64 k ∧ wr.ownsRow W.heap.size 5 1 s q.length (q.map vU8) ∧ Hid (q = b ++ putB l.length ++ (l.take k).flatMap colB) ∧ q.length ≤ m + 10 + 112 * k ∧ Keep [] W wr) (fun _ i _ => l.length - (intOf i).toNat)
    case atStart =>
      have e2 := own_len ho2
      refine ⟨0, b ++ putB l.length, Nat.zero_le _, rfl, ?_, by simp [Hid], by rw [List.length_append]; omega, hk12⟩
      rw [← e2]
      exact ho2
    case round =>
      obtain ⟨k, q, hk, rfl, hown, hq, hql, hkr⟩ := hrel
      obtain ⟨B3, d3, rfl⟩ := own_form hown
      by_cases hlt : k < l.length
      · obtain ⟨bb, off, rfl, _, _, c0, c1, c2⟩ := Cols.at3 (hl.pure hkr) hlt
        obtain ⟨g1, g2, g3, g4⟩ := hmem.out _ (List.getElem_mem hlt)
        have hst : Hid (q ++ colB l[k] = b ++ putB l.length ++ (l.take (k + 1)).flatMap colB) := by
          rw [Hid, hq.out, List.take_succ_eq_append_getElem hlt, List.flatMap_append]; simp
        have hxl := colB_len g2
        generalize l[k] = x at *
        have hxs := size_toList x.name
        have i0' : (0 : Int) ≤ (k : Int) := by omega
        have i1' : (k : Int) < (l.length : Int) := by omega
        obtain ⟨WA, hWA⟩ : ∃ WA, wr.alloc (.cells #[.string x.name, .int .i64 x.typ.toInt, .bool x.null] 56) = WA := ⟨_, rfl⟩
        have hkA : Keep [] W WA := by rw [← hWA]; exact hkr.alloc _
        have hbA : Blk WA wr.heap.size 56 x.cs := by rw [← hWA]; exact Blk.new wr 56 _
        have hoA : WA.ownsRow W.heap.size 5 1 (.slice B3 q.length d3) q.length (q.map vU8) := by rw [← hWA]; exact hown.alloc _
        have hrA : Bys [] WA B3 q.length d3 q := rd_of_own hoA (by simp)
        have hpx := putB_len x.name.size
        have hszA := hkA.size
        have hwx : IntKind.u64.wrap (x.name.size : Int) = x.name.size := IntWalk.u64_in _ (by omega)
        go_wp2_with fail
        try simp only [hWA]
        clear hWA c0 c1 c2 hown hq
        refine wp_region_ords 8 [] (fun _ _ => True) (List.replicate 8 false) (Slot.val ?_ :: Slot.val ?_ :: Slot.val ?_ :: Slot.val ?_ :: Slot.val ?_ :: Slot.spec (OwnU8 W.heap.size (q ++ putB x.name.size)) :: Slot.val ?_ :: Slot.val ?_ :: []) (by kernel_rfl) rfl rfl (by kernel_rfl) ?_ (fun _ _ _ _ _ => trivial) trivial ?_
        rotate_left 7
        · intro t ht
          simp only [List.mem_cons, List.not_mem_nil, or_false] at ht
          rcases ht with rfl | rfl | rfl | rfl | rfl | rfl | rfl | rfl
          all_goals first | exact trivial | exact SlTo.lasts (by simp) | exact PtrTo.lasts (by simp) | exact RdIs.lasts | exact OwnU8.lasts
        simp only [List.take_succ_cons, List.take_zero, List.drop_succ_cons, List.drop_zero]
        repeat ((first | (refine obls_cons (obl_skip (fun vals => by rfl) ?_) ?_; (exact rfl)) | (refine obls_cons (obl_val (fun vals => by rfl) (fun vals w hw hd => ?_)) ?_; (obtain ⟨x0, x1, x2⟩ := colAt (hbA.keep hw (by simp)); go_simp; exact rfl))); simp only [Slot.put, Slot.chain, Bool.false_eq_true, if_false, if_true, Nat.add_zero, Nat.zero_add, Nat.reduceAdd, Act.put, List.setIfInBounds_toArray, List.set_cons_succ, List.set_cons_zero])
        refine obls_cons (obl_callT (f := ?_) (args := ?_) (fun vals => by rfl) (fun vals w hw hd => ?_) (fun vals w hw hd => ?_)) ?_
        rotate_left 2
        · go_simp; exact rfl
        · exact OwnU8.of (put_prog x.name.size w (hrA.pure hw) (by omega) (by omega)) (by have := hw.size; omega) _
        simp only [Slot.put, Slot.chain, Bool.false_eq_true, if_false, if_true, Nat.add_zero, Nat.zero_add, Nat.reduceAdd, Act.put, List.setIfInBounds_toArray, List.set_cons_succ, List.set_cons_zero]
        repeat ((first | (refine obls_cons (obl_skip (fun vals => by rfl) ?_) ?_; (exact rfl)) | (refine obls_cons (obl_val (fun vals => by rfl) (fun vals w hw hd => ?_)) ?_; (obtain ⟨x0, x1, x2⟩ := colAt (hbA.keep hw (by simp)); go_simp; exact rfl))); simp only [Slot.put, Slot.chain, Bool.false_eq_true, if_false, if_true, Nat.add_zero, Nat.zero_add, Nat.reduceAdd, Act.put, List.setIfInBounds_toArray, List.set_cons_succ, List.set_cons_zero])
        refine obls_nil (fun vals w3 hw _ hall => ?_)
        obtain ⟨B4, m4, d4, e4, hm4, ho4⟩ := hall 5 _ rfl
        simp only [e4]
        have hkw := hkA.trans hw
        have hbw := hbA.keep hw (by simp)
        have hszw := hkw.size
        have hm4' : m4 ≤ 1000001000000 := by rw [List.length_append] at hm4; omega
        obtain ⟨x0, x1, x2⟩ := colAt hbw
        replace hm4 := Lib.hid hm4
        clear hall e4
        go_wp2_with (at_builtin; refine Lib.wpList_append_own_string _ rfl _ _ 28 9 rfl W.heap.size 5 i0 Try.underlying28 Try.underlying9 hi hz0 hz1 hz2 (.slice B4 m4 d4) m4 _ rfl ho4 x.name rfl (by unfold maxLen; omega) (by omega) hszw ?_)
        intro v' w5 hown5 hgr _
        obtain ⟨B5, d5, rfl⟩ := own_form hown5
        have hk5 : Keep [] W w5 := hkw.grown hgr (fun g hg => .inr (own_ge ho4 g hg))
        have hb5 : Blk w5 wr.heap.size 56 x.cs := (hgr.block _ hbw.lt (fun e => own_blk ho4 hbw (by decide) e.symm)).trans hbw
        have hsz5 := hk5.size
        clear hgr ho4 hbw x0 x1 x2
        obtain ⟨x0, x1, x2⟩ := colAt hb5
        have hwt : IntKind.u8.wrap x.typ.toInt = x.typ.toInt := IntWalk.u8_in _ (by omega)
        cases hnl : x.null with
        | true =>
          rw [hnl] at x2
          have hcb : colB x = putB x.name.size ++ x.name.data.toList ++ [byteN x.typ.toInt, 1] := by unfold colB; rw [hnl]; rfl
          have hck : Bys [] (w5.alloc (.cells #[.int .u8 x.typ.toInt, .int .u8 1] 5)) (some ⟨w5.heap.size, 0, none⟩) 2 2 [byteN x.typ.toInt, 1] := (Blk.new w5 5 [.int .u8 x.typ.toInt, .int .u8 1]).rd (by simp) rfl (by omega) (by simp [maxLen]) (by simp only [List.map_cons, List.map_nil, vU8, byteN_is g3 (show x.typ.toInt ≤ 255 by omega)]; rfl)
          go_wp2_with (at_builtin; refine wpList_append_rd rfl _ _ 28 rfl W.heap.size 5 i0 (.int .u8 0) 1 1 Try.underlying28 hi hz0 hz1 hz2 rfl (by omega) (.slice B5 (m4 + x.name.size) d5) (m4 + x.name.size) _ rfl (hown5.alloc _) rfl hck (vU8_one [byteN x.typ.toInt, 1]) (by unfold maxLen; omega) (by omega) (by simp; omega) ?_)
          intro v6 w6 hown6 hgr6
          have hk6 : Keep [] W w6 := (hk5.alloc _).grown hgr6 (fun g hg => .inr (own_ge hown5 g hg))
          go_wp2
          go_roundw
          case rel =>
            refine ⟨k + 1, q ++ colB x, by omega, by go_num, ?_, hst, by rw [List.length_append]; omega, hk6⟩
            have e0 : (q ++ colB x).map vU8 = q.map vU8 ++ ((putB x.name.size).map vU8 ++ (Lib.strCells x.name ++ [vU8 (byteN x.typ.toInt), vU8 1])) := by rw [hcb]; simp only [List.map_append, List.append_assoc, List.map_cons, List.map_nil]; rfl
            rw [← e0] at hown6
            rw [← own_len hown6]
            exact hown6
          case measure => simp [intOf]; omega
        | false =>
          rw [hnl] at x2
          have hcb : colB x = putB x.name.size ++ x.name.data.toList ++ [byteN x.typ.toInt, 0] := by unfold colB; rw [hnl]; rfl
          have hck : Bys [] (w5.alloc (.cells #[.int .u8 x.typ.toInt, .int .u8 0] 5)) (some ⟨w5.heap.size, 0, none⟩) 2 2 [byteN x.typ.toInt, 0] := (Blk.new w5 5 [.int .u8 x.typ.toInt, .int .u8 0]).rd (by simp) rfl (by omega) (by simp [maxLen]) (by simp only [List.map_cons, List.map_nil, vU8, byteN_is g3 (show x.typ.toInt ≤ 255 by omega)]; rfl)
          go_wp2_with (at_builtin; refine wpList_append_rd rfl _ _ 28 rfl W.heap.size 5 i0 (.int .u8 0) 1 1 Try.underlying28 hi hz0 hz1 hz2 rfl (by omega) (.slice B5 (m4 + x.name.size) d5) (m4 + x.name.size) _ rfl (hown5.alloc _) rfl hck (vU8_one [byteN x.typ.toInt, 0]) (by unfold maxLen; omega) (by omega) (by simp; omega) ?_)
          intro v6 w6 hown6 hgr6
          have hk6 : Keep [] W w6 := (hk5.alloc _).grown hgr6 (fun g hg => .inr (own_ge hown5 g hg))
          go_wp2
          go_roundw
          case rel =>
            refine ⟨k + 1, q ++ colB x, by omega, by go_num, ?_, hst, by rw [List.length_append]; omega, hk6⟩
            have e0 : (q ++ colB x).map vU8 = q.map vU8 ++ ((putB x.name.size).map vU8 ++ (Lib.strCells x.name ++ [vU8 (byteN x.typ.toInt), vU8 0])) := by rw [hcb]; simp only [List.map_append, List.append_assoc, List.map_cons, List.map_nil]; rfl
            rw [← e0] at hown6
            rw [← own_len hown6]
            exact hown6
          case measure => simp [intOf]; omega
      · obtain rfl : k = l.length := by omega
        go_wp2
        go_ret
        refine ⟨_, _, _, rfl, hkr, ?_⟩
        have : q = b ++ v := by rw [hq.out, List.take_length, hv'.out, List.append_assoc]
        rw [← this]
        exact hown
  · have hv' : Hid (v = []) := by rw [Hid, ← hv.out, colsB, if_neg hE]
    have hne : (colsE l != 0) = true := by simpa using hE
    replace C := Lib.hid C
    generalize colsE l = ce at *
    go_enter Try.func22, Try.ntmps22
    go_wp2_with fail
    refine C.out.mono ?_
    rintro e w1 ⟨rfl, hk1⟩
    have K := Lib.hid (clone_bytes w1 (h.pure hk1) (by omega))
    go_wp2_with fail
    refine K.out.mono ?_
    rintro e w2 ⟨B2, d2, rfl, hk2, hown2⟩
    go_wp2
    go_ret
    refine ⟨_, _, _, rfl, hk1.trans hk2, ?_⟩
    rw [hv'.out, List.append_nil]
    exact own_lower hown2 hk1.size
set_option maxHeartbeats 4000000 in
theorem schemaPut_ref {X Y : List Nat} {A B : Option Addr} {m c n d : Nat} {b : List UInt8} {l : List Col} (W : World) (h : Bys X W A m c b) (hroom : m ≤ 1000000000) (hl : Cols Y W B n d l) :
    Calls Try.prog 26 #[.slice A m c, .slice B n d] W fun e W' => ∃ B k d, e = .returned (.slice B k d) ∧ Keep [] W W' ∧ W'.ownsRow W.heap.size 5 1 (.slice B k d) k ((b ++ colsB l).map vU8) := by
  have hlc := hl.cap
  have hlnc := hl.le
  obtain rfl : l.length = n := hl.len
  have hbl := h.len1
  have hbc := h.cap
  have hbn := h.le
  obtain ⟨i0, hi, hz0, hz1, hz2⟩ := info_parts Try.infoU8
  obtain ⟨v, hv⟩ : ∃ v, Hid (colsB l = v) := ⟨_, rfl⟩
  rw [hv.out]
  go_enter Try.func26, Try.ntmps26
  go_wp2_with (at_builtin; refine wpList_append_rd rfl _ _ 28 rfl W.heap.size 5 i0 (.int .u8 0) 1 1 Try.underlying28 hi hz0 hz1 hz2 rfl (by omega) _ 0 [] rfl (World.ownsRow_lit W #[] 0 (Nat.le_refl _) (by simp [maxLen]) (by simp)) rfl (h.pure ((Keep.refl [] W).alloc (.cells #[] 5))) (vU8_one b) (by unfold maxLen; omega) (by omega) (by simp) ?_)
  intro v1 w1 hown1 hgr1
  have hk1 : Keep [] W w1 := ((Keep.refl [] W).alloc (.cells #[] 5)).grown hgr1 (fun g hg => .inr (by simp [Value.ownBlock] at hg; omega))
  try simp only [List.nil_append, Nat.zero_add] at hown1
  obtain ⟨B1, d1, rfl⟩ := own_form hown1
  have hr1 : Bys [] w1 B1 m d1 b := rd_of_own hown1 (by simp)
  have C := Lib.hid (cols_ref w1 (hl.pure hk1))
  go_wp2_with fail
  refine C.out.mono ?_
  rintro e w2 ⟨rfl, hk2⟩
  have hk12 := hk1.trans hk2
  have hown2 := own_keep hown1 hk2 (by simp)
  have hr2 := hr1.pure hk2
  clear hown1 hr1 hgr1 C
  by_cases hE : colsE l = 0
  · have hv' : Hid (v = putB l.length ++ l.flatMap colB) := by rw [Hid, ← hv.out, colsB, if_pos hE]
    have hmem := Lib.hid (colsE_mem hE)
    have hlen := colsE_len hE
    rw [hE]
    have hpl := putB_len l.length
    have hwl : IntKind.u64.wrap (l.length : Int) = l.length := IntWalk.u64_in _ (by omega)
    clear hE hv
    have P := Lib.hid (put_ref l.length w2 hr2 (by omega) (by omega))
    go_wp2_with fail
    refine P.out.mono ?_
    rintro e w3 ⟨B2, m2, d2, rfl, hk3, hown3⟩
    have hk13 := hk12.trans hk3
    have ho2 := own_lower hown3 hk12.size
    clear hown3 P hown2 hr2
    go_wp2
    go_loopw [5, 7] (fun s i wr => ∃ (k : Nat) (q : List UInt8), k ≤ l.length ∧ i = .int .i64 k ∧ wr.ownsRow W.heap.size 5 1 s q.length (q.map vU8) ∧ Hid (q = b ++ putB l.length ++ (l.take k).flatMap colB) ∧ q.length ≤ m + 10 + 112 * k ∧ Keep [] W wr) (fun _ i _ => l.length - (intOf i).toNat)
    case atStart =>
      have e2 := own_len ho2
      refine ⟨0, b ++ putB l.length, Nat.zero_le _, rfl, ?_, by simp [Hid], by rw [List.length_append]; omega, hk13⟩
      rw [← e2]
      exact ho2
    case round =>
      obtain ⟨k, q, hk, rfl, hown, hq, hql, hkr⟩ := hrel
      obtain ⟨B3, d3, rfl⟩ := own_form hown
      by_cases hlt : k < l.length
      · obtain ⟨bb, off, rfl, _, _, c0, c1, c2⟩ := Cols.at3 (hl.pure hkr) hlt
        obtain ⟨g1, g2, g3, g4⟩ := hmem.out _ (List.getElem_mem hlt)
        have hst : Hid (q ++ colB l[k] = b ++ putB l.length ++ (l.take (k + 1)).flatMap colB) := by
          rw [Hid, hq.out, List.take_succ_eq_append_getElem hlt, List.flatMap_append]; simp
        have hcell : ∀ w, Keep [] W w → w.cell? ⟨bb, off + k * 3, none⟩ = some (.string l[k].name) ∧ w.cell? ⟨bb, off + k * 3 + 1, none⟩ = some (.int .i64 l[k].typ.toInt) ∧ w.cell? ⟨bb, off + k * 3 + 2, none⟩ = some (.bool l[k].null) := fun w hw => by
          obtain ⟨_, _, e', _, _, h0, h1, h2⟩ := Cols.at3 (hl.pure hw) hlt
          cases e'
          exact ⟨h0, h1, h2⟩
        replace hcell := Lib.hid hcell
        have hxl := colB_len g2
        generalize l[k] = x at *
        have hxs := size_toList x.name
        have i0' : (0 : Int) ≤ (k : Int) := by omega
        have i1' : (k : Int) < (l.length : Int) := by omega
        have hrA : Bys [] wr B3 q.length d3 q := rd_of_own hown (by simp)
        have hpx := putB_len x.name.size
        have hszA := hkr.size
        have hwx : IntKind.u64.wrap (x.name.size : Int) = x.name.size := IntWalk.u64_in _ (by omega)
        have P := Lib.hid (put_ref x.name.size wr hrA (by omega) (by omega))
        clear hq hrA
        go_wp2_with fail
        refine P.out.mono ?_
        rintro e w4 ⟨B4, m4, d4, rfl, hk4, ho4⟩
        have hm4 := own_len ho4
        have hm4' : m4 ≤ 1000001000000 := by rw [List.length_append] at hm4; omega
        have hkw := hkr.trans hk4
        have ho4' := own_lower ho4 hszA
        have hszw := hkw.size
        replace hm4 := Lib.hid hm4
        obtain ⟨x0, x1, x2⟩ := hcell.out w4 hkw
        clear ho4 P hown
        go_wp2_with (at_builtin; refine Lib.wpList_append_own_string _ rfl _ _ 28 9 rfl W.heap.size 5 i0 Try.underlying28 Try.underlying9 hi hz0 hz1 hz2 (.slice B4 m4 d4) m4 _ rfl ho4' x.name rfl (by unfold maxLen; omega) (by omega) hszw ?_)
        intro v' w5 hown5 hgr _
        obtain ⟨B5, d5, rfl⟩ := own_form hown5
        have hk5 : Keep [] W w5 := hkw.grown hgr (fun g hg => .inr (own_ge ho4' g hg))
        have hsz5 := hk5.size
        clear hgr ho4' x0 x1 x2
        obtain ⟨x0, x1, x2⟩ := hcell.out w5 hk5
        have hwt : IntKind.u8.wrap x.typ.toInt = x.typ.toInt := IntWalk.u8_in _ (by omega)
        have hck : Bys [] (w5.alloc (.cells #[.int .u8 x.typ.toInt] 5)) (some ⟨w5.heap.size, 0, none⟩) 1 1 [byteN x.typ.toInt] := (Blk.new w5 5 [.int .u8 x.typ.toInt]).rd (by simp) rfl (by omega) (by simp [maxLen]) (by simp only [List.map_cons, List.map_nil, vU8, byteN_is g3 (show x.typ.toInt ≤ 255 by omega)]; rfl)
        go_wp2_with (at_builtin; refine wpList_append_rd rfl _ _ 28 rfl W.heap.size 5 i0 (.int .u8 0) 1 1 Try.underlying28 hi hz0 hz1 hz2 rfl (by omega) (.slice B5 (m4 + x.name.size) d5) (m4 + x.name.size) _ rfl (hown5.alloc _) rfl hck (vU8_one [byteN x.typ.toInt]) (by unfold maxLen; omega) (by omega) (by simp; omega) ?_)
        intro v6 w6 hown6 hgr6
        obtain ⟨B6, d6, rfl⟩ := own_form hown6
        have hk6 : Keep [] W w6 := (hk5.alloc _).grown hgr6 (fun g hg => .inr (own_ge hown5 g hg))
        have hsz6 := hk6.size
        clear hck hown5 hgr6 x0 x1 x2
        obtain ⟨x0, x1, x2⟩ := hcell.out w6 hk6
        cases hnl : x.null with
        | true =>
          rw [hnl] at x2
          have hcb : colB x = putB x.name.size ++ x.name.data.toList ++ [byteN x.typ.toInt, 1] := by unfold colB; rw [hnl]; rfl
          have hck : Bys [] (w6.alloc (.cells #[.int .u8 1] 5)) (some ⟨w6.heap.size, 0, none⟩) 1 1 [1] := (Blk.new w6 5 [.int .u8 1]).rd (by simp) rfl (by omega) (by simp [maxLen]) rfl
          go_wp2_with (at_builtin; refine wpList_append_rd rfl _ _ 28 rfl W.heap.size 5 i0 (.int .u8 0) 1 1 Try.underlying28 hi hz0 hz1 hz2 rfl (by omega) (.slice B6 (m4 + x.name.size + 1) d6) (m4 + x.name.size + 1) _ rfl (hown6.alloc _) rfl hck (vU8_one [1]) (by unfold maxLen; omega) (by omega) (by simp; omega) ?_)
          intro v7 w7 hown7 hgr7
          have hk7 : Keep [] W w7 := (hk6.alloc _).grown hgr7 (fun g hg => .inr (own_ge hown6 g hg))
          go_wp2
          go_roundw
          case rel =>
            refine ⟨k + 1, q ++ colB x, by omega, by go_num, ?_, hst, by rw [List.length_append]; omega, hk7⟩
            have e0 : (q ++ colB x).map vU8 = q.map vU8 ++ ((putB x.name.size).map vU8 ++ (Lib.strCells x.name ++ [vU8 (byteN x.typ.toInt), vU8 1])) := by rw [hcb]; simp only [List.map_append, List.append_assoc, List.map_cons, List.map_nil]; rfl
            rw [← e0] at hown7
            rw [← own_len hown7]
            exact hown7
          case measure => simp [intOf]; omega
        | false =>
          rw [hnl] at x2
          have hcb : colB x = putB x.name.size ++ x.name.data.toList ++ [byteN x.typ.toInt, 0] := by unfold colB; rw [hnl]; rfl
          have hck : Bys [] (w6.alloc (.cells #[.int .u8 0] 5)) (some ⟨w6.heap.size, 0, none⟩) 1 1 [0] := (Blk.new w6 5 [.int .u8 0]).rd (by simp) rfl (by omega) (by simp [maxLen]) rfl
          go_wp2_with (at_builtin; refine wpList_append_rd rfl _ _ 28 rfl W.heap.size 5 i0 (.int .u8 0) 1 1 Try.underlying28 hi hz0 hz1 hz2 rfl (by omega) (.slice B6 (m4 + x.name.size + 1) d6) (m4 + x.name.size + 1) _ rfl (hown6.alloc _) rfl hck (vU8_one [0]) (by unfold maxLen; omega) (by omega) (by simp; omega) ?_)
          intro v7 w7 hown7 hgr7
          have hk7 : Keep [] W w7 := (hk6.alloc _).grown hgr7 (fun g hg => .inr (own_ge hown6 g hg))
          go_wp2
          go_roundw
          case rel =>
            refine ⟨k + 1, q ++ colB x, by omega, by go_num, ?_, hst, by rw [List.length_append]; omega, hk7⟩
            have e0 : (q ++ colB x).map vU8 = q.map vU8 ++ ((putB x.name.size).map vU8 ++ (Lib.strCells x.name ++ [vU8 (byteN x.typ.toInt), vU8 0])) := by rw [hcb]; simp only [List.map_append, List.append_assoc, List.map_cons, List.map_nil]; rfl
            rw [← e0] at hown7
            rw [← own_len hown7]
            exact hown7
          case measure => simp [intOf]; omega
      · obtain rfl : k = l.length := by omega
        go_wp2
        go_ret
        refine ⟨_, _, _, rfl, hkr, ?_⟩
        have : q = b ++ v := by rw [hq.out, List.take_length, hv'.out, List.append_assoc]
        rw [← this]
        exact hown
  · have hv' : Hid (v = []) := by rw [Hid, ← hv.out, colsB, if_neg hE]
    have hne : (colsE l != 0) = true := by simpa using hE
    generalize colsE l = ce at *
    go_wp2
    go_ret
    refine ⟨_, _, _, rfl, hk12, ?_⟩
    rw [hv'.out, List.append_nil]
    exact hown2
end Go.Proofs.Ytcpimhefclfbaaa

namespace Go.Proofs.Ytcpimhefclfbaaa
open Go Go.RowKit
set_option maxRecDepth 10000
set_option linter.unusedVariables false
set_option linter.unusedSimpArgs false

theorem putS_len (typ : Int) (s : St) : (putS typ s).length ≤ 140021 := by
  unfold putS
  have h1 := putB_len (uN s.nulls.toInt)
  split
  · split
    · have h2 := putB_len (encB typ [s.min, s.max]).length
      have h3 := encB2_len typ s.min s.max
      simp only [List.length_append, List.length_cons, List.length_nil]
      omega
    · simp only [List.length_append, List.length_cons, List.length_nil]
      omega
  · simp
theorem nB_len (x : Int64) : (nB x).length ≤ 10 := (putB_len _).2
theorem pgB_len (c : Col) (p : Pg) : (pgB c p).length ≤ 140041 := by
  have h1 := nB_len p.size
  have h2 := nB_len p.rows
  have h3 := putS_len c.typ.toInt p.stat
  unfold pgB
  simp only [List.length_append]
  omega
theorem pgsB_len (c : Col) : ∀ l : List Pg, (l.flatMap (pgB c)).length ≤ 140041 * l.length
  | [] => by simp
  | p :: l => by
    have h1 := pgB_len c p
    have h2 := pgsB_len c l
    rw [List.flatMap_cons, List.length_append, List.length_cons]
    omega
theorem chB_len (x : Col × List Pg) : (chB x).length ≤ 10 + 140041 * x.2.length := by
  have h1 := putB_len x.2.length
  have h2 := pgsB_len x.1 x.2
  unfold chB
  rw [List.length_append]
  omega
theorem chsB_len {R : Nat} : ∀ l : List (Col × List Pg), (∀ x ∈ l, x.2.length ≤ R) → (l.flatMap chB).length ≤ (10 + 140041 * R) * l.length
  | [], _ => by simp
  | x :: l, h => by
    have h1 := chB_len x
    have h2 := chsB_len l (fun y hy => h y (by simp [hy]))
    have h3 := h x (by simp)
    rw [List.flatMap_cons, List.length_append, List.length_cons, Nat.mul_succ]
    omega
theorem grB_len {cols : List Col} {g : Grp} (hc : cols.length ≤ 64) (h0 : 1 ≤ g.rows.toInt) (h1 : g.rows.toInt ≤ 65536) (h : chunksOk g.rows.toInt cols g.chunks) : ((grB cols g).length : Int) ≤ 9000000 * g.rows.toInt := by
  have hf := chunksOk_few h h1
  have hl : ∀ x ∈ cols.zip g.chunks, x.2.length ≤ g.rows.toInt.toNat := fun x hx => by
    obtain ⟨e1, e2⟩ := h.2 x hx
    have := sumZ_len (f := pgR) x.2 (fun p hp => (pageOk_is (e1 p hp)).1)
    omega
  have h2 := chsB_len _ hl
  have h3 := nB_len g.rows
  have h4 : (cols.zip g.chunks).length ≤ 64 := by simp; omega
  have h5 : (10 + 140041 * g.rows.toInt.toNat) * (cols.zip g.chunks).length ≤ (10 + 140041 * g.rows.toInt.toNat) * 64 := Nat.mul_le_mul_left _ h4
  unfold grB
  rw [List.length_append]
  omega
theorem grsB_len {cols : List Col} (hc : cols.length ≤ 64) : ∀ l : List Grp, (∀ g ∈ l, 1 ≤ g.rows.toInt ∧ g.rows.toInt ≤ 65536 ∧ chunksOk g.rows.toInt cols g.chunks) → ((l.flatMap (grB cols)).length : Int) ≤ 9000000 * sumZ grR l
  | [], _ => by simp [sumZ]
  | g :: l, h => by
    obtain ⟨h1, h2, h3⟩ := h g (by simp)
    have h4 := grB_len hc h1 h2 h3
    have h5 := grsB_len hc l (fun x hx => h x (by simp [hx]))
    rw [List.flatMap_cons, List.length_append, sumZ]
    unfold grR at *
    omega
theorem ftrB_len {f : Ftr} (h : rightF f = true) : (ftrB f).length ≤ 600000000000 := by
  obtain ⟨h1, h2, h3, h4, h5, h6⟩ := rightF_is h
  have hl := colsE_len h1
  have e1 := colsB_len f.cols
  have e2 := nB_len f.rows
  have e3 := putB_len f.groups.length
  have e4 := grsB_len hl f.groups (fun g hg => by
    obtain ⟨g1, g2⟩ := h4 g hg
    have := grR_le (fun g hg => (h4 g hg).1) g hg
    exact ⟨g1, by omega, g2⟩)
  unfold ftrB
  simp only [List.length_append]
  rw [h5] at e4
  omega
end Go.Proofs.Ytcpimhefclfbaaa
