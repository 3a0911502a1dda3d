/-
  Spans of rows, as plain laws: no program here.
  Columns, pages and spans are compared.
  Two footers are compared: hypostyleref19.Same.
-/
import Derived.Test.YtcpimhefclfbaaaFA
import Derived.Test.YtcpimhefclfbaaaFFA
import Derived.Test.YtcpimhefclfbaaaFSta
import Derived.Test.YtcpimhefclfbaaaFFC
namespace Go.Proofs.Ytcpimhefclfbaaa
open Go Go.RowKit
set_option maxRecDepth 10000
set_option linter.unusedVariables false
set_option linter.unusedSimpArgs false

/-- Spans from a place on. -/
def cutF : Nat → Int → Int → Int → List (Int × Int)
  | 0, _, _, _ => []
  | f + 1, a, t, s => if a < t then (a, a + min s (t - a)) :: cutF f (a + min s (t - a)) t s else []
theorem cutF_fuel {t s : Int} (hs : 1 ≤ s) : ∀ (f g : Nat) (a : Int), (t - a).toNat ≤ f → (t - a).toNat ≤ g → cutF f a t s = cutF g a t s
  | 0, 0, _, _, _ => rfl
  | 0, g + 1, a, h, _ => by
    rw [cutF, cutF, if_neg (by omega)]
  | f + 1, 0, a, _, h => by
    rw [cutF, cutF, if_neg (by omega)]
  | f + 1, g + 1, a, h1, h2 => by
    rw [cutF, cutF]
    by_cases h : a < t
    · rw [if_pos h, if_pos h, cutF_fuel hs f g _ (by omega) (by omega)]
    · rw [if_neg h, if_neg h]
def cutR (a t s : Int) : List (Int × Int) := cutF (t - a).toNat a t s
theorem cutR_step {a t s : Int} (hs : 1 ≤ s) (h : a < t) : cutR a t s = (a, a + min s (t - a)) :: cutR (a + min s (t - a)) t s := by
  unfold cutR
  obtain ⟨f, hf⟩ : ∃ f, (t - a).toNat = f + 1 := ⟨(t - a).toNat - 1, by omega⟩
  rw [hf, cutF, if_pos h, cutF_fuel hs f _ _ (by omega) (Nat.le_refl _)]
theorem cutR_end {a t s : Int} (h : ¬ a < t) : cutR a t s = [] := by
  unfold cutR
  rw [show (t - a).toNat = 0 from by omega]
  rfl
/-- The spans of rows. -/
def cutL (a t s : Int) : List (Int × Int) := if a < 0 ∨ 65536 < t ∨ s < 1 then [] else cutR a t s
theorem cutR_len {t s : Int} (hs : 1 ≤ s) : ∀ (n : Nat) (a : Int), (t - a).toNat ≤ n → (cutR a t s).length ≤ (t - a).toNat
  | 0, a, h => by rw [cutR_end (by omega)]; simp
  | n + 1, a, h => by
    by_cases hl : a < t
    · rw [cutR_step hs hl]
      have := cutR_len (t := t) hs n (a + min s (t - a)) (by omega)
      simp
      omega
    · rw [cutR_end hl]; simp
theorem cutL_len (a t s : Int) : (cutL a t s).length ≤ 65536 := by
  unfold cutL
  split
  · simp
  · have := cutR_len (t := t) (s := s) (by omega) _ a (Nat.le_refl _)
    omega

/-- What is told of spans: one behind the other, all of one size but the last one. -/
def CutOk (t s : Int) : Int → List (Int × Int) → Prop
  | a, [] => t ≤ a
  | a, (x, y) :: r => x = a ∧ a < y ∧ y - a ≤ s ∧ y ≤ t ∧ (r ≠ [] → y - a = s) ∧ (r = [] → y = t) ∧ CutOk t s y r
theorem cutR_ok {t s : Int} (hs : 1 ≤ s) : ∀ (n : Nat) (a : Int), (t - a).toNat ≤ n → CutOk t s a (cutR a t s)
  | 0, a, h => by rw [cutR_end (by omega)]; simp only [CutOk]; omega
  | n + 1, a, h => by
    by_cases hl : a < t
    · rw [cutR_step hs hl]
      have ih := cutR_ok (t := t) hs n (a + min s (t - a)) (by omega)
      simp only [CutOk]
      refine ⟨trivial, by omega, by omega, by omega, fun hr => ?_, fun hr => ?_, ih⟩
      · by_cases h2 : a + min s (t - a) < t
        · omega
        · exact absurd (cutR_end h2) hr
      · by_cases h2 : a + min s (t - a) < t
        · rw [cutR_step hs h2] at hr
          cases hr
        · omega
    · rw [cutR_end hl]; simp only [CutOk]; omega
/-- Spans cut at a multiple. -/
theorem cutR_app {s t : Int} (hs : 1 ≤ s) : ∀ (n : Nat) (a : Int), a + n * s ≤ t → cutR a t s = cutR a (a + n * s) s ++ cutR (a + n * s) t s
  | 0, a, h => by
    rw [show a + ((0 : Nat) : Int) * s = a from by simp, cutR_end (t := a) (by omega)]
    rfl
  | n + 1, a, h => by
    have e : a + ((n + 1 : Nat) : Int) * s = (a + s) + (n : Int) * s := by
      rw [Int.natCast_add, Int.add_mul]
      simp
      omega
    have hn : 0 ≤ (n : Int) * s := Int.mul_nonneg (by omega) (by omega)
    rw [e] at h ⊢
    generalize hq : (n : Int) * s = q at *
    have e1 : a + min s (t - a) = a + s := by omega
    have e2 : a + min s (a + s + q - a) = a + s := by omega
    rw [cutR_step hs (show a < t by omega), cutR_step hs (show a < a + s + q by omega), e1, e2]
    have ih := cutR_app hs n (a + s) (by rw [hq]; omega)
    rw [hq] at ih
    rw [ih]
    rfl

/-- Is a span over rows? -/
def ovr (x y : Int) (p : Int × Int) : Bool := decide (p.1 < y) && (decide (x < p.2) && decide (x < y))
/-- The first span over rows, and behind the last one. -/
def overL (l : List (Int × Int)) (x y : Int) : Nat × Nat := match l.findIdx? (ovr x y) with
  | none => (0, 0)
  | some k => match (l.drop k).findIdx? (fun p => !(ovr x y p)) with
    | none => (k, l.length)
    | some n => (k, k + n)
/-- Spans in order. -/
def Asc (l : List (Int × Int)) : Prop := ∀ i j (hi : i < l.length) (hj : j < l.length), i ≤ j → l[i].1 ≤ l[j].1 ∧ l[i].2 ≤ l[j].2
theorem over_is {l : List (Int × Int)} (h : Asc l) (x y : Int) : ∃ a b, overL l x y = (a, b) ∧ a ≤ b ∧ b ≤ l.length ∧ (a < b ∨ (a = 0 ∧ b = 0)) ∧ ∀ i (hi : i < l.length), ovr x y l[i] = decide (a ≤ i ∧ i < b) := by
  cases h1 : l.findIdx? (ovr x y) with
  | none =>
    refine ⟨0, 0, by unfold overL; rw [h1], Nat.le_refl _, Nat.zero_le _, .inr ⟨rfl, rfl⟩, ?_⟩
    rw [List.findIdx?_eq_none_iff] at h1
    exact fun i hi => by rw [h1 _ (List.getElem_mem hi)]; simp
  | some k =>
    obtain ⟨hk, hp, hno⟩ := List.findIdx?_eq_some_iff_getElem.1 h1
    cases h2 : (l.drop k).findIdx? (fun p => !(ovr x y p)) with
    | none =>
      refine ⟨k, l.length, by unfold overL; rw [h1]; simp only [h2], by omega, Nat.le_refl _, .inl hk, fun i hi => ?_⟩
      rw [List.findIdx?_eq_none_iff] at h2
      by_cases hik : i < k
      · rw [decide_eq_false (by omega)]
        simpa using hno i hik
      · rw [decide_eq_true (by omega)]
        have hm : l[i] ∈ l.drop k := by
          rw [List.mem_drop_iff_getElem]
          exact ⟨i - k, by omega, by congr 1; omega⟩
        simpa using h2 _ hm
    | some n =>
      obtain ⟨hn, hq, hyes⟩ := List.findIdx?_eq_some_iff_getElem.1 h2
      rw [List.length_drop] at hn
      simp only [List.getElem_drop, Bool.not_eq_true'] at hq hyes
      have hn0 : 0 < n := by
        rcases Nat.eq_zero_or_pos n with rfl | h0
        · simp only [Nat.add_zero] at hq
          rw [hq] at hp
          cases hp
        · exact h0
      refine ⟨k, k + n, by unfold overL; rw [h1]; simp only [h2], by omega, by omega, .inl (by omega), fun i hi => ?_⟩
      by_cases hik : i < k
      · rw [decide_eq_false (by omega)]
        simpa using hno i hik
      · by_cases hin : i < k + n
        · rw [decide_eq_true (by omega)]
          have := hyes (i - k) (by omega)
          simp only [show k + (i - k) = i from by omega] at this
          simpa using this
        · rw [decide_eq_false (by omega)]
          have hm := (h k i (by omega) hi (by omega))
          have hm2 := (h (k + n) i (by omega) hi (by omega))
          have hm3 := (h k (k + n) (by omega) (by omega) (by omega))
          unfold ovr at hp hq ⊢
          simp only [Bool.and_eq_true, decide_eq_true_eq] at hp
          simp only [Bool.and_eq_false_iff, decide_eq_false_iff_not] at hq ⊢
          omega
theorem over_has {l : List (Int × Int)} (h : Asc l) (x y : Int) : (overL l x y).1 ≤ (overL l x y).2 ∧ (overL l x y).2 ≤ l.length ∧ ((overL l x y).1 < (overL l x y).2 ∨ ((overL l x y).1 = 0 ∧ (overL l x y).2 = 0)) ∧
    ∀ i (hi : i < l.length), ovr x y l[i] = decide ((overL l x y).1 ≤ i ∧ i < (overL l x y).2) := by
  obtain ⟨a, b, e, h1, h2, h3, h4⟩ := over_is h x y
  rw [e]
  exact ⟨h1, h2, h3, h4⟩
theorem countP_range {α : Type} (p : α → Bool) (a b : Nat) : ∀ (l : List α), a ≤ b → b ≤ l.length → (∀ i (hi : i < l.length), p l[i] = decide (a ≤ i ∧ i < b)) → l.countP p = b - a := by
  intro l hab hbl h
  have e : l = l.take a ++ ((l.drop a).take (b - a) ++ l.drop b) := by
    rw [show l.drop b = (l.drop a).drop (b - a) from by rw [List.drop_drop]; congr 1; omega, List.take_append_drop, List.take_append_drop]
  rw [e, List.countP_append, List.countP_append]
  have h1 : (l.take a).countP p = 0 := by
    rw [List.countP_eq_zero]
    intro x hx
    obtain ⟨i, hi, rfl⟩ := List.mem_take_iff_getElem.1 hx
    rw [h i (by omega), decide_eq_false (by omega)]
    simp
  have h3 : (l.drop b).countP p = 0 := by
    rw [List.countP_eq_zero]
    intro x hx
    obtain ⟨i, hi, rfl⟩ := List.mem_drop_iff_getElem.1 hx
    rw [h (b + i) (by omega), decide_eq_false (by omega)]
    simp
  have h2 : ((l.drop a).take (b - a)).countP p = b - a := by
    have hl : ((l.drop a).take (b - a)).length = b - a := by rw [List.length_take, List.length_drop]; omega
    refine (List.countP_eq_length.2 ?_).trans hl
    intro x hx
    obtain ⟨i, hi, rfl⟩ := List.mem_take_iff_getElem.1 hx
    rw [List.getElem_drop, h (a + i) (by simp at hi; omega), decide_eq_true (by simp at hi; omega)]
  omega
theorem over_count {l : List (Int × Int)} (h : Asc l) (x y : Int) : l.countP (ovr x y) = (overL l x y).2 - (overL l x y).1 := by
  obtain ⟨h1, h2, _, h4⟩ := over_has h x y
  exact countP_range _ _ _ l h1 h2 h4
end Go.Proofs.Ytcpimhefclfbaaa

namespace Go.Proofs.Ytcpimhefclfbaaa
open Go Go.RowKit
set_option maxRecDepth 10000
set_option linter.unusedVariables false
set_option linter.unusedSimpArgs false

theorem equal_col (d : Nat) (s t : ByteArray) (i j : Int) (a b : Bool) (w : World) : (Op.equalIn (d + 3) 56 (.agg #[.string s, .int .i64 i, .bool a]) (.agg #[.string t, .int .i64 j, .bool b])).run Try.prog w =
    .ok (decide (s = t) && (i == j && a == b)) w := by
  have hu : Try.prog.underlying 56 = some (.struct (Try.prog.fieldsOf 56)) := by kernel_rfl
  rw [run_equalIn_agg w (d + 2) _ _ _ hu Try.stoodInHeld56]
  simp only [Program.fieldsOf, Try.underlying56]
  go_simp
  simp only [text_eq]
  by_cases h1 : a = b <;> by_cases h2 : i = j <;> by_cases h3 : s = t <;> simp [h1, h2, h3]
theorem neq_col (x y : Col) (w : World) : (binOp .neq 56 (colV3 x) (colV3 y)).run Try.prog w = .ok (.bool (decide (x ≠ y))) w := by
  rw [colV3, colV3, run_neq_struct, show (10000 : Nat) = 9997 + 3 from rfl, equal_col]
  by_cases h : x = y
  · subst h; simp
  · rw [decide_eq_true h]
    apply congrArg (fun z => Result.ok (Value.bool z) w)
    apply Classical.byContradiction
    intro hc
    simp at hc
    exact h (by cases x; cases y; simp_all [Int64.toInt_inj])
theorem equal_pg (d : Nat) (p q : Pg) (w : World) : (Op.equalIn (d + 5) 54 (pgVal p) (pgVal q)).run Try.prog w =
    .ok (p.size.toInt == q.size.toInt && (p.rows.toInt == q.rows.toInt && decide (p.stat = q.stat))) w := by
  have hu : Try.prog.underlying 54 = some (.struct (Try.prog.fieldsOf 54)) := by kernel_rfl
  have e1 := equal_st d p.stat q.stat w
  rw [same_st] at e1
  rw [pgVal, pgVal, run_equalIn_agg w (d + 4) _ _ _ hu Try.stoodInHeld54]
  simp only [Program.fieldsOf, Try.underlying54]
  go_simp
  rw [← same_st, ← same_cell, ← same_cell]
  simp only [text_eq]
  clear e1 hu
  have key : ∀ (c : Prop) [Decidable c] (b : Bool), (if c then (Result.ok b w : Result Bool) else Result.ok false w) = Result.ok (decide c && b) w := fun c _ b => by by_cases h : c <;> simp [h]
  simp only [key]
  have hi : ∀ a b : Int, (a == b) = decide (a = b) := fun a b => by rw [Bool.eq_iff_iff]; simp
  have hb : ∀ a b : Bool, (a == b) = decide (a = b) := fun a b => by rw [Bool.eq_iff_iff]; simp
  simp only [hi, hb, Bool.and_assoc, Bool.and_true]
theorem neq_pg (p q : Pg) (w : World) : (binOp .neq 54 (pgVal p) (pgVal q)).run Try.prog w = .ok (.bool (decide (p ≠ q))) w := by
  rw [pgVal, pgVal, run_neq_struct, show (10000 : Nat) = 9995 + 5 from rfl, ← pgVal, ← pgVal, equal_pg]
  by_cases h : p = q
  · subst h; simp
  · rw [decide_eq_true h]
    apply congrArg (fun z => Result.ok (Value.bool z) w)
    apply Classical.byContradiction
    intro hc
    simp at hc
    exact h (by cases p; cases q; simp_all [Int64.toInt_inj])

set_option maxHeartbeats 1000000 in
theorem schema_ref {X Y : List Nat} {A B : Option Addr} {n c m d : Nat} {l r : List Col} (W : World) (h : Cols X W A n c l) (h' : Cols Y W B m d r) :
    Calls Try.prog 43 #[.slice A n c, .slice B m d] W fun e W' => e = .returned (.bool (decide (l = r))) ∧ Keep [] W W' := by
  have hn := h.len
  have hc := h.cap
  have hnc := h.le
  have hn' := h'.len
  have hc' := h'.cap
  have hnc' := h'.le
  obtain rfl := hn
  obtain rfl := hn'
  have HP : ∃ v : Bool, Hid (v = decide (l = r)) := ⟨_, rfl⟩
  obtain ⟨v, HP⟩ := HP
  rw [← HP.out]
  by_cases hne : l.length = r.length
  · have hne' : ((l.length : Int) != (r.length : Int)) = false := by simp [hne]
    have hle : l.length ≤ r.length ∧ r.length ≤ l.length := by omega
    have HL := Lib.hid hne
    clear hne
    go_enter Try.func43, Try.ntmps43
    go_wp2
    go_loopw [5] (fun i w => ∃ k : Nat, k ≤ l.length ∧ i = .int .i64 k ∧ Hid (l.take k = r.take k) ∧ Keep [] W w) (fun i _ => l.length - (intOf i).toNat)
    case atStart => exact ⟨0, by omega, rfl, rfl, Keep.refl _ _⟩
    case round =>
      rename_i wr
      obtain ⟨k, hk, rfl, HE, hkeep⟩ := hrel
      by_cases hlt : k < l.length
      · have hlt' : k < r.length := by omega
        obtain ⟨b, off, rfl, hb1, hb2, hc0, hc1, hc2⟩ := Cols.at3 (h.pure hkeep) hlt
        obtain ⟨b', off', rfl, hb1', hb2', hd0, hd1, hd2⟩ := Cols.at3 (h'.pure hkeep) hlt'
        by_cases heq : l[k] = r[k]
        · have hneq : ∀ w, (binOp .neq 56 (colV3 l[k]) (colV3 r[k])).run Try.prog w = .ok (.bool false) w := fun w => by rw [neq_col]; simp [heq]
          have HE2 : Hid (l.take (k + 1) = r.take (k + 1)) := by
            unfold Hid
            rw [List.take_succ_eq_append_getElem hlt, List.take_succ_eq_append_getElem (by omega), HE.out, heq]
          clear heq
          go_wp2
          go_quiet (fail)
          go_wp2
          go_roundw
          case rel => exact ⟨k + 1, by omega, by go_num, HE2, hkeep.drewN _⟩
          case measure => simp [intOf]; omega
        · have hneq : ∀ w, (binOp .neq 56 (colV3 l[k]) (colV3 r[k])).run Try.prog w = .ok (.bool true) w := fun w => by rw [neq_col]; simp [heq]
          have hv : Hid (v = false) := by
            rw [Hid, HP.out]
            exact decide_eq_false (fun h => heq (by subst h; rfl))
          clear heq
          go_wp2
          go_quiet (fail)
          go_wp2
          go_ret
          exact ⟨ret_b hv.out.symm, hkeep.drewN _⟩
      · have hv : Hid (v = true) := by
          rw [Hid, HP.out]
          refine decide_eq_true ?_
          have := HE.out
          rwa [List.take_of_length_le (by omega), List.take_of_length_le (by omega)] at this
        go_wp2
        go_ret
        exact ⟨ret_b hv.out.symm, hkeep⟩
  · have hv : Hid (v = false) := by
      rw [Hid, HP.out]
      exact decide_eq_false (fun h => hne (by rw [h]))
    have hne' : ((l.length : Int) != (r.length : Int)) = true := by rw [bne_iff_ne]; omega
    clear hne
    go_enter Try.func43, Try.ntmps43
    go_wp2
    go_ret
    exact ⟨ret_b hv.out.symm, Keep.refl _ _⟩
end Go.Proofs.Ytcpimhefclfbaaa

namespace Go.Proofs.Ytcpimhefclfbaaa
open Go Go.RowKit
set_option maxRecDepth 10000
set_option linter.unusedVariables false
set_option linter.unusedSimpArgs false

theorem ftr_eq {f g : Ftr} (h1 : f.rows.toInt = g.rows.toInt) (h2 : f.cols = g.cols) (h3 : f.groups = g.groups) : f = g := by
  cases f; cases g; simp_all [Int64.toInt_inj]
theorem grp_eq {f g : Grp} (h1 : f.rows.toInt = g.rows.toInt) (h3 : f.chunks = g.chunks) : f = g := by
  cases f; cases g; simp_all [Int64.toInt_inj]
theorem take_eq {α : Type} {l r : List α} {k : Nat} (hl : k < l.length) (hr : k < r.length) (h : l.take k = r.take k) (he : l[k] = r[k]) : l.take (k + 1) = r.take (k + 1) := by
  rw [List.take_succ_eq_append_getElem hl, List.take_succ_eq_append_getElem hr, h, he]
theorem take_all {α : Type} {l r : List α} (hl : l.length = r.length) (h : l.take l.length = r.take l.length) : l = r := by
  rwa [List.take_length, hl, List.take_length] at h

set_option maxHeartbeats 8000000 in
theorem same_ref19 {X Y : List Nat} {F F' : Value} {f f' : Ftr} (W : World) (h : FtrR X W F f) (h' : FtrR Y W F' f') :
    Calls Try.prog 16 #[F, F'] W fun e W' => e = .returned (.bool (decide (f = f'))) ∧ Keep [] W W' := by
  obtain ⟨A, c, G, rfl, hcols, hgr, ht⟩ := h
  obtain ⟨A2, c2, rfl, hg1, hg2⟩ := hgr.form
  obtain ⟨B, d, G', rfl, hcols', hgr', ht'⟩ := h'
  obtain ⟨B2, d2, rfl, hd1, hd2⟩ := hgr'.form
  unfold maxLen at hg2 hd2
  obtain ⟨v, hv⟩ : ∃ v, Hid (decide (f = f') = v) := ⟨_, rfl⟩
  rw [hv.out]
  have vno : f ≠ f' → Hid (v = false) := fun h => by rw [Hid, ← hv.out]; exact decide_eq_false h
  have vyes : f = f' → Hid (v = true) := fun h => by rw [Hid, ← hv.out]; exact decide_eq_true h
  replace vno := Lib.hid vno
  replace vyes := Lib.hid vyes
  clear hv
  obtain ⟨W1, hW1⟩ : ∃ W1, (W.alloc (.cells #[.slice A f.cols.length c, .int .i64 f.rows.toInt, .slice A2 f.groups.length c2] 25)).alloc (.cells #[.slice B f'.cols.length d, .int .i64 f'.rows.toInt, .slice B2 f'.groups.length d2] 25) = W1 := ⟨_, rfl⟩
  have hk1 : Keep [] W W1 := by rw [← hW1]; exact ((Keep.refl _ _).alloc _).alloc _
  have hb1 : Blk W1 W.heap.size 25 [.slice A f.cols.length c, .int .i64 f.rows.toInt, .slice A2 f.groups.length c2] := by rw [← hW1]; exact (Blk.new W 25 _).alloc _
  have hb1' : Blk W1 (W.heap.size + 1) 25 [.slice B f'.cols.length d, .int .i64 f'.rows.toInt, .slice B2 f'.groups.length d2] := by rw [← hW1]; exact blk_alloc2 W _ _ _
  obtain ⟨a0, a1, a2⟩ := at3 hb1
  obtain ⟨b0, b1, b2⟩ := at3 hb1'
  by_cases q1 : f.rows.toInt ≠ f'.rows.toInt
  · have v1 := vno.out (fun h => q1 (by rw [h]))
    have q2 : (f.rows.toInt != f'.rows.toInt) = true := by rw [bne_iff_ne]; exact q1
    clear q1
    go_enter Try.func16, Try.ntmps16
    go_wp2
    go_ret
    exact ⟨ret_b (by rw [v1.out]), hk1⟩
  have q1' := Lib.hid (Classical.not_not.1 q1)
  have q2 : (f.rows.toInt != f'.rows.toInt) = false := by rw [q1'.out]; simp
  clear q1
  by_cases q3 : f.groups.length ≠ f'.groups.length
  · have v1 := vno.out (fun h => q3 (by rw [h]))
    have q4 : ((f.groups.length : Int) != (f'.groups.length : Int)) = true := by rw [bne_iff_ne]; omega
    clear q3
    go_enter Try.func16, Try.ntmps16
    go_wp2
    go_ret
    exact ⟨ret_b (by rw [v1.out]), hk1⟩
  have q3' := Lib.hid (Classical.not_not.1 q3)
  have q4 : ((f.groups.length : Int) != (f'.groups.length : Int)) = false := by rw [q3'.out]; simp
  clear q3
  have C := schema_ref W1 (hcols.pure hk1) (hcols'.pure hk1)
  by_cases q5 : f.cols ≠ f'.cols
  · have v1 := vno.out (fun h => q5 (by rw [h]))
    rw [decide_eq_false q5] at C
    replace C := Lib.hid C
    clear q5
    go_enter Try.func16, Try.ntmps16
    go_wp2_with fail
    refine C.out.mono ?_
    rintro e w1 ⟨rfl, hk2⟩
    go_wp2
    go_ret
    exact ⟨ret_b (by rw [v1.out]), hk1.trans hk2⟩
  have q5' := Lib.hid (Classical.not_not.1 q5)
  rw [decide_eq_true q5'.out] at C
  replace C := Lib.hid C
  clear q5
  go_enter Try.func16, Try.ntmps16
  go_wp2_with fail
  refine C.out.mono ?_
  rintro e w1 ⟨rfl, hk2⟩
  have hk12 := hk1.trans hk2
  have hb2 := hb1.keep hk2 (by simp)
  have hb2' := hb1'.keep hk2 (by simp)
  obtain ⟨a0, a1, a2⟩ := at3 hb2
  obtain ⟨b0, b1, b2⟩ := at3 hb2'
  clear C hW1
  go_wp2
  go_loopw [5] (fun i wr => ∃ k : Nat, k ≤ f.groups.length ∧ i = .int .i64 k ∧ Hid (f.groups.take k = f'.groups.take k) ∧ Keep [] w1 wr) (fun i _ => f.groups.length - (intOf i).toNat)
  case atStart => exact ⟨0, Nat.zero_le _, rfl, rfl, Keep.refl _ _⟩
  case round =>
    obtain ⟨k, hk, rfl, HE, hkr⟩ := hrel
    have hkWr := hk12.trans hkr
    have hbr := hb2.keep hkr (by simp)
    have hbr' := hb2'.keep hkr (by simp)
    obtain ⟨x0, x1, x2⟩ := at3 hbr
    obtain ⟨x3, x4, x5⟩ := at3 hbr'
    have hWlt := hbr.lt
    have hWlt' := hbr'.lt
    by_cases hlt : k < f.groups.length
    · have hlt' : k < f'.groups.length := by have := q3'.out; omega
      obtain ⟨b, off, A3, c3, e1, g0, g1, hch, hc3, hc3'⟩ := hgr.at_ hlt
      subst e1
      obtain ⟨bb, off', A4, c4, e2, g2, g3, hch', hc4, hc4'⟩ := hgr'.at_ hlt'
      subst e2
      replace g0 := hkWr.cell g0
      replace g1 := hkWr.cell g1
      replace g2 := hkWr.cell g2
      replace g3 := hkWr.cell g3
      have HS := Lib.hid (fun he => take_eq hlt hlt' HE.out he)
      have HN := Lib.hid (fun (he : f.groups[k] ≠ f'.groups[k]) => vno.out (fun h => he (by subst h; rfl)))
      generalize f.groups[k] = gr at *
      generalize f'.groups[k] = gs at *
      unfold maxLen at hc3' hc4'
      have i0' : (0 : Int) ≤ (k : Int) := by omega
      have i1' : (k : Int) < (f.groups.length : Int) := by omega
      have i2' : (k : Int) < (f'.groups.length : Int) := by omega
      obtain ⟨WA, hWA⟩ : ∃ WA, (wr.alloc (.cells #[.int .i64 gr.rows.toInt, .slice A3 gr.chunks.length c3] 44)).alloc (.cells #[.int .i64 gs.rows.toInt, .slice A4 gs.chunks.length c4] 44) = WA := ⟨_, rfl⟩
      have hkrA : Keep [] wr WA := by rw [← hWA]; exact ((Keep.refl _ _).alloc _).alloc _
      have hba : Blk WA wr.heap.size 44 [.int .i64 gr.rows.toInt, .slice A3 gr.chunks.length c3] := by rw [← hWA]; exact (Blk.new wr 44 _).alloc _
      have hba' : Blk WA (wr.heap.size + 1) 44 [.int .i64 gs.rows.toInt, .slice A4 gs.chunks.length c4] := by rw [← hWA]; exact blk_alloc2 wr _ _ _
      have g2' := ((Keep.refl [] wr).alloc (.cells #[.int .i64 gr.rows.toInt, .slice A3 gr.chunks.length c3] 44)).cell g2
      have g3' := ((Keep.refl [] wr).alloc (.cells #[.int .i64 gr.rows.toInt, .slice A3 gr.chunks.length c3] 44)).cell g3
      obtain ⟨z0, z1⟩ := at2 hba
      obtain ⟨z2, z3⟩ := at2 hba'
      by_cases r1 : gr.rows.toInt ≠ gs.rows.toInt
      · have v1 := HN.out (fun h => r1 (by rw [h]))
        have r2 : (gr.rows.toInt != gs.rows.toInt) = true := by rw [bne_iff_ne]; exact r1
        clear r1
        go_wp2
        go_ret
        exact ⟨ret_b (by rw [v1.out]), hkWr.trans hkrA⟩
      have r1' := Lib.hid (Classical.not_not.1 r1)
      have r2 : (gr.rows.toInt != gs.rows.toInt) = false := by rw [r1'.out]; simp
      clear r1
      by_cases r3 : gr.chunks.length ≠ gs.chunks.length
      · have v1 := HN.out (fun h => r3 (by rw [h]))
        have r4 : ((gr.chunks.length : Int) != (gs.chunks.length : Int)) = true := by rw [bne_iff_ne]; omega
        clear r3
        go_wp2
        go_ret
        exact ⟨ret_b (by rw [v1.out]), hkWr.trans hkrA⟩
      have r3' := Lib.hid (Classical.not_not.1 r3)
      have r4 : ((gr.chunks.length : Int) != (gs.chunks.length : Int)) = false := by rw [r3'.out]; simp
      clear r3
      obtain ⟨gb, hgb⟩ : ∃ gb, wr.heap.size = gb := ⟨_, rfl⟩
      rw [hgb] at hba hba' z0 z1 z2 z3 hWlt hWlt'
      go_wp2
      clear hWA g0 g1 g2 g3 g2' g3' x0 x1 x2 x3 x4 x5 z0 z1 z2 z3 hgb
      go_loopw [8] (fun i w => ∃ j : Nat, j ≤ gr.chunks.length ∧ i = .int .i64 j ∧ Hid (gr.chunks.take j = gs.chunks.take j) ∧ Keep [] WA w) (fun i _ => gr.chunks.length - (intOf i).toNat)
      case atStart => exact ⟨0, Nat.zero_le _, rfl, rfl, Keep.refl _ _⟩
      case round =>
        obtain ⟨j, hj, rfl, HE2, hkj⟩ := hrel
        have hkWj := (hkWr.trans hkrA).trans hkj
        have hbj := hba.keep hkj (by simp)
        have hbj' := hba'.keep hkj (by simp)
        obtain ⟨z0, z1⟩ := at2 hbj
        obtain ⟨z2, z3⟩ := at2 hbj'
        by_cases hjt : j < gr.chunks.length
        · have hjt' : j < gs.chunks.length := by have := r3'.out; omega
          obtain ⟨bc, offc, A5, c5, e4, d0, hpg, hc5, hc5'⟩ := hch.at_ hjt
          subst e4
          obtain ⟨bd, offd, A6, c6, e5, d1, hpg', hc6, hc6'⟩ := hch'.at_ hjt'
          subst e5
          have D0 := Lib.hid (fun w (hw : Keep [] W w) => hw.cell d0)
          have D1 := Lib.hid (fun w (hw : Keep [] W w) => hw.cell d1)
          have HS2 := Lib.hid (fun he => take_eq hjt hjt' HE2.out he)
          have HN2 := Lib.hid (fun (he : gr.chunks[j] ≠ gs.chunks[j]) => HN.out (fun h => he (by subst h; rfl)))
          clear d0 d1
          generalize gr.chunks[j] = l at *
          generalize gs.chunks[j] = l' at *
          unfold maxLen at hc5' hc6'
          have j0' : (0 : Int) ≤ (j : Int) := by omega
          have j1' : (j : Int) < (gr.chunks.length : Int) := by omega
          have j2' : (j : Int) < (gs.chunks.length : Int) := by omega
          by_cases s1 : l.length ≠ l'.length
          · have v1 := HN2.out (fun h => s1 (by rw [h]))
            have s2 : ((l.length : Int) != (l'.length : Int)) = true := by rw [bne_iff_ne]; omega
            clear s1
            go_wp2_with fail
            refine wp_region_quietK (by kernel_rfl) (by kernel_rfl) (Keep.refl [] _) ?_
            repeat ((first | (refine q_skip rfl ?_) | (refine q_val (v := ?_) rfl ?_ ?_; rotate_left; (intro w hw; obtain ⟨z0, z1⟩ := at2 (hbj.keep hw (by simp)); obtain ⟨z2, z3⟩ := at2 (hbj'.keep hw (by simp)); have d0 := D0.out w (hkWj.trans hw); have d1 := D1.out w (hkWj.trans hw); go_simp; exact rfl))); simp only [Act.put, List.setIfInBounds_toArray, List.set_cons_succ, List.set_cons_zero])
            refine wpQuiet_nil (fun w3 hw => ?_)
            go_wp2
            go_ret
            exact ⟨ret_b (by rw [v1.out]), hkWj.trans hw⟩
          have s1' := Lib.hid (Classical.not_not.1 s1)
          have s2 : ((l.length : Int) != (l'.length : Int)) = false := by rw [s1'.out]; simp
          clear s1
          go_wp2_with fail
          refine wp_region_quietK (by kernel_rfl) (by kernel_rfl) (Keep.refl [] _) ?_
          repeat ((first | (refine q_skip rfl ?_) | (refine q_val (v := ?_) rfl ?_ ?_; rotate_left; (intro w hw; obtain ⟨z0, z1⟩ := at2 (hbj.keep hw (by simp)); obtain ⟨z2, z3⟩ := at2 (hbj'.keep hw (by simp)); have d0 := D0.out w (hkWj.trans hw); have d1 := D1.out w (hkWj.trans hw); go_simp; exact rfl))); simp only [Act.put, List.setIfInBounds_toArray, List.set_cons_succ, List.set_cons_zero])
          refine wpQuiet_nil (fun w3 hw3 => ?_)
          have hkW3 := hkWj.trans hw3
          have hb3 := hbj.keep hw3 (by simp)
          have hb3' := hbj'.keep hw3 (by simp)
          clear z0 z1 z2 z3
          go_wp2
          go_loopw [9] (fun i w => ∃ m : Nat, m ≤ l.length ∧ i = .int .i64 m ∧ Hid (l.take m = l'.take m) ∧ Keep [] w3 w) (fun i _ => l.length - (intOf i).toNat)
          case atStart => exact ⟨0, Nat.zero_le _, rfl, rfl, Keep.refl _ _⟩
          case round =>
            obtain ⟨m, hm, rfl, HE3, hkm⟩ := hrel
            have hkWm := hkW3.trans hkm
            have hbm := hb3.keep hkm (by simp)
            have hbm' := hb3'.keep hkm (by simp)
            obtain ⟨z0, z1⟩ := at2 hbm
            obtain ⟨z2, z3⟩ := at2 hbm'
            have d0 := D0.out wr hkWm
            have d1 := D1.out wr hkWm
            by_cases hmt : m < l.length
            · have hmt' : m < l'.length := by have := s1'.out; omega
              have AT := Lib.hid (fun w (hw : Keep [] W w) => (hpg.pure hw).at14 hmt)
              have AT' := Lib.hid (fun w (hw : Keep [] W w) => (hpg'.pure hw).at14 hmt')
              obtain ⟨pb, poff, e6, _⟩ := hpg.at14 hmt
              subst e6
              obtain ⟨pc, poff', e7, _⟩ := hpg'.at14 hmt'
              subst e7
              have HS3 := Lib.hid (fun he => take_eq hmt hmt' HE3.out he)
              have HN3 := Lib.hid (fun (he : l[m] ≠ l'[m]) => HN2.out (fun h => he (by subst h; rfl)))
              generalize l[m] = p at *
              generalize l'[m] = p' at *
              have m0' : (0 : Int) ≤ (m : Int) := by omega
              have m1' : (m : Int) < (l.length : Int) := by omega
              have m2' : (m : Int) < (l'.length : Int) := by omega
              have hneq := fun w => neq_pg p p' w
              obtain ⟨bn, hbn⟩ : ∃ bn, Hid (decide (p ≠ p') = bn) := ⟨_, rfl⟩
              rw [hbn.out] at hneq
              have hat := Lib.hid (fun w (hw : Keep [] wr w) => at2 (hbm.keep hw (by simp)))
              have hat' := Lib.hid (fun w (hw : Keep [] wr w) => at2 (hbm'.keep hw (by simp)))
              go_wp2_with fail
              refine wp_region_quietK (by kernel_rfl) (by kernel_rfl) (Keep.refl [] _) ?_
              repeat ((first | (refine q_skip rfl ?_) | (refine q_val (v := ?_) rfl ?_ ?_; rotate_left; (intro w hw; obtain ⟨z0, z1⟩ := hat.out w hw; obtain ⟨z2, z3⟩ := hat'.out w hw; have d0 := D0.out w (hkWm.trans hw); have d1 := D1.out w (hkWm.trans hw); obtain ⟨_, _, e', _, _, ⟨y0, y1⟩, ⟨y2, y3⟩, ⟨y4, y5, y6, y7, y8⟩, ⟨y9, y10, y11, y12, y13⟩⟩ := AT.out w (hkWm.trans hw); cases e'; obtain ⟨_, _, e', _, _, ⟨y0', y1'⟩, ⟨y2', y3'⟩, ⟨y4', y5', y6', y7', y8'⟩, ⟨y9', y10', y11', y12', y13'⟩⟩ := AT'.out w (hkWm.trans hw); cases e'; go_simp; exact rfl))); simp only [Act.put, List.setIfInBounds_toArray, List.set_cons_succ, List.set_cons_zero])
              refine wpQuiet_nil (fun w5 hw5 => ?_)
              cases bn with
              | true =>
                have v1 := HN3.out (of_decide_eq_true hbn.out)
                go_wp2
                go_ret
                exact ⟨ret_b (by rw [v1.out]), hkWm.trans hw5⟩
              | false =>
                have he := HS3.out (Classical.not_not.1 (of_decide_eq_false hbn.out))
                replace he := Lib.hid he
                go_wp2
                go_roundw
                case rel => exact ⟨m + 1, by omega, by go_num, he.out, hkm.trans hw5⟩
                case measure => simp [intOf]; omega
            · obtain rfl : m = l.length := by omega
              have he := Lib.hid (HS2.out (take_all s1'.out HE3.out))
              go_wp2
              go_roundw
              case rel => exact ⟨j + 1, by omega, by go_num, he.out, (hkj.trans hw3).trans hkm⟩
              case measure => simp [intOf]; omega
        · obtain rfl : j = gr.chunks.length := by omega
          have he := Lib.hid (HS.out (grp_eq r1'.out (take_all r3'.out HE2.out)))
          go_wp2
          go_roundw
          case rel => exact ⟨k + 1, by omega, by go_num, he.out, (hkr.trans hkrA).trans hkj⟩
          case measure => simp [intOf]; omega
    · obtain rfl : k = f.groups.length := by omega
      have v1 := vyes.out (ftr_eq q1'.out q5'.out (take_all q3'.out HE.out))
      go_wp2
      go_ret
      exact ⟨ret_b (by rw [v1.out]), hkWr⟩
end Go.Proofs.Ytcpimhefclfbaaa
