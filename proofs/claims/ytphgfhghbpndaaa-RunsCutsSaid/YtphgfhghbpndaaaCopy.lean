/-
  'copy' into a block of the call's own, and slices.Repeat of one number.
-/
import Derived.Laws.CopyOwn
import Derived.Deep.RegionLaw
import Derived.IntWalk
import Derived.Test.YtphgfhghbpndaaaMul
import Derived.Test.YtphgfhghbpndaaaMem
import Derived.Test.YtphgfhghbpndaaaStep
import Derived.Test.YtphgfhghbpndaaaBp6
namespace Go.Proofs.Ytphgfhghbpndaaa
open Go Go.RowKit
set_option linter.unusedVariables false
set_option linter.unusedSimpArgs false

section
variable {P : Program} {w : World} {ops : Array Oper} {rest : List Oper} {o : Oper} {a : Act} {K : Act → World → Prop} {Q : Exit → Act → World → Prop} {E : Prop}
/-- 'copy(d, s)': d in a block of the call's own, s whatever slice is read. -/
theorem wp_copy_blk (d s : Operand) (dT sT : TypeId)
    (ho : o.op = .call { callee := .builtin .copy, args := #[d, s], argTypes := #[dT, sT] }) (elem : TypeId) (hu : P.underlying dT = some (.slice elem)) (hsz : (P.info? elem).map (·.size) = some 1)
    (dp sp : Option Addr) (dLen dCap sLen sCap : Nat) (hd : a.eval d = .slice dp dLen dCap) (hs : a.eval s = .slice sp sLen sCap)
    {g off : Nat} {cur : List Value} {t : TypeId} (hg : Blk w g t cur) (cs : List Value) (hn : cs.length = Nat.min sLen dLen)
    (hpos : 0 < cs.length → dp = some ⟨g, off, none⟩ ∧ ∃ b so, sp = some ⟨b, so, none⟩ ∧ ∀ j v, cs[j]? = some v → w.cell? ⟨b, so + j, none⟩ = some v)
    (hfit : off + cs.length ≤ cur.length) (h1 : ∀ v ∈ cs, v.oneCell' = true)
    (h : ∀ w', Blk w' g t (splice cur off cs) → Keep [g] w w' → K (a.put o.dst (goInt cs.length)) w') : o.wp P a w K Q := by
  by_cases h0 : cs.length = 0
  · obtain rfl : cs = [] := List.eq_nil_of_length_eq_zero h0
    have hrun := run_copy_none (P := P) w dT sT o.type elem dp sp dLen dCap sLen sCap hu hsz (by simpa using hn.symm)
    unfold Oper.wp
    simp [execOp, ho, resolve, invoke, builtin, hd, hs, hrun, Result.andThen]
    exact h w (by simpa [splice, Blk] using hg) (Keep.refl _ _)
  · obtain ⟨rfl, b, so, rfl, hsrc⟩ := hpos (by omega)
    have hrun := run_copy_row (P := P) w dT sT o.type elem g off dLen dCap ⟨b, so, none⟩ sLen sCap cur.toArray t cs hu hsz hg hn (fun j v hv => by rw [addr_add]; exact hsrc j v hv) (by simpa using hfit) h1
    unfold Oper.wp
    simp [execOp, ho, resolve, invoke, builtin, hd, hs, hrun, Result.andThen]
    exact h _ (by simpa [splice, Blk] using blk_setRow (ds := cur.take off ++ (cs ++ cur.drop (off + cs.length))) hg) (keep_setRow w g _)
theorem wpList_copy_blk (hgd : o.guard = none) (d s : Operand) (dT sT : TypeId)
    (ho : o.op = .call { callee := .builtin .copy, args := #[d, s], argTypes := #[dT, sT] }) (elem : TypeId) (hu : P.underlying dT = some (.slice elem)) (hsz : (P.info? elem).map (·.size) = some 1)
    (dp sp : Option Addr) (dLen dCap sLen sCap : Nat) (hd : a.eval d = .slice dp dLen dCap) (hs : a.eval s = .slice sp sLen sCap)
    {g off : Nat} {cur : List Value} {t : TypeId} (hg : Blk w g t cur) (cs : List Value) (hn : cs.length = Nat.min sLen dLen)
    (hpos : 0 < cs.length → dp = some ⟨g, off, none⟩ ∧ ∃ b so, sp = some ⟨b, so, none⟩ ∧ ∀ j v, cs[j]? = some v → w.cell? ⟨b, so + j, none⟩ = some v)
    (hfit : off + cs.length ≤ cur.length) (h1 : ∀ v ∈ cs, v.oneCell' = true)
    (h : ∀ w', Blk w' g t (splice cur off cs) → Keep [g] w w' → wpList P ops Q rest (a.put o.dst (goInt cs.length)) w') : wpList P ops Q (o :: rest) a w :=
  wpList_plain hgd fun _ hK => wp_copy_blk d s dT sT ho elem hu hsz dp sp dLen dCap sLen sCap hd hs hg cs hn hpos hfit h1 fun w' h2 h3 => hK _ _ (h w' h2 h3)
theorem step_copy_blk (hgd : o.guard = none) (d s : Operand) (dT sT : TypeId)
    (ho : o.op = .call { callee := .builtin .copy, args := #[d, s], argTypes := #[dT, sT] }) (elem : TypeId) (hu : P.underlying dT = some (.slice elem)) (hsz : (P.info? elem).map (·.size) = some 1)
    (dp sp : Option Addr) (dLen dCap sLen sCap : Nat) (hd : a.eval d = .slice dp dLen dCap) (hs : a.eval s = .slice sp sLen sCap)
    {g off : Nat} {cur : List Value} {t : TypeId} (hg : Blk w g t cur) (cs : List Value) (hn : cs.length = Nat.min sLen dLen)
    (hpos : 0 < cs.length → dp = some ⟨g, off, none⟩ ∧ ∃ b so, sp = some ⟨b, so, none⟩ ∧ ∀ j v, cs[j]? = some v → w.cell? ⟨b, so + j, none⟩ = some v)
    (hfit : off + cs.length ≤ cur.length) (h1 : ∀ v ∈ cs, v.oneCell' = true)
    (h : ∀ w', Blk w' g t (splice cur off cs) → Keep [g] w w' → K (a.put o.dst (goInt cs.length)) w') : if Region.wanted o (yielded ops a.tmps) = true then Oper.wp P o a w K Q else E := by
  rw [if_pos (by simp [Region.wanted, hgd])]
  exact wp_copy_blk d s dT sT ho elem hu hsz dp sp dLen dCap sLen sCap hd hs hg cs hn hpos hfit h1 h
end

theorem splice_rep {α : Type} (x z : α) (n m k : Nat) (h : n + m ≤ k) : splice (List.replicate n x ++ List.replicate (k - n) z) n (List.replicate m x) = List.replicate (n + m) x ++ List.replicate (k - (n + m)) z := by
  unfold splice
  rw [List.take_left' (by simp), List.length_replicate, ← List.append_assoc, List.replicate_append_replicate, List.drop_append, List.length_replicate, List.drop_of_length_le (by simp), List.nil_append, List.drop_replicate]
  congr 2
  omega

set_option maxHeartbeats 2000000 in
theorem repeat_prog {X : List Nat} {A : Option Addr} {c : Nat} {v : UInt64} (k : Nat) (W : World) (h : U64s X W A 1 c [v]) (hk0 : 0 < k) (hk : k ≤ 1000000) :
    Calls Try.prog 30 #[.slice A 1 c, .int .i64 k] W fun e W' => ∃ B d, e = .returned (.slice B k d) ∧ Keep [] W W' ∧ NewU64s W W' B k d (List.replicate k v) := by
  have hc := h.cap
  have hnc := h.le
  obtain ⟨i0, hi, hz0, hz1, hz2⟩ := info_parts Try.infoU64
  have C := Lib.hid (Try.bits_Mul 1 k (by omega) (by omega) W)
  have hq1 : ((1 * k / 18446744073709551616 : Nat) : Int) = 0 := by omega
  have hq2 : ((1 * k % 18446744073709551616 : Nat) : Int) = (k : Int) := by omega
  go_enter Try.func30, Try.ntmps30
  go_wp2_with fail
  refine C.out.mono ?_
  rintro e w1 ⟨rfl, rfl⟩
  rw [hq1, hq2]
  clear C hq1 hq2
  go_wp2_with (first | (at_make; refine wpList_make_full _ rfl _ _ 22 rfl w1.heap.size 34 i0 (.int .u64 0) 1 Try.underlying22 hi hz0 hz1 _ _ _ _ k rfl rfl rfl rfl (by rw [hz2]; omega) (by unfold maxLen; omega) (Nat.le_refl _) ?_))
  intro w2 hown hgr
  have hk2 : Keep [] w1 w2 := (Keep.refl [] w1).grown hgr (by simp)
  obtain ⟨g, hg⟩ : ∃ g, Hid (g = w1.heap.size) := ⟨_, rfl⟩
  have hb1 : Blk w2 g 34 (List.replicate 0 (vU64 v) ++ List.replicate (k - 0) (.int .u64 0)) := by
    have := blk_of_own hown
    rw [hg.out]
    simpa [toList_madeCells_one] using this
  rw [← hg.out]
  clear hown hgr
  obtain ⟨b0, off0, rfl, hb0, _, hc0⟩ := h.one (k := 0) (by simp)
  simp only [List.getElem_cons_zero, Nat.add_zero] at hc0
  have hb0g : b0 ≠ g := by rw [hg.out]; omega
  have hc0' : w2.cell? ⟨b0, off0, none⟩ = some (vU64 v) := (World.cell?_of_block (w := w1) (a := ⟨b0, off0, none⟩) (hk2.block b0 hb0 (by simp))).trans hc0
  have hpos : 0 < (List.replicate 1 (vU64 v)).length → (some ⟨g, 0, none⟩ : Option Addr) = some ⟨g, 0, none⟩ ∧ ∃ b so, (some ⟨b0, off0, none⟩ : Option Addr) = some ⟨b, so, none⟩ ∧ ∀ j u, (List.replicate 1 (vU64 v))[j]? = some u → w2.cell? ⟨b, so + j, none⟩ = some u := by
    refine fun _ => ⟨rfl, b0, off0, rfl, fun j u hu => ?_⟩
    obtain ⟨hj, rfl⟩ := List.getElem?_eq_some_iff.1 hu
    have : j = 0 := by simpa using hj
    subst this
    simpa using hc0'
  have hmin : (List.replicate 1 (vU64 v)).length = Nat.min 1 k := by rw [List.length_replicate]; exact (Nat.min_eq_left hk0).symm
  go_wp2_with (with_reducible refine wpList_copy_blk (o := ⟨some 33, _, _, _, _, _⟩) rfl (.tmp 31) (.tmp 32) 22 22 rfl 34 Try.underlying22 (by kernel_rfl) (some ⟨g, 0, none⟩) (some ⟨b0, off0, none⟩) k k 1 c rfl rfl hb1 (List.replicate 1 (vU64 v)) hmin hpos (by simp; omega) (by simp [vU64, Value.oneCell']) ?_)
  intro w3 hb3 hk3
  have hb3' : Blk w3 g 34 (List.replicate 1 (vU64 v) ++ List.replicate (k - 1) (.int .u64 0)) := by
    have := splice_rep (vU64 v) (.int .u64 0) 0 1 k (by omega)
    simp at this hb3
    rw [this] at hb3
    simpa using hb3
  have hk13 : Keep [] w1 w3 := hk2.after hk3 (by simp [hg.out])
  clear hb1 hk2 hc0' hb3 hk3
  clear hpos hmin
  go_wp2
  go_loopw [8] (fun i wr => ∃ n : Nat, 0 < n ∧ n ≤ k ∧ i = .int .i64 n ∧ Blk wr g 34 (List.replicate n (vU64 v) ++ List.replicate (k - n) (.int .u64 0)) ∧ Keep [] w1 wr) (fun i _ => k - (intOf i).toNat)
  case atStart => exact ⟨1, by omega, by omega, rfl, hb3', hk13⟩
  case round =>
    rename_i wr
    obtain ⟨n, hn0, hnk, rfl, hb, hkeep⟩ := hrel
    by_cases hlt : n < k
    · obtain ⟨m, hm⟩ : ∃ m, Hid (m = Nat.min n (k - n)) := ⟨_, rfl⟩
      have hm1 : m ≤ n ∧ m ≤ k - n ∧ 0 < m := by
        have := hm.out
        have h1 : m = min n (k - n) := this
        omega
      have hbd := Lib.hid hb.drew
      have hsz := hkeep.size
      have hcs : Hid ((List.replicate m (vU64 v)).length = Nat.min n (k - n)) := by rw [Hid, List.length_replicate]; exact hm.out
      have hsrc : Hid (∀ j u, (List.replicate m (vU64 v))[j]? = some u → wr.drew.cell? ⟨g, 0 + j, none⟩ = some u) := by
        intro j u hu
        obtain ⟨hj, rfl⟩ := List.getElem?_eq_some_iff.1 hu
        have hj' : j < m := by simpa using hj
        rw [Nat.zero_add, hbd.out.cell j, List.getElem?_append_left (by simp; omega), List.getElem?_replicate, if_pos (by omega)]
        simp
      have hfit : Hid (n + (List.replicate m (vU64 v)).length ≤ (List.replicate n (vU64 v) ++ List.replicate (k - n) (Value.int .u64 0)).length) := by rw [Hid, List.length_append, List.length_replicate, List.length_replicate, List.length_replicate]; omega
      have hws : IntKind.i64.wrap ((n : Int) + (m : Int)) = ((n + m : Nat) : Int) := by rw [IntWalk.i64_in _ (by omega)]; omega
      go_wp2
      have hsz1 : (Try.prog.info? 34).map (·.size) = some 1 := by kernel_rfl
      have hkn : ¬ k = n := by omega
      go_region_law (refine step_copy_blk rfl (.tmp 41) (.tmp 44) 22 22 rfl 34 Try.underlying22 hsz1 (some ⟨g, n, none⟩) (some ⟨g, 0, none⟩) (k - n) (k - n) n k (by go_simp) (by go_simp) (off := n) hbd.out (List.replicate m (vU64 v)) hcs.out (fun _ => ⟨rfl, _, _, rfl, hsrc.out⟩) hfit.out (by simp [vU64, Value.oneCell']) ?_; intro w4 hb4 hk4)
      rw [splice_rep (vU64 v) (.int .u64 0) n m k (by omega)] at hb4
      have hk5 := (hkeep.trans ((Keep.refl [] wr).drew)).after hk4 (by simp [hg.out])
      replace hb4 := Lib.hid hb4
      clear hbd hb hkeep hk4 hsrc hfit hcs
      simp only [List.getElem_toArray, List.getElem_cons_succ, List.getElem_cons_zero, Act.put, List.setIfInBounds_toArray, List.set_cons_succ, List.set_cons_zero]
      go_roundw
      case rel => ((repeat apply Exists.intro); exact ⟨⟨n + m, by omega, by omega, by go_num, hb4.out, hk5⟩, rfl⟩)
      case measure => simp [intOf]; omega
    · obtain rfl : n = k := by omega
      have hbk := Lib.hid hb
      go_wp2
      go_ret
      refine ⟨_, _, rfl, hkeep, fun Y hY => ?_⟩
      have := hbk.out
      rw [Nat.sub_self, List.replicate_zero, List.append_nil] at this
      have h2 := this.rd (X := Y) (size := 1) (n := n) (c := n) (xs := (List.replicate n v).map vU64) (fun hm => by have := hY _ hm; have := hg.out; omega) (by simp) (by omega) (by unfold maxLen; omega) (by simp)
      exact h2
end Go.Proofs.Ytphgfhghbpndaaa
