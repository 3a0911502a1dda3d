/-
  math/bits.Mul at this program: the library's own contract, laid.
  'copy' into a block of the call's own, and slices.Repeat of one number.
  The walks of layer 10's Decode, the program's: a rest.
  The walk of layer 10's Decode, the program's.
  That no row has these bytes: found by reading them.
-/
import Derived.Shelf.Bits.Mul64
import Derived.Laws.CopyOwn
import Derived.Deep.RegionLaw
import Derived.IntWalk
import Derived.Test.YtejbfknhnhhlfaaProg
import Derived.Test.YtejbfknhnhhlfaaFA
import Derived.Test.YtejbfknhnhhlfaaFBp
import Derived.Test.YtejbfknhnhhlfaaFRb
import Derived.Test.YtejbfknhnhhlfaaFRa
namespace Go.Proofs
open Go.Shelf
def Try.lays212_ren : Go.Shelf.Ren := ⟨fun | 212 => 120 | 263 => 121 | 264 => 122 | n => n, fun | 46 => 89 | 51 => 94 | 53 => 60 | 146 => 130 | 148 => 132 | n => n, fun | n => n⟩
theorem Try.lays212 : Go.Proofs.Lays.n212 Try.prog Try.lays212_ren := {
  mixed := by kernel_rfl
  f212 := Try.func120.trans (congrArg some (by kernel_rfl))
  f263 := Try.func121.trans (congrArg some (by kernel_rfl))
  f264 := Try.func122.trans (congrArg some (by kernel_rfl))
  t46 := Try.underlying89
  a46 := Try.isAgg89
  z46 := Try.sizeOf89
  v46 := Try.zeroValue89
  t51 := Try.underlying94
  a51 := Try.isAgg94
  z51 := Try.sizeOf94
  v51 := Try.zeroValue94
  t53 := Try.underlying60
  a53 := Try.isAgg60
  z53 := Try.sizeOf60
  v53 := Try.zeroValue60
  t146 := Try.underlying130
  a146 := Try.isAgg130
  z146 := Try.sizeOf130
  v146 := Try.zeroValue130
  t148 := Try.underlying132
  a148 := Try.isAgg132
  z148 := Try.sizeOf132
  v148 := Try.zeroValue132 }
theorem Try.bits_Mul (x y : Nat) (hx : x < 18446744073709551616) (hy : y < 18446744073709551616) (w : World) :
    Calls Try.prog 120 #[.int .u64 x, .int .u64 y] w fun e w' => e = .returned (.tuple #[.int .u64 ((x * y / 18446744073709551616 : Nat) : Int), .int .u64 ((x * y % 18446744073709551616 : Nat) : Int)]) ∧ w' = w := Any.bits_Mul Try.lays212 x y hx hy w
end Go.Proofs

namespace Go.Proofs.Ytejbfknhnhhlfaa
open Go Go.RowKit
set_option maxRecDepth 10000
set_option linter.unusedVariables false
set_option linter.unusedSimpArgs false

section
variable {P : Program} {w : World} {ops : Array Oper} {rest : List Oper} {o : Oper} {a : Act} {K : Act → World → Prop} {Q : Exit → Act → World → Prop} {E : Prop}
/-- 'copy(d, s)': d in a block of the call's own, s whatever slice is read. -/
theorem wp_copy_blk (d s : Operand) (dT sT : TypeId)
    (ho : o.op = .call { callee := .builtin .copy, args := #[d, s], argTypes := #[dT, sT] }) (elem : TypeId) (hu : P.underlying dT = some (.slice elem)) (hsz : (P.info? elem).map (·.size) = some 1)
    (dp sp : Option Addr) (dLen dCap sLen sCap : Nat) (hd : a.eval d = .slice dp dLen dCap) (hs : a.eval s = .slice sp sLen sCap)
    {g off : Nat} {cur : List Value} {t : TypeId} (hg : Blk w g t cur) (cs : List Value) (hn : cs.length = Nat.min sLen dLen)
    (hpos : 0 < cs.length → dp = some ⟨g, off, none⟩ ∧ ∃ b so, sp = some ⟨b, so, none⟩ ∧ ∀ j v, cs[j]? = some v → w.cell? ⟨b, so + j, none⟩ = some v)
    (hfit : off + cs.length ≤ cur.length) (h1 : ∀ v ∈ cs, v.oneCell' = true)
    (h : ∀ w', Blk w' g t (splice cur off cs) → Keep [g] w w' → K (a.put o.dst (goInt cs.length)) w') : o.wp P a w K Q := by
  by_cases h0 : cs.length = 0
  · obtain rfl : cs = [] := List.eq_nil_of_length_eq_zero h0
    have hrun := run_copy_none (P := P) w dT sT o.type elem dp sp dLen dCap sLen sCap hu hsz (by simpa using hn.symm)
    unfold Oper.wp
    simp [execOp, ho, resolve, invoke, builtin, hd, hs, hrun, Result.andThen]
    exact h w (by simpa [splice, Blk] using hg) (Keep.refl _ _)
  · obtain ⟨rfl, b, so, rfl, hsrc⟩ := hpos (by omega)
    have hrun := run_copy_row (P := P) w dT sT o.type elem g off dLen dCap ⟨b, so, none⟩ sLen sCap cur.toArray t cs hu hsz hg hn (fun j v hv => by rw [addr_add]; exact hsrc j v hv) (by simpa using hfit) h1
    unfold Oper.wp
    simp [execOp, ho, resolve, invoke, builtin, hd, hs, hrun, Result.andThen]
    exact h _ (by simpa [splice, Blk] using blk_setRow (ds := cur.take off ++ (cs ++ cur.drop (off + cs.length))) hg) (keep_setRow w g _)
theorem wpList_copy_blk (hgd : o.guard = none) (d s : Operand) (dT sT : TypeId)
    (ho : o.op = .call { callee := .builtin .copy, args := #[d, s], argTypes := #[dT, sT] }) (elem : TypeId) (hu : P.underlying dT = some (.slice elem)) (hsz : (P.info? elem).map (·.size) = some 1)
    (dp sp : Option Addr) (dLen dCap sLen sCap : Nat) (hd : a.eval d = .slice dp dLen dCap) (hs : a.eval s = .slice sp sLen sCap)
    {g off : Nat} {cur : List Value} {t : TypeId} (hg : Blk w g t cur) (cs : List Value) (hn : cs.length = Nat.min sLen dLen)
    (hpos : 0 < cs.length → dp = some ⟨g, off, none⟩ ∧ ∃ b so, sp = some ⟨b, so, none⟩ ∧ ∀ j v, cs[j]? = some v → w.cell? ⟨b, so + j, none⟩ = some v)
    (hfit : off + cs.length ≤ cur.length) (h1 : ∀ v ∈ cs, v.oneCell' = true)
    (h : ∀ w', Blk w' g t (splice cur off cs) → Keep [g] w w' → wpList P ops Q rest (a.put o.dst (goInt cs.length)) w') : wpList P ops Q (o :: rest) a w :=
  wpList_plain hgd fun _ hK => wp_copy_blk d s dT sT ho elem hu hsz dp sp dLen dCap sLen sCap hd hs hg cs hn hpos hfit h1 fun w' h2 h3 => hK _ _ (h w' h2 h3)
theorem step_copy_blk (hgd : o.guard = none) (d s : Operand) (dT sT : TypeId)
    (ho : o.op = .call { callee := .builtin .copy, args := #[d, s], argTypes := #[dT, sT] }) (elem : TypeId) (hu : P.underlying dT = some (.slice elem)) (hsz : (P.info? elem).map (·.size) = some 1)
    (dp sp : Option Addr) (dLen dCap sLen sCap : Nat) (hd : a.eval d = .slice dp dLen dCap) (hs : a.eval s = .slice sp sLen sCap)
    {g off : Nat} {cur : List Value} {t : TypeId} (hg : Blk w g t cur) (cs : List Value) (hn : cs.length = Nat.min sLen dLen)
    (hpos : 0 < cs.length → dp = some ⟨g, off, none⟩ ∧ ∃ b so, sp = some ⟨b, so, none⟩ ∧ ∀ j v, cs[j]? = some v → w.cell? ⟨b, so + j, none⟩ = some v)
    (hfit : off + cs.length ≤ cur.length) (h1 : ∀ v ∈ cs, v.oneCell' = true)
    (h : ∀ w', Blk w' g t (splice cur off cs) → Keep [g] w w' → K (a.put o.dst (goInt cs.length)) w') : if Region.wanted o (yielded ops a.tmps) = true then Oper.wp P o a w K Q else E := by
  rw [if_pos (by simp [Region.wanted, hgd])]
  exact wp_copy_blk d s dT sT ho elem hu hsz dp sp dLen dCap sLen sCap hd hs hg cs hn hpos hfit h1 h
end

theorem splice_rep {α : Type} (x z : α) (n m k : Nat) (h : n + m ≤ k) : splice (List.replicate n x ++ List.replicate (k - n) z) n (List.replicate m x) = List.replicate (n + m) x ++ List.replicate (k - (n + m)) z := by
  unfold splice
  rw [List.take_left' (by simp), List.length_replicate, ← List.append_assoc, List.replicate_append_replicate, List.drop_append, List.length_replicate, List.drop_of_length_le (by simp), List.nil_append, List.drop_replicate]
  congr 2
  omega

set_option maxHeartbeats 2000000 in
theorem repeat_prog {X : List Nat} {A : Option Addr} {c : Nat} {v : UInt64} (k : Nat) (W : World) (h : U64s X W A 1 c [v]) (hk0 : 0 < k) (hk : k ≤ 1000000) :
    Calls Try.prog 110 #[.slice A 1 c, .int .i64 k] W fun e W' => ∃ B d, e = .returned (.slice B k d) ∧ Keep [] W W' ∧ NewU64s W W' B k d (List.replicate k v) := by
  have hc := h.cap
  have hnc := h.le
  obtain ⟨i0, hi, hz0, hz1, hz2⟩ := info_parts Try.infoU64
  have C := Lib.hid (Try.bits_Mul 1 k (by omega) (by omega) W)
  have hq1 : ((1 * k / 18446744073709551616 : Nat) : Int) = 0 := by omega
  have hq2 : ((1 * k % 18446744073709551616 : Nat) : Int) = (k : Int) := by omega
  go_enter Try.func110, Try.ntmps110
  go_wp2_with fail
  refine C.out.mono ?_
  rintro e w1 ⟨rfl, rfl⟩
  rw [hq1, hq2]
  clear C hq1 hq2
  go_wp2_with (first | (at_make; refine wpList_make_full _ rfl _ _ 57 rfl w1.heap.size 60 i0 (.int .u64 0) 1 Try.underlying57 hi hz0 hz1 _ _ _ _ k rfl rfl rfl rfl (by rw [hz2]; omega) (by unfold maxLen; omega) (Nat.le_refl _) ?_))
  intro w2 hown hgr
  have hk2 : Keep [] w1 w2 := (Keep.refl [] w1).grown hgr (by simp)
  obtain ⟨g, hg⟩ : ∃ g, Hid (g = w1.heap.size) := ⟨_, rfl⟩
  have hb1 : Blk w2 g 60 (List.replicate 0 (vU64 v) ++ List.replicate (k - 0) (.int .u64 0)) := by
    have := blk_of_own hown
    rw [hg.out]
    simpa [toList_madeCells_one] using this
  rw [← hg.out]
  clear hown hgr
  obtain ⟨b0, off0, rfl, hb0, _, hc0⟩ := h.one (k := 0) (by simp)
  simp only [List.getElem_cons_zero, Nat.add_zero] at hc0
  have hb0g : b0 ≠ g := by rw [hg.out]; omega
  have hc0' : w2.cell? ⟨b0, off0, none⟩ = some (vU64 v) := (World.cell?_of_block (w := w1) (a := ⟨b0, off0, none⟩) (hk2.block b0 hb0 (by simp))).trans hc0
  have hpos : 0 < (List.replicate 1 (vU64 v)).length → (some ⟨g, 0, none⟩ : Option Addr) = some ⟨g, 0, none⟩ ∧ ∃ b so, (some ⟨b0, off0, none⟩ : Option Addr) = some ⟨b, so, none⟩ ∧ ∀ j u, (List.replicate 1 (vU64 v))[j]? = some u → w2.cell? ⟨b, so + j, none⟩ = some u := by
    refine fun _ => ⟨rfl, b0, off0, rfl, fun j u hu => ?_⟩
    obtain ⟨hj, rfl⟩ := List.getElem?_eq_some_iff.1 hu
    have : j = 0 := by simpa using hj
    subst this
    simpa using hc0'
  have hmin : (List.replicate 1 (vU64 v)).length = Nat.min 1 k := by rw [List.length_replicate]; exact (Nat.min_eq_left hk0).symm
  go_wp2_with (with_reducible refine wpList_copy_blk (o := ⟨some 33, _, _, _, _, _⟩) rfl (.tmp 31) (.tmp 32) 57 57 rfl 60 Try.underlying57 (by kernel_rfl) (some ⟨g, 0, none⟩) (some ⟨b0, off0, none⟩) k k 1 c rfl rfl hb1 (List.replicate 1 (vU64 v)) hmin hpos (by simp; omega) (by simp [vU64, Value.oneCell']) ?_)
  intro w3 hb3 hk3
  have hb3' : Blk w3 g 60 (List.replicate 1 (vU64 v) ++ List.replicate (k - 1) (.int .u64 0)) := by
    have := splice_rep (vU64 v) (.int .u64 0) 0 1 k (by omega)
    simp at this hb3
    rw [this] at hb3
    simpa using hb3
  have hk13 : Keep [] w1 w3 := hk2.after hk3 (by simp [hg.out])
  clear hb1 hk2 hc0' hb3 hk3
  clear hpos hmin
  go_wp2
  go_loopw [8] (fun i wr => ∃ n : Nat, 0 < n ∧ n ≤ k ∧ i = .int .i64 n ∧ Blk wr g 60 (List.replicate n (vU64 v) ++ List.replicate (k - n) (.int .u64 0)) ∧ Keep [] w1 wr) (fun i _ => k - (intOf i).toNat)
  case atStart => exact ⟨1, by omega, by omega, rfl, hb3', hk13⟩
  case round =>
    rename_i wr
    obtain ⟨n, hn0, hnk, rfl, hb, hkeep⟩ := hrel
    by_cases hlt : n < k
    · obtain ⟨m, hm⟩ : ∃ m, Hid (m = Nat.min n (k - n)) := ⟨_, rfl⟩
      have hm1 : m ≤ n ∧ m ≤ k - n ∧ 0 < m := by
        have := hm.out
        have h1 : m = min n (k - n) := this
        omega
      have hbd := Lib.hid hb.drew
      have hsz := hkeep.size
      have hcs : Hid ((List.replicate m (vU64 v)).length = Nat.min n (k - n)) := by rw [Hid, List.length_replicate]; exact hm.out
      have hsrc : Hid (∀ j u, (List.replicate m (vU64 v))[j]? = some u → wr.drew.cell? ⟨g, 0 + j, none⟩ = some u) := by
        intro j u hu
        obtain ⟨hj, rfl⟩ := List.getElem?_eq_some_iff.1 hu
        have hj' : j < m := by simpa using hj
        rw [Nat.zero_add, hbd.out.cell j, List.getElem?_append_left (by simp; omega), List.getElem?_replicate, if_pos (by omega)]
        simp
      have hfit : Hid (n + (List.replicate m (vU64 v)).length ≤ (List.replicate n (vU64 v) ++ List.replicate (k - n) (Value.int .u64 0)).length) := by rw [Hid, List.length_append, List.length_replicate, List.length_replicate, List.length_replicate]; omega
      have hws : IntKind.i64.wrap ((n : Int) + (m : Int)) = ((n + m : Nat) : Int) := by rw [IntWalk.i64_in _ (by omega)]; omega
      go_wp2
      have hsz1 : (Try.prog.info? 60).map (·.size) = some 1 := by kernel_rfl
      have hkn : ¬ k = n := by omega
      go_region_law (refine step_copy_blk rfl (.tmp 41) (.tmp 44) 57 57 rfl 60 Try.underlying57 hsz1 (some ⟨g, n, none⟩) (some ⟨g, 0, none⟩) (k - n) (k - n) n k (by go_simp) (by go_simp) (off := n) hbd.out (List.replicate m (vU64 v)) hcs.out (fun _ => ⟨rfl, _, _, rfl, hsrc.out⟩) hfit.out (by simp [vU64, Value.oneCell']) ?_; intro w4 hb4 hk4)
      rw [splice_rep (vU64 v) (.int .u64 0) n m k (by omega)] at hb4
      have hk5 := (hkeep.trans ((Keep.refl [] wr).drew)).after hk4 (by simp [hg.out])
      replace hb4 := Lib.hid hb4
      clear hbd hb hkeep hk4 hsrc hfit hcs
      simp only [List.getElem_toArray, List.getElem_cons_succ, List.getElem_cons_zero, Act.put, List.setIfInBounds_toArray, List.set_cons_succ, List.set_cons_zero]
      go_roundw
      case rel => ((repeat apply Exists.intro); exact ⟨⟨n + m, by omega, by omega, by go_num, hb4.out, hk5⟩, rfl⟩)
      case measure => simp [intOf]; omega
    · obtain rfl : n = k := by omega
      have hbk := Lib.hid hb
      go_wp2
      go_ret
      refine ⟨_, _, rfl, hkeep, fun Y hY => ?_⟩
      have := hbk.out
      rw [Nat.sub_self, List.replicate_zero, List.append_nil] at this
      have h2 := this.rd (X := Y) (size := 1) (n := n) (c := n) (xs := (List.replicate n v).map vU64) (fun hm => by have := hY _ hm; have := hg.out; omega) (by simp) (by omega) (by unfold maxLen; omega) (by simp)
      exact h2
end Go.Proofs.Ytejbfknhnhhlfaa

namespace Go.Proofs.Ytejbfknhnhhlfaa
open Go Go.RowKit
set_option maxRecDepth 10000
set_option linter.unusedVariables false
set_option linter.unusedSimpArgs false

theorem Rd.less {X Y : List Nat} {w : World} {size n c : Nat} {A : Option Addr} {xs : List Value} (h : Rd X w size A n c xs) (hs : ∀ b ∈ Y, b ∈ X) : Rd Y w size A n c xs := h.weaken (fun b hb => .inl (hs b hb))
set_option maxHeartbeats 1000000 in
theorem rest_prog {g : Nat} {s : Option (List UInt8)} (m : Nat) (W : World) (h : Cur 69 W g s) (hm : m ≤ 65536) :
    Calls Try.prog 109 #[.pointer (some ⟨g, 0, none⟩), .int .i64 m] W fun e W' => ∃ B k d, e = .returned (.slice B k d) ∧ Keep [g] W W' ∧ Cur 69 W' g (restC s m).2 ∧ NewU64s W W' B k d (restC s m).1 := by
  have hg := h.lt
  have hbl := byteC_lt s
  obtain ⟨p, HP⟩ : ∃ p, Hid (restC s m = p) := ⟨_, rfl⟩
  rw [HP.out]
  go_enter Try.func109, Try.ntmps109
  go_wp2_with fail
  refine (byte_prog W h).mono ?_
  rintro e w1 ⟨rfl, hk1, hcur1⟩
  obtain ⟨w, HW⟩ : ∃ w, Hid (byteC s = w) := ⟨_, rfl⟩
  obtain ⟨s1, HS1⟩ : ∃ t, Hid ((takeC s 1).2 = t) := ⟨_, rfl⟩
  rw [HW.out] at hbl ⊢
  rw [HS1.out] at hcur1
  go_wp2_with fail
  refine (bytes_prog (w : Int) (m : Int) w1 (by omega) (by omega)).mono ?_
  rintro e w2 ⟨rfl, rfl⟩
  have hbr := bytesLen_range w m
  obtain ⟨z, HZ⟩ : ∃ z, Hid (bytesLen (w : Int) (m : Int) = z) := ⟨_, rfl⟩
  rw [HZ.out] at hbr ⊢
  go_wp2_with fail
  refine (take_prog z w1 hcur1 (by omega)).mono ?_
  rintro e w3 ⟨B3, m3, d3, rfl, hk3, hcur3, hown3⟩
  obtain ⟨⟨x, s3⟩, HT⟩ : ∃ t, Hid (takeC s1 z = t) := ⟨_, rfl⟩
  rw [HT.out] at hcur3 hown3
  simp only [] at hcur3 hown3
  have hx : Bys [] w3 B3 m3 d3 x := rd_of_own hown3 (by simp)
  clear hown3 hcur1
  go_wp2_with fail
  refine (unpack_prog_any (w : Int) (m : Int) w3 hx (by omega) (by omega)).mono ?_
  rintro e w4 ⟨B4, k4, d4, rfl, hk4, hnew4⟩
  have hk14 := (hk1.trans hk3).trans (hk4.nil (M := [g]))
  have hcur4 := hcur3.pure hk4
  have hsz := (hk1.trans hk3).size
  have hp1 : Hid (p.1 = unpackL x (w : Int) (m : Int)) := by rw [Hid, ← HP.out]; unfold restC; simp only []; rw [HW.out, HS1.out, HZ.out, HT.out]
  have hp2 : Hid (p.2 = if unpackOk x (w : Int) (m : Int) then s3 else none) := by rw [Hid, ← HP.out]; unfold restC; simp only []; rw [HW.out, HS1.out, HZ.out, HT.out]
  cases hok : unpackOk x (w : Int) (m : Int) with
  | true =>
    have hp2' : Hid (p.2 = s3) := by rw [Hid, hp2.out, hok]; rfl
    clear hok
    go_wp2
    go_ret
    exact ⟨B4, k4, d4, rfl, hk14, by rw [hp2'.out]; exact hcur4, fun Y hY => by rw [hp1.out]; exact hnew4 Y (fun b hb => Nat.lt_of_lt_of_le (hY b hb) hsz)⟩
  | false =>
    have hp2' : Hid (p.2 = none) := by rw [Hid, hp2.out, hok]; rfl
    clear hok
    go_wp2_with fail
    refine (fail_prog w4 hcur4).mono ?_
    rintro e w5 ⟨rfl, hk5, hcur5⟩
    go_wp2
    go_ret
    refine ⟨B4, k4, d4, rfl, hk14.trans hk5, by rw [hp2'.out]; exact hcur5, fun Y hY => ?_⟩
    rw [hp1.out]
    exact ((hnew4 (g :: Y) (fun b hb => by
      rcases List.mem_cons.1 hb with rfl | hb
      · omega
      · exact Nat.lt_of_lt_of_le (hY b hb) hsz)).keep hk5 (by simp)).less (by simp +contextual)
end Go.Proofs.Ytejbfknhnhhlfaa

namespace Go.Proofs.Ytejbfknhnhhlfaa
open Go Go.RowKit
set_option maxRecDepth 10000
set_option linter.unusedVariables false
set_option linter.unusedSimpArgs false

/-! ### less is left -/
theorem getF_less : ∀ (f k n : Nat) (l : List UInt8) (v : Nat) (r : List UInt8), getF f k n l = some (v, r) → r.length < l.length
  | 0, _, _, _, _, _, h => by simp [getF] at h
  | f + 1, k, n, [], _, _, h => by simp [getF] at h
  | f + 1, k, n, x :: l, v, r, h => by
    rw [getF] at h
    split at h
    · cases h
    · split at h
      · injection h with h
        injection h with h1 h2
        subst h2
        simp
      · have := getF_less f (k + 1) _ l v r h
        simp
        omega
theorem getC_less {s : Option (List UInt8)} {x : Nat} {t : List UInt8} (h : getC s = (x, some t)) : t.length < (s.getD []).length := by
  unfold getC at h
  split at h
  · rename_i v l h1
    obtain ⟨b, rfl, hb⟩ := Option.bind_eq_some_iff.1 h1
    injection h with h2 h3
    injection h3 with h3
    subst h3
    exact getF_less 10 0 0 b v l hb
  · injection h with h2 h3
    cases h3
theorem getC_le (s : Option (List UInt8)) : ((getC s).2.getD []).length ≤ (s.getD []).length := by
  obtain ⟨⟨x, t⟩, h⟩ : ∃ p, getC s = p := ⟨_, rfl⟩
  rw [h]
  cases t with
  | none => simp
  | some t => have := getC_less h; simp; omega
theorem lenC_less {s : Option (List UInt8)} {most : Int} {x : Nat} {r : Option (List UInt8)} (h : lenC s most = (x, r)) (hx : 0 < x) : ∃ t, r = some t ∧ t.length < (s.getD []).length ∧ (x : Int) ≤ most := by
  unfold lenC at h
  split at h
  · rename_i v l hg
    split at h
    · rename_i hf
      injection h with h1 h2
      subst h1 h2
      exact ⟨l, rfl, getC_less hg, hf.2⟩
    · injection h with h1 h2
      omega
  · injection h with h1 h2
    omega
theorem takeC_le (s : Option (List UInt8)) (k : Int) : ((takeC s k).2.getD []).length ≤ (s.getD []).length := by
  unfold takeC
  split
  · simp
  · split
    · simp
    · simp
theorem restC_le (s : Option (List UInt8)) (m : Nat) : ((restC s m).2.getD []).length ≤ (s.getD []).length ∧ (restC s m).1.length ≤ m := by
  unfold restC
  simp only []
  constructor
  · split
    · exact Nat.le_trans (takeC_le _ _) (takeC_le _ _)
    · simp
  · unfold unpackL
    split
    · simp [unpP]
    · simp
/-- How much is left, read off the cursor. -/
def curLen (w : World) (g : Nat) : Nat := match w.cell? ⟨g, 0, none⟩ with | some (.slice _ k _) => k | _ => 0
theorem Cur.len {t : TypeId} {w : World} {g : Nat} {s : Option (List UInt8)} (h : Cur t w g s) : curLen w g = (s.getD []).length := by
  obtain ⟨A, n, c, hb, hr, hn⟩ := h
  have hc0 := hb.cell 0
  unfold curLen
  rw [hc0]
  exact hr.len1.symm
theorem cell_len {w w' : World} {g : Nat} (h : w'.cell? ⟨g, 0, none⟩ = w.cell? ⟨g, 0, none⟩) : curLen w' g = curLen w g := by unfold curLen; rw [h]
theorem lenC_lt (s : Option (List UInt8)) (most : Int) : (lenC s most).1 < 2 ^ 64 := by
  have := getC_lt s
  unfold lenC
  split
  · rename_i v l h
    rw [h] at this
    split
    · exact this
    · decide
  · decide
theorem bits_and_i64 (a : Nat) (ha : a < 2 ^ 63) : bits .and .i64 (a : Int) 1 = ((a % 2 : Nat) : Int) := by
  show IntKind.i64.wrap ((BitVec.ofInt 64 (a : Int) &&& BitVec.ofInt 64 (1 : Int)).toNat : Int) = _
  rw [BitVec.toNat_and, BitVec.ofInt_natCast, show BitVec.ofInt 64 (1 : Int) = BitVec.ofNat 64 1 from rfl, BitVec.toNat_ofNat, BitVec.toNat_ofNat, Nat.mod_eq_of_lt (by omega), Nat.mod_eq_of_lt (by decide), Nat.and_one_is_mod, IntWalk.i64_in _ (by omega)]

def DecPost (b : List UInt8) (n : Int) (W : World) (e : Ending) (W' : World) : Prop :=
  ∃ B k d out ok, e = .returned (.tuple #[.slice B k d, .bool ok]) ∧ Keep [] W W' ∧ NewU64s W W' B k d out ∧ DecOk b n out ok
theorem DecPost.no {b : List UInt8} {n : Int} {W W' : World} (hk : Keep [] W W') (h : ∀ l : List UInt64, (l.length : Int) = n → n ≤ 65536 → encR l ≠ b) : DecPost b n W (.returned (.tuple #[.slice none 0 0, .bool false])) W' :=
  ⟨none, 0, 0, [], false, rfl, hk, fun Y hY => Rd.nil_ _ _ _, by simp, by simp, fun l hl hn hb => absurd hb (h l hl hn)⟩

set_option maxHeartbeats 8000000 in
set_option maxRecDepth 10000 in
theorem decodeR_prog {X : List Nat} {A : Option Addr} {m c : Nat} {b : List UInt8} (n : Int) (W : World) (h : Bys X W A m c b) (hroom : m ≤ 10000000000) (hn : -9223372036854775808 ≤ n ∧ n ≤ 9223372036854775807) :
    Calls Try.prog 87 #[.slice A m c, .int .i64 n] W (DecPost b n W) := by
  have hc := h.cap
  have hmc := h.le
  have hml := h.len1
  obtain ⟨i0, hi, hz0, hz1, hz2⟩ := info_parts Try.infoU64
  by_cases hn0 : n < 0
  · go_enter Try.func87, Try.ntmps87
    go_wp2
    go_ret2
    exact DecPost.no (Keep.refl _ _) (fun l hl => by omega)
  by_cases hbig : 65536 < n
  · have hn1 : decide (n < 0) = false := decide_eq_false hn0
    go_enter Try.func87, Try.ntmps87
    go_wp2
    go_ret2
    exact DecPost.no (Keep.refl _ _) (fun l hl => by omega)
  have hn1 : decide (n < 0) = false := decide_eq_false hn0
  obtain ⟨n, rfl⟩ : ∃ k : Nat, n = k := ⟨n.toNat, by omega⟩
  go_enter Try.func87, Try.ntmps87
  go_wp2_with fail
  refine (over_prog W h (by omega)).mono ?_
  rintro e w1 ⟨g, rfl, hgW, hk1, hcur1⟩
  have hg1 := hcur1.lt
  go_wp2
  go_loopw [7] (fun o wr => ∃ (q : List UInt64) (s : Option (List UInt8)), q.length ≤ n ∧ wr.ownsRow w1.heap.size 60 1 o q.length (q.map vU64) ∧ Cur 69 wr g s ∧ Hid (InvD n b q s) ∧ Keep [] W wr ∧ w1.heap.size ≤ wr.heap.size) (fun _ wr => curLen wr g)
  case atStart => exact ⟨[], some b, by simp, World.ownsRow_nil _ _ _ _, hcur1, InvD.start n b, hk1, Nat.le_refl _⟩
  case round =>
    rename_i wr
    obtain ⟨q, s, hqn, hown, hcur, HI, hkeep, hsz⟩ := hrel
    obtain ⟨B0, d0, rfl⟩ := own_form hown
    have hmeas := Lib.hid hcur.len
    by_cases hs : s.getD [] = []
    · have hl0 : ((s.getD []).length : Int) = 0 := by rw [hs]; rfl
      have hU : U64s [] wr B0 q.length d0 q := rd_of_own hown (by simp)
      have hen := Lib.hid (encodeR_prog wr hU)
      have hok6 : decide (q.length ≤ 65536) = true := decide_eq_true (by omega)
      have henc : Hid (enc q = encR q) := by unfold Hid enc; rw [if_pos (by omega)]
      have hd0 : decide ((0 : Int) < ((s.getD []).length : Int)) = false := decide_eq_false (by omega)
      go_wp2_with fail
      refine (left_prog wr hcur).mono ?_
      rintro e w2 ⟨rfl, rfl⟩
      rw [hl0]
      go_wp2_with fail
      refine hen.out.mono ?_
      rintro e w2 ⟨B2, k2, d2, rfl, hk2, hown2⟩
      rw [hok6]
      have hkW2 := hkeep.trans hk2
      have hs1 := str_run (rd_of_own (X := []) hown2 (by simp))
      have hs2 := str_run (h.pure hkW2)
      rw [henc.out] at hs1
      have hcur2 := hcur.pure hk2
      have hU2 : NewU64s W w2 B0 q.length d0 q := fun Y hY => ((rd_of_own (X := Y) hown (fun b hb => by have := hY b hb; have := hk1.size; omega) : U64s Y wr B0 q.length d0 q)).pure hk2
      clear hen hown2
      go_wp2_with fail
      refine (end_prog w2 hcur2).mono ?_
      rintro e w3 ⟨rfl, rfl⟩
      by_cases hsn : s = some []
      · subst hsn
        rw [show decide ((some [] : Option (List UInt8)) = some []) = true from by simp]
        have HE := Lib.hid HI.out.end_
        by_cases hqn2 : q.length = n
        · subst hqn2
          by_cases heq : encR q = b
          · have hbe : (encR q == b) = true := by simpa using heq
            have hres : Hid (DecOk b (q.length : Nat) q true) := ⟨fun _ => ⟨by omega, by omega, heq⟩, (fun h => by cases h), fun l hl hn hb => ⟨rfl, (HE.out l (by omega) (by omega) hb).symm⟩⟩
            clear heq
            go_wp2
            go_ret2
            exact ⟨B0, _, d0, q, true, rfl, hkW2, hU2, hres.out⟩
          · have hbe : (encR q == b) = false := by simpa using heq
            have hno : Hid (∀ l : List UInt64, (l.length : Int) = (q.length : Int) → (q.length : Int) ≤ 65536 → encR l ≠ b) := fun l hl hn hb => heq (by rw [← HE.out l (by omega) (by omega) hb]; exact hb)
            clear heq
            go_wp2
            go_ret2
            exact DecPost.no hkW2 hno.out
        · have hne : ((q.length : Int) == (n : Int)) = false := by rw [beq_eq_false_iff_ne]; omega
          have hne2 : ¬ (q.length : Int) = (n : Int) := by omega
          have hno : Hid (∀ l : List UInt64, (l.length : Int) = (n : Int) → (n : Int) ≤ 65536 → encR l ≠ b) := fun l hl hn hb => hqn2 (by rw [← HE.out l (by omega) (by omega) hb]; omega)
          clear hqn2
          go_wp2
          go_ret2
          exact DecPost.no hkW2 hno.out
      · rw [decide_eq_false hsn]
        obtain rfl : s = none := by
          cases s with
          | none => rfl
          | some l => exact absurd (by rw [show l = [] from hs]) hsn
        have HE := HI.out.bad
        have hno : Hid (∀ l : List UInt64, (l.length : Int) = (n : Int) → (n : Int) ≤ 65536 → encR l ≠ b) := fun l hl hn hb => HE l (by omega) (by omega) hb
        clear HE
        go_wp2
        go_ret2
        exact DecPost.no hkW2 hno.out
    · have hpos : (0 : Int) < ((s.getD []).length : Int) := by have := List.length_pos_iff.2 hs; omega
      have hsne : Hid (s ≠ some []) := by unfold Hid; rintro rfl; exact hs rfl
      have hql : (q.length : Int) ≤ (n : Int) := by omega
      clear hs
      go_wp2_with fail
      refine (left_prog wr hcur).mono ?_
      rintro e w2 ⟨rfl, rfl⟩
      go_wp2_with fail
      refine (len_prog (2 * ((n : Int) - (q.length : Int)) + 1) wr hcur (by omega)).mono ?_
      rintro e w2 ⟨rfl, hk2, hcur2⟩
      obtain ⟨⟨hd, s2⟩, HL⟩ : ∃ p, Hid (lenC s (2 * ((n : Int) - (q.length : Int)) + 1) = p) := ⟨_, rfl⟩
      have hlt := (lenC_lt s (2 * ((n : Int) - (q.length : Int)) + 1))
      rw [HL.out] at hcur2 hlt ⊢
      simp only [] at hcur2 hlt
      have hkW2 : Keep [] W w2 := hkeep.after hk2 (by simp; omega)
      have hstep := Lib.hid (HI.out.step hsne.out)
      by_cases hlt2 : hd < 2
      · have hno : Hid (∀ l : List UInt64, (l.length : Int) = (n : Int) → (n : Int) ≤ 65536 → encR l ≠ b) := fun l hl hn => hstep.out.1 (by unfold stepD; simp only []; rw [HL.out]; simp only []; rw [if_pos hlt2]) l (by omega) (by omega)
        go_wp2
        go_ret2
        exact DecPost.no hkW2 hno.out
      · obtain ⟨t, rfl, htl, hdm⟩ := lenC_less HL.out (by omega)
        have hmeas2 : t.length < curLen wr g := by rw [hmeas.out]; exact htl
        have hand := bits_and_i64 hd (by omega)
        by_cases hodd : hd % 2 = 1
        · have hst : Hid (stepD n q s = some (q ++ (restC (some t) (hd / 2)).1, (restC (some t) (hd / 2)).2)) := by
            unfold Hid stepD; simp only []; rw [HL.out]; simp only []; rw [if_neg hlt2, if_pos hodd]
          have HI2 := Lib.hid (hstep.out.2 _ _ hst.out)
          rw [hodd] at hand
          have hrl := restC_le (some t) (hd / 2)
          have hre := Lib.hid (rest_prog (hd / 2) w2 hcur2 (by omega))
          rw [show ((hd / 2 : Nat) : Int) = (hd : Int) / 2 from by omega] at hre
          generalize restC (some t) (hd / 2) = pr at *
          obtain ⟨r, s3⟩ := pr
          simp only [Option.getD_some] at hrl
          have hown2 := own_keep hown hk2 (by simp; omega)
          clear hown hcur
          go_wp2_with fail
          refine hre.out.mono ?_
          rintro e w3 ⟨B3, k3, d3, rfl, hk3, hcur3, hnew3⟩
          have hr3 : U64s [] w3 B3 k3 d3 r := hnew3 [] (by simp)
          have hown3 := own_keep hown2 hk3 (by simp; omega)
          have hsz3 := (hk2.trans hk3).size
          have hk3l := hr3.len1
          clear hre hown2 hcur2
          go_wp2_with (at_builtin; refine wpList_append_rd (o := ⟨some 56, _, _, _, _, _⟩) rfl _ _ 57 rfl w1.heap.size 60 i0 (.int .u64 0) 1 8 Try.underlying57 hi hz0 hz1 hz2 rfl (by omega) _ q.length _ rfl hown3 rfl hr3 (vU64_one r) (by unfold maxLen; omega) (by omega) (by omega) ?_)
          intro v4 w4 hown4 hgr
          have hk4 := keep_of_grown hgr
          have hoc := own_cells hown3
          have hcur4 := hcur3.keep hk4 (fun x hx => by have := (hoc x hx).1; omega)
          have hkW4 : Keep [] W w4 := ((hkW2.after hk3 (by simp; omega)).after hk4 (fun x hx => by have := (hoc x hx).1; have := hk1.size; omega))
          have hsz4 := hk4.size
          have hfin : Hid (w4.ownsRow w1.heap.size 60 1 v4 (q ++ r).length ((q ++ r).map vU64)) := by
            rw [Hid, List.length_append, List.map_append, hk3l]
            exact hown4
          obtain ⟨B4, d4, rfl⟩ := own_form hown4
          have hm4 : curLen w4 g < curLen wr g := by rw [hcur4.len]; omega
          clear hown4 hgr hown3
          rw [show q.length + k3 = (q ++ r).length from by rw [List.length_append]; omega] at hfin ⊢
          go_wp2
          go_roundw
          case rel => exact ⟨q ++ r, s3, by rw [List.length_append]; omega, hfin.out, hcur4, HI2, hkW4, by omega⟩
          case measure => exact hm4
        · have hev : hd % 2 = 0 := by omega
          have hst : Hid (stepD n q s = some (q ++ List.replicate (hd / 2) (UInt64.ofNat (getC (some t)).1), (getC (some t)).2)) := by
            unfold Hid stepD; simp only []; rw [HL.out]; simp only []; rw [if_neg hlt2, if_neg hodd]
          have HI2 := Lib.hid (hstep.out.2 _ _ hst.out)
          rw [hev] at hand
          have hrl := getC_le (some t)
          have hx64 := getC_lt (some t)
          have hge := Lib.hid (get_prog w2 hcur2)
          generalize getC (some t) = pr at *
          obtain ⟨x, s3⟩ := pr
          simp only [Option.getD_some] at hrl hx64
          have hown2 := own_keep hown hk2 (by simp; omega)
          have hv : vU64 (UInt64.ofNat x) = .int .u64 (x : Int) := by
            unfold vU64
            rw [UInt64.toNat_ofNat', Nat.mod_eq_of_lt (by omega)]
          have hhalf : (0 : Int) < (hd : Int) / 2 := by omega
          clear hown hcur hodd
          go_wp2_with fail
          refine hge.out.mono ?_
          rintro e w3 ⟨rfl, hk3, hcur3⟩
          have hown3 := own_keep hown2 hk3 (by simp; omega)
          have hka : Keep [] w3 (w3.alloc (.cells #[.int .u64 (x : Int)] 60)) := (Keep.refl _ _).alloc _
          have hbk : U64s [] (w3.alloc (.cells #[.int .u64 (x : Int)] 60)) (some ⟨w3.heap.size, 0, none⟩) 1 1 [UInt64.ofNat x] := by
            refine (Blk.new w3 60 [.int .u64 (x : Int)]).rd (by simp) rfl (by omega) (by simp [maxLen]) ?_
            rw [← hv]; rfl
          have hre := repeat_prog (hd / 2) _ hbk (by omega) (by omega)
          rw [show ((hd / 2 : Nat) : Int) = (hd : Int) / 2 from by omega] at hre
          replace hre := Lib.hid hre
          have hown3a := own_keep hown3 hka (by simp)
          have hcur3a := hcur3.pure hka
          have hsz3a := (hk2.trans hk3).size
          have hsz3b := hka.size
          clear hge hown2 hcur2 hv
          go_wp2_with fail
          refine hre.out.mono ?_
          rintro e w5 ⟨B3, d3, rfl, hk5, hnew3⟩
          generalize UInt64.ofNat x = xv at *
          generalize hr9 : List.replicate (hd / 2) xv = r at *
          have hrr : r.length = hd / 2 := by rw [← hr9, List.length_replicate]
          have hr3 : U64s [] w5 B3 (hd / 2) d3 r := hnew3 [] (by simp)
          have hown5 := own_keep hown3a hk5 (by simp)
          have hcur5 := hcur3a.pure hk5
          have hsz5 := hk5.size
          have hkW5 : Keep [] W w5 := ((hkW2.after hk3 (by simp; omega)).trans hka).trans hk5
          replace hr9 := Lib.hid hr9
          clear hre hown3 hown3a hcur3 hcur3a hbk
          go_wp2_with (at_builtin; refine wpList_append_rd (o := ⟨some 43, _, _, _, _, _⟩) rfl _ _ 57 rfl w1.heap.size 60 i0 (.int .u64 0) 1 8 Try.underlying57 hi hz0 hz1 hz2 rfl (by omega) _ q.length _ rfl hown5 rfl hr3 (vU64_one r) (by unfold maxLen; omega) (by omega) (by omega) ?_)
          intro v4 w4 hown4 hgr
          have hk4 := keep_of_grown hgr
          have hoc := own_cells hown5
          have hcur4 := hcur5.keep hk4 (fun x hx => by have := (hoc x hx).1; omega)
          have hkW4 : Keep [] W w4 := hkW5.after hk4 (fun x hx => by have := (hoc x hx).1; have := hk1.size; omega)
          have hsz4 := hk4.size
          have hfin : Hid (w4.ownsRow w1.heap.size 60 1 v4 (q ++ r).length ((q ++ r).map vU64)) := by
            rw [Hid, List.length_append, List.map_append, hrr]
            exact hown4
          obtain ⟨B4, d4, rfl⟩ := own_form hown4
          have hm4 : curLen w4 g < curLen wr g := by rw [hcur4.len]; omega
          clear hown4 hgr hown5
          rw [show q.length + hd / 2 = (q ++ r).length from by rw [List.length_append]; omega] at hfin ⊢
          go_wp2
          go_roundw
          case rel => exact ⟨q ++ r, s3, by rw [List.length_append]; omega, hfin.out, hcur4, HI2, hkW4, by omega⟩
          case measure => exact hm4
end Go.Proofs.Ytejbfknhnhhlfaa

namespace Go.Proofs.Ytejbfknhnhhlfaa
open Go Go.RowKit
set_option maxRecDepth 10000
set_option linter.unusedVariables false
set_option linter.unusedSimpArgs false

/-- No row has these bytes: found by reading them. -/
def noD (n : Nat) (b : List UInt8) : Nat → List UInt64 → Option (List UInt8) → Bool
  | 0, _, _ => false
  | _ + 1, _, none => true
  | _ + 1, q, some [] => decide (q.length ≠ n) || decide (encR q ≠ b)
  | f + 1, q, some (x :: t) => match stepD n q (some (x :: t)) with
    | none => true
    | some (q', s') => noD n b f q' s'
theorem noD_spec {n : Nat} {b : List UInt8} : ∀ (f : Nat) (q : List UInt64) (s : Option (List UInt8)), InvD n b q s → noD n b f q s = true → ∀ l : List UInt64, l.length = n → n ≤ 65536 → encR l ≠ b
  | 0, _, _, _, h => by simp [noD] at h
  | f + 1, q, none, hI, _ => hI.bad
  | f + 1, q, some [], hI, h => fun l hl hn hb => by
    have h1 := hI.end_ l hl hn hb
    subst h1
    simp [noD, hl, hb] at h
  | f + 1, q, some (x :: t), hI, h => by
    unfold noD at h
    have hs := hI.step (by simp)
    split at h
    · rename_i h1; exact hs.1 h1
    · rename_i q' s' h1
      exact noD_spec f q' s' (hs.2 _ _ h1) h
theorem DecOk.no {b : List UInt8} {n : Nat} {out : List UInt64} {ok : Bool} (h : DecOk b n out ok) (hno : noD n b 100 [] (some b) = true) : ok = false ∧ out = [] := by
  have h1 := noD_spec 100 [] (some b) (InvD.start n b) hno
  cases ok with
  | false => exact ⟨rfl, h.2.1 rfl⟩
  | true =>
    obtain ⟨h2, h3, h4⟩ := h.1 rfl
    exact absurd h4 (h1 out (by omega) (by omega))
theorem DecOk.yes {b : List UInt8} {n : Nat} {out l : List UInt64} {ok : Bool} (h : DecOk b n out ok) (hl : l.length = n) (hn : n ≤ 65536) (hb : encR l = b) : ok = true ∧ out = l := h.2.2 l (by omega) (by omega) hb
end Go.Proofs.Ytejbfknhnhhlfaa
