/-
  The walks of layer 8's functions, part 4: the program's Split; Count, both.
-/
import Derived.Test.YtfhdiafgcfpdhaaNl3
namespace Go.Proofs.Ytfhdiafgcfpdhaa
open Go Go.RowKit
set_option linter.unusedVariables false
set_option linter.unusedSimpArgs false

theorem own_base {w : World} {base base' : Nat} {e : TypeId} {size n : Nat} {v : Value} {xs : List Value} (h : w.ownsRow base e size v n xs) (hb : base' ≤ base) : w.ownsRow base' e size v n xs := by
  refine ⟨h.1, ?_⟩
  rcases h.2 with h2 | ⟨g, cap, cur, hv, hg, r⟩
  · exact .inl h2
  · exact .inr ⟨g, cap, cur, hv, by omega, r⟩

set_option maxHeartbeats 1000000 in
theorem split_own {X : List Nat} {A : Option Addr} {n c : Nat} {l : List Cell} (W : World) (h : Cells X W A n c l) :
    Calls Try.prog 25 #[.slice A n c] W fun e W' => ∃ p B k d B' k' d', e = .returned (.tuple #[.slice B k d, .slice B' k' d']) ∧ Keep [] W W' ∧ W.heap.size ≤ p ∧ (∀ Y : List Nat, (∀ b ∈ Y, b < W.heap.size ∨ p ≤ b) → Bys Y W' B k d (splitBits l)) ∧ W'.ownsRow p 47 5 (.slice B' k' d') k' ((splitRest l).flatMap Cell.cs) := by
  have hc := h.cap
  have hnc := h.le
  obtain rfl := h.len
  by_cases hbig : 65536 < l.length
  · have hs : Hid (splitBits l = [] ∧ splitRest l = []) := by unfold splitBits splitRest; rw [if_neg (by omega), if_neg (by omega)]; exact ⟨rfl, rfl⟩
    go_enter Try.func25, Try.ntmps25
    go_wp2
    go_ret2
    exact ⟨W.heap.size, none, 0, 0, none, 0, 0, rfl, Keep.refl _ _, Nat.le_refl _, fun Y _ => by rw [hs.out.1]; exact Rd.nil_ _ _ _, by rw [hs.out.2]; exact World.ownsRow_nil _ _ _ _⟩
  · obtain ⟨j0, gi, gz0, gz1, gz2⟩ := info_parts Try.infoU64
    go_enter Try.func25, Try.ntmps25
    go_wp2_with (at_make; refine wpList_make_full _ rfl _ _ 22 rfl W.heap.size 51 j0 (.int .u64 0) 1 Try.underlying22 gi gz0 gz1 _ _ _ _ l.length rfl rfl rfl rfl (by rw [gz2]; omega) (by unfold maxLen; omega) (Nat.le_refl _) ?_)
    intro w1 hown hgr
    have hk1 : Keep [] W w1 := (Keep.refl [] W).grown hgr (by simp)
    have hb1 : Blk w1 W.heap.size 51 (((l.take 0).map bitOf ++ List.replicate (l.length - 0) (0 : UInt64)).map vU64) := by
      have := blk_of_own hown
      simpa [toList_madeCells_one, vU64] using this
    clear hown hgr
    go_wp2
    go_loopw [17] (fun i wr => ∃ k : Nat, k ≤ l.length ∧ i = .int .i64 k ∧ Blk wr W.heap.size 51 (((l.take k).map bitOf ++ List.replicate (l.length - k) (0 : UInt64)).map vU64) ∧ Keep [] W wr) (fun i _ => l.length - (intOf i).toNat)
    case atStart => exact ⟨0, by omega, rfl, hb1, hk1⟩
    case round =>
      obtain ⟨k, hk, rfl, hb, hkeep⟩ := hrel
      by_cases hlt : k < l.length
      · obtain ⟨b, off, rfl, _, _, hc0, hc1, hc2, hc3, hc4⟩ := Cells.at5 (h.pure hkeep) hlt
        have hlen : (((l.take k).map bitOf ++ List.replicate (l.length - k) (0 : UInt64)).map vU64).length = l.length := by simp; omega
        have hw := hkeep.size
        cases hx : l[k].null with
        | true =>
          have hms := Lib.hid (marks_same l k hlt hx)
          rw [hx] at hc0
          clear hx
          go_wp2
          go_roundw
          case rel => exact ⟨k + 1, by omega, by go_num, by rw [hms.out]; exact hb.alloc _, hkeep.alloc _⟩
          case measure => simp [intOf]; omega
        | false =>
          have hms := Lib.hid (marks_step l k hlt)
          have hbo : Hid (bitOf l[k] = 1) := by simp [Hid, bitOf, hx]
          rw [hx] at hc0
          clear hx
          obtain ⟨u, hu⟩ : ∃ u, Hid ((((l.take k).map bitOf ++ List.replicate (l.length - k) (0 : UInt64)).map vU64)[k]? = some u) := ⟨_, List.getElem?_eq_getElem (by omega)⟩
          have hcell := (hb.alloc (.cells #[.bool false, .int .i64 l[k].int.toInt, .string l[k].text, .int .i64 l[k].x.toInt, .int .i64 l[k].y.toInt] 47)).cell k
          rw [hu.out] at hcell
          have hfr := (hb.alloc (.cells #[.bool false, .int .i64 l[k].int.toInt, .string l[k].text, .int .i64 l[k].x.toInt, .int .i64 l[k].y.toInt] 47)).frozen k
          go_wp2
          go_roundw
          case rel =>
            refine ⟨k + 1, by omega, by go_num, ?_, (hkeep.alloc _).setCell (.inr (Nat.le_refl _)) _⟩
            rw [hms.out, hbo.out, List.map_set]
            exact (hb.alloc _).set_ k (.int .u64 1)
          case measure => simp [intOf]; omega
      · obtain rfl : k = l.length := by omega
        have hb2 : Blk wr W.heap.size 51 ((l.map bitOf).map vU64) := by simpa using hb
        have hu : U64s [] wr (some ⟨W.heap.size, 0, none⟩) l.length l.length (l.map bitOf) := hb2.rd (by simp) (by simp) (Nat.le_refl _) (by unfold maxLen; omega) (by rw [List.take_of_length_le (by simp)])
        have hs : Hid (splitBits l = packB (l.map bitOf) 1 ∧ splitRest l = there l) := by unfold splitBits splitRest; rw [if_pos (by omega), if_pos (by omega)]; exact ⟨rfl, rfl⟩
        have hw := hkeep.size
        clear hb hb2
        go_wp2_with fail
        refine (pack_prog 1 wr hu (by omega)).mono ?_
        rintro e w2 ⟨B3, m3, d3, rfl, hk3, hb3⟩
        go_wp2_with fail
        refine (clone_prog w2 (h.pure (hkeep.trans hk3)) (by omega)).mono ?_
        rintro e w3 ⟨B4, d4, rfl, hk4, hown4⟩
        have hd4 : d4 ≤ 9223372036854775807 := (rd_of_own (X := []) hown4 (by simp)).cap
        go_wp2_with fail
        refine (deleteFunc_prog w3 hown4 (by omega) hd4).mono ?_
        rintro e w4 ⟨m5, rfl, ⟨M, hM, hk5⟩, hown5⟩
        have hw2 := hk3.size
        have hk24 : Keep [] w2 w4 := (hk4.nil.trans hk5).mono (fun b hb => .inr (hM b hb))
        go_wp2
        go_ret2
        have hw3 := hk3.size
        refine ⟨w2.heap.size, _, _, _, _, _, _, rfl, (hkeep.trans hk3).trans hk24, by omega, fun Y hY => ?_, ?_⟩
        · rw [hs.out.1]
          refine ((hb3 (Y.filter fun b => decide (b < W.heap.size)) (fun b hb => ?_)).weaken (fun b hb => ?_)).pure hk24
          · have := (List.mem_filter.1 hb).2
            simp at this
            omega
          · rcases hY b hb with h1 | h1
            · exact .inl (List.mem_filter.2 ⟨hb, by simpa using h1⟩)
            · exact .inr h1
        · rw [hs.out.2]
          exact own_base hown5 (by omega)

theorem split_prog {X : List Nat} {A : Option Addr} {n c : Nat} {l : List Cell} (W : World) (h : Cells X W A n c l) :
    Calls Try.prog 25 #[.slice A n c] W fun e W' => ∃ B k d B' k' d', e = .returned (.tuple #[.slice B k d, .slice B' k' d']) ∧ Keep [] W W' ∧ NewBys W W' B k d (splitBits l) ∧ NewCells W W' B' k' d' (splitRest l) :=
  (split_own W h).mono fun e W' ⟨p, B, k, d, B', k', d', he, hk, hp, hb, ho⟩ => ⟨B, k, d, B', k', d', he, hk, fun Y hY => hb Y (fun b hb => .inl (hY b hb)), fun Y hY => rd_of_own ho (fun b hb => by have := hY b hb; omega)⟩

/-! ### Count -/
def ones (l : List UInt64) : Nat := (l.map UInt64.toNat).sum
def countN (b : List UInt8) (n : Int) : Int := if unpackOk b 1 n then (ones (unpackL b 1 n) : Int) else -1

theorem ones_take (l : List UInt64) (k : Nat) (hk : k < l.length) : ones (l.take (k + 1)) = ones (l.take k) + l[k].toNat := by
  rw [ones, ones, List.take_succ_eq_append_getElem hk, List.map_append, List.sum_append]
  simp
theorem unpack_one {b : List UInt8} {n : Int} (h : unpackOk b 1 n = true) : ((unpackL b 1 n).length : Int) = n ∧ n ≤ 65536 ∧ ∀ x ∈ unpackL b 1 n, x = 0 ∨ x = 1 := by
  obtain ⟨hp1, hp2, hp3, hp4⟩ := pack_unpack h
  refine ⟨hp3, (unpackOk_iff.1 h).2.2.2.1, fun x hx => ?_⟩
  have := (width_le_iff _ 1).1 (by omega) x hx
  rcases Nat.eq_zero_or_pos x.toNat with h0 | h0
  · exact .inl (UInt64.toNat_inj.1 h0)
  · exact .inr (UInt64.toNat_inj.1 (by have : (1 : UInt64).toNat = 1 := rfl; omega))
theorem ones_le (l : List UInt64) (h : ∀ x ∈ l, x = 0 ∨ x = 1) : ones l ≤ l.length := by
  induction l with
  | nil => simp [ones]
  | cons x l ih =>
    have h1 : x.toNat ≤ 1 := by rcases h x (by simp) with rfl | rfl <;> decide
    have := ih (fun y hy => h y (by simp [hy]))
    simp only [ones, List.map_cons, List.sum_cons, List.length_cons] at this ⊢
    omega

set_option maxHeartbeats 1000000 in
theorem count_prog {X : List Nat} {A : Option Addr} {m c : Nat} {b : List UInt8} (n : Int) (W : World) (h : Bys X W A m c b) (hn : -9223372036854775808 ≤ n ∧ n ≤ 9223372036854775807) :
    Calls Try.prog 30 #[.slice A m c, .int .i64 n] W fun e W' => e = .returned (.int .i64 (countN b n)) ∧ Keep [] W W' := by
  have hc := h.cap
  have hnc := h.le
  obtain rfl := h.len1
  go_enter Try.func30, Try.ntmps30
  go_wp2_with fail
  refine (unpack_prog_any 1 n W h (by omega) hn).mono ?_
  rintro e w1 ⟨B, k, d, rfl, hk1, hb⟩
  cases hok : unpackOk b 1 n with
  | false =>
    have hfin : Hid (countN b n = -1) := by unfold countN Hid; rw [if_neg (by simp [hok])]
    go_wp2
    go_ret
    exact ⟨ret_i hfin.out.symm, hk1⟩
  | true =>
    have hfin : Hid (countN b n = ones (unpackL b 1 n)) := by unfold countN Hid; rw [if_pos hok]
    obtain ⟨hl1, hl2, hl3⟩ := unpack_one hok
    have hu := hb [] (by simp)
    generalize unpackL b 1 n = l at *
    obtain rfl := hu.len1
    have hkd := hu.cap
    have hle := hu.le
    have hlen : l.length ≤ 65536 := by omega
    clear hok hb hl1
    replace hl3 := Lib.hid hl3
    go_wp2
    go_loop [7, 20] (fun s i => ∃ k : Nat, k ≤ l.length ∧ i = .int .i64 k ∧ s = .int .u64 (ones (l.take k) : Nat)) (fun _ i => l.length - (intOf i).toNat)
    case atStart => exact ⟨0, by omega, rfl, rfl⟩
    case round =>
      obtain ⟨k, hk, rfl, rfl⟩ := hrel
      have hol : ones (l.take k) ≤ 65536 := by
        have := ones_le (l.take k) (fun x hx => hl3.out x (List.mem_of_mem_take hx))
        simp at this
        omega
      by_cases hlt : k < l.length
      · obtain ⟨bb, off, rfl, _, _, hcell⟩ := hu.one hlt
        unfold vU64 at hcell
        have hst := Lib.hid (ones_take l k hlt)
        have hx1 : l[k].toNat ≤ 1 := by rcases hl3.out l[k] (List.getElem_mem hlt) with h | h <;> rw [h] <;> decide
        go_wp2
        go_round
        case rel => exact ⟨k + 1, by omega, by go_num, by rw [hst.out]; go_num⟩
        case measure => simp [intOf]; omega
      · obtain rfl : k = l.length := by omega
        rw [List.take_length] at hol
        go_wp2
        go_ret
        exact ⟨ret_i (by rw [hfin.out] <;> simp), hk1⟩

set_option maxHeartbeats 1000000 in
theorem count_ref {X : List Nat} {A : Option Addr} {m c : Nat} {b : List UInt8} (n : Int) (W : World) (h : Bys X W A m c b) (hn : -9223372036854775808 ≤ n ∧ n ≤ 9223372036854775807) :
    Calls Try.prog 31 #[.slice A m c, .int .i64 n] W fun e W' => e = .returned (.int .i64 (countN b n)) ∧ Keep [] W W' := by
  have hc := h.cap
  have hnc := h.le
  obtain rfl := h.len1
  go_enter Try.func31, Try.ntmps31
  go_wp2_with fail
  refine (unpack_ref_any 1 n W h (by omega) hn).mono ?_
  rintro e w1 ⟨B, k, d, rfl, hk1, hb⟩
  cases hok : unpackOk b 1 n with
  | false =>
    have hfin : Hid (countN b n = -1) := by unfold countN Hid; rw [if_neg (by simp [hok])]
    go_wp2
    go_ret
    exact ⟨ret_i hfin.out.symm, hk1⟩
  | true =>
    have hfin : Hid (countN b n = ones (unpackL b 1 n)) := by unfold countN Hid; rw [if_pos hok]
    obtain ⟨hl1, hl2, hl3⟩ := unpack_one hok
    have hu := hb [] (by simp)
    generalize unpackL b 1 n = l at *
    obtain rfl := hu.len1
    have hkd := hu.cap
    have hle := hu.le
    have hlen : l.length ≤ 65536 := by omega
    clear hok hb hl1
    replace hl3 := Lib.hid hl3
    go_wp2
    go_loop [7, 8] (fun s i => ∃ k : Nat, k ≤ l.length ∧ i = .int .i64 k ∧ s = .int .i64 (ones (l.take k) : Nat)) (fun _ i => l.length - (intOf i).toNat)
    case atStart => exact ⟨0, by omega, rfl, rfl⟩
    case round =>
      obtain ⟨k, hk, rfl, rfl⟩ := hrel
      have hol : ones (l.take k) ≤ 65536 := by
        have := ones_le (l.take k) (fun x hx => hl3.out x (List.mem_of_mem_take hx))
        simp at this
        omega
      by_cases hlt : k < l.length
      · obtain ⟨bb, off, rfl, _, _, hcell⟩ := hu.one hlt
        unfold vU64 at hcell
        have hst := Lib.hid (ones_take l k hlt)
        have hx1 : l[k].toNat ≤ 1 := by rcases hl3.out l[k] (List.getElem_mem hlt) with h | h <;> rw [h] <;> decide
        go_wp2
        go_round
        case rel => exact ⟨k + 1, by omega, by go_num, by rw [hst.out]; go_num⟩
        case measure => simp [intOf]; omega
      · obtain rfl : k = l.length := by omega
        rw [List.take_length] at hol
        go_wp2
        go_ret
        exact ⟨ret_i (by rw [hfin.out] <;> simp), hk1⟩
end Go.Proofs.Ytfhdiafgcfpdhaa
