/-
  The walk of DictLists.
-/
import Derived.BigQuiet
import Derived.Test.YtejbfknhnhhlfaaFDxS
import Derived.Test.YtejbfknhnhhlfaaFDl
namespace Go.Proofs.Ytejbfknhnhhlfaa
open Go Go.RowKit
set_option maxRecDepth 10000
set_option linter.unusedVariables false
set_option linter.unusedSimpArgs false

theorem ent_ext : ∀ (b : List Cell) (x : List Cell × List Nat), ∃ s q, (b.foldl entStep x).1 = x.1 ++ s ∧ (b.foldl entStep x).2 = x.2 ++ q
  | [], x => ⟨[], [], by simp, by simp⟩
  | c :: b, x => by
    obtain ⟨s, q, h1, h2⟩ := ent_ext b (entStep x c)
    rw [List.foldl_cons, h1, h2]
    unfold entStep
    simp only []
    refine ⟨if c ∈ x.1 then s else c :: s, x.1.idxOf c :: q, ?_, by simp⟩
    split <;> simp
theorem ent_at (l : List Cell) (k : Nat) (hk : k < l.length) (hb : l.length ≤ 65536) :
    ∃ h : k < (entU l).length, (entU l)[k].toNat = (entL (l.take k)).1.idxOf l[k] ∧ (entL (l.take (k + 1))).1.length ≤ (entL l).1.length ∧ ∃ hs : (entU l)[k].toNat < (entL l).1.length, (entL l).1[(entU l)[k].toNat] = l[k] := by
  obtain ⟨s, q, h1, h2⟩ := ent_ext (l.drop (k + 1)) (entL (l.take (k + 1)))
  have he : (l.drop (k + 1)).foldl entStep (entL (l.take (k + 1))) = entL l := by
    unfold entL
    rw [← List.foldl_append, List.take_append_drop]
  rw [he] at h1 h2
  have hlen := (entOk l k (by omega)).len
  have hle := (entOk l k (by omega)).le
  have hlt : (l.take k).length = k := by rw [List.length_take]; omega
  have hix : (entL (l.take k)).1.idxOf l[k] ≤ (entL (l.take k)).1.length := List.idxOf_le_length
  have hu := entU_len l
  obtain ⟨hs, hse⟩ := (ent_ok l).at_ k hk (by rw [(ent_ok l).len]; exact hk)
  have hget : (entL l).2[k]? = some ((entL (l.take k)).1.idxOf l[k]) := by
    rw [h2, entL_snoc l k hk]
    unfold entStep
    simp only []
    rw [List.append_assoc, List.getElem?_append_right (by omega)]
    simp [hlen, hlt]
  have : (entU l)[k]? = some (UInt64.ofNat ((entL (l.take k)).1.idxOf l[k])) := by
    unfold entU
    rw [List.getElem?_map, hget]
    rfl
  rw [List.getElem?_eq_getElem (by omega)] at this
  injection this with this
  have key : (entU l)[k].toNat = (entL (l.take k)).1.idxOf l[k] := by rw [this, UInt64.toNat_ofNat', Nat.mod_eq_of_lt (by omega)]
  refine ⟨by omega, key, by rw [h1]; simp, ?_⟩
  have h2k : (entL l).2[k]'(by rw [(ent_ok l).len]; exact hk) = (entL (l.take k)).1.idxOf l[k] := (List.getElem?_eq_some_iff.1 hget).2
  rw [key]
  simp only [h2k] at hs hse
  exact ⟨hs, hse⟩
theorem ent_next (l : List Cell) (k : Nat) (hk : k < l.length) (v : Nat) (hv : v = (entL (l.take k)).1.idxOf l[k]) :
    (v < (entL (l.take k)).1.length ∧ (entL (l.take (k + 1))).1.length = (entL (l.take k)).1.length) ∨ (v = (entL (l.take k)).1.length ∧ (entL (l.take (k + 1))).1.length = (entL (l.take k)).1.length + 1) := by
  subst hv
  rw [entL_snoc l k hk]
  unfold entStep
  simp only []
  by_cases hc : l[k] ∈ (entL (l.take k)).1
  · rw [if_pos hc]
    exact .inl ⟨List.idxOf_lt_length_of_mem hc, rfl⟩
  · rw [if_neg hc, List.idxOf_eq_length hc]
    exact .inr ⟨rfl, by simp⟩
theorem nodup_ne {s : List Cell} (h : s.Nodup) {i j : Nat} (hi : i < s.length) (hj : j < i) : s[i] ≠ s[j] := fun e => by
  have := (List.getElem_inj h).1 e
  omega

set_option maxHeartbeats 4000000 in
theorem DictLists_walk (A : Option Addr) (n c : Nat) (l : List Cell) (W : World) (h : Cells [] W A n c l) (ht : ∀ x ∈ l, x.text.size ≤ maxLen) :
    Calls Try.prog 11 #[.slice A n c] W fun e W' => e = .returned (.bool true) ∧ Below W.heap.size W W' := by
  have hc := h.cap
  have hnc := h.le
  obtain rfl := h.len
  replace ht := Lib.hid ht
  go_enter Try.func11, Try.ntmps11
  go_wp2_with fail
  refine (small11 W).mono ?_
  rintro e w1 ⟨rfl, hk1⟩
  go_wp2_with fail
  refine (few_prog w1 (h.pure hk1)).mono ?_
  rintro e w2 ⟨⟨v, rfl, hv⟩, hk2⟩
  have hkW := hk1.trans hk2
  cases v with
  | false =>
    go_wp2
    go_ret
    exact ⟨rfl, hkW.below⟩
  | true =>
    have hl := hv rfl
    clear hv
    have E1 := Lib.hid (entries_prog w2 (h.pure hkW) (by omega) ht.out)
    go_wp2_with fail
    refine E1.out.mono ?_
    rintro e w3 ⟨B1, m1, d1, B2, d2, rfl, hk3, ho1, ho2⟩
    have hs3 : Cells [] w3 B1 m1 d1 (entL l).1 := rd_of_own ho1 (by simp)
    have hu3 : U64s [] w3 B2 l.length d2 (entU l) := rd_of_own ho2 (by simp)
    obtain rfl := hs3.len
    have hkW3 := hkW.trans hk3
    have hl3 := h.pure hkW3
    have hok := Lib.hid (ent_ok l)
    have hat := Lib.hid (fun k hk => ent_at l k hk (by omega))
    have hSl := (ent_ok l).le
    have hnn : ((l.length : Int) != (l.length : Int)) = false := by simp
    have hwS : IntKind.u64.wrap ((entL l).1.length : Int) = (entL l).1.length := IntWalk.u64_in _ (by omega)
    have hsc := hs3.cap
    have hsle := hs3.le
    clear ho1 ho2 E1 hk1 hk2 hk3
    go_wp2
    go_loopw [7, 8] (fun x i wr => ∃ k : Nat, k ≤ l.length ∧ i = .int .i64 k ∧ x = .int .u64 ((entL (l.take k)).1.length : Nat) ∧ Keep [] w3 wr) (fun _ i _ => l.length - (intOf i).toNat)
    case atStart => exact ⟨0, Nat.zero_le _, rfl, rfl, Keep.refl _ _⟩
    case round =>
      obtain ⟨k, hk, rfl, rfl, hkr⟩ := hrel
      by_cases hlt : k < l.length
      · obtain ⟨hku, hv, hle, hlt2, heq⟩ := hat.out k hlt
        have hnx := ent_next l k hlt _ hv
        obtain ⟨bu, offu, rfl, _, _, hcu⟩ := (hu3.pure hkr).one (k := k) hku
        obtain ⟨bs, offs, rfl, _, _, a0, a1, a2, a3, a4⟩ := Cells.at5 (hs3.pure hkr) hlt2
        obtain ⟨bl, offl, rfl, _, _, c0, c1, c2, c3, c4⟩ := Cells.at5 (hl3.pure hkr) hlt
        rw [heq] at a0 a1 a2 a3 a4
        unfold vU64 at hcu
        clear hv heq
        generalize (entU l)[k] = y at *
        generalize l[k] = x at *
        generalize (entL (l.take k)).1.length = N at *
        generalize hN' : (entL (l.take (k + 1))).1.length = N' at *
        replace hN' := Lib.hid hN'
        have i0' : (0 : Int) ≤ (k : Int) := by omega
        have i1' : (k : Int) < (l.length : Int) := by omega
        have j0 : (0 : Int) ≤ ((y.toNat : Nat) : Int) := by omega
        have j1 : ((y.toNat : Nat) : Int) < ((entL l).1.length : Int) := by omega
        have hgt : decide ((N : Int) < ((y.toNat : Nat) : Int)) = false := decide_eq_false (by omega)
        have hge : decide (((entL l).1.length : Int) ≤ ((y.toNat : Nat) : Int)) = false := decide_eq_false (by omega)
        have hgtN : decide (N < y.toNat) = false := decide_eq_false (by omega)
        have hgeN : decide ((entL l).1.length ≤ y.toNat) = false := decide_eq_false (by omega)
        have hneq : ∀ w, (binOp .neq 29 (.agg #[.bool x.null, .int .i64 x.int.toInt, .string x.text, .int .i64 x.x.toInt, .int .i64 x.y.toInt]) (.agg #[.bool x.null, .int .i64 x.int.toInt, .string x.text, .int .i64 x.x.toInt, .int .i64 x.y.toInt])).run Try.prog w = .ok (.bool false) w := fun w => by rw [neq_cell_raw]; simp
        rcases hnx with ⟨hy, hN2⟩ | ⟨hy, hN2⟩
        · replace hN2 := Lib.hid hN2
          have hqe : (((y.toNat : Nat) : Int) == (N : Int)) = false := by rw [beq_eq_false_iff_ne]; omega
          have hqeN : (y.toNat == N) = false := by rw [beq_eq_false_iff_ne]; omega
          have hqn : ¬ (((y.toNat : Nat) : Int) = (N : Int)) := by omega
          go_wp2
          go_quiet (fail)
          go_wp2
          go_roundw
          case rel => exact ⟨k + 1, by omega, by go_num, by rw [hN'.out, hN2.out], hkr.drewN _⟩
          case measure => simp [intOf]; omega
        · replace hN2 := Lib.hid hN2
          have hqe : (((y.toNat : Nat) : Int) == (N : Int)) = true := by rw [beq_iff_eq]; omega
          have hqeN : (y.toNat == N) = true := by rw [beq_iff_eq]; omega
          have hw1 : IntKind.u64.wrap ((N : Int) + 1) = (N : Int) + 1 := IntWalk.u64_in _ (by omega)
          replace hy := Lib.hid hy
          go_wp2
          go_quiet (fail)
          go_wp2
          go_roundw
          case rel => exact ⟨k + 1, by omega, by go_num, by rw [hN'.out, hN2.out]; go_num, hkr.drewN _⟩
          case measure => simp [intOf]; omega
      · obtain rfl : k = l.length := by omega
        rw [List.take_length]
        have hnn2 : (((entL l).1.length : Int) == ((entL l).1.length : Int)) = true := by simp
        have hnd := Lib.hid (fun i j hi hj => nodup_ne hok.out.nodup (i := i) (j := j) hi hj)
        clear hat hok
        generalize (entL l).1 = S at *
        go_wp2
        go_loopw [9] (fun i w4 => ∃ k : Nat, k ≤ S.length ∧ i = .int .i64 k ∧ Keep [] w3 w4) (fun i _ => S.length - (intOf i).toNat)
        case atStart => exact ⟨0, Nat.zero_le _, rfl, hkr⟩
        case round =>
          obtain ⟨k, hk, rfl, hkr2⟩ := hrel
          by_cases hlt : k < S.length
          · go_wp2
            go_loopw [10] (fun i w5 => ∃ j : Nat, j ≤ k ∧ i = .int .i64 j ∧ Keep [] w3 w5) (fun i _ => k - (intOf i).toNat)
            case atStart => exact ⟨0, Nat.zero_le _, rfl, hkr2⟩
            case round =>
              obtain ⟨j, hj, rfl, hkr3⟩ := hrel
              by_cases hlt2 : j < k
              · have hne := hnd.out k j hlt hlt2
                obtain ⟨bs, offs, rfl, _, _, a0, a1, a2, a3, a4⟩ := Cells.at5 (hs3.pure hkr3) hlt
                obtain ⟨bs', offs', he, _, _, c0, c1, c2, c3, c4⟩ := Cells.at5 (hs3.pure hkr3) (k := j) (by omega)
                cases he
                have hqe := eql_cell S[k] S[j]
                rw [decide_eq_false hne] at hqe
                unfold cellVal at hqe
                clear hne
                generalize S[k] = x at *
                generalize S[j] = y at *
                go_wp2
                go_quiet (fail)
                go_wp2
                go_roundw
                case rel => exact ⟨j + 1, by omega, by go_num, hkr3.drewN _⟩
                case measure => simp [intOf]; omega
              · obtain rfl : j = k := by omega
                go_wp2
                go_roundw
                case rel => exact ⟨j + 1, by omega, by go_num, hkr3⟩
                case measure => simp [intOf]; omega
          · obtain rfl : k = S.length := by omega
            go_wp2
            go_ret
            exact ⟨rfl, (hkW3.trans hkr2).below⟩
end Go.Proofs.Ytejbfknhnhhlfaa
