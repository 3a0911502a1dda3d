/-
  The walk of layer 10's Encode, the reference's.
-/
import Derived.Test.YtphgfhghbpndaaaRn1
import Derived.Test.YtphgfhghbpndaaaEnc
namespace Go.Proofs.Ytphgfhghbpndaaa
open Go Go.RowKit
set_option linter.unusedVariables false
set_option linter.unusedSimpArgs false

/-- Numbers as bytes, if they are few enough. -/
def enc (l : List UInt64) : List UInt8 := if l.length ≤ 65536 then encB l else []

set_option maxHeartbeats 8000000 in
set_option maxRecDepth 10000 in
theorem encode_ref {X : List Nat} {A : Option Addr} {n c : Nat} {l : List UInt64} (W : World) (h : U64s X W A n c l) :
    Calls Try.prog 12 #[.slice A n c] W fun e W' => ∃ B k d, e = .returned (.tuple #[.slice B k d, .bool (decide (l.length ≤ 65536))]) ∧ Keep [] W W' ∧ W'.ownsRow W.heap.size 5 1 (.slice B k d) k ((enc l).map vU8) := by
  have hc := h.cap
  have hnc := h.le
  obtain rfl := h.len1
  obtain ⟨i0, hi, hz0, hz1, hz2⟩ := info_parts Try.infoU8
  by_cases hbig : 65536 < l.length
  · have hv : decide (l.length ≤ 65536) = false := decide_eq_false (by omega)
    have he : Hid (enc l = []) := by unfold Hid enc; rw [if_neg (by omega)]
    rw [hv]
    go_enter Try.func12, Try.ntmps12
    go_wp2
    go_ret2
    exact ⟨none, 0, 0, rfl, Keep.refl _ _, by rw [he.out]; exact World.ownsRow_nil _ _ _ _⟩
  · have hv : decide (l.length ≤ 65536) = true := decide_eq_true (by omega)
    have he : Hid (enc l = (cutP l).flatMap encP) := by unfold Hid enc; rw [if_pos (by omega)]; rfl
    have hfits := Lib.hid (cutP_fits (l := l) (by omega))
    have hpcs : Hid (∀ p ∈ cutP l, p.1 ≠ [] ∧ p.2 = decide (4 ≤ p.1.length ∧ stretch p.1 = p.1.length)) := fun p hp => cutP_piece hp
    have hall := Lib.hid (cutP_all l)
    have hlenE := encB_len (l := l) (by omega)
    have hpl : (cutP l).length ≤ l.length := by
      have := (enc_len (cutP l) hfits.out).1
      rwa [hall.out] at this
    rw [hv]
    go_enter Try.func12, Try.ntmps12
    go_wp2_with fail
    refine (cut_ref W h (by omega)).mono ?_
    rintro e w1 ⟨B5, k5, d5, rfl, hk1, hown5⟩
    have hs5 : Ints [] w1 B5 k5 d5 (sizes (cutP l)) := rd_of_own hown5 (by simp)
    have hd5 := hs5.cap
    have hle5 := hs5.le
    have hsl : (sizes (cutP l)).length = (cutP l).length := by simp [sizes]
    obtain rfl : (cutP l).length = k5 := by have := hs5.len1; omega
    clear hown5
    generalize hps : cutP l = ps at *
    replace hps := Lib.hid hps
    replace hlenE : Hid ((ps.flatMap encP).length ≤ 29 * l.length) := by rw [Hid, ← hps.out]; exact hlenE
    replace hsl := Lib.hid hsl
    go_wp2
    go_loopw [0, 4, 6] (fun s o i wr => ∃ (A' : Option Addr) (c' k : Nat) (rem : List UInt64) (q : List UInt8), k ≤ ps.length ∧ i = .int .i64 k ∧ s = .slice A' rem.length c' ∧ U64s X W A' rem.length c' rem ∧ Hid (rem = (ps.drop k).flatMap (·.1)) ∧
      wr.ownsRow w1.heap.size 5 1 o q.length (q.map vU8) ∧ Hid (q = (ps.take k).flatMap encP) ∧ Keep [] w1 wr) (fun _ _ i _ => ps.length - (intOf i).toNat)
    case atStart => exact ⟨A, c, 0, l, [], by omega, rfl, rfl, h, by rw [Hid, List.drop_zero, hall.out], World.ownsRow_nil _ _ _ _, rfl, Keep.refl _ _⟩
    case round =>
      obtain ⟨A', c', k, rem, q, hk, rfl, rfl, hrem, HR, hown, HQ, hkeep⟩ := hrel
      have hcr := hrem.cap
      have hncr := hrem.le
      have hkW := hk1.trans hkeep
      have hszW := hkW.size
      obtain ⟨B0, d0, rfl⟩ := own_form hown
      have hql : q.length ≤ 29 * l.length := by
        have h1 := hlenE.out
        rw [← List.take_append_drop k ps, List.flatMap_append, List.length_append] at h1
        rw [HQ.out]
        omega
      by_cases hlt : k < ps.length
      · have hmem : ps[k] ∈ ps := List.getElem_mem hlt
        obtain ⟨hp0, hp2⟩ := hpcs.out _ hmem
        obtain ⟨_, hp6⟩ := hfits.out _ hmem
        have hdrop : ps.drop k = ps[k] :: ps.drop (k + 1) := List.drop_eq_getElem_cons hlt
        have htake : ps.take (k + 1) = ps.take k ++ [ps[k]] := List.take_succ_eq_append_getElem hlt
        obtain ⟨bb, off, rfl, _, _, hcell⟩ := (hs5.pure hkeep).one (k := k) (by rw [hsl.out]; exact hlt)
        have hsk : (sizes ps)[k]'(by rw [hsl.out]; exact hlt) = (ps[k].1.length : Int) := by simp [sizes]
        rw [hsk] at hcell
        unfold vInt at hcell
        have HR2 : Hid (rem = ps[k].1 ++ (ps.drop (k + 1)).flatMap (·.1)) := by rw [Hid, HR.out, hdrop, List.flatMap_cons]
        have HQ2 : Hid (q ++ encP ps[k] = (ps.take (k + 1)).flatMap encP) := by rw [Hid, htake, List.flatMap_append, ← HQ.out]; simp
        have hle : ps[k].1.length ≤ rem.length := by rw [HR2.out, List.length_append]; omega
        have hpos := List.length_pos_iff.2 hp0
        clear hdrop htake hmem HR HQ hsk
        generalize ps[k] = p at *
        obtain ⟨ns, run⟩ := p
        simp only [] at hp0 hp2 hp6 hcell hle hpos
        have hns : rem.take ns.length = ns := by rw [HR2.out]; simp
        have hrd : rem.drop ns.length = (ps.drop (k + 1)).flatMap (·.1) := by rw [HR2.out]; simp
        have htk := hrem.take1 hle
        have hdk := hrem.drop1 hle rfl
        rw [hns] at htk
        rw [hrd] at hdk
        have hrl : Hid (rem.length - ns.length = ((ps.drop (k + 1)).flatMap (·.1)).length) := by rw [Hid, ← hrd, List.length_drop]
        have hql2 : (q ++ encP (ns, run)).length ≤ 29 * l.length := by
          have h1 := hlenE.out
          rw [← List.take_append_drop (k + 1) ps, List.flatMap_append, List.length_append, ← HQ2.out] at h1
          omega
        have hnsr := HR2
        clear hns hrd HR2
        generalize hR2 : (ps.drop (k + 1)).flatMap (·.1) = rem2 at *
        replace hR2 := Lib.hid hR2
        obtain ⟨N, hN⟩ : ∃ N, ns.length = N := ⟨_, rfl⟩
        rw [hN] at hp2 hp6 hcell hle hpos htk hdk hrl
        have hqB : Bys [] wr B0 q.length d0 q := rd_of_own hown (by simp)
        cases run with
        | true =>
          obtain ⟨h4, hst⟩ := of_decide_eq_true hp2.symm
          have hencl : Hid (encP (ns, true) = putB (2 * N) ++ putB (ns.headD 0).toNat) := by unfold Hid encP; simp only [if_true]; rw [hN]
          rw [hencl.out] at hql2
          clear hp2
          go_wp2_with fail
          refine (stretch_ref wr (htk.pure hkW)).mono ?_
          rintro e w2 ⟨rfl, hk2⟩
          rw [hst]
          have hP := put_ref (2 * N) w2 (hqB.pure hk2) (by omega) (by omega)
          rw [show ((2 * N : Nat) : Int) = 2 * (N : Int) from by omega] at hP
          replace hP := Lib.hid hP
          go_wp2_with fail
          refine hP.out.mono ?_
          rintro e w3 ⟨B3, m3, d3, rfl, hk3, hown3⟩
          have hk23 := hk2.trans hk3
          have hr3 : Bys [] w3 B3 m3 d3 (q ++ putB (2 * N)) := rd_of_own hown3 (by simp)
          have hm3 : m3 = q.length + (putB (2 * N)).length := by have := hr3.len1; rw [List.length_append] at this; omega
          have hb2N := putB_len (2 * N)
          obtain ⟨b9, off9, rfl, _, _, hc9⟩ := (hrem.pure (hkW.trans hk23)).one (k := 0) (by omega)
          obtain ⟨x0, hx0⟩ : ∃ x, x = ns.headD 0 := ⟨_, rfl⟩
          have hhead : rem[0]'(by omega) = x0 := by
            rw [hx0]
            have := hnsr.out
            cases ns with
            | nil => simp at hN; omega
            | cons y t => subst this; rfl
          rw [hhead, Nat.add_zero] at hc9
          unfold vU64 at hc9
          rw [← hx0] at hql2 hencl
          have hxl := x0.toNat_lt
          have hP2 := Lib.hid (put_ref x0.toNat w3 hr3 (by omega) (by omega))
          clear hhead hx0
          replace hm3 := Lib.hid hm3
          go_wp2_with fail
          refine hP2.out.mono ?_
          rintro e w4 ⟨B4, m4, d4, rfl, hk4, hown4⟩
          have hm4 : m4 = (q ++ (putB (2 * N) ++ putB x0.toNat)).length := by have := (rd_of_own (X := []) hown4 (by simp) : Bys [] w4 B4 m4 d4 _).len1; rw [List.append_assoc] at this; exact this.symm
          rw [List.append_assoc] at hown4
          subst hm4
          have hw3 := (hkeep.trans hk23).size
          have hown4' := Lib.hid (own_lower hown4 hw3)
          have hk14 := (hkeep.trans hk23).trans hk4
          clear hown4
          by_cases hcz : c' = N
          all_goals
            go_wp2
            go_roundw
            case rel =>
              refine ⟨if c' = N then some ⟨b9, off9, none⟩ else (some ⟨b9, off9, none⟩ : Option Addr).map (·.add N), c' - N, k + 1, rem2, q ++ (putB (2 * N) ++ putB x0.toNat), by omega, by go_num, ?_, by rw [hrl.out] at hdk; exact hdk, hR2.out.symm, ?_, ?_, hk14⟩
              · simp [hcz, ← hrl.out, addr_add]
              · simpa using hown4'.out
              · rw [Hid, ← HQ2.out, hencl.out]
            case measure => simp [intOf]; omega
        | false =>
          have hencl : Hid (encP (ns, false) = putB (2 * N + 1) ++ [UInt8.ofNat (width ns)] ++ packB ns (width ns)) := by unfold Hid encP; simp only [Bool.false_eq_true, if_false]; rw [hN]
          have hno := of_decide_eq_false hp2.symm
          have hw64 := width_le64 ns
          obtain ⟨wd, hwd⟩ : ∃ wd, width ns = wd := ⟨_, rfl⟩
          rw [hwd] at hencl hw64
          replace hwd := Lib.hid hwd
          have hwB8 : Hid ((UInt8.ofNat wd).toNat = wd) := by unfold Hid; rw [UInt8.toNat_ofNat']; omega
          have hmod : (wd : Int) % 256 = (wd : Int) := by omega
          clear hp2
          by_cases h4 : 4 ≤ N
          · have hne : stretch ns ≠ N := fun h => hno ⟨h4, h⟩
            have hneb : ((stretch ns : Int) == (N : Int)) = false := by rw [beq_eq_false_iff_ne]; omega
            clear hne hno
            go_wp2_with fail
            refine (stretch_ref wr (htk.pure hkW)).mono ?_
            rintro e w2 ⟨rfl, hk2⟩
            go_wp2_with fail
            refine (width_ref w2 (htk.pure (hkW.trans hk2))).mono ?_
            rintro e w3 ⟨rfl, rfl⟩
            rw [hwd.out]
            go_wp2_with fail
            refine (pack_ref wd w2 (htk.pure (hkW.trans hk2)) (by omega)).mono ?_
            rintro e w4 ⟨B6, m6, d6, rfl, hk4, hb6⟩
            have hkA := (hk2).trans hk4
            have hP := put_ref (2 * N + 1) w4 (hqB.pure hkA) (by omega) (by omega)
            rw [show ((2 * N + 1 : Nat) : Int) = 2 * (N : Int) + 1 from by omega] at hP
            replace hP := Lib.hid hP
            go_wp2_with fail
            refine hP.out.mono ?_
            rintro e w5 ⟨B7, m7, d7, rfl, hk5, hown7⟩
            have hw45 := hk5.size
            have hw4 := (hkeep.trans hkA).size
            have hown7' := hown7
            have hr7 : Bys [] w5 B7 m7 d7 (q ++ putB (2 * N + 1)) := rd_of_own hown7 (by simp)
            have hm7 : m7 = q.length + (putB (2 * N + 1)).length := by have := hr7.len1; rw [List.length_append] at this; omega
            have hb2N := putB_len (2 * N + 1)
            have hpk6 : Bys [] w5 B6 m6 d6 (packB ns wd) := (hb6 [] (by simp)).pure hk5
            have hm6 : m6 = (packB ns wd).length := hpk6.len1.symm
            have hkB := hkA.trans hk5
            have hwB := (hkeep.trans hkB).size
            have hbk : Bys [] (w5.alloc (.cells #[.int .u8 (wd : Int)] 5)) (some ⟨w5.heap.size, 0, none⟩) 1 1 [UInt8.ofNat wd] := by
              refine (Blk.new w5 5 [.int .u8 (wd : Int)]).rd (by simp) rfl (by omega) (by simp [maxLen]) ?_
              simp [vU8, hwB8.out]
            clear hown7
            replace hm7 := Lib.hid hm7
            replace hm6 := Lib.hid hm6
            have hm7b : m7 ≤ 3000000 := by rw [hm7.out]; omega
            have hm6b : m6 ≤ 3000000 := by rw [hm6.out]; have := hql2; rw [hencl.out] at this; simp at this; omega
            go_wp2_with (at_builtin; refine wpList_append_rd (o := ⟨some 68, _, _, _, _, _⟩) rfl _ _ 24 rfl w4.heap.size 5 i0 (.int .u8 0) 1 1 Try.underlying24 hi hz0 hz1 hz2 rfl (by omega) _ m7 _ rfl (hown7'.alloc (.cells #[.int .u8 (wd : Int)] 5)) rfl hbk (vU8_one [UInt8.ofNat wd]) (by unfold maxLen; omega) (by omega) (by simp; omega) ?_)
            intro v8 w8 hown8 hgr
            have hk48 : Keep [] w4 w8 := (hk5.alloc (.cells #[.int .u8 (wd : Int)] 5)).grown hgr (fun g hg => .inr (own_ge hown7' g hg))
            clear hgr hbk hown7' hpk6
            have hpk8 : Bys [] w8 B6 m6 d6 (packB ns wd) := (hb6 [] (by simp)).pure hk48
            have hk48s := hk48.size
            obtain ⟨B8, d8, rfl⟩ := own_form hown8
            go_wp2_with (at_builtin; refine wpList_append_rd (o := ⟨some 71, _, _, _, _, _⟩) rfl _ _ 24 rfl w4.heap.size 5 i0 (.int .u8 0) 1 1 Try.underlying24 hi hz0 hz1 hz2 rfl (by omega) _ (m7 + 1) _ rfl hown8 rfl hpk8 (vU8_one (packB ns wd)) (by unfold maxLen; omega) (by omega) hk48s ?_)
            intro v9 w9 hown9 hgr
            have hk49 : Keep [] w4 w9 := hk48.grown hgr (fun g hg => .inr (own_ge hown8 g hg))
            have hk19 : Keep [] w1 w9 := (hkeep.trans hkA).trans hk49
            clear hgr hown8 hpk8
            have hm9 : Hid (m7 + 1 + m6 = (q ++ encP (ns, false)).length) := by rw [Hid, hm7.out, hm6.out, hencl.out]; simp; omega
            have hown10 : Hid (w9.ownsRow w1.heap.size 5 1 v9 (q ++ encP (ns, false)).length ((q ++ encP (ns, false)).map vU8)) := by
              rw [Hid, ← hm9.out, hencl.out]
              have := own_lower hown9 hw4
              simpa [List.map_append] using this
            clear hown9
            obtain ⟨B9, d9, rfl⟩ := own_form hown10.out
            by_cases hcz : c' = N
            all_goals
              go_wp2
              go_roundw
              case rel =>
                refine ⟨if c' = N then A' else A'.map (·.add N), c' - N, k + 1, rem2, q ++ encP (ns, false), by omega, by go_num, ?_, by rw [hrl.out] at hdk; exact hdk, hR2.out.symm, hown10.out, HQ2, hk19⟩
                simp [hcz, ← hrl.out]
              case measure => simp [intOf]; omega
          · clear hno
            have hk2 := Keep.refl [] wr
            go_wp2_with fail
            refine (width_ref wr (htk.pure (hkW.trans hk2))).mono ?_
            rintro e w3 ⟨rfl, rfl⟩
            rw [hwd.out]
            go_wp2_with fail
            refine (pack_ref wd wr (htk.pure (hkW.trans hk2)) (by omega)).mono ?_
            rintro e w4 ⟨B6, m6, d6, rfl, hk4, hb6⟩
            have hkA := (hk2).trans hk4
            have hP := put_ref (2 * N + 1) w4 (hqB.pure hkA) (by omega) (by omega)
            rw [show ((2 * N + 1 : Nat) : Int) = 2 * (N : Int) + 1 from by omega] at hP
            replace hP := Lib.hid hP
            go_wp2_with fail
            refine hP.out.mono ?_
            rintro e w5 ⟨B7, m7, d7, rfl, hk5, hown7⟩
            have hw45 := hk5.size
            have hw4 := (hkeep.trans hkA).size
            have hown7' := hown7
            have hr7 : Bys [] w5 B7 m7 d7 (q ++ putB (2 * N + 1)) := rd_of_own hown7 (by simp)
            have hm7 : m7 = q.length + (putB (2 * N + 1)).length := by have := hr7.len1; rw [List.length_append] at this; omega
            have hb2N := putB_len (2 * N + 1)
            have hpk6 : Bys [] w5 B6 m6 d6 (packB ns wd) := (hb6 [] (by simp)).pure hk5
            have hm6 : m6 = (packB ns wd).length := hpk6.len1.symm
            have hkB := hkA.trans hk5
            have hwB := (hkeep.trans hkB).size
            have hbk : Bys [] (w5.alloc (.cells #[.int .u8 (wd : Int)] 5)) (some ⟨w5.heap.size, 0, none⟩) 1 1 [UInt8.ofNat wd] := by
              refine (Blk.new w5 5 [.int .u8 (wd : Int)]).rd (by simp) rfl (by omega) (by simp [maxLen]) ?_
              simp [vU8, hwB8.out]
            clear hown7
            replace hm7 := Lib.hid hm7
            replace hm6 := Lib.hid hm6
            have hm7b : m7 ≤ 3000000 := by rw [hm7.out]; omega
            have hm6b : m6 ≤ 3000000 := by rw [hm6.out]; have := hql2; rw [hencl.out] at this; simp at this; omega
            go_wp2_with (at_builtin; refine wpList_append_rd (o := ⟨some 68, _, _, _, _, _⟩) rfl _ _ 24 rfl w4.heap.size 5 i0 (.int .u8 0) 1 1 Try.underlying24 hi hz0 hz1 hz2 rfl (by omega) _ m7 _ rfl (hown7'.alloc (.cells #[.int .u8 (wd : Int)] 5)) rfl hbk (vU8_one [UInt8.ofNat wd]) (by unfold maxLen; omega) (by omega) (by simp; omega) ?_)
            intro v8 w8 hown8 hgr
            have hk48 : Keep [] w4 w8 := (hk5.alloc (.cells #[.int .u8 (wd : Int)] 5)).grown hgr (fun g hg => .inr (own_ge hown7' g hg))
            clear hgr hbk hown7' hpk6
            have hpk8 : Bys [] w8 B6 m6 d6 (packB ns wd) := (hb6 [] (by simp)).pure hk48
            have hk48s := hk48.size
            obtain ⟨B8, d8, rfl⟩ := own_form hown8
            go_wp2_with (at_builtin; refine wpList_append_rd (o := ⟨some 71, _, _, _, _, _⟩) rfl _ _ 24 rfl w4.heap.size 5 i0 (.int .u8 0) 1 1 Try.underlying24 hi hz0 hz1 hz2 rfl (by omega) _ (m7 + 1) _ rfl hown8 rfl hpk8 (vU8_one (packB ns wd)) (by unfold maxLen; omega) (by omega) hk48s ?_)
            intro v9 w9 hown9 hgr
            have hk49 : Keep [] w4 w9 := hk48.grown hgr (fun g hg => .inr (own_ge hown8 g hg))
            have hk19 : Keep [] w1 w9 := (hkeep.trans hkA).trans hk49
            clear hgr hown8 hpk8
            have hm9 : Hid (m7 + 1 + m6 = (q ++ encP (ns, false)).length) := by rw [Hid, hm7.out, hm6.out, hencl.out]; simp; omega
            have hown10 : Hid (w9.ownsRow w1.heap.size 5 1 v9 (q ++ encP (ns, false)).length ((q ++ encP (ns, false)).map vU8)) := by
              rw [Hid, ← hm9.out, hencl.out]
              have := own_lower hown9 hw4
              simpa [List.map_append] using this
            clear hown9
            obtain ⟨B9, d9, rfl⟩ := own_form hown10.out
            by_cases hcz : c' = N
            all_goals
              go_wp2
              go_roundw
              case rel =>
                refine ⟨if c' = N then A' else A'.map (·.add N), c' - N, k + 1, rem2, q ++ encP (ns, false), by omega, by go_num, ?_, by rw [hrl.out] at hdk; exact hdk, hR2.out.symm, hown10.out, HQ2, hk19⟩
                simp [hcz, ← hrl.out]
              case measure => simp [intOf]; omega
      · obtain rfl : k = ps.length := by omega
        have hq : Hid (enc l = q) := by rw [Hid, he.out, HQ.out, List.take_length]
        go_wp2
        go_ret2
        exact ⟨B0, _, d0, rfl, hkW, by rw [hq.out]; exact own_lower hown hk1.size⟩
end Go.Proofs.Ytphgfhghbpndaaa
