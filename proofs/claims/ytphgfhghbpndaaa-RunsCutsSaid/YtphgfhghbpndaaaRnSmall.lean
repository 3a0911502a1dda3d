/-
  The small case of layer 10's statements comes out right.
-/
import Derived.Test.YtphgfhghbpndaaaRn12
namespace Go.Proofs.Ytphgfhghbpndaaa
open Go Go.RowKit
set_option linter.unusedVariables false
set_option linter.unusedSimpArgs false

/-- No row has these bytes: found by reading them. -/
def noD (n : Nat) (b : List UInt8) : Nat → List UInt64 → Option (List UInt8) → Bool
  | 0, _, _ => false
  | _ + 1, _, none => true
  | _ + 1, q, some [] => decide (q.length ≠ n) || decide (encB q ≠ b)
  | f + 1, q, some (x :: t) => match stepD n q (some (x :: t)) with
    | none => true
    | some (q', s') => noD n b f q' s'
theorem noD_spec {n : Nat} {b : List UInt8} : ∀ (f : Nat) (q : List UInt64) (s : Option (List UInt8)), InvD n b q s → noD n b f q s = true → ∀ l : List UInt64, l.length = n → n ≤ 65536 → encB l ≠ b
  | 0, _, _, _, h => by simp [noD] at h
  | f + 1, q, none, hI, _ => hI.bad
  | f + 1, q, some [], hI, h => fun l hl hn hb => by
    have h1 := hI.end_ l hl hn hb
    subst h1
    simp [noD, hl, hb] at h
  | f + 1, q, some (x :: t), hI, h => by
    unfold noD at h
    have hs := hI.step (by simp)
    split at h
    · rename_i h1; exact hs.1 h1
    · rename_i q' s' h1
      exact noD_spec f q' s' (hs.2 _ _ h1) h
theorem DecOk.no {b : List UInt8} {n : Nat} {out : List UInt64} {ok : Bool} (h : DecOk b n out ok) (hno : noD n b 100 [] (some b) = true) : ok = false ∧ out = [] := by
  have h1 := noD_spec 100 [] (some b) (InvD.start n b) hno
  cases ok with
  | false => exact ⟨rfl, h.2.1 rfl⟩
  | true =>
    obtain ⟨h2, h3, h4⟩ := h.1 rfl
    exact absurd h4 (h1 out (by omega) (by omega))
theorem DecOk.yes {b : List UInt8} {n : Nat} {out l : List UInt64} {ok : Bool} (h : DecOk b n out ok) (hl : l.length = n) (hn : n ≤ 65536) (hb : encB l = b) : ok = true ∧ out = l := h.2.2 l (by omega) (by omega) hb

set_option maxHeartbeats 4000000 in
theorem small10 (W : World) : Calls Try.prog 10 #[] W fun e W' => e = .returned (.bool true) ∧ Keep [] W W' := by
  go_enter Try.func10, Try.ntmps10
  go_wp2_with fail
  have hk0 : Keep [] W (W.alloc (.cells #[.int .u64 7, .int .u64 7, .int .u64 7, .int .u64 7, .int .u64 1] 34)) := (Keep.refl _ _).alloc _
  refine (encode_prog (X := []) (l := [7, 7, 7, 7, 1]) _ ((Blk.new W 34 _).rd (by simp) rfl (by omega) (by simp [maxLen]) rfl)).mono ?_
  rintro e w1 ⟨B1, m1, d1, rfl, hk1, hown1⟩
  rw [show decide (([7, 7, 7, 7, 1] : List UInt64).length ≤ 65536) = true from by decide]
  rw [show enc [7, 7, 7, 7, 1] = [8, 7, 3, 1, 1] from by decide +kernel] at hown1
  have hb1 : Bys [] w1 B1 m1 d1 [8, 7, 3, 1, 1] := rd_of_own hown1 (by simp)
  have hm1 := hb1.len1
  obtain rfl : m1 = 5 := by simpa using hm1.symm
  go_wp2_with fail
  refine (decode_prog 5 w1 hb1 (by omega) (by omega)).mono ?_
  rintro e w2 ⟨B2, m2, d2, o2, k2, rfl, hk2, hn2, hd2⟩
  obtain ⟨rfl, rfl⟩ := hd2.yes (n := 5) (l := [7, 7, 7, 7, 1]) rfl (by omega) (by decide +kernel)
  clear hd2
  go_wp2_with fail
  refine (decode_prog 4 w2 (hb1.pure hk2) (by omega) (by omega)).mono ?_
  rintro e w3 ⟨B3, m3, d3, o3, k3, rfl, hk3, hn3, hd3⟩
  obtain ⟨rfl, rfl⟩ := hd3.no (n := 4) (by decide +kernel)
  clear hd3 hn3
  go_wp2_with fail
  refine (decode_prog (X := []) (b := [4, 7, 4, 7]) 4 _ ((Blk.new w3 5 _).rd (by simp) rfl (by omega) (by simp [maxLen]) rfl) (by omega) (by omega)).mono ?_
  rintro e w4 ⟨B4, m4, d4, o4, k4, rfl, hk4, hn4, hd4⟩
  obtain ⟨rfl, rfl⟩ := hd4.no (n := 4) (by decide +kernel)
  clear hd4 hn4
  go_wp2_with fail
  refine (decode_prog (X := []) (b := []) 0 w4 (Rd.nil_ [] w4 1) (by omega) (by omega)).mono ?_
  rintro e w5 ⟨B5, m5, d5, o5, k5, rfl, hk5, hn5, hd5⟩
  obtain ⟨rfl, rfl⟩ := hd5.yes (n := 0) (l := []) rfl (by omega) (by decide +kernel)
  clear hd5
  have hm5 := (hn5 [] (by simp)).len1
  simp only [List.length_nil] at hm5
  subst hm5
  clear hn5
  go_wp2_with fail
  refine (cut_prog (X := []) (l := [1, 2, 2, 2, 2, 3, 3]) _ ((Blk.new w5 34 _).rd (by simp) rfl (by omega) (by simp [maxLen]) rfl) (by omega)).mono ?_
  rintro e w6 ⟨B6, m6, d6, rfl, hk6, hown6⟩
  rw [show sizes (cutP [1, 2, 2, 2, 2, 3, 3]) = [1, 4, 2] from by decide +kernel] at hown6
  have hi6 : Ints [] w6 B6 m6 d6 [1, 4, 2] := rd_of_own hown6 (by simp)
  have hm6 := hi6.len1
  obtain rfl : m6 = 3 := by simpa using hm6.symm
  have hw45 : Keep [] w4 w5 := hk5
  have hk36 : Keep [] w3 w6 := (((((Keep.refl [] w3).alloc _).trans hk4).trans hk5).alloc _).trans hk6
  have hk26 : Keep [] w2 w6 := hk3.trans hk36
  have hall : Keep [] W w6 := ((hk0.trans hk1).trans hk2).trans hk26
  have hs1 := str_run (hb1.pure (hk2.trans hk26))
  have hn2' : U64s [] w2 B2 m2 d2 [7, 7, 7, 7, 1] := hn2 [] (by simp)
  have hm2 := hn2'.len1
  obtain rfl : m2 = 5 := by simpa using hm2.symm
  have hka : Keep [] w6 (w6.alloc (.cells #[.int .u64 7, .int .u64 7, .int .u64 7, .int .u64 7, .int .u64 1] 34)) := (Keep.refl _ _).alloc _
  have hi7 := fun w7 (hk7 : Keep [] (w6.alloc (.cells #[.int .u64 7, .int .u64 7, .int .u64 7, .int .u64 7, .int .u64 1] 34)) w7) => hi6.pure (hka.trans hk7)
  replace hi7 := Lib.hid hi7
  have hsame := Lib.hid (same_ref (X := []) (Y := []) (m := 5) (d := 5) (l := [7, 7, 7, 7, 1]) (r := [7, 7, 7, 7, 1]) _ ((hn2'.pure hk26).pure hka) ((Blk.new w6 34 [.int .u64 7, .int .u64 7, .int .u64 7, .int .u64 7, .int .u64 1]).rd (by simp) rfl (by omega) (by simp [maxLen]) rfl))
  clear hown1 hown6 hb1 hn2 hn2' hi6
  go_wp2_with fail
  refine hsame.out.mono ?_
  rintro e w7 ⟨rfl, hk7⟩
  simp only [decide_true]
  have hi8 := hi7.out w7 hk7
  obtain ⟨b8, off8, rfl, _, _, hc0⟩ := hi8.one (k := 0) (by simp)
  obtain ⟨b9, off9, he9, _, _, hc1⟩ := hi8.one (k := 1) (by simp)
  cases he9
  obtain ⟨b9, off9, he9, _, _, hc2⟩ := hi8.one (k := 2) (by simp)
  cases he9
  simp [vInt] at hc0 hc1 hc2
  clear hsame hi7
  go_wp2
  go_ret
  exact ⟨rfl, (hall.trans hka).trans hk7⟩
end Go.Proofs.Ytphgfhghbpndaaa
