/-
  The walks of layer 10's Decode, the program's: a rest.
-/
import Derived.Test.YtphgfhghbpndaaaRn9
import Derived.Test.YtphgfhghbpndaaaCopy
import Derived.Test.YtphgfhghbpndaaaDec
namespace Go.Proofs.Ytphgfhghbpndaaa
open Go Go.RowKit
set_option linter.unusedVariables false
set_option linter.unusedSimpArgs false

theorem Rd.less {X Y : List Nat} {w : World} {size n c : Nat} {A : Option Addr} {xs : List Value} (h : Rd X w size A n c xs) (hs : ∀ b ∈ Y, b ∈ X) : Rd Y w size A n c xs := h.weaken (fun b hb => .inl (hs b hb))
set_option maxHeartbeats 1000000 in
theorem rest_prog {g : Nat} {s : Option (List UInt8)} (m : Nat) (W : World) (h : Cur 66 W g s) (hm : m ≤ 65536) :
    Calls Try.prog 29 #[.pointer (some ⟨g, 0, none⟩), .int .i64 m] W fun e W' => ∃ B k d, e = .returned (.slice B k d) ∧ Keep [g] W W' ∧ Cur 66 W' g (restC s m).2 ∧ NewU64s W W' B k d (restC s m).1 := by
  have hg := h.lt
  have hbl := byteC_lt s
  obtain ⟨p, HP⟩ : ∃ p, Hid (restC s m = p) := ⟨_, rfl⟩
  rw [HP.out]
  go_enter Try.func29, Try.ntmps29
  go_wp2_with fail
  refine (byte_prog W h).mono ?_
  rintro e w1 ⟨rfl, hk1, hcur1⟩
  obtain ⟨w, HW⟩ : ∃ w, Hid (byteC s = w) := ⟨_, rfl⟩
  obtain ⟨s1, HS1⟩ : ∃ t, Hid ((takeC s 1).2 = t) := ⟨_, rfl⟩
  rw [HW.out] at hbl ⊢
  rw [HS1.out] at hcur1
  go_wp2_with fail
  refine (bytes_prog (w : Int) (m : Int) w1 (by omega) (by omega)).mono ?_
  rintro e w2 ⟨rfl, rfl⟩
  have hbr := bytesLen_range w m
  obtain ⟨z, HZ⟩ : ∃ z, Hid (bytesLen (w : Int) (m : Int) = z) := ⟨_, rfl⟩
  rw [HZ.out] at hbr ⊢
  go_wp2_with fail
  refine (take_prog z w1 hcur1 (by omega)).mono ?_
  rintro e w3 ⟨B3, m3, d3, rfl, hk3, hcur3, hown3⟩
  obtain ⟨⟨x, s3⟩, HT⟩ : ∃ t, Hid (takeC s1 z = t) := ⟨_, rfl⟩
  rw [HT.out] at hcur3 hown3
  simp only [] at hcur3 hown3
  have hx : Bys [] w3 B3 m3 d3 x := rd_of_own hown3 (by simp)
  clear hown3 hcur1
  go_wp2_with fail
  refine (unpack_prog_any (w : Int) (m : Int) w3 hx (by omega) (by omega)).mono ?_
  rintro e w4 ⟨B4, k4, d4, rfl, hk4, hnew4⟩
  have hk14 := (hk1.trans hk3).trans (hk4.nil (M := [g]))
  have hcur4 := hcur3.pure hk4
  have hsz := (hk1.trans hk3).size
  have hp1 : Hid (p.1 = unpackL x (w : Int) (m : Int)) := by rw [Hid, ← HP.out]; unfold restC; simp only []; rw [HW.out, HS1.out, HZ.out, HT.out]
  have hp2 : Hid (p.2 = if unpackOk x (w : Int) (m : Int) then s3 else none) := by rw [Hid, ← HP.out]; unfold restC; simp only []; rw [HW.out, HS1.out, HZ.out, HT.out]
  cases hok : unpackOk x (w : Int) (m : Int) with
  | true =>
    have hp2' : Hid (p.2 = s3) := by rw [Hid, hp2.out, hok]; rfl
    clear hok
    go_wp2
    go_ret
    exact ⟨B4, k4, d4, rfl, hk14, by rw [hp2'.out]; exact hcur4, fun Y hY => by rw [hp1.out]; exact hnew4 Y (fun b hb => Nat.lt_of_lt_of_le (hY b hb) hsz)⟩
  | false =>
    have hp2' : Hid (p.2 = none) := by rw [Hid, hp2.out, hok]; rfl
    clear hok
    go_wp2_with fail
    refine (fail_prog w4 hcur4).mono ?_
    rintro e w5 ⟨rfl, hk5, hcur5⟩
    go_wp2
    go_ret
    refine ⟨B4, k4, d4, rfl, hk14.trans hk5, by rw [hp2'.out]; exact hcur5, fun Y hY => ?_⟩
    rw [hp1.out]
    exact ((hnew4 (g :: Y) (fun b hb => by
      rcases List.mem_cons.1 hb with rfl | hb
      · omega
      · exact Nat.lt_of_lt_of_le (hY b hb) hsz)).keep hk5 (by simp)).less (by simp +contextual)
end Go.Proofs.Ytphgfhghbpndaaa
