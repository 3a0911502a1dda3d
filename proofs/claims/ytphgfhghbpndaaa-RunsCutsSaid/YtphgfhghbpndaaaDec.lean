/-
  Bytes as runs and rests, as plain laws: no program here.
-/
import Derived.Test.YtphgfhghbpndaaaEnc
import Derived.Test.YtphgfhghbpndaaaCu3
namespace Go.Proofs.Ytphgfhghbpndaaa
set_option linter.unusedVariables false
set_option linter.unusedSimpArgs false

theorem getC_put {n : Nat} (h : n < 2 ^ 64) (t : List UInt8) : getC (some (putB n ++ t)) = (n, some t) := by
  unfold getC
  simp only [Option.bind_some]
  rw [getV_put h]
theorem lenC_put {n : Nat} {most : Int} (h : n < 2 ^ 64) (hm : 0 ≤ most ∧ (n : Int) ≤ most) (t : List UInt8) : lenC (some (putB n ++ t)) most = (n, some t) := lenC_fit (getC_put h t) hm
theorem takeC_app (a t : List UInt8) {k : Int} (h : k = a.length) : takeC (some (a ++ t)) k = (a, some t) := by
  subst h
  unfold takeC
  simp only []
  rw [if_pos (by simp; omega), Int.toNat_natCast, List.take_left', List.drop_left'] <;> rfl

/-- What a rest's bytes are read as, so many numbers. -/
def restC (s : Option (List UInt8)) (m : Nat) : List UInt64 × Option (List UInt8) :=
  let w : Int := byteC s
  let t := takeC (takeC s 1).2 (bytesLen w m)
  (unpackL t.1 w m, if unpackOk t.1 w m then t.2 else none)
/-- One step of reading: n numbers in all, q read. -/
def stepD (n : Nat) (q : List UInt64) (s : Option (List UInt8)) : Option (List UInt64 × Option (List UInt8)) :=
  let h := lenC s (2 * ((n : Int) - q.length) + 1)
  if h.1 < 2 then none
  else if h.1 % 2 = 1 then some (q ++ (restC h.2 (h.1 / 2)).1, (restC h.2 (h.1 / 2)).2)
  else some (q ++ List.replicate (h.1 / 2) (UInt64.ofNat (getC h.2).1), (getC h.2).2)

/-- What a row's pieces are like. -/
def okPc (p : Piece) : Prop := p.1 ≠ [] ∧ p.2 = decide (4 ≤ p.1.length ∧ stretch p.1 = p.1.length)
theorem run_rep {ns : List UInt64} (h : stretch ns = ns.length) : ns = List.replicate ns.length (ns.headD 0) := by
  apply List.ext_getElem (by simp)
  intro i h1 h2
  obtain ⟨h3, h4, h5⟩ := stretch_same (l := ns) (k := i) (by omega)
  rw [h5, List.getElem_replicate]
  cases ns with
  | nil => simp at h3
  | cons x t => rfl
theorem byteC_cons (x : UInt8) (t : List UInt8) : byteC (some (x :: t)) = x.toNat := by
  have h := takeC_app [x] t (k := 1) rfl
  rw [List.singleton_append] at h
  unfold byteC
  rw [h]
  simp [num, pk]
theorem stepD_enc {n : Nat} {q : List UInt64} {p : Piece} (hp : okPc p) (hfit : q.length + p.1.length ≤ n) (hn : n ≤ 65536) (t : List UInt8) : stepD n q (some (encP p ++ t)) = some (q ++ p.1, some t) := by
  obtain ⟨ns, run⟩ := p
  obtain ⟨h0, hr⟩ := hp
  simp only [] at h0 hr hfit
  have hpos := List.length_pos_iff.2 h0
  cases run with
  | true =>
    obtain ⟨h4, hs⟩ := of_decide_eq_true hr.symm
    have hrep := run_rep hs
    have hx := (ns.headD 0).toNat_lt
    unfold stepD encP
    simp only [if_true]
    rw [List.append_assoc, lenC_put (by omega) (by omega)]
    simp only []
    rw [if_neg (by omega), if_neg (by omega), getC_put hx, show 2 * ns.length / 2 = ns.length from by omega, UInt64.ofNat_toNat, ← hrep]
  | false =>
    have hw := width_le64 ns
    have hu := unpack_pack (pack_width ns (by omega))
    unfold stepD encP
    simp only [Bool.false_eq_true, if_false]
    rw [List.append_assoc, List.append_assoc, lenC_put (by omega) (by omega)]
    simp only []
    rw [if_neg (by omega), if_pos (by omega), show (2 * ns.length + 1) / 2 = ns.length from by omega]
    have hb : ((UInt8.ofNat (width ns)).toNat : Int) = (width ns : Nat) := by rw [UInt8.toNat_ofNat']; omega
    unfold restC
    simp only [List.cons_append, List.nil_append]
    rw [byteC_cons, hb, show takeC (some (UInt8.ofNat (width ns) :: (packB ns (width ns : Nat) ++ t))) 1 = ([UInt8.ofNat (width ns)], some (packB ns (width ns : Nat) ++ t)) from takeC_app [UInt8.ofNat (width ns)] _ rfl]
    simp only []
    rw [takeC_app _ _ (by rw [bytesLen_nat ⟨by omega, by omega, by omega, by omega⟩, hu.2.2]; rfl)]
    simp only []
    rw [hu.1, hu.2.1, if_pos rfl]

/-- What is known between two steps: whoever has these bytes goes on so. -/
def InvD (n : Nat) (b : List UInt8) (q : List UInt64) (s : Option (List UInt8)) : Prop :=
  ∀ l : List UInt64, l.length = n → n ≤ 65536 → encB l = b → ∃ ps : List Piece, (∀ p ∈ ps, okPc p) ∧ l = q ++ ps.flatMap (·.1) ∧ s = some (ps.flatMap encP)
theorem InvD.start (n : Nat) (b : List UInt8) : InvD n b [] (some b) := fun l hl hn hb =>
  ⟨cutP l, fun p hp => cutP_piece hp, by rw [List.nil_append, cutP_all], by rw [← hb]; rfl⟩
theorem InvD.step {n : Nat} {b : List UInt8} {q : List UInt64} {s : Option (List UInt8)} (h : InvD n b q s) (hs : s ≠ some []) :
    (stepD n q s = none → ∀ l : List UInt64, l.length = n → n ≤ 65536 → encB l ≠ b) ∧ (∀ q' s', stepD n q s = some (q', s') → InvD n b q' s') := by
  have key : ∀ l : List UInt64, l.length = n → n ≤ 65536 → encB l = b → ∃ p ps, (∀ x ∈ p :: ps, okPc x) ∧ l = q ++ p.1 ++ ps.flatMap (·.1) ∧ stepD n q s = some (q ++ p.1, some (ps.flatMap encP)) := by
    intro l hl hn hb
    obtain ⟨ps, h1, h2, h3⟩ := h l hl hn hb
    cases ps with
    | nil => exact absurd h3 hs
    | cons p ps =>
      refine ⟨p, ps, h1, by rw [h2]; simp, ?_⟩
      rw [h3, List.flatMap_cons]
      refine stepD_enc (h1 p (by simp)) ?_ hn _
      rw [← hl, h2]
      simp
  refine ⟨fun h0 l hl hn hb => ?_, fun q' s' h0 l hl hn hb => ?_⟩
  · obtain ⟨p, ps, _, _, h3⟩ := key l hl hn hb
    rw [h0] at h3
    cases h3
  · obtain ⟨p, ps, h1, h2, h3⟩ := key l hl hn hb
    rw [h0] at h3
    injection h3 with h3
    injection h3 with h3 h4
    subst h3 h4
    exact ⟨ps, fun x hx => h1 x (by simp [hx]), h2, rfl⟩
theorem InvD.end_ {n : Nat} {b : List UInt8} {q : List UInt64} (h : InvD n b q (some [])) : ∀ l : List UInt64, l.length = n → n ≤ 65536 → encB l = b → l = q := by
  intro l hl hn hb
  obtain ⟨ps, h1, h2, h3⟩ := h l hl hn hb
  cases ps with
  | nil => simpa using h2
  | cons p ps =>
    rw [List.flatMap_cons] at h3
    injection h3 with h3
    have h4 := List.append_eq_nil_iff.1 h3.symm
    have h5 := (encP_len p (h1 p (by simp)).1 (by
      have := congrArg List.length h2
      simp at this
      omega)).1
    rw [h4.1] at h5
    simp at h5
theorem InvD.bad {n : Nat} {b : List UInt8} {q : List UInt64} (h : InvD n b q none) : ∀ l : List UInt64, l.length = n → n ≤ 65536 → encB l ≠ b := by
  intro l hl hn hb
  obtain ⟨ps, h1, h2, h3⟩ := h l hl hn hb
  cases h3

/-- What 'Decode' answers: out and ok. -/
def DecOk (b : List UInt8) (n : Int) (out : List UInt64) (ok : Bool) : Prop :=
  (ok = true → (out.length : Int) = n ∧ n ≤ 65536 ∧ encB out = b) ∧ (ok = false → out = []) ∧ ∀ l : List UInt64, (l.length : Int) = n → n ≤ 65536 → encB l = b → ok = true ∧ out = l
theorem DecOk.same {b : List UInt8} {n : Int} {o1 o2 : List UInt64} {k1 k2 : Bool} (h1 : DecOk b n o1 k1) (h2 : DecOk b n o2 k2) : o1 = o2 ∧ k1 = k2 := by
  cases k1 with
  | true =>
    obtain ⟨e1, e2, e3⟩ := h1.1 rfl
    obtain ⟨e4, e5⟩ := h2.2.2 o1 e1 e2 e3
    exact ⟨e5.symm, e4.symm⟩
  | false =>
    cases k2 with
    | false => exact ⟨(h1.2.1 rfl).trans (h2.2.1 rfl).symm, rfl⟩
    | true =>
      obtain ⟨e1, e2, e3⟩ := h2.1 rfl
      obtain ⟨e4, e5⟩ := h1.2.2 o2 e1 e2 e3
      cases e4
theorem DecOk.back {l out : List UInt64} {ok : Bool} (hl : l.length ≤ 65536) (h : DecOk (encB l) l.length out ok) : ok = true ∧ out = l := h.2.2 l rfl (by omega) rfl
theorem enc_inj {a b : List UInt64} (ha : a.length ≤ 65536) (hl : a.length = b.length) (h : encB a = encB b) : a = b := by
  have key : ∀ (k : Nat) (q : List UInt64) (s : Option (List UInt8)), (s.getD []).length ≤ k → InvD a.length (encB a) q s → a = b := by
    intro k
    induction k with
    | zero =>
      intro q s hk hI
      obtain ⟨ps, _, _, h3⟩ := hI a rfl ha rfl
      subst h3
      have h4 : ps.flatMap encP = [] := List.eq_nil_of_length_eq_zero (by simpa using hk)
      rw [h4] at hI
      exact (hI.end_ a rfl ha rfl).trans (hI.end_ b hl.symm ha h.symm).symm
    | succ k ih =>
      intro q s hk hI
      obtain ⟨ps, hps, h2, h3⟩ := hI a rfl ha rfl
      by_cases h0 : s = some []
      · subst h0; exact (hI.end_ a rfl ha rfl).trans (hI.end_ b hl.symm ha h.symm).symm
      · cases ps with
        | nil => exact absurd h3 h0
        | cons p ps =>
          have hst := stepD_enc (n := a.length) (q := q) (hps p (by simp)) (by have := congrArg List.length h2; simp at this; omega) ha (ps.flatMap encP)
          rw [List.flatMap_cons] at h3
          have h5 := (encP_len p (hps p (by simp)).1 (by have := congrArg List.length h2; simp at this; omega)).1
          refine ih _ _ ?_ ((hI.step h0).2 _ _ (by rw [h3]; exact hst))
          subst h3
          simp at hk ⊢
          omega
  exact key _ [] (some (encB a)) (Nat.le_refl _) (InvD.start _ _)
end Go.Proofs.Ytphgfhghbpndaaa
