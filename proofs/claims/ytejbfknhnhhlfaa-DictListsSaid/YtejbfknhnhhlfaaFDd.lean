/-
  Values by their places in a list, as plain laws: no program here.
  Cells as keys of a map.
-/
import Derived.Maps.Own
import Derived.Maps.OwnOps
import Derived.Maps.OwnSet
import Derived.Maps.Views
import Derived.DeepKeys5
import Derived.Test.YtejbfknhnhhlfaaFPlb
import Derived.Test.YtejbfknhnhhlfaaFRa
import Derived.Test.YtejbfknhnhhlfaaFCe
namespace Go.Proofs.Ytejbfknhnhhlfaa
open Go Go.RowKit
set_option maxRecDepth 10000
set_option linter.unusedVariables false
set_option linter.unusedSimpArgs false

/-- A cell more: the unlike cells, and the places. -/
def entStep (s : List Cell × List Nat) (c : Cell) : List Cell × List Nat := (if c ∈ s.1 then s.1 else s.1 ++ [c], s.2 ++ [s.1.idxOf c])
/-- The unlike cells of a row, and where its cells stand among them. -/
def entL (l : List Cell) : List Cell × List Nat := l.foldl entStep ([], [])
theorem entL_snoc (l : List Cell) (k : Nat) (hk : k < l.length) : entL (l.take (k + 1)) = entStep (entL (l.take k)) l[k] := by
  unfold entL
  rw [List.take_succ_eq_append_getElem hk, List.foldl_append]
  rfl
/-- What the two lists are like. -/
structure EntOk (l : List Cell) (s : List Cell) (p : List Nat) : Prop where
  len : p.length = l.length
  nodup : s.Nodup
  sub : ∀ c ∈ s, c ∈ l
  at_ : ∀ i (h : i < l.length) (h' : i < p.length), ∃ hs : p[i] < s.length, s[p[i]] = l[i]
  le : s.length ≤ l.length
theorem entOk_step {l s : List Cell} {p : List Nat} (c : Cell) (h : EntOk l s p) : EntOk (l ++ [c]) (entStep (s, p) c).1 (entStep (s, p) c).2 := by
  unfold entStep
  simp only []
  have hidx : c ∈ s → s.idxOf c < s.length := fun hc => List.idxOf_lt_length_of_mem hc
  by_cases hc : c ∈ s
  · rw [if_pos hc]
    refine ⟨by simp [h.len], h.nodup, fun d hd => List.mem_append_left _ (h.sub d hd), fun i hi hi' => ?_, by simp; have := h.le; omega⟩
    by_cases hil : i < l.length
    · have hip : i < p.length := by rw [h.len]; exact hil
      obtain ⟨hs, he⟩ := h.at_ i hil hip
      rw [List.getElem_append_left hil]
      simp only [List.getElem_append_left hip]
      exact ⟨hs, he⟩
    · have hi2 : i = l.length := by simp at hi; omega
      subst hi2
      have hpl : (p ++ [s.idxOf c])[l.length]'hi' = s.idxOf c := by simp [List.getElem_append_right, h.len]
      rw [hpl]
      exact ⟨hidx hc, by simp [List.getElem_append_right]⟩
  · rw [if_neg hc]
    have hix : s.idxOf c = s.length := List.idxOf_eq_length hc
    refine ⟨by simp [h.len], ?_, ?_, fun i hi hi' => ?_, by simp; have := h.le; omega⟩
    · rw [List.nodup_append]
      refine ⟨h.nodup, by simp, fun a ha b hb => ?_⟩
      rw [List.mem_singleton] at hb
      subst hb
      rintro rfl
      exact hc ha
    · intro d hd
      rcases List.mem_append.1 hd with hd | hd
      · exact List.mem_append_left _ (h.sub d hd)
      · exact List.mem_append_right _ hd
    by_cases hil : i < l.length
    · have hip : i < p.length := by rw [h.len]; exact hil
      obtain ⟨hs, he⟩ := h.at_ i hil hip
      rw [List.getElem_append_left hil]
      simp only [List.getElem_append_left hip]
      exact ⟨by simp; omega, by rw [List.getElem_append_left hs]; exact he⟩
    · have hi2 : i = l.length := by simp at hi; omega
      subst hi2
      have hpl : (p ++ [s.idxOf c])[l.length]'hi' = s.length := by simp [List.getElem_append_right, h.len, hix]
      rw [hpl]
      exact ⟨by simp, by simp [List.getElem_append_right]⟩
theorem entOk (l : List Cell) : ∀ k, k ≤ l.length → EntOk (l.take k) (entL (l.take k)).1 (entL (l.take k)).2
  | 0, _ => ⟨rfl, by simp [entL], by simp [entL], fun i h => by simp at h, by simp [entL]⟩
  | k + 1, hk => by
    have ih := entOk l k (by omega)
    rw [entL_snoc l k (by omega), List.take_succ_eq_append_getElem (by omega)]
    exact entOk_step _ ih
theorem ent_ok (l : List Cell) : EntOk l (entL l).1 (entL l).2 := by
  have := entOk l l.length (Nat.le_refl _)
  rwa [List.take_length] at this

/-- The places, as numbers. -/
def entU (l : List Cell) : List UInt64 := (entL l).2.map UInt64.ofNat
theorem entU_len (l : List Cell) : (entU l).length = l.length := by unfold entU; rw [List.length_map, (ent_ok l).len]
theorem rightL_sub {typ : Int} {l s : List Cell} (h : rightL typ l = true) (hs : ∀ c ∈ s, c ∈ l) (hl : s.length ≤ l.length) : rightL typ s = true := by
  obtain ⟨hk, h1, h2⟩ := rightL_mem h
  unfold rightL
  simp only [Bool.and_eq_true, decide_eq_true_eq, List.all_eq_true]
  exact ⟨⟨hk, by omega⟩, fun c hc => h2 c (hs c hc)⟩
theorem rightL_ent {typ : Int} {l : List Cell} (h : rightL typ l = true) : rightL typ (entL l).1 = true := rightL_sub h (ent_ok l).sub (ent_ok l).le

/-- Values as a list, and places in it. -/
def dictB (typ : Int) (l : List Cell) : List UInt8 :=
  putB (entL l).1.length ++ putB (encB typ (entL l).1).length ++ encB typ (entL l).1 ++ encR (entU l)
/-- The values that places tell, if all of them are there. -/
def pickL (s : List Cell) (p : List UInt64) : Option (List Cell) := p.mapM fun k => s[k.toNat]?
theorem pick_ent (l : List Cell) (hl : l.length ≤ 65536) : pickL (entL l).1 (entU l) = some l := by
  have ok := ent_ok l
  unfold pickL entU
  rw [List.mapM_map]
  have key : ∀ (p : List Nat) (r : List Cell), p.length = r.length → (∀ i (h : i < r.length) (h' : i < p.length), (entL l).1[p[i]]? = some r[i] ∧ p[i] < 18446744073709551616) →
      p.mapM (m := Option) ((fun k : UInt64 => (entL l).1[k.toNat]?) ∘ UInt64.ofNat) = some r := by
    intro p
    induction p with
    | nil => intro r hr _; cases r with
      | nil => rfl
      | cons _ _ => simp at hr
    | cons x p ih => intro r hr h; cases r with
      | nil => simp at hr
      | cons y r =>
        have h0 := h 0 (by simp) (by simp)
        simp only [List.getElem_cons_zero] at h0
        rw [List.mapM_cons]
        simp only [Function.comp_apply]
        rw [UInt64.toNat_ofNat', Nat.mod_eq_of_lt (by omega), h0.1]
        have := ih r (by simpa using hr) (fun i h1 h2 => by have := h (i + 1) (by simp; omega) (by simp; omega); simpa using this)
        simp [this]
  refine key _ _ ok.len (fun i h h' => ?_)
  obtain ⟨hs, he⟩ := ok.at_ i h h'
  have hle := ok.le
  exact ⟨by rw [List.getElem?_eq_getElem hs, he], by omega⟩

/-- What is read of bytes: the list, and what is left for the places. -/
def dictHead (typ : Int) (b : List UInt8) : Option (List Cell × List UInt8) :=
  match (takeC (lenC (lenC (some b) 65536).2 b.length).2 (lenC (lenC (some b) 65536).2 b.length).1).2 with
  | none => none
  | some r => match decV typ (takeC (lenC (lenC (some b) 65536).2 b.length).2 (lenC (lenC (some b) 65536).2 b.length).1).1 (lenC (some b) 65536).1 with
    | none => none
    | some s => some (s, r)
theorem dictHead_enc {typ : Int} {l : List Cell} (h : rightL typ l = true) : dictHead typ (dictB typ l) = some ((entL l).1, encR (entU l)) := by
  have hs := rightL_ent h
  obtain ⟨_, hl, _⟩ := rightL_mem hs
  have hv : (encB typ (entL l).1).length ≤ (dictB typ l).length := by unfold dictB; simp; omega
  have hv64 : (encB typ (entL l).1).length < 2 ^ 64 := by
    unfold encB
    rw [if_pos hs]
    split
    · rw [packB]
      split
      · rw [toBytes_length]; unfold sizeOf'; simp; omega
      · simp
    · have := cellsB_len typ (entL l).1 (fun c hc => rightC_text ((rightL_mem hs).2.2 c hc))
      have : 65546 * (entL l).1.length ≤ 65546 * 65536 := Nat.mul_le_mul_left _ hl
      omega
  unfold dictHead
  generalize hb : (dictB typ l).length = m at *
  unfold dictB
  rw [List.append_assoc, List.append_assoc, lenC_put (by omega) (by omega)]
  simp only []
  rw [lenC_put hv64 (by omega)]
  simp only []
  rw [takeC_app _ _ rfl]
  simp only []
  rw [decV_enc hs]
end Go.Proofs.Ytejbfknhnhhlfaa

namespace Go.Proofs.Ytejbfknhnhhlfaa
open Go Go.RowKit Go.Maps
set_option maxRecDepth 10000
set_option linter.unusedVariables false
set_option linter.unusedSimpArgs false

theorem cellKeyed : Keyed Try.prog 29 :=
  Keyed.of_law (deep_law_gate (by kernel_rfl) (of_decide_eq_true (by kernel_rfl)) (of_decide_eq_true (by kernel_rfl)) (by kernel_rfl) (by kernel_rfl))
theorem cell_key (c : Cell) (h : c.text.size ≤ maxLen) : ∃ l, keyOf Try.prog 29 (cellVal c) = some l := by
  have hu : Try.prog.underlying 29 = _ := Try.underlying29
  have hup : Try.prog.underlying 27 = _ := Try.underlying27
  have hub : Try.prog.underlying 4 = _ := Try.underlying4
  have hui : Try.prog.underlying 3 = _ := Try.underlying3
  have hus : Try.prog.underlying 9 = _ := Try.underlying9
  have hk : Try.prog.keyType 29 = true := by kernel_rfl
  have hc : Try.prog.cellsOf 29 = 5 := by kernel_rfl
  have hcp : Try.prog.cellsOf 27 = 2 := by kernel_rfl
  have hcb : Try.prog.cellsOf 4 = 1 := by kernel_rfl
  have hci : Try.prog.cellsOf 3 = 1 := by kernel_rfl
  have hcs : Try.prog.cellsOf 9 = 1 := by kernel_rfl
  obtain ⟨d, hd⟩ : ∃ d, Try.prog.types.size + 1 = d + 3 := ⟨Try.prog.types.size - 2, by have : 2 ≤ Try.prog.types.size := of_decide_eq_true (by kernel_rfl); omega⟩
  have h0 := i64_lo c.int
  have h1 := i64_hi c.int
  have h2 := i64_lo c.x
  have h3 := i64_hi c.x
  have h4 := i64_lo c.y
  have h5 := i64_hi c.y
  have wf : ∀ x : Int64, (Lit.int .i64 x.toInt).wf = true := fun x => by
    have := i64_lo x
    have := i64_hi x
    simp [Lit.wf, IntKind.min, IntKind.max, IntKind.signed, IntKind.bits]
    omega
  have hl : ∃ ls, Try.prog.keyLits (Try.prog.types.size + 1) 29 (cellVal c).cells.toList = some ls := by
    rw [hd]
    simp [Program.keyLits, hu, hup, hub, hui, hus, hc, hcp, hcb, hci, hcs, cellVal, Value.cells, wf, h]
    rw [if_pos (fun i hi => by
      match i, hi with
      | 0, _ => simp
      | 1, _ => simp)]
    exact ⟨_, rfl⟩
  have hf : (cellVal c).formed Try.prog 29 = true := by
    simp [cellVal, Value.formed, hu, hc]
  obtain ⟨ls, hls⟩ := hl
  unfold keyOf
  rw [hu]
  simp only [hk, hf, hls]
  exact ⟨_, rfl⟩

/-- A map tells of each cell whether it is on the list, and where. -/
def MapIs (D : DataW Unit) (s : List Cell) : Prop := IsMap D ∧ ∀ c kl, keyOf Try.prog 29 (cellVal c) = some kl →
  Maps.has D kl = decide (c ∈ s) ∧ (c ∈ s → D.atKey kl (.lit (.int .u64 0)) = .lit (.int .u64 (s.idxOf c : Nat)))
theorem mapIs_empty : MapIs (.map []) [] := ⟨isMap_empty, fun c kl _ => ⟨by simp [Maps.has], by simp⟩⟩
theorem cellVal_inj {a b : Cell} (h : cellVal a = cellVal b) : a = b := by
  unfold cellVal at h
  injection h with h
  injection h with h
  exact Cell.cs_inj h
theorem mapIs_put {D : DataW Unit} {s : List Cell} (h : MapIs D s) (c : Cell) (hc : c ∉ s) {kl : Lit} (hk : keyOf Try.prog 29 (cellVal c) = some kl) : MapIs (D.put kl (.lit (.int .u64 (s.length : Nat)))) (s ++ [c]) := by
  refine ⟨h.1.put _ _, fun d kd hd => ?_⟩
  by_cases he : d = c
  · subst he
    rw [hk] at hd
    injection hd with hd
    subst hd
    refine ⟨by rw [has_put_same h.1 (cellKeyed.key hk)]; simp, fun _ => ?_⟩
    rw [atKey_put_same h.1 (cellKeyed.key hk), List.idxOf_append, if_neg hc]
    simp
  · have hne : kd ≠ kl := by
      rintro rfl
      exact he (cellVal_inj (cellKeyed.inj hd hk))
    obtain ⟨h1, h2⟩ := h.2 d kd hd
    refine ⟨by rw [has_put_other hne, h1]; simp [he], fun hm => ?_⟩
    have hm' : d ∈ s := by
      rcases List.mem_append.1 hm with hm | hm
      · exact hm
      · exact absurd (List.mem_singleton.1 hm) he
    rw [atKey_put_other hne, h2 hm', List.idxOf_append, if_pos hm']
end Go.Proofs.Ytejbfknhnhhlfaa
