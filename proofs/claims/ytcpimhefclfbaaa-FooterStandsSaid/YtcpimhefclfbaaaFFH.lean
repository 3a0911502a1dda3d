/-
  Footers that are made: rows of rows of the call's own.
  A footer that is read: footer.Decode.
-/
import Derived.Laws.ResultCell
import Derived.WalkMore
import Derived.Test.YtcpimhefclfbaaaFFA
import Derived.Test.YtcpimhefclfbaaaFFD
import Derived.Test.YtcpimhefclfbaaaFFC
namespace Go.Proofs.Ytcpimhefclfbaaa
open Go Go.RowKit
set_option maxRecDepth 10000
set_option linter.unusedVariables false
set_option linter.unusedSimpArgs false

/-- No block of M is a row of t's. -/
def Odd (w : World) (M : List Nat) (t : TypeId) : Prop := ∀ b ∈ M, ∀ cs, w.heap[b]? ≠ some (.cells cs t (0, 0))
theorem odd_blk {w : World} {g : Nat} {t t' : TypeId} {cs : List Value} (h : Blk w g t' cs) (hne : t' ≠ t) : Odd w [g] t := fun b hb cs' he => by
  obtain rfl : b = g := by simpa using hb
  unfold Blk at h
  rw [h] at he
  injection he with he
  injection he with _ ht
  exact hne ht
theorem odd_own {w : World} {base size n : Nat} {t t' : TypeId} {v : Value} {xs : List Value} (h : w.ownsRow base t' size v n xs) (hne : t' ≠ t) : Odd w v.ownBlock.toList t := fun b hb cs' he => by
  rcases h.2 with ⟨rfl, _⟩ | ⟨g, cap, cur, rfl, _, hg, _⟩
  · simp [Value.ownBlock] at hb
  · obtain rfl : b = g := by simpa [Value.ownBlock] using hb
    rw [hg] at he
    injection he with he
    injection he with _ ht
    exact hne ht
theorem own_far {M : List Nat} {w w' : World} {base size n : Nat} {t : TypeId} {v : Value} {xs : List Value} (h : w.ownsRow base t size v n xs) (hk : Keep M w w') (hM : Odd w M t) : w'.ownsRow base t size v n xs := by
  refine ⟨h.1, ?_⟩
  rcases h.2 with h2 | ⟨g, cap, cur, hv, hg, hh, r⟩
  · exact .inl h2
  · exact .inr ⟨g, cap, cur, hv, hg, (hk.block g (Array.getElem?_eq_some_iff.1 hh).1 (fun hm => hM g hm _ hh)).trans hh, r⟩

def ChsO (w : World) (base : Nat) (es : List Value) (ls : List (List Pg)) : Prop := es.length = ls.length ∧ ∀ i (h : i < es.length) (h' : i < ls.length), w.ownsRow base 54 14 es[i] ls[i].length (ls[i].flatMap Pg.cs)
def GrsO (w : World) (base : Nat) (vs : List Value) (gs : List Grp) : Prop := vs.length = gs.length ∧ ∀ i (h : i < vs.length) (h' : i < gs.length), ∃ es, w.ownsRow base 41 1 vs[i] gs[i].chunks.length es ∧ ChsO w base es gs[i].chunks
section
variable {M : List Nat} {w w' : World} {base base' : Nat} {es vs : List Value} {ls : List (List Pg)} {gs : List Grp}
theorem ChsO.keep (h : ChsO w base es ls) (hk : Keep M w w') (hM : ∀ b ∈ M, b < base) : ChsO w' base es ls := ⟨h.1, fun i h1 h2 => own_keep (h.2 i h1 h2) hk hM⟩
theorem ChsO.far (h : ChsO w base es ls) (hk : Keep M w w') (hM : Odd w M 54) : ChsO w' base es ls := ⟨h.1, fun i h1 h2 => own_far (h.2 i h1 h2) hk hM⟩
theorem ChsO.lower (h : ChsO w base es ls) (hb : base' ≤ base) : ChsO w base' es ls := ⟨h.1, fun i h1 h2 => own_lower (h.2 i h1 h2) hb⟩
theorem GrsO.keep (h : GrsO w base vs gs) (hk : Keep M w w') (hM : ∀ b ∈ M, b < base) : GrsO w' base vs gs := ⟨h.1, fun i h1 h2 => by
  obtain ⟨es, h3, h4⟩ := h.2 i h1 h2
  exact ⟨es, own_keep h3 hk hM, h4.keep hk hM⟩⟩
theorem GrsO.far (h : GrsO w base vs gs) (hk : Keep M w w') (hM : Odd w M 54) (hM2 : Odd w M 41) : GrsO w' base vs gs := ⟨h.1, fun i h1 h2 => by
  obtain ⟨es, h3, h4⟩ := h.2 i h1 h2
  exact ⟨es, own_far h3 hk hM2, h4.far hk hM⟩⟩
theorem ChsO.snoc (h : ChsO w base es ls) {v : Value} {l : List Pg} (hv : w.ownsRow base 54 14 v l.length (l.flatMap Pg.cs)) : ChsO w base (es ++ [v]) (ls ++ [l]) := by
  refine ⟨by simp [h.1], fun i h1 h2 => ?_⟩
  by_cases hi : i < es.length
  · rw [List.getElem_append_left hi, List.getElem_append_left (by have := h.1; omega)]
    exact h.2 i hi (by have := h.1; omega)
  · have h3 := h.1
    have he : i = es.length := by simp at h1; omega
    have e1 : (es ++ [v])[i] = v := by rw [List.getElem_append_right (by omega)]; simp
    have e2 : (ls ++ [l])[i] = l := by rw [List.getElem_append_right (by omega)]; simp
    rw [e1, e2]
    exact hv
theorem GrsO.snoc (h : GrsO w base vs gs) {v : Value} {g : Grp} {es : List Value} (hv : w.ownsRow base 41 1 v g.chunks.length es) (hc : ChsO w base es g.chunks) : GrsO w base (vs ++ [v]) (gs ++ [g]) := by
  refine ⟨by simp [h.1], fun i h1 h2 => ?_⟩
  by_cases hi : i < vs.length
  · rw [List.getElem_append_left hi, List.getElem_append_left (by have := h.1; omega)]
    exact h.2 i hi (by have := h.1; omega)
  · have h3 := h.1
    have he : i = vs.length := by simp at h1; omega
    have e1 : (vs ++ [v])[i] = v := by rw [List.getElem_append_right (by omega)]; simp
    have e2 : (gs ++ [g])[i] = g := by rw [List.getElem_append_right (by omega)]; simp
    rw [e1, e2]
    exact ⟨es, hv, hc⟩
theorem ChsO.rd {Y : List Nat} {A : Option Addr} {d : Nat} (h : ChsO w base es ls) (hv : w.ownsRow base 41 1 (.slice A ls.length d) ls.length es) (hY : ∀ b ∈ Y, b < base) : ChsR Y w (.slice A ls.length d) ls := by
  refine ⟨A, d, es, rfl, h.1, rd_of_own hv hY, fun k h1 h2 => ?_⟩
  have h3 := h.2 k h2 h1
  obtain ⟨A', d', e⟩ := own_form h3
  rw [e] at h3 ⊢
  exact ⟨A', d', rfl, rd_of_own h3 hY⟩
theorem GrsO.rd {Y : List Nat} {A : Option Addr} {d : Nat} (h : GrsO w base vs gs) (hv : w.ownsRow base 44 2 (.slice A gs.length d) gs.length ((gs.zip vs).flatMap grC)) (hY : ∀ b ∈ Y, b < base) : GrsR Y w (.slice A gs.length d) gs := by
  refine ⟨A, d, vs, rfl, h.1, rd_of_own hv hY, fun k h1 h2 => ?_⟩
  obtain ⟨es, h3, h4⟩ := h.2 k h2 h1
  obtain ⟨A', d', e⟩ := own_form h3
  rw [e] at h3 ⊢
  exact h4.rd h3 hY
end

/-- A footer that is being made: its block, and what it has so far. -/
def Lv1 (base fb : Nat) (A : Option Addr) (d : Nat) (f : Ftr) (w : World) : Prop :=
  base ≤ fb ∧ ∃ A' d' vs, Blk w fb 25 [.slice A f.cols.length d, .int .i64 f.rows.toInt, .slice A' f.groups.length d'] ∧ w.ownsRow base 44 2 (.slice A' f.groups.length d') f.groups.length ((f.groups.zip vs).flatMap grC) ∧ GrsO w base vs f.groups ∧
    w.ownsRow base 56 3 (.slice A f.cols.length d) f.cols.length (f.cols.flatMap Col.cs)
theorem Lv1.keep {M : List Nat} {base fb : Nat} {A : Option Addr} {d : Nat} {f : Ftr} {w w' : World} (h : Lv1 base fb A d f w) (hk : Keep M w w') (hM : ∀ b ∈ M, b < base) : Lv1 base fb A d f w' := by
  obtain ⟨h0, A', d', vs, h1, h2, h3, h4⟩ := h
  exact ⟨h0, A', d', vs, h1.keep hk (fun hm => by have := hM _ hm; omega), own_keep h2 hk hM, h3.keep hk hM, own_keep h4 hk hM⟩
theorem Lv1.rd {Y : List Nat} {base fb : Nat} {A : Option Addr} {d : Nat} {f : Ftr} {w : World} (h : Lv1 base fb A d f w) (hY : ∀ b ∈ Y, b < base) (ht : ∀ c ∈ f.cols, c.name.size ≤ 100) :
    ∃ A' d', Blk w fb 25 [.slice A f.cols.length d, .int .i64 f.rows.toInt, .slice A' f.groups.length d'] ∧ ∀ Z : List Nat, (∀ b ∈ Z, b < base) → FtrR Z w (.agg #[.slice A f.cols.length d, .int .i64 f.rows.toInt, .slice A' f.groups.length d']) f := by
  obtain ⟨h0, A', d', vs, h1, h2, h3, h4⟩ := h
  exact ⟨A', d', h1, fun Z hZ => ⟨A, d, _, rfl, rd_of_own h4 hZ, h3.rd h2 hZ, fun c hc => by have := ht c hc; unfold maxLen; omega⟩⟩

theorem FtrR.zero (Y : List Nat) (w : World) : FtrR Y w (.agg #[.slice none 0 0, .int .i64 0, .slice none 0 0]) Ftr.zero :=
  ⟨none, 0, _, rfl, Rd.nil_ _ _ _, ⟨none, 0, [], rfl, rfl, Rd.nil_ _ _ _, fun k h => absurd h (by simp [Ftr.zero])⟩, by simp [Ftr.zero]⟩
theorem ret_ftr {fn : Func} {p u : Tmp} (h : fn.results = #[.cell p 25, .tmp u]) {tmps : Array Value} {w : World} {g : Nat} {a b c d : Value} (hp : tmps.getD p undef = .pointer (some ⟨g, 0, none⟩)) (hu : tmps.getD u undef = d) (hb : Blk w g 25 [a, b, c]) :
    (results fn tmps).run Try.prog w = .ok (.tuple #[.agg #[a, b, c], d]) w := by
  have hl := run_loadVar_row (P := Try.prog) w g 25 25 _ (0, 0) _ hb Try.underlying25 rfl (by show (Try.prog.info? 25).map (·.size) = some 3; kernel_rfl)
  rw [results_cell_tmp h, hp, hu]
  simp [asAddr, hl]

/-- What Decode tells. -/
def DecFPost (V : Option Ftr) (W : World) (e : Ending) (W' : World) : Prop := ∃ F, e = .returned (.tuple #[F, .bool V.isSome]) ∧ Keep [] W W' ∧ ∀ Y : List Nat, (∀ b ∈ Y, b < W.heap.size) → FtrR Y W' F (V.getD Ftr.zero)
theorem Try.infoPg : (Try.prog.info? 54).map (fun i => (i.zero, i.size, i.bytes)) = some (some (pgVal ⟨0, 0, St.zero⟩), 14, 128) := by kernel_rfl
theorem Try.infoPgs : (Try.prog.info? 41).map (fun i => (i.zero, i.size, i.bytes)) = some (some (.slice none 0 0), 1, 24) := by kernel_rfl
theorem Try.infoGrp : (Try.prog.info? 44).map (fun i => (i.zero, i.size, i.bytes)) = some (some (.agg #[.int .i64 0, .slice none 0 0]), 2, 32) := by kernel_rfl
end Go.Proofs.Ytcpimhefclfbaaa

namespace Go.Proofs.Ytcpimhefclfbaaa
open Go Go.RowKit
set_option maxRecDepth 10000
set_option linter.unusedVariables false
set_option linter.unusedSimpArgs false

theorem Sts.same {V : Option Ftr} {f f' : List UInt8 → Option Ftr} {s : Option (List UInt8)} (h : Sts V f s) (he : ∀ b, f b = f' b) : Sts V f' s := by
  cases s with
  | none => exact h
  | some b => exact Eq.trans h (he b)
theorem Cur.grown {t : TypeId} {w w' : World} {g base n size : Nat} {e : TypeId} {v : Value} {xs : List Value} {s : Option (List UInt8)} (h : Cur t w g s) (ho : w.ownsRow base e size v n xs) (hb : g < base) (hg : w.grownBy w' v.ownBlock) : Cur t w' g s :=
  h.keep (keep_of_grown hg) (fun b hm => by have := own_ge ho b (by simpa using hm); omega)

theorem colsG_len (s : Option (List UInt8)) : (colsG s).1.length ≤ 64 := by
  unfold colsG
  split
  · rw [getCs_len]
    have := lenC_max s (most := 64) (by omega)
    omega
  · simp

set_option maxHeartbeats 16000000 in
theorem decode_ftr {X : List Nat} {A : Option Addr} {nb cb : Nat} {b : List UInt8} (W : World) (h : Bys X W A nb cb b) (hroom : nb ≤ 10000000000000) :
    Calls Try.prog 14 #[.slice A nb cb] W (DecFPost (ftrO b) W) := by
  obtain ⟨V, hV⟩ : ∃ V, Hid (ftrO b = V) := ⟨_, rfl⟩
  have hst := ftrO_start b
  rw [hV.out] at hst ⊢
  clear hV
  obtain ⟨ip, hip, hpz0, hpz1, hpz2⟩ := info_parts Try.infoPg
  obtain ⟨ic, hic, hcz0, hcz1, hcz2⟩ := info_parts Try.infoPgs
  obtain ⟨ig, hig, hgz0, hgz1, hgz2⟩ := info_parts Try.infoGrp
  have hsS : ∀ w, (Go.sizeOf 52).run Try.prog w = .ok 12 w := Try.sizeOf52
  replace hsS := Lib.hid hsS
  obtain ⟨W1, hW1⟩ : ∃ W1, W.alloc (.cells #[.slice none 0 0, .int .i64 0, .slice none 0 0] 25) = W1 := ⟨_, rfl⟩
  have hk0 : Keep [] W W1 := by rw [← hW1]; exact (Keep.refl _ _).alloc _
  have hR0 : Blk W1 W.heap.size 25 [.slice none 0 0, .int .i64 0, .slice none 0 0] := by rw [← hW1]; exact Blk.new W 25 _
  have hW1s := hR0.lt
  have hzero : ∀ w, Blk w W.heap.size 25 [.slice none 0 0, .int .i64 0, .slice none 0 0] → Keep [] W w →
      Blk (((w.setCell ⟨W.heap.size, 0, none⟩ (.slice none 0 0)).setCell ⟨W.heap.size, 1, none⟩ (.int .i64 0)).setCell ⟨W.heap.size, 2, none⟩ (.slice none 0 0)) W.heap.size 25 [.slice none 0 0, .int .i64 0, .slice none 0 0] ∧
      Keep [] W (((w.setCell ⟨W.heap.size, 0, none⟩ (.slice none 0 0)).setCell ⟨W.heap.size, 1, none⟩ (.int .i64 0)).setCell ⟨W.heap.size, 2, none⟩ (.slice none 0 0)) := fun w hR hk =>
    ⟨((hR.set_ 0 _).set_ 1 _).set_ 2 _, ((hk.setCell (p := ⟨W.heap.size, 0, none⟩) (.inr (Nat.le_refl _)) _).setCell (p := ⟨W.heap.size, 1, none⟩) (.inr (Nat.le_refl _)) _).setCell (p := ⟨W.heap.size, 2, none⟩) (.inr (Nat.le_refl _)) _⟩
  replace hzero := Lib.hid hzero
  have hnone : ∀ w, V = none → Keep [] W w → DecFPost V W (.returned (.tuple #[.agg #[.slice none 0 0, .int .i64 0, .slice none 0 0], .bool false])) w := fun w hv hk => by
    subst hv
    exact ⟨_, rfl, hk, fun Y _ => FtrR.zero Y w⟩
  replace hnone := Lib.hid hnone
  have O := Lib.hid (over_prog W1 (h.pure hk0) hroom)
  go_enter Try.func14, Try.ntmps14
  go_wp2
  go_step3
  go_wp2_with fail
  refine O.out.mono ?_
  rintro e w1 ⟨g, rfl, hgW, hk1, hc1⟩
  have hkW1 : Keep [] W w1 := hk0.trans hk1
  have hRb := hR0.keep hk1 (by simp)
  have hgR : W.heap.size ∉ [g] := by simp; omega
  have hgb := hc1.lt
  have GC := getCols_prog w1 hc1
  have hcs64 := colsG_len (some b)
  generalize colsG (some b) = cg at *
  obtain ⟨cs, s1⟩ := cg
  simp only [] at hst hcs64
  replace GC := Lib.hid GC
  clear O hW1
  go_wp2_with fail
  refine GC.out.mono ?_
  rintro e w2 ⟨B, d, rfl, hk2, hc2, hnm, hOc⟩
  simp only [] at hk2 hc2 hnm hOc
  replace hnm := Lib.hid hnm
  have L1 := len_prog (g := g) (s := s1) 65536 w2 hc2 (by omega)
  have hrn := lenC_le s1
  generalize lenC s1 65536 = l1 at *
  obtain ⟨rn, s2⟩ := l1
  simp only [] at hst L1 hrn
  replace L1 := Lib.hid L1
  have hcsz := (rd_of_own (X := []) hOc (by simp)).cap
  have hcsl := (rd_of_own (X := []) hOc (by simp)).le
  clear GC
  go_wp2_with fail
  refine L1.out.mono ?_
  rintro e w3 ⟨rfl, hk3, hc3⟩
  have hri : (Int64.ofInt (rn : Int)).toInt = rn := toI (by unfold isI64; omega)
  have hk4 : Keep [] w3 (w3.alloc (.cells #[.slice B cs.length d, .int .i64 rn, .slice none 0 0] 25)) := (Keep.refl _ _).alloc _
  have hb4 : Blk (w3.alloc (.cells #[.slice B cs.length d, .int .i64 rn, .slice none 0 0] 25)) w3.heap.size 25 [.slice B cs.length d, .int .i64 (Int64.ofInt (rn : Int)).toInt, .slice none 0 0] := by rw [hri]; exact Blk.new w3 25 _
  have hk13 : Keep [g] w1 w3 := hk2.trans hk3
  have hL4 : Lv1 w1.heap.size w3.heap.size B d ⟨cs, Int64.ofInt (rn : Int), []⟩ (w3.alloc (.cells #[.slice B cs.length d, .int .i64 rn, .slice none 0 0] 25)) :=
    ⟨hk13.size, none, 0, [], hb4, World.ownsRow_nil _ _ _ _, ⟨rfl, fun i h => absurd h (by simp)⟩, own_keep (own_keep hOc hk3 (by simp; omega)) hk4 (by simp)⟩
  have hk14 : Keep [g] w1 (w3.alloc (.cells #[.slice B cs.length d, .int .i64 rn, .slice none 0 0] 25)) := hk13.trans hk4.nil
  have L2 := len_prog (g := g) (s := s2) 65536 (w3.alloc (.cells #[.slice B cs.length d, .int .i64 rn, .slice none 0 0] 25)) (hc3.pure hk4) (by omega)
  have hn0 := lenC_le s2
  generalize lenC s2 65536 = l2 at *
  obtain ⟨n0, s3⟩ := l2
  simp only [] at hst L2 hn0
  replace L2 := Lib.hid L2
  replace hri := Lib.hid hri
  clear L1 hOc
  go_wp2_with fail
  refine L2.out.mono ?_
  rintro e w5 ⟨rfl, hk5, hc5⟩
  have hk15 := hk14.trans hk5
  have hL5 := hL4.keep hk5 (by simp; omega)
  clear L2 hb4 hL4 hk4 hk14
  generalize w3.heap.size = fb at *
  have hfbn : fb ∉ [g] := by have := hL5.1; simp; omega
  generalize Int64.ofInt (rn : Int) = rows at *
  go_wp2
  go_step3
  go_wp2
  go_loopw [22] (fun i wr => ∃ (k : Nat) (gs : List Grp) (s : Option (List UInt8)), k ≤ n0 ∧ i = .int .i64 k ∧ gs.length = k ∧ Lv1 w1.heap.size fb B d ⟨cs, rows, gs⟩ wr ∧ Cur 88 wr g s ∧ Hid (Sts V (fun b => endO cs rows (aheadG gs (grsO cs (n0 - k) b))) s) ∧ Keep [g] w1 wr) (fun i _ => n0 - (intOf i).toNat)
  case atStart => exact ⟨0, [], s3, Nat.zero_le _, rfl, rfl, hL5, hc5, hst, hk15⟩
  case round =>
    obtain ⟨k, gs, s, hk, rfl, hgl, hL, hc, hS, hkr⟩ := hrel
    have hgl16 : gs.length ≤ 65536 := by omega
    replace hgl := Lib.hid hgl
    by_cases hlt : k < n0
    · have hS0 := hS.out
      rw [show n0 - k = (n0 - (k + 1)) + 1 from by omega] at hS0
      obtain ⟨T2, hT20, hT21, hS2⟩ := Sts.group (T := endO cs rows) (endO_none _ _) hS0
      replace hT20 := Lib.hid hT20
      have L3 := len_prog (g := g) (s := s) 65536 wr hc (by omega)
      have hrg := lenC_le s
      generalize lenC s 65536 = l3 at *
      obtain ⟨rg, s4⟩ := l3
      simp only [] at hT21 hS2 L3 hrg
      replace hT21 := Lib.hid hT21
      replace hS2 := Lib.hid hS2
      replace L3 := Lib.hid L3
      have i1' : (k : Int) < (n0 : Int) := by omega
      clear hS hS0
      go_wp2_with fail
      refine L3.out.mono ?_
      rintro e w6 ⟨rfl, hk6, hc6⟩
      have hL6 := hL.keep hk6 (by simp; omega)
      have hk16 := hkr.trans hk6
      have hk7 : Keep [] w6 (w6.alloc (.cells #[.int .i64 rg, .slice none 0 0] 44)) := (Keep.refl _ _).alloc _
      have hbg7 : Blk (w6.alloc (.cells #[.int .i64 rg, .slice none 0 0] 44)) w6.heap.size 44 [.int .i64 rg, .slice none 0 0] := Blk.new w6 44 _
      have hgg : g < w6.heap.size := hc6.lt
      have hgbn : w6.heap.size ∉ [g] := by simp; omega
      have hL7 := hL6.keep hk7 (by simp)
      obtain ⟨hf0, Ag, dg, vs, hbf7, _⟩ := hL7
      obtain ⟨x0, x1, x2⟩ := at3 hbf7
      have hw6s : w1.heap.size ≤ w6.heap.size := hk16.size
      clear L3 hL
      go_wp2
      clear x0 x1 x2 hbf7
      generalize (w6.alloc (.cells #[.int .i64 rg, .slice none 0 0] 44)) = w7 at *
      obtain ⟨gb, hgbe⟩ : ∃ gb, w6.heap.size = gb := ⟨_, rfl⟩
      have hgb2 := Lib.hid hgbe
      rw [hgbe] at hbg7 hgg hgbn hw6s ⊢
      clear hgbe
      go_loopw [30] (fun i w => ∃ (j : Nat) (ls : List (List Pg)) (es : List Value) (A2 : Option Addr) (d2 : Nat) (s : Option (List UInt8)), j ≤ cs.length ∧ i = .int .i64 j ∧ ls.length = j ∧ Blk w gb 44 [.int .i64 rg, .slice A2 j d2] ∧ w.ownsRow gb 41 1 (.slice A2 j d2) j es ∧ ChsO w gb es ls ∧ Cur 88 w g s ∧ Hid (Sts V (fun b => T2 (aheadG ls (chsO (cs.drop j) b))) s) ∧ Keep [g] w6 w) (fun i _ => cs.length - (intOf i).toNat)
      case atStart => exact ⟨0, [], [], none, 0, s4, Nat.zero_le _, rfl, rfl, hbg7, World.ownsRow_nil _ _ _ _, ⟨rfl, fun i h => absurd h (by simp)⟩, hc6.pure hk7, hS2.out, hk7.nil⟩
      case round =>
        obtain ⟨j, ls, es, A2, d2, s, hj, rfl, hll, hbg, hO2, hC2, hc, hS, hkj⟩ := hrel
        have hLj := hL6.keep hkj (by simp; omega)
        have hk1j := hk16.trans hkj
        by_cases hjt : j < cs.length
        · obtain ⟨_, _, _, _, _, _, _, hcl⟩ := hLj
          obtain ⟨bC, oC, eB, _, _, y0, y1, y2⟩ := Cols.at3 (rd_of_own (X := []) hcl (by simp)) hjt
          subst eB
          obtain ⟨T3, hT30, hT31, hS3⟩ := Sts.chunk hjt hT20.out hS.out
          replace hT30 := Lib.hid hT30
          replace hT31 := Lib.hid hT31
          have L4 := fun w hc => len_prog (g := g) (s := s) 65536 w hc (by omega)
          have hn3 := lenC_le s
          generalize lenC s 65536 = l4 at *
          obtain ⟨n3, s5⟩ := l4
          simp only [] at hS3 L4 hn3
          replace hS3 := Lib.hid hS3
          replace L4 := Lib.hid L4
          generalize cs[j] = x at *
          have j0' : (0 : Int) ≤ (j : Int) := by omega
          have j1' : (j : Int) < (cs.length : Int) := by omega
          obtain ⟨w8, hw8⟩ : ∃ w8, wr.alloc (.cells #[.string x.name, .int .i64 x.typ.toInt, .bool x.null] 56) = w8 := ⟨_, rfl⟩
          have hk8 : Keep [] wr w8 := by rw [← hw8]; exact (Keep.refl _ _).alloc _
          obtain ⟨xb, hxbe⟩ : ∃ xb, wr.heap.size = xb := ⟨_, rfl⟩
          have hbx8 : Blk w8 xb 56 x.cs := by rw [← hw8, ← hxbe]; exact Blk.new wr 56 _
          have hxbn : xb ∉ [g] := by have := hc.lt; simp; omega
          clear hS hcl
          go_wp2_with fail
          refine (L4.out w8 (hc.pure hk8)).mono ?_
          rintro e w9 ⟨rfl, hk9, hc9⟩
          have hk89 : Keep [g] wr w9 := hk8.nil.trans hk9
          have hbx9 := hbx8.keep hk9 hxbn
          have hk69 := hkj.trans hk89
          clear hw8 hxbe L4 y0 y1 y2 hbx8
          go_wp2
          go_loopw [10, 36] (fun o i w => ∃ (m : Nat) (q : List Pg) (s : Option (List UInt8)), m ≤ n3 ∧ i = .int .i64 m ∧ q.length = m ∧ w.ownsRow w9.heap.size 54 14 o m (q.flatMap Pg.cs) ∧ Cur 88 w g s ∧ Hid (Sts V (fun b => T3 (aheadG q (pgsO x.typ.toInt (n3 - m) b))) s) ∧ Keep [g] w9 w) (fun _ i _ => n3 - (intOf i).toNat)
          case atStart => exact ⟨0, [], s5, Nat.zero_le _, rfl, rfl, World.ownsRow_nil _ _ _ _, hc9, hS3.out, Keep.refl _ _⟩
          case round =>
            obtain ⟨m, q, s, hm, rfl, hql, hO3, hc, hS, hkm⟩ := hrel
            obtain ⟨A3, d3, rfl⟩ := own_form hO3
            have hg9 : g < w9.heap.size := hc9.lt
            by_cases hmt : m < n3
            · have hS0 := hS.out
              rw [show n3 - m = (n3 - (m + 1)) + 1 from by omega] at hS0
              have hS4 := Sts.page hT30.out hS0
              have hpg : pgG x.typ.toInt s = (⟨Int64.ofInt (lenC s 268435456).1, Int64.ofInt (lenC (lenC s 268435456).2 65536).1, (getS x.typ.toInt (lenC (lenC s 268435456).2 65536).2).1⟩, (getS x.typ.toInt (lenC (lenC s 268435456).2 65536).2).2) := rfl
              rw [hpg] at hS4
              clear hpg hS0 hS
              have L5 := len_prog (g := g) (s := s) 268435456 wr hc (by omega)
              have hsz := lenC_max s (most := 268435456) (by omega)
              generalize lenC s 268435456 = l5 at *
              obtain ⟨sz, s6⟩ := l5
              simp only [] at hS4 L5 hsz
              have L6 := fun w hc => len_prog (g := g) (s := s6) 65536 w hc (by omega)
              have hrw := lenC_le s6
              generalize lenC s6 65536 = l6 at *
              obtain ⟨rw', s7⟩ := l6
              simp only [] at hS4 L6 hrw
              have G1 := fun w hc => statGet_prog (g := g) (s := s7) x.typ.toInt w hc
              generalize getS x.typ.toInt s7 = l7 at *
              obtain ⟨st, s8⟩ := l7
              simp only [] at hS4 G1
              replace hS4 := Lib.hid hS4
              replace L5 := Lib.hid L5
              replace L6 := Lib.hid L6
              replace G1 := Lib.hid G1
              have hsi : (Int64.ofInt (sz : Int)).toInt = sz := toI (by unfold isI64; omega)
              have hrwi : (Int64.ofInt (rw' : Int)).toInt = rw' := toI (by unfold isI64; omega)
              replace hsi := Lib.hid hsi
              replace hrwi := Lib.hid hrwi
              have m1' : (m : Int) < (n3 : Int) := by omega
              go_wp2_with fail
              refine L5.out.mono ?_
              rintro e wa ⟨rfl, hka, hca⟩
              go_wp2_with fail
              refine (L6.out wa hca).mono ?_
              rintro e wb ⟨rfl, hkb, hcb⟩
              have hkc : Keep [] wb (wb.alloc (.cells #[.int .i64 sz, .int .i64 rw', .int .i64 0, .bool false, .bool false, .int .i64 0, .string { data := #[] }, .int .i64 0, .int .i64 0, .bool false, .int .i64 0, .string { data := #[] }, .int .i64 0, .int .i64 0] 54)) := (Keep.refl _ _).alloc _
              have hbp : Blk (wb.alloc (.cells #[.int .i64 sz, .int .i64 rw', .int .i64 0, .bool false, .bool false, .int .i64 0, .string { data := #[] }, .int .i64 0, .int .i64 0, .bool false, .int .i64 0, .string { data := #[] }, .int .i64 0, .int .i64 0] 54)) wb.heap.size 54 [.int .i64 sz, .int .i64 rw', .int .i64 0, .bool false, .bool false, .int .i64 0, .string { data := #[] }, .int .i64 0, .int .i64 0, .bool false, .int .i64 0, .string { data := #[] }, .int .i64 0, .int .i64 0] := Blk.new wb 54 _
              have hkab := hka.trans hkb
              have hkmc : Keep [g] w9 (wb.alloc (.cells #[.int .i64 sz, .int .i64 rw', .int .i64 0, .bool false, .bool false, .int .i64 0, .string { data := #[] }, .int .i64 0, .int .i64 0, .bool false, .int .i64 0, .string { data := #[] }, .int .i64 0, .int .i64 0] 54)) := hkm.trans (hkab.trans hkc.nil)
              have hbxc := hbx9.keep hkmc hxbn
              obtain ⟨y0, y1, y2⟩ := colAt hbxc
              have hpb9 : w9.heap.size ≤ wb.heap.size := (hkm.trans hkab).size
              have hpbn : wb.heap.size ∉ [g] := by simp; omega
              have hOb := own_keep hO3 hkab (by simp; omega)
              have hOc3 := own_keep hOb hkc (by simp)
              have hpO : (Value.slice A3 m d3).ownBlock ≠ some wb.heap.size := fun e => by have := (hOb.lt _ e).2; omega
              clear L5 L6 hO3 hc hOb
              go_wp2_with fail
              refine (G1.out _ (hcb.pure hkc)).mono ?_
              rintro e wd ⟨rfl, hkd, hcd⟩
              have hbpd := hbp.keep hkd hpbn
              have hOd := own_keep hOc3 hkd (by simp; omega)
              have hk9d := hkmc.trans hkd
              clear G1 hbp hOc3 y0 y1 y2 hbxc hkc hkmc
              generalize wb.heap.size = pb at *
              replace hbpd := Lib.hid hbpd
              go_wp2_with (refine wpList_store_blk (ty := 52) (n := 12) rfl rfl (hsS.out _) (v := stVal st) hbpd.out rfl rfl rfl (by simp) (by simp [Value.cells, Value.oneCell']) ?_)
              intro we hbe hke
              have hbe2 : Blk we pb 54 (Pg.cs ⟨Int64.ofInt (sz : Int), Int64.ofInt (rw' : Int), st⟩) := by
                simp only [Pg.cs, vI, hsi.out, hrwi.out]
                simpa [Value.cells] using hbe
              have hOe : we.ownsRow w9.heap.size 54 14 (.slice A3 m d3) m (q.flatMap Pg.cs) := by
                refine ⟨hOd.1, ?_⟩
                rcases hOd.2 with h2 | ⟨g', cap', cur', hv', hg', hh', r'⟩
                · exact .inl h2
                · exact .inr ⟨g', cap', cur', hv', hg', (hke.block g' (Array.getElem?_eq_some_iff.1 hh').1 (by
                    simp only [List.mem_singleton]
                    rintro rfl
                    exact hpO (by rw [hv']; rfl))).trans hh', r'⟩
              have hce := hcd.keep hke (by simp; omega)
              have hk9e : Keep [g] w9 we := hk9d.after hke (by simp; omega)
              have hsz9 := hk9e.size
              obtain ⟨⟨u0, u1⟩, ⟨u2, u3⟩, ⟨u4, u5, u6, u7, u8⟩, ⟨u9, u10, u11, u12, u13⟩⟩ := pgAt hbe2
              simp only [hsi.out, hrwi.out] at u0 u1
              have hck : Rd [] (we.alloc (.cells #[.int .i64 sz, .int .i64 rw', .int .i64 st.nulls.toInt, .bool st.has, .bool st.min.null, .int .i64 st.min.int.toInt, .string st.min.text, .int .i64 st.min.x.toInt, .int .i64 st.min.y.toInt, .bool st.max.null, .int .i64 st.max.int.toInt, .string st.max.text, .int .i64 st.max.x.toInt, .int .i64 st.max.y.toInt] 54)) 14 (some ⟨we.heap.size, 0, none⟩) 1 1 (([⟨Int64.ofInt (sz : Int), Int64.ofInt (rw' : Int), st⟩] : List Pg).flatMap Pg.cs) := by
                refine (Blk.new we 54 [.int .i64 sz, .int .i64 rw', .int .i64 st.nulls.toInt, .bool st.has, .bool st.min.null, .int .i64 st.min.int.toInt, .string st.min.text, .int .i64 st.min.x.toInt, .int .i64 st.min.y.toInt, .bool st.max.null, .int .i64 st.max.int.toInt, .string st.max.text, .int .i64 st.max.x.toInt, .int .i64 st.max.y.toInt]).rd (by simp) ?_ (by omega) (by simp [maxLen]) ?_
                · simp [Pg.cs]
                · simp [Pg.cs, vI, hsi.out, hrwi.out]
              clear hbpd hbe hOd
              go_wp2_with (at_builtin; refine wpList_append_rd rfl _ _ 41 rfl w9.heap.size 54 ip (pgVal ⟨0, 0, St.zero⟩) 14 128 Try.underlying41 hip hpz0 hpz1 hpz2 rfl (by omega) (.slice A3 m d3) m _ rfl (hOe.alloc _) rfl hck (flat_one Pg.one [⟨Int64.ofInt (sz : Int), Int64.ofInt (rw' : Int), st⟩]) (by unfold maxLen; omega) (by omega) (by simp; omega) ?_)
              intro v' wf hown' hgr
              have hkf : Keep [g] w9 wf := (hk9e.alloc _).grown hgr (fun x hx => .inr (own_ge hOe x hx))
              have hcf : Cur 88 wf g s8 := (hce.pure ((Keep.refl [] we).alloc (.cells #[.int .i64 sz, .int .i64 rw', .int .i64 st.nulls.toInt, .bool st.has, .bool st.min.null, .int .i64 st.min.int.toInt, .string st.min.text, .int .i64 st.min.x.toInt, .int .i64 st.min.y.toInt, .bool st.max.null, .int .i64 st.max.int.toInt, .string st.max.text, .int .i64 st.max.x.toInt, .int .i64 st.max.y.toInt] 54))).grown (hOe.alloc _) hg9 hgr
              have Bd := Lib.hid (bad_prog wf hcf)
              clear hck hgr hOe u0 u1 u2 u3 u4 u5 u6 u7 u8 u9 u10 u11 u12 u13
              go_wp2_with fail
              refine Bd.out.mono ?_
              rintro e wg ⟨rfl, hwg⟩
              subst hwg
              cases s8 with
              | none =>
                simp only [Option.isNone_none]
                have hVn : V = none := hS4.out
                have hRw := hRb.keep (hk16.trans (hk69.trans hkf)) hgR
                have hkWw : Keep [] W wf := hkW1.after (hk16.trans (hk69.trans hkf)) (by simp; omega)
                obtain ⟨r0, r1, r2⟩ := at3 hRw
                have f0 := hRw.frozen 0
                have f1 := hRw.frozen 1
                have f2 := hRw.frozen 2
                have En := Lib.hid (end_prog wf hcf)
                go_wp2_with fail
                refine En.out.mono ?_
                rintro e wz ⟨rfl, hwz⟩
                subst hwz
                simp only [reduceCtorEq, decide_false]
                obtain ⟨z1, z2⟩ := hzero.out _ hRw hkWw
                go_wp2
                try rw [Exit.noGoto_ret]
                exact bodyPost_ret (ret_ftr (d := .bool false) rfl rfl rfl z1) rfl (hnone.out _ hVn z2)
              | some b8 =>
                simp only [Option.isNone_some]
                go_wp2
                go_roundw
                case rel => exact ⟨m + 1, _, some b8, by omega, by go_num, by simp [hql], by rw [List.flatMap_append]; exact hown', hcf, hS4.out, hkf⟩
                case measure => simp [intOf]; omega
            · obtain rfl : m = n3 := by omega
              have hS5 : Sts V (fun b => T2 (aheadG (ls ++ [q]) (chsO (cs.drop (j + 1)) b))) s := hS.out.same (fun b => by rw [Nat.sub_self, aheadG_zero, hT31.out])
              replace hS5 := Lib.hid hS5
              have hkjm : Keep [g] w6 wr := hk69.trans hkm
              have hkrm := hk89.trans hkm
              have hbgm := hbg.keep hkrm hgbn
              have hO2m := own_keep hO2 hkrm (by simp; omega)
              have hC2m := (hC2.keep hkrm (by simp; omega)).snoc (v := .slice A3 m d3) (l := q) (by rw [hql]; exact own_lower hO3 (by have := hk69.size; have := hgb2.out; omega))
              obtain ⟨z0, z1⟩ := at2 hbgm
              have hszm := hkjm.size
              have hgbs : w6.heap.size = gb := hgb2.out
              have hck : Rd [] (wr.alloc (.cells #[.slice A3 m d3] 41)) 1 (some ⟨wr.heap.size, 0, none⟩) 1 1 [.slice A3 m d3] := (Blk.new wr 41 [.slice A3 m d3]).rd (by simp) rfl (by omega) (by simp [maxLen]) rfl
              clear hS hgbs
              go_wp2_with (at_builtin; refine wpList_append_rd rfl _ _ 42 rfl gb 41 ic (.slice none 0 0) 1 24 Try.underlying42 hic hcz0 hcz1 hcz2 rfl (by omega) (.slice A2 j d2) j _ rfl (hO2m.alloc _) rfl hck (by simp [Value.oneCell']) (by unfold maxLen; omega) (by omega) (by have := hgb2.out; simp; omega) ?_)
              intro v' wf hown' hgr
              obtain ⟨A4, d4, rfl⟩ := own_form hown'
              have hka := (Keep.refl [] wr).alloc (.cells #[.slice A3 m d3] 41)
              have hkg := keep_of_grown hgr
              have hoO := odd_own (hO2m.alloc (.cells #[.slice A3 m d3] 41)) (t' := 41) (t := 54) (by decide)
              have hbgf : Blk wf gb 44 [.int .i64 rg, .slice A2 j d2] := (hgr.block gb (by have := hbgm.lt; simp; omega) (fun e => own_blk hO2m hbgm (by decide) e.symm)).trans (hbgm.keep hka (by simp))
              have hC2f := (hC2m.keep hka (by simp)).far hkg hoO
              have hcf : Cur 88 wf g s := (hc.pure hka).grown (hO2m.alloc _) hgg hgr
              have hkf : Keep [g] w6 wf := (hkjm.alloc _).grown hgr (fun x hx => .inr (by have := own_ge hO2m x hx; have := hgb2.out; omega))
              obtain ⟨z2, z3⟩ := at2 hbgf
              have fz := hbgf.frozen 1
              have hks : Keep [gb] wf (wf.setCell ⟨gb, 1, none⟩ (.slice A4 (j + 1) d4)) := (Keep.refl _ _).setCell (p := ⟨gb, 1, none⟩) (.inl (by simp)) _
              have hbgs : Blk (wf.setCell ⟨gb, 1, none⟩ (.slice A4 (j + 1) d4)) gb 44 [.int .i64 rg, .slice A4 (j + 1) d4] := hbgf.set_ 1 _
              have hOs := own_far hown' hks (odd_blk hbgf (by decide))
              have hCs := hC2f.far hks (odd_blk hbgf (by decide))
              have hcs := hcf.keep hks (by simp; omega)
              have hkfs : Keep [g] w6 (wf.setCell ⟨gb, 1, none⟩ (.slice A4 (j + 1) d4)) := hkf.after hks (by have := hgb2.out; simp; omega)
              clear hck hgr z0 z1 hka hkg hoO
              go_wp2
              go_roundw
              case rel => exact ⟨j + 1, ls ++ [q], _, A4, d4, s, by omega, by go_num, by simp [hll], hbgs, hOs, hCs, hcs, hS5.out, hkfs⟩
              case measure => simp [intOf]; omega
        · obtain rfl : j = cs.length := by omega
          have hS5 : Sts V (fun b => endO cs rows (aheadG (gs ++ [⟨Int64.ofInt (rg : Int), ls⟩]) (grsO cs (n0 - (k + 1)) b))) s := hS.out.same (fun b => by
            rw [List.drop_length, chsO]
            simp only [aheadG, List.append_nil]
            exact hT21.out ls b)
          replace hS5 := Lib.hid hS5
          have hrgi : (Int64.ofInt (rg : Int)).toInt = rg := toI (by unfold isI64; omega)
          replace hrgi := Lib.hid hrgi
          obtain ⟨hf0, Ag, dg, vs, hbf, hOg, hGo, hOc⟩ := hLj
          simp only [] at hbf hOg hGo hOc
          obtain ⟨x0, x1, x2⟩ := at3 hbf
          obtain ⟨z0, z1⟩ := at2 hbg
          have hszj := hk1j.size
          have hck : Rd [] (wr.alloc (.cells #[.int .i64 rg, .slice A2 cs.length d2] 44)) 2 (some ⟨wr.heap.size, 0, none⟩) 1 1 [.int .i64 rg, .slice A2 cs.length d2] := (Blk.new wr 44 [.int .i64 rg, .slice A2 cs.length d2]).rd (by simp) rfl (by omega) (by simp [maxLen]) rfl
          clear hS
          go_wp2_with (at_builtin; refine wpList_append_rd rfl _ _ 23 rfl w1.heap.size 44 ig (.agg #[.int .i64 0, .slice none 0 0]) 2 32 Try.underlying23 hig hgz0 hgz1 hgz2 rfl (by omega) (.slice Ag gs.length dg) gs.length _ rfl (hOg.alloc _) rfl hck (by simp [Value.oneCell']) (by unfold maxLen; omega) (by omega) (by simp; omega) ?_)
          intro v' wf hown' hgr
          obtain ⟨A4, d4, rfl⟩ := own_form hown'
          have hka := (Keep.refl [] wr).alloc (.cells #[.int .i64 rg, .slice A2 cs.length d2] 44)
          have hkg := keep_of_grown hgr
          have hOga := hOg.alloc (.cells #[.int .i64 rg, .slice A2 cs.length d2] 44)
          have hbff : Blk wf fb 25 [.slice B cs.length d, .int .i64 rows.toInt, .slice Ag gs.length dg] := (hgr.block fb (by have := hbf.lt; simp; omega) (fun e => own_blk hOg hbf (by decide) e.symm)).trans (hbf.keep hka (by simp))
          have hg64 : w1.heap.size ≤ gb := hw6s
          have hO2a := own_lower (own_keep hO2 hka (by simp)) hg64
          have hC2a := (hC2.keep hka (by simp)).lower hg64
          have hG1 : GrsO (wr.alloc (.cells #[.int .i64 rg, .slice A2 cs.length d2] 44)) w1.heap.size (vs ++ [.slice A2 cs.length d2]) (gs ++ [⟨Int64.ofInt (rg : Int), ls⟩]) := (hGo.keep hka (by simp)).snoc (v := .slice A2 cs.length d2) (g := ⟨Int64.ofInt (rg : Int), ls⟩) (es := es) (by simp only [hll]; exact hO2a) hC2a
          have hGf := hG1.far hkg (odd_own hOga (by decide)) (odd_own hOga (by decide))
          have hOcf := own_far (own_keep hOc hka (by simp)) hkg (odd_own hOga (by decide))
          have hcf : Cur 88 wf g s := (hc.pure hka).grown hOga (by omega) hgr
          have hkf : Keep [g] w1 wf := (hk1j.alloc _).grown hgr (fun x hx => .inr (own_ge hOg x hx))
          obtain ⟨x3, x4, x5⟩ := at3 hbff
          have fz := hbff.frozen 2
          have hks : Keep [fb] wf (wf.setCell ⟨fb, 2, none⟩ (.slice A4 (gs.length + 1) d4)) := (Keep.refl _ _).setCell (p := ⟨fb, 2, none⟩) (.inl (by simp)) _
          have hbfs : Blk (wf.setCell ⟨fb, 2, none⟩ (.slice A4 (gs.length + 1) d4)) fb 25 [.slice B cs.length d, .int .i64 rows.toInt, .slice A4 (gs.length + 1) d4] := hbff.set_ 2 _
          have hown2 := own_far hown' hks (odd_blk hbff (by decide))
          have hGs := hGf.far hks (odd_blk hbff (by decide)) (odd_blk hbff (by decide))
          have hOcs := own_far hOcf hks (odd_blk hbff (by decide))
          have hcs := hcf.keep hks (by simp; omega)
          have hkfs : Keep [g] w1 (wf.setCell ⟨fb, 2, none⟩ (.slice A4 (gs.length + 1) d4)) := hkf.after hks (by simp; omega)
          have hvl := hGo.1
          have hLs : Lv1 w1.heap.size fb B d ⟨cs, rows, gs ++ [⟨Int64.ofInt (rg : Int), ls⟩]⟩ (wf.setCell ⟨fb, 2, none⟩ (.slice A4 (gs.length + 1) d4)) := by
            refine ⟨hf0, A4, d4, vs ++ [.slice A2 cs.length d2], ?_, ?_, hGs, hOcs⟩
            · simp only [List.length_append, List.length_cons, List.length_nil]; exact hbfs
            · simp only [List.length_append, List.length_cons, List.length_nil]
              rw [List.zip_append hvl.symm, List.flatMap_append]
              simp only [List.zip_cons_cons, List.zip_nil_right, List.flatMap_cons, List.flatMap_nil, List.append_nil, grC, vI, hrgi.out]
              exact hown2
          have Bd := Lib.hid (bad_prog _ hcs)
          clear hck hgr x0 x1 x2 hka hkg hOga hks hbfs hown2 hGs hOcs hGf hOcf hG1 hO2a hC2a hown' z0 z1
          go_wp2_with fail
          refine Bd.out.mono ?_
          rintro e wg ⟨rfl, hwg⟩
          subst hwg
          generalize wf.setCell ⟨fb, 2, none⟩ (.slice A4 (gs.length + 1) d4) = wh at *
          cases s with
          | none =>
            simp only [Option.isNone_none]
            have hVn : V = none := hS5.out
            have hRw := hRb.keep hkfs hgR
            have hkWw : Keep [] W wh := hkW1.after hkfs (by simp; omega)
            obtain ⟨r0, r1, r2⟩ := at3 hRw
            have f0 := hRw.frozen 0
            have f1 := hRw.frozen 1
            have f2 := hRw.frozen 2
            have En := Lib.hid (end_prog wh hcs)
            go_wp2_with fail
            refine En.out.mono ?_
            rintro e wz ⟨rfl, hwz⟩
            subst hwz
            simp only [reduceCtorEq, decide_false]
            obtain ⟨z1, z2⟩ := hzero.out _ hRw hkWw
            go_wp2
            try rw [Exit.noGoto_ret]
            exact bodyPost_ret (ret_ftr (d := .bool false) rfl rfl rfl z1) rfl (hnone.out _ hVn z2)
          | some b8 =>
            simp only [Option.isNone_some]
            go_wp2
            go_roundw
            case rel => exact ⟨k + 1, _, some b8, by omega, by go_num, by simp [hgl.out], hLs, hcs, hS5.out, hkfs⟩
            case measure => simp [intOf]; omega
    · obtain rfl : k = n0 := by omega
      have hD := hS.out
      rw [Nat.sub_self] at hD
      have hV2 := Lib.hid hD.done
      have hRw := hRb.keep hkr hgR
      have hkWw : Keep [] W wr := hkW1.after hkr (by simp; omega)
      obtain ⟨r0, r1, r2⟩ := at3 hRw
      have f0 := hRw.frozen 0
      have f1 := hRw.frozen 1
      have f2 := hRw.frozen 2
      have En := end_prog wr hc
      obtain ⟨be, hbe⟩ : ∃ be, Hid (decide (s = some []) = be) := ⟨_, rfl⟩
      rw [hbe.out] at En
      replace En := Lib.hid En
      clear hst hD
      cases be with
      | true =>
        have hse := Lib.hid (of_decide_eq_true hbe.out)
        obtain ⟨Ag, dg, hbf, hFt⟩ := hL.rd (Y := []) (by simp) hnm.out
        simp only [] at hbf hFt
        replace hFt := Lib.hid hFt
        obtain ⟨x0, x1, x2⟩ := at3 hbf
        have RC := right_prog wr (hFt.out [] (by simp))
        obtain ⟨bR, hR⟩ : ∃ bR, rightF ⟨cs, rows, gs⟩ = bR := ⟨_, rfl⟩
        cases bR with
        | false =>
          rw [hR] at RC
          replace RC := Lib.hid RC
          have hVn : Hid (V = none) := by rw [Hid, hV2.out, if_neg (by rw [hR]; simp)]
          clear hR
          obtain ⟨z1, z2⟩ := hzero.out _ hRw hkWw
          go_wp2_with fail
          refine En.out.mono ?_
          rintro e wz ⟨rfl, hwz⟩
          subst hwz
          go_wp2_with fail
          refine RC.out.mono ?_
          rintro e wz ⟨rfl, hkz⟩
          have hRz := hRw.keep hkz (by simp)
          obtain ⟨r0, r1, r2⟩ := at3 hRz
          have f0 := hRz.frozen 0
          have f1 := hRz.frozen 1
          have f2 := hRz.frozen 2
          obtain ⟨z1, z2⟩ := hzero.out _ hRz (hkWw.trans hkz)
          go_wp2
          try rw [Exit.noGoto_ret]
          exact bodyPost_ret (ret_ftr (d := .bool false) rfl rfl rfl z1) rfl (hnone.out _ hVn.out z2)
        | true =>
          rw [hR] at RC
          replace RC := Lib.hid RC
          have hVs : Hid (V = some ⟨cs, rows, gs⟩) := by rw [Hid, hV2.out, if_pos ⟨hse.out, hR⟩]
          clear hR
          go_wp2_with fail
          refine En.out.mono ?_
          rintro e wz ⟨rfl, hwz⟩
          subst hwz
          go_wp2_with fail
          refine RC.out.mono ?_
          rintro e wz ⟨rfl, hkz⟩
          have hRz := hRw.keep hkz (by simp)
          have hLz := hL.keep hkz (by simp)
          obtain ⟨r0, r1, r2⟩ := at3 hRz
          have f0 := hRz.frozen 0
          have f1 := hRz.frozen 1
          have f2 := hRz.frozen 2
          obtain ⟨x0, x1, x2⟩ := at3 (hbf.keep hkz (by simp))
          have hkWz := hkWw.trans hkz
          have hwo : ∀ w', w' = (((wz.setCell ⟨W.heap.size, 0, none⟩ (.slice B cs.length d)).setCell ⟨W.heap.size, 1, none⟩ (.int .i64 rows.toInt)).setCell ⟨W.heap.size, 2, none⟩ (.slice Ag gs.length dg)) → Blk w' W.heap.size 25 [.slice B cs.length d, .int .i64 rows.toInt, .slice Ag gs.length dg] ∧ Keep [W.heap.size] wz w' := fun w' he => by
            subst he
            exact ⟨((hRz.set_ 0 _).set_ 1 _).set_ 2 _, (((Keep.refl _ _).setCell (p := ⟨W.heap.size, 0, none⟩) (.inl (by simp)) _).setCell (p := ⟨W.heap.size, 1, none⟩) (.inl (by simp)) _).setCell (p := ⟨W.heap.size, 2, none⟩) (.inl (by simp)) _⟩
          obtain ⟨z1, z2⟩ := hwo _ rfl
          clear hwo
          have hbz := hbf.keep hkz (by simp)
          go_wp2
          try rw [Exit.noGoto_ret]
          refine bodyPost_ret (ret_ftr (d := .bool true) rfl rfl rfl z1) rfl ?_
          have hw1s : W.heap.size < w1.heap.size := hRb.lt
          obtain ⟨Ag2, dg2, hb2, hFt2⟩ := (hLz.keep z2 (by simp; omega)).rd (Y := []) (by simp) hnm.out
          simp only [] at hb2 hFt2
          have hsame : (.slice Ag2 gs.length dg2 : Value) = .slice Ag gs.length dg := by
            have e1 := (hbz.keep z2 (by have := hL.1; simp; omega)).cell 2
            have e2 := hb2.cell 2
            rw [e1] at e2
            simpa using e2.symm
          rw [hsame] at hFt2
          rw [hVs.out]
          exact ⟨_, rfl, hkWz.after z2 (by simp), fun Y hY => hFt2 Y (fun b hb => by have := hY b hb; omega)⟩
      | false =>
        have hVn : Hid (V = none) := by rw [Hid, hV2.out, if_neg (fun h => of_decide_eq_false hbe.out h.1)]
        obtain ⟨z1, z2⟩ := hzero.out _ hRw hkWw
        go_wp2_with fail
        refine En.out.mono ?_
        rintro e wz ⟨rfl, hwz⟩
        subst hwz
        go_wp2
        try rw [Exit.noGoto_ret]
        exact bodyPost_ret (ret_ftr (d := .bool false) rfl rfl rfl z1) rfl (hnone.out _ hVn.out z2)
end Go.Proofs.Ytcpimhefclfbaaa
