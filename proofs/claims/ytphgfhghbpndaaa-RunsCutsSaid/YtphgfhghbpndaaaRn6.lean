/-
  What abides a loop over a sequence: blocks and rows of cells.
-/
import Derived.Test.YtphgfhghbpndaaaRn5
namespace Go.Proofs.Ytphgfhghbpndaaa
open Go Go.RowKit Go.Shelf
set_option linter.unusedVariables false
set_option linter.unusedSimpArgs false

theorem blk_abides {W W' : World} {row : Option Nat} {g : Nat} {t : TypeId} {cs : List Value} (h : Blk W g t cs) (hg : W.grownBy W' row) (hr : ∀ r, row = some r → ∃ o : Obj, W.heap[r]? = some o ∧ o.isCells = false) : Blk W' g t cs := by
  refine (hg.block g h.lt (fun e => ?_)).trans h
  obtain ⟨o, ho, hc⟩ := hr g e.symm
  unfold Blk at h
  rw [h] at ho
  injection ho with ho
  subst ho
  simp [Obj.isCells] at hc
theorem own_abides {W W' : World} {row : Option Nat} {base size n : Nat} {e : TypeId} {v : Value} {xs : List Value} (h : W.ownsRow base e size v n xs) (hg : W.grownBy W' row) (hr : ∀ r, row = some r → ∃ o : Obj, W.heap[r]? = some o ∧ o.isCells = false) : W'.ownsRow base e size v n xs := by
  refine ⟨h.1, ?_⟩
  rcases h.2 with h2 | ⟨g, cap, cur, hv, hb, hh, r⟩
  · exact .inl h2
  · refine .inr ⟨g, cap, cur, hv, hb, (hg.block g (Array.getElem?_eq_some_iff.1 hh).1 (fun e => ?_)).trans hh, r⟩
    obtain ⟨o, ho, hc⟩ := hr g e.symm
    rw [hh] at ho
    injection ho with ho
    subst ho
    simp [Obj.isCells] at hc
theorem KpB.t {n₀ Bs : Nat} {A B C : World} (h : KpB n₀ Bs A B) (k : KpB n₀ Bs B C) : KpB n₀ Bs A C := h.trans k
theorem KpB.b {n₀ Bs : Nat} {w : World} (hn : n₀ ≤ w.heap.size) (hB : Bs < w.heap.size) (W : World) (l : Nat) (o o' : Obj) (hl : w.heap.size ≤ l) (h : W.heap[l]? = some o) (h1 : o.isCells = false) (h2 : o.isWalk = false) : KpB n₀ Bs W (W.putObj l o') :=
  ⟨belowK_b hn W l o o' hl h h1 h2, World.putObj_heap_other (by omega)⟩
theorem KpB.keep {n₀ Bs : Nat} {W W' : World} {M : List Nat} (h : Keep M W W') (hM : ∀ b ∈ M, n₀ ≤ b ∧ b ≠ Bs) (hn : n₀ ≤ W.heap.size) (hB : Bs < W.heap.size) : KpB n₀ Bs W W' :=
  ⟨⟨h.os, h.tape, h.output, h.size, fun k hk => h.block k (by omega) (fun hm => by have := (hM k hm).1; omega)⟩, h.block Bs hB (fun hm => (hM Bs hm).2 rfl)⟩

theorem own_cells {w : World} {base size n : Nat} {e : TypeId} {v : Value} {xs : List Value} (h : w.ownsRow base e size v n xs) : ∀ k ∈ v.ownBlock.toList, base ≤ k ∧ ∃ o : Obj, w.heap[k]? = some o ∧ o.isCells = true := by
  rcases h.2 with ⟨rfl, _⟩ | ⟨g, cap, cur, rfl, hb, hg, _⟩
  · intro k hk; simp [Value.ownBlock] at hk
  · intro k hk
    obtain rfl : k = g := by simpa [Value.ownBlock] using hk
    exact ⟨hb, _, hg, rfl⟩
theorem Blk.cells {w : World} {g : Nat} {t : TypeId} {cs : List Value} (h : Blk w g t cs) : ∃ o : Obj, w.heap[g]? = some o ∧ o.isCells = true := ⟨_, h, rfl⟩
theorem keepsFrom_of_keep {M : List Nat} {B : Nat} {W W' : World} (h : Keep M W W') (hM : ∀ b ∈ M, b < B ∨ ∃ o : Obj, W.heap[b]? = some o ∧ o.isCells = true) : KeepsFrom B W W' :=
  ⟨h.size, fun k o hB hk ho => by
    refine (h.block k (Array.getElem?_eq_some_iff.1 hk).1 (fun hm => ?_)).trans hk
    rcases hM k hm with h1 | ⟨o', h1, h2⟩
    · omega
    · rw [hk] at h1
      injection h1 with h1
      subst h1
      rw [ho] at h2
      cases h2⟩
/-- 'append(v, x...)' within a fence: v the call's own, x whatever slice is read. -/
theorem wpListIn_append_rd {F : Fence} {n : Nat} {P : Program} {w : World} {ops : Array Oper} {rest : List Oper} {o : Oper} {a : Act} {Q : Exit → Act → World → Prop} (hgd : o.guard = none) (s x : Operand) (t : TypeId)
    (ho : o.op = .call { callee := .builtin .append, args := #[s, x], argTypes := #[t, t] })
    (base : Nat) (e : TypeId) (i : TypeInfo) (z : Value) (size bytes : Nat) (ht : P.underlying t = some (.slice e)) (hi : P.info? e = some i) (hz : i.zero = some z)
    (hsize : i.size = size) (hby : i.bytes = bytes) (hzs : z.cells.size = size) (hsz : 0 < size)
    (v : Value) (k : Nat) (xs : List Value) (hs : a.eval s = v) (hown : w.ownsRow base e size v k xs)
    {X : List Nat} {A : Option Addr} {m c : Nat} {news : List Value} (hx : a.eval x = .slice A m c) (hr : Rd X w size A m c news) (h1 : ∀ u ∈ news, u.oneCell' = true)
    (h63 : k + m ≤ maxLen) (hbytes : (k + m) * bytes ≤ 140737488355328) (hbase : base ≤ w.heap.size)
    (h : ∀ v' w', w'.ownsRow base e size v' (k + m) (xs ++ news) → w.grownBy w' v.ownBlock → wpListIn F n P ops Q rest (a.put o.dst v') w') : wpListIn F n P ops Q (o :: rest) a w := by
  cases A with
  | none =>
    obtain ⟨rfl, rfl⟩ := hr.none_nil
    obtain rfl := hr.2.2.2.2 rfl
    have hrun := run_append_owned_none (P := P) (w := w) base t o.type e i size ht hi v k xs hown
    refine wpListIn_plain hgd fun K hK' => ?_
    unfold Oper.wpIn
    refine ⟨?_, ?_⟩
    · simp [Oper.about, ho, resolve, Target.leads, Sem.run_pure]
    · rw [Oper.semAt_plain F _ _ (by rw [ho]; intro c hc'; cases hc')]
      simp [execOp, ho, resolve, invoke, builtin, hs, hx, hrun, Result.andThen]
      exact hK' _ _ (h v w (by simpa using hown) ⟨rfl, rfl, rfl, Nat.le_refl _, fun _ _ _ => rfl⟩)
  | some ad =>
    refine wpListIn_append_own w hgd s x t ho base e i z size bytes ht hi hz hsize hby hzs hsz v k xs hs hown ad m c news hx hr.1 ?_ h1 h63 hbytes hbase (fun v' w' h2 h3 _ => h v' w' h2 h3)
    intro j u hu
    rcases Nat.eq_zero_or_pos m with h0 | h0
    · subst h0
      have : news = [] := List.eq_nil_of_length_eq_zero (by simpa using hr.1)
      subst this
      simp at hu
    · obtain ⟨b, off, e', _, _, hc⟩ := hr.2.2.2.1 h0
      cases e'
      have := hc j u hu
      unfold Addr.add
      split
      · rename_i h0; subst h0; exact this
      · exact this
end Go.Proofs.Ytphgfhghbpndaaa
