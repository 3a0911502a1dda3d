/-
  Laws for whole structs and arrays in memory: loads, stores, clear.
-/
import Derived.Test.YtcpimhefclfbaaaGreatDoorBase
namespace Go.Proofs.YtcpimhefclfbaaaGreatDoor
open Go Go.RowKit
set_option linter.unusedSimpArgs false

section
variable {P : Program} {ops : Array Oper} {rest : List Oper} {o : Oper} {a : Act} {w : World} {Q : Exit → Act → World → Prop}

theorem addr_add (g off j : Nat) : (⟨g, off, none⟩ : Addr).add j = ⟨g, off + j, none⟩ := by unfold Addr.add; split <;> simp_all

theorem blk_setRow {g : Nat} {t : TypeId} {cs ds : List Value} (h : Blk w g t cs) : Blk (w.setRow g ds.toArray) g t ds := setRow_heap w g cs.toArray ds.toArray t (0, 0) h
theorem keep_setRow (w : World) (g : Nat) (cs : Array Value) : Keep [g] w (w.setRow g cs) :=
  ⟨rfl, rfl, rfl, by simp, fun k _ hn => setRow_other w g k cs (by simpa using hn)⟩

/-- A struct or an array is loaded, wherever it lies. -/
theorem wpList_load_agg (hgd : o.guard = none) {ty : TypeId} {x : Operand} (ho : o.op = .load ty x) {n : Nat} (hagg : (isAgg ty).run P w = .ok true w) (hsz : (Go.sizeOf ty).run P w = .ok n w)
    {b off : Nat} {vs : List Value} (hx : a.eval x = .pointer (some ⟨b, off, none⟩)) (hl : vs.length = n) (hc : ∀ j u, vs[j]? = some u → w.cell? ⟨b, off + j, none⟩ = some u)
    (h : wpList P ops Q rest (a.put o.dst (.agg vs.toArray)) w) : wpList P ops Q (o :: rest) a w := by
  refine wpList_plain hgd fun K hK => ?_
  have hload : (loadCells ⟨b, off, none⟩ vs.length).run P w = .ok vs.toArray w :=
    run_loadCells_list (P := P) w ⟨b, off, none⟩ vs (fun j u hu => by rw [addr_add]; exact hc j u hu)
  unfold Oper.wp execOp
  simp only [ho, hx, Instr.loadAt, Instr.sureAddr, loadVar, Sem.run_bind, Sem.run_pure, Result.andThen_ok, hagg, hsz, ← hl, hload, if_true]
  exact hK _ _ h

/-- A struct or an array is stored into a block of the call's own. -/
theorem wpList_store_blk (hgd : o.guard = none) {ty : TypeId} {x y : Operand} (ho : o.op = .store ty x y) {n : Nat} (hsz : (Go.sizeOf ty).run P w = .ok n w)
    {g off : Nat} {t : TypeId} {cs : List Value} {v : Value} (hb : Blk w g t cs) (hx : a.eval x = .pointer (some ⟨g, off, none⟩)) (hy : a.eval y = v) (hl : v.cells.size = n) (hfit : off + n ≤ cs.length) (h1 : ∀ u ∈ v.cells, u.oneCell' = true)
    (h : ∀ w', Blk w' g t (cs.take off ++ v.cells.toList ++ cs.drop (off + n)) → Keep [g] w w' → wpList P ops Q rest (a.put o.dst undef) w') : wpList P ops Q (o :: rest) a w := by
  refine wpList_plain hgd fun K hK => ?_
  have hst := run_storeCells_at P g off t v.cells.toList 0 cs.toArray w hb (by simpa [hl] using hfit) (by simpa using h1)
  simp only [Nat.add_zero, List.size_toArray, Array.length_toList, hl] at hst
  unfold Oper.wp execOp
  simp only [ho, hx, hy, Instr.storeAt, Instr.sureAddr, storeVar, Sem.run_bind, Sem.run_pure, Result.andThen_ok, hsz, hl, ne_eq, not_true, if_false, hst]
  exact hK _ _ (h _ (blk_setRow hb) (keep_setRow w g _))

/-- 'clear(s)': what stood ahead of s stays. -/
theorem wpList_clear_blk (hgd : o.guard = none) {s : Operand} {t e : TypeId} (ho : o.op = .call { callee := .builtin .clear, args := #[s], argTypes := #[t] }) {z : Value} {size : Nat} (ht : P.underlying t = some (.slice e))
    (hz : (zeroValue e).run P w = .ok z w) (hzs : z.cells.size = size) (hz1 : ∀ u ∈ z.cells, u.oneCell' = true) {A : Option Addr} {m c g k : Nat} {cs : List Value} (hx : a.eval s = .slice A m c) (hb : Blk w g e cs)
    (hA : 0 < m → A = some ⟨g, k, none⟩) (hfit : k + m * size ≤ cs.length)
    (h : ∀ w' ds, Blk w' g e ds → ds.take k = cs.take k → ds.length = cs.length → Keep [g] w w' → wpList P ops Q rest (a.put o.dst (.tuple #[])) w') : wpList P ops Q (o :: rest) a w := by
  refine wpList_plain hgd fun K hK => ?_
  rcases Nat.eq_zero_or_pos m with hm | hm
  · subst hm
    unfold Oper.wp execOp
    cases A with
    | none =>
      simp only [ho, resolve, invoke, builtin, Sem.run_bind, Sem.run_pure, Result.andThen_ok, List.map_toArray, List.map_cons, List.map_nil, hx, Builtin.clear_]
      simp [run_underlying ht]
      exact hK _ _ (h w cs hb rfl rfl (Keep.refl _ _))
    | some ad =>
      simp only [ho, resolve, invoke, builtin, Sem.run_bind, Sem.run_pure, Result.andThen_ok, List.map_toArray, List.map_cons, List.map_nil, hx, Builtin.clear_]
      simp [run_underlying ht]
      exact hK _ _ (h w cs hb rfl rfl (Keep.refl _ _))
  · obtain rfl := hA hm
    have hlen : (Builtin.zeroCells z.cells m).toList.length = m * size := by simp [size_zeroCells, hzs]
    have hst := run_storeCells_at P g k e (Builtin.zeroCells z.cells m).toList 0 cs.toArray w hb (by rw [Nat.add_zero, hlen]; simpa using hfit) (by
      intro u hu
      simp only [Builtin.zeroCells, Array.toList_map, List.mem_map] at hu
      obtain ⟨i, hi, rfl⟩ := hu
      have hi' : i < m * z.cells.size := by simpa using hi
      have hpos : 0 < z.cells.size := by
        rcases Nat.eq_zero_or_pos z.cells.size with h0 | h0
        · rw [h0] at hi'; simp at hi'
        · exact h0
      rw [getElem!_pos z.cells (i % z.cells.size) (Nat.mod_lt _ hpos)]
      exact hz1 _ (Array.getElem_mem _))
    simp only [Nat.add_zero] at hst
    obtain ⟨m', rfl⟩ : ∃ m', m = m' + 1 := ⟨m - 1, by omega⟩
    unfold Oper.wp execOp
    simp only [ho, resolve, invoke, builtin, Sem.run_bind, Sem.run_pure, Result.andThen_ok, List.map_toArray, List.map_cons, List.map_nil, hx, Builtin.clear_]
    simp [run_underlying ht, hz, hst]
    refine hK _ _ (h _ _ (blk_setRow hb) ?_ ?_ (keep_setRow w g _))
    · simp [List.take_append, Nat.min_eq_left (show k ≤ cs.length by omega)]
    · simp [hlen]
      have : (Builtin.zeroCells z.cells (m' + 1)).size = (m' + 1) * size := by simp [size_zeroCells, hzs]
      omega
end
end Go.Proofs.YtcpimhefclfbaaaGreatDoor
