/-
  Layer 10's pieces, as a sequence.
-/
import Derived.Test.YtphgfhghbpndaaaRn4
namespace Go.Proofs.Ytphgfhghbpndaaa
open Go Go.RowKit Go.Shelf
set_option linter.unusedVariables false
set_option linter.unusedSimpArgs false

set_option maxHeartbeats 400000 in
theorem pieces_prog (A : Option Addr) (n c : Nat) (W : World) :
    Calls Try.prog 18 #[.slice A n c] W fun e W' => e = .returned (.func (.func 40) #[] #[.pointer (some ⟨W.heap.size, 0, none⟩)]) ∧ W' = W.alloc (.cells #[.slice A n c] 22) := by
  go_enter Try.func18, Try.ntmps18
  go_wp2
  go_ret
  exact ⟨rfl, rfl⟩

theorem pieces_stops (n : Nat) (hn : 3 ≤ n) (Bs n₀ b off c : Nat) (l : List UInt64) (w : World) (hb : b < n₀) (hBs : w.cell? ⟨Bs, 0, none⟩ = some (.slice (some ⟨b, off, none⟩) l.length c)) (hl : U64s [] w (some ⟨b, off, none⟩) l.length c l) (hBn : Bs < w.heap.size) (hn₀ : n₀ ≤ w.heap.size) :
    SeqStopsK Fence.wide n Try.prog 40 #[.pointer (some ⟨Bs, 0, none⟩)] (fun x : Spot l.length => x.val b off c) (KpB n₀ Bs) (fun xs => xs.map Spot.piece = cutP l) (fun _ => True) (l.length + 1) w := fun y J Jx W hW hJ hJx hY h0 =>
  pieces1_in n hn y Bs n₀ b off c l hb J Jx hY W ((hW.cell (p := ⟨Bs, 0, none⟩) hBn).trans hBs) (rd_block hl (by have := hW.size; omega) (hW.block b (by omega))) (by have := hW.size; omega) (by have := hW.size; omega) h0 hJ hJx

set_option maxRecDepth 100000 in
set_option maxHeartbeats 1000000 in
theorem pieces1_nil (A : Option Addr) (c n : Nat) (y Bs n₀ : Nat) (J : List (Spot ([] : List UInt64).length) → World → Prop) (W : World) (hBs : W.cell? ⟨Bs, 0, none⟩ = some (.slice A 0 c)) (h0 : J [] W) :
    CallsIn Fence.wide n Try.prog 40 #[.func (.yield y) #[] #[], .pointer (some ⟨Bs, 0, none⟩)] W fun e W' => (∃ v, e = .returned v) ∧ J [] W' := by
  refine callsIn_of_wp Try.func40 rfl trivial ?_ rfl
  simp only [Try.ntmps40, List.size_toArray, List.length_cons, List.length_nil, Nat.reduceAdd, Nat.reduceSub, Array.replicate_succ, Array.replicate_zero, List.push_toArray, List.append_toArray, List.nil_append, List.cons_append]
  gi_wp2
  gi_loopw [3, 4] (fun f a wr => f = .int .i64 0 ∧ a = .int .i64 0 ∧ wr = W) (fun _ _ _ => 0)
  case atStart => exact ⟨rfl, rfl, rfl⟩
  case round =>
    obtain ⟨rfl, rfl, rfl⟩ := hrel
    gi_wp2
    go_end0
    exact ⟨⟨_, rfl⟩, h0⟩
end Go.Proofs.Ytphgfhghbpndaaa
