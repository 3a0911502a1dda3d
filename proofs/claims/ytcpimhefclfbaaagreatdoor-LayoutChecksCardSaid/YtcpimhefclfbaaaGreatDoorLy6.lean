/-
  Which encodings fit a type: values.encodings, a map that the call makes.
-/
import Derived.Test.YtcpimhefclfbaaaGreatDoorLy4
import Derived.Maps.Own
import Derived.Maps.OwnSet
import Derived.Maps.OwnOps
import Derived.Maps.Views
namespace Go.Proofs.YtcpimhefclfbaaaGreatDoor
open Go Go.RowKit Go.Maps
set_option maxRecDepth 10000
set_option linter.unusedVariables false
set_option linter.unusedSimpArgs false

/-- A key laid in a literal of a map. -/
theorem wpList_insert_own {H : Type} {P : Program} (w : World) {ops : Array Oper} {rest : List Oper} {o : Oper} {a : Act} {Q : Exit → Act → World → Prop}
    (hg : o.guard = none) (m x v : Operand) (t : TypeId) (hop : o.op = Op.insert t m x v)
    (k e : TypeId) (K : Keyed P k) (ht : P.underlying t = some (.map k e)) (R : Value → Option (DataW H × List MemPlace)) (b n : Nat) (D : DataW H)
    (hm : a.eval m = .map (some b)) (hown : w.ownsMap P k R b n D) (hn : n < maxLen) (key val : Value) (kl : Lit) (hx : a.eval x = key) (hv : a.eval v = val) (hkey : keyOf P k key = some kl)
    (d : DataW H) (ps : List MemPlace) (hval : R val = some (d, ps))
    (hK : ∀ w', w'.ownsMap P k R b (n + 1) (D.put kl d) → w.grownBy w' (some b) → wpList P ops Q rest (a.put o.dst undef) w') :
    wpList P ops Q (o :: rest) a w := by
  refine wpList_plain hg fun K' hK' => ?_
  obtain ⟨w', hrun, r1, r2⟩ := hown.update K ht hn hkey hval
  unfold Oper.wp
  simp [execOp, hop, hm, hx, hv, hrun, Result.andThen]
  exact hK' _ _ (hK w' r1 r2)

/-- An encoding: two functions, or none. -/
def IsEnc (v : Value) : Prop := (∃ a b c d e f, v = .agg #[.func a b c, .func d e f]) ∨ v = .agg #[.nilFunc, .nilFunc]
noncomputable def encR (v : Value) : Option (DataW Value × List MemPlace) := @ite _ (IsEnc v) (Classical.propDecidable _) (some (.held v, [])) none
theorem encR_inv {v : Value} {y : DataW Value × List MemPlace} (h : encR v = some y) : IsEnc v := by
  unfold encR at h
  by_cases hv : IsEnc v
  · exact hv
  · rw [if_neg hv] at h; cases h
theorem encR_mk {v : Value} (h : IsEnc v) : encR v = some (.held v, []) := by
  unfold encR
  rw [if_pos h]
theorem encR_f (a : Fn) (b c : Array Value) (d : Fn) (e f : Array Value) : encR (.agg #[.func a b c, .func d e f]) = some (.held (.agg #[.func a b c, .func d e f]), []) := encR_mk (.inl ⟨_, _, _, _, _, _, rfl⟩)
theorem ret_enc {fn : Func} {p : Tmp} (h : fn.results = #[.cell p 49]) {tmps : Array Value} {w : World} {g : Nat} {a b : Value} (hp : tmps.getD p undef = .pointer (some ⟨g, 0, none⟩)) (hb : Blk w g 49 [a, b]) :
    (results fn tmps).run Tryz.prog w = .ok (.agg #[a, b]) w :=
  results_cell_row h tmps w g 49 _ (0, 0) _ hp hb Tryz.underlying49 rfl (by show (Tryz.prog.info? 49).map (·.size) = some 2; kernel_rfl)
/-- A map tells of each key whether it is there. -/
def HasI (D : DataW Value) (S : List Int) : Prop := IsMap D ∧ ∀ k : Int, Maps.has D (.int .i64 k) = decide (k ∈ S)
theorem hasI_empty : HasI (.map []) [] := ⟨isMap_empty, fun k => by simp [Maps.has]⟩
theorem hasI_put {D : DataW Value} {S : List Int} (h : HasI D S) (k : Int) (d : DataW Value) : HasI (D.put (.int .i64 k) d) (k :: S) := by
  refine ⟨h.1.put _ _, fun k' => ?_⟩
  by_cases he : k' = k
  · subst he
    rw [has_put_same h.1 (show WideAt.IsKeyLit (.int .i64 k') from trivial)]; simp
  · rw [has_put_other (by simpa using he), h.2]; simp [he]
theorem key_i64 {k : Int} (h : -9223372036854775808 ≤ k ∧ k ≤ 9223372036854775807) : keyOf Tryz.prog 3 (.int .i64 k) = some (.int .i64 k) :=
  keyOf_int_mk Tryz.underlying3 (by simp [Lit.wf, IntKind.min, IntKind.max, IntKind.signed, IntKind.bits]; omega)
theorem blk_new5 (w : World) (A B C D : Obj) (t : TypeId) (x y : Value) : Blk (((((w.alloc A).alloc B).alloc C).alloc D).alloc (.cells #[x, y] t)) (w.heap.size + 1 + 1 + 1 + 1) t [x, y] := by
  have := Blk.new ((((w.alloc A).alloc B).alloc C).alloc D) t [x, y]
  simpa using this
def EncsPost (S : List Int) (W : World) (e : Ending) (W' : World) : Prop := ∃ g n D, e = .returned (.map (some g)) ∧ Keep [] W W' ∧ W'.ownsMap Tryz.prog 3 encR g n D ∧ HasI D S ∧ n ≤ 10
theorem encAt {w : World} {p : Nat} {t : TypeId} {a b : Value} (h : Blk w p t [a, b]) : w.cell? ⟨p, 0, none⟩ = some a ∧ w.cell? ⟨p, 1, none⟩ = some b := ⟨h.cell 0, h.cell 1⟩
theorem ownMap_keep {H : Type} {P : Program} {k : TypeId} {R : Value → Option (DataW H × List MemPlace)} {b n : Nat} {D : DataW H} {w w' : World} (h : w.ownsMap P k R b n D) (hk : Keep [] w w') : w'.ownsMap P k R b n D := by
  obtain ⟨es, clock, hb, r⟩ := h
  exact ⟨es, clock, (hk.block b (Array.getElem?_eq_some_iff.1 hb).1 (by simp)).trans hb, r⟩

set_option maxHeartbeats 1000000 in
theorem through_u (a b c d : Fn) (W : World) : Calls Tryz.prog 32 #[.func a #[] #[], .func b #[] #[], .func c #[] #[], .func d #[] #[]] W fun e W' => ∃ f1 a1 c1 f2 a2 c2, e = .returned (.agg #[.func f1 a1 c1, .func f2 a2 c2]) ∧ Keep [] W W' := by
  go_enter Tryz.func32, Tryz.ntmps32
  go_wp2
  exact bodyPost_ret (ret_enc rfl rfl (blk_new5 W _ _ _ _ _ _ _)) rfl ⟨_, _, _, _, _, _, rfl, (((((Keep.refl _ _).alloc _).alloc _).alloc _).alloc _).alloc _⟩

set_option maxHeartbeats 1000000 in
theorem through_i (a b c d : Fn) (W : World) : Calls Tryz.prog 39 #[.func a #[] #[], .func b #[] #[], .func c #[] #[], .func d #[] #[]] W fun e W' => ∃ f1 a1 c1 f2 a2 c2, e = .returned (.agg #[.func f1 a1 c1, .func f2 a2 c2]) ∧ Keep [] W W' := by
  go_enter Tryz.func39, Tryz.ntmps39
  go_wp2
  exact bodyPost_ret (ret_enc rfl rfl (blk_new5 W _ _ _ _ _ _ _)) rfl ⟨_, _, _, _, _, _, rfl, (((((Keep.refl _ _).alloc _).alloc _).alloc _).alloc _).alloc _⟩

set_option maxHeartbeats 1000000 in
theorem through_p (a b c d : Fn) (W : World) : Calls Tryz.prog 44 #[.func a #[] #[], .func b #[] #[], .func c #[] #[], .func d #[] #[]] W fun e W' => ∃ f1 a1 c1 f2 a2 c2, e = .returned (.agg #[.func f1 a1 c1, .func f2 a2 c2]) ∧ Keep [] W W' := by
  go_enter Tryz.func44, Tryz.ntmps44
  go_wp2
  exact bodyPost_ret (ret_enc rfl rfl (blk_new5 W _ _ _ _ _ _ _)) rfl ⟨_, _, _, _, _, _, rfl, (((((Keep.refl _ _).alloc _).alloc _).alloc _).alloc _).alloc _⟩

set_option maxHeartbeats 1000000 in
theorem through_s (a b c d : Fn) (W : World) : Calls Tryz.prog 49 #[.func a #[] #[], .func b #[] #[], .func c #[] #[], .func d #[] #[]] W fun e W' => ∃ f1 a1 c1 f2 a2 c2, e = .returned (.agg #[.func f1 a1 c1, .func f2 a2 c2]) ∧ Keep [] W W' := by
  go_enter Tryz.func49, Tryz.ntmps49
  go_wp2
  exact bodyPost_ret (ret_enc rfl rfl (blk_new5 W _ _ _ _ _ _ _)) rfl ⟨_, _, _, _, _, _, rfl, (((((Keep.refl _ _).alloc _).alloc _).alloc _).alloc _).alloc _⟩

set_option maxHeartbeats 4000000 in
theorem encs0 (W : World) : Calls Tryz.prog 23 #[.int .i64 0] W (EncsPost [3, 2, 1, 0] W) := by
  have K := int_keyed Tryz.underlying3
  have hk3a : Keep [] W (((W.alloc (.cells #[.int .i64 0] 3)).alloc (.cells #[.func (.func 24) #[] #[.pointer (some ⟨W.heap.size, 0, none⟩)], .func (.func 26) #[] #[.pointer (some ⟨W.heap.size, 0, none⟩)]] 49)).alloc (.cells #[.func (.func 28) #[] #[.pointer (some ⟨W.heap.size, 0, none⟩)], .func (.func 30) #[] #[.pointer (some ⟨W.heap.size, 0, none⟩)]] 49)) := (((Keep.refl _ _).alloc _).alloc _).alloc _
  have h1a : Blk (((W.alloc (.cells #[.int .i64 0] 3)).alloc (.cells #[.func (.func 24) #[] #[.pointer (some ⟨W.heap.size, 0, none⟩)], .func (.func 26) #[] #[.pointer (some ⟨W.heap.size, 0, none⟩)]] 49)).alloc (.cells #[.func (.func 28) #[] #[.pointer (some ⟨W.heap.size, 0, none⟩)], .func (.func 30) #[] #[.pointer (some ⟨W.heap.size, 0, none⟩)]] 49)) W.heap.size 3 [.int .i64 0] := ((Blk.new W 3 [.int .i64 0]).alloc _).alloc _
  have h3a : Blk (((W.alloc (.cells #[.int .i64 0] 3)).alloc (.cells #[.func (.func 24) #[] #[.pointer (some ⟨W.heap.size, 0, none⟩)], .func (.func 26) #[] #[.pointer (some ⟨W.heap.size, 0, none⟩)]] 49)).alloc (.cells #[.func (.func 28) #[] #[.pointer (some ⟨W.heap.size, 0, none⟩)], .func (.func 30) #[] #[.pointer (some ⟨W.heap.size, 0, none⟩)]] 49)) (W.heap.size + 1) 49 [.func (.func 24) #[] #[.pointer (some ⟨W.heap.size, 0, none⟩)], .func (.func 26) #[] #[.pointer (some ⟨W.heap.size, 0, none⟩)]] := by
    have := (Blk.new (W.alloc (.cells #[.int .i64 0] 3)) 49 [.func (.func 24) #[] #[.pointer (some ⟨W.heap.size, 0, none⟩)], .func (.func 26) #[] #[.pointer (some ⟨W.heap.size, 0, none⟩)]]).alloc (.cells #[.func (.func 28) #[] #[.pointer (some ⟨W.heap.size, 0, none⟩)], .func (.func 30) #[] #[.pointer (some ⟨W.heap.size, 0, none⟩)]] 49)
    simpa using this
  have h4a : Blk (((W.alloc (.cells #[.int .i64 0] 3)).alloc (.cells #[.func (.func 24) #[] #[.pointer (some ⟨W.heap.size, 0, none⟩)], .func (.func 26) #[] #[.pointer (some ⟨W.heap.size, 0, none⟩)]] 49)).alloc (.cells #[.func (.func 28) #[] #[.pointer (some ⟨W.heap.size, 0, none⟩)], .func (.func 30) #[] #[.pointer (some ⟨W.heap.size, 0, none⟩)]] 49)) (W.heap.size + 1 + 1) 49 [.func (.func 28) #[] #[.pointer (some ⟨W.heap.size, 0, none⟩)], .func (.func 30) #[] #[.pointer (some ⟨W.heap.size, 0, none⟩)]] := by
    have := Blk.new ((W.alloc (.cells #[.int .i64 0] 3)).alloc (.cells #[.func (.func 24) #[] #[.pointer (some ⟨W.heap.size, 0, none⟩)], .func (.func 26) #[] #[.pointer (some ⟨W.heap.size, 0, none⟩)]] 49)) 49 [.func (.func 28) #[] #[.pointer (some ⟨W.heap.size, 0, none⟩)], .func (.func 30) #[] #[.pointer (some ⟨W.heap.size, 0, none⟩)]]
    simpa using this
  have hs3 : (((W.alloc (.cells #[.int .i64 0] 3)).alloc (.cells #[.func (.func 24) #[] #[.pointer (some ⟨W.heap.size, 0, none⟩)], .func (.func 26) #[] #[.pointer (some ⟨W.heap.size, 0, none⟩)]] 49)).alloc (.cells #[.func (.func 28) #[] #[.pointer (some ⟨W.heap.size, 0, none⟩)], .func (.func 30) #[] #[.pointer (some ⟨W.heap.size, 0, none⟩)]] 49)).heap.size = W.heap.size + 1 + 1 + 1 := by simp
  have hm0 : ((((W.alloc (.cells #[.int .i64 0] 3)).alloc (.cells #[.func (.func 24) #[] #[.pointer (some ⟨W.heap.size, 0, none⟩)], .func (.func 26) #[] #[.pointer (some ⟨W.heap.size, 0, none⟩)]] 49)).alloc (.cells #[.func (.func 28) #[] #[.pointer (some ⟨W.heap.size, 0, none⟩)], .func (.func 30) #[] #[.pointer (some ⟨W.heap.size, 0, none⟩)]] 49)).alloc (.map #[] 0)).ownsMap Tryz.prog 3 encR (W.heap.size + 1 + 1 + 1) 0 (.map []) := by
    have := World.ownsMap_made (((W.alloc (.cells #[.int .i64 0] 3)).alloc (.cells #[.func (.func 24) #[] #[.pointer (some ⟨W.heap.size, 0, none⟩)], .func (.func 26) #[] #[.pointer (some ⟨W.heap.size, 0, none⟩)]] 49)).alloc (.cells #[.func (.func 28) #[] #[.pointer (some ⟨W.heap.size, 0, none⟩)], .func (.func 30) #[] #[.pointer (some ⟨W.heap.size, 0, none⟩)]] 49)) Tryz.prog 3 encR
    rwa [hs3] at this
  have hka := (Keep.refl [] (((W.alloc (.cells #[.int .i64 0] 3)).alloc (.cells #[.func (.func 24) #[] #[.pointer (some ⟨W.heap.size, 0, none⟩)], .func (.func 26) #[] #[.pointer (some ⟨W.heap.size, 0, none⟩)]] 49)).alloc (.cells #[.func (.func 28) #[] #[.pointer (some ⟨W.heap.size, 0, none⟩)], .func (.func 30) #[] #[.pointer (some ⟨W.heap.size, 0, none⟩)]] 49))).alloc (.map #[] 0)
  obtain ⟨q0, q1⟩ := encAt (h3a.keep hka (by simp))
  have hmm := @run_makeMap Tryz.prog
  replace hs3 := Lib.hid hs3
  go_enter Tryz.func23, Tryz.ntmps23
  go_wp2_with (refine wpList_insert_own _ rfl _ _ _ 51 rfl 3 49 K Tryz.underlying51 encR (W.heap.size + 1 + 1 + 1) 0 _ rfl hm0 (by unfold maxLen; omega) _ _ _ rfl rfl (key_i64 (by omega)) _ [] (encR_f _ _ _ _ _ _) ?_)
  intro w1 hm1 hg1
  generalize (((W.alloc (.cells #[.int .i64 0] 3)).alloc (.cells #[.func (.func 24) #[] #[.pointer (some ⟨W.heap.size, 0, none⟩)], .func (.func 26) #[] #[.pointer (some ⟨W.heap.size, 0, none⟩)]] 49)).alloc (.cells #[.func (.func 28) #[] #[.pointer (some ⟨W.heap.size, 0, none⟩)], .func (.func 30) #[] #[.pointer (some ⟨W.heap.size, 0, none⟩)]] 49)) = W3 at *
  replace hs3 := hs3.out
  have hsz := hk3a.size
  have hl1 := h1a.lt
  have hl3 := h3a.lt
  have hl4 := h4a.lt
  have hk1 := hka.nil.trans (keep_of_grown hg1)
  obtain ⟨r0, r1⟩ := encAt (h4a.keep hk1 (by simp <;> omega))
  have hi1 := hasI_put hasI_empty 0 (.held (.agg #[.func (.func 24) #[] #[.pointer (some ⟨W.heap.size, 0, none⟩)], .func (.func 26) #[] #[.pointer (some ⟨W.heap.size, 0, none⟩)]]))
  clear q0 q1 hm0 hg1 hmm
  go_wp2_with (refine wpList_insert_own _ rfl _ _ _ 51 rfl 3 49 K Tryz.underlying51 encR (W.heap.size + 1 + 1 + 1) 1 _ rfl hm1 (by unfold maxLen; omega) _ _ _ rfl rfl (key_i64 (by omega)) _ [] (encR_f _ _ _ _ _ _) ?_)
  intro w2 hm2 hg2
  have hk2 := hk1.trans (keep_of_grown hg2)
  have hi2 := hasI_put hi1 1 (.held (.agg #[.func (.func 28) #[] #[.pointer (some ⟨W.heap.size, 0, none⟩)], .func (.func 30) #[] #[.pointer (some ⟨W.heap.size, 0, none⟩)]]))
  have b2 := (h1a.keep hk2 (by simp <;> omega)).cell 0
  simp only [List.getElem?_cons_zero] at b2
  clear r0 r1 hm1 hg2 hi1
  go_wp2_with fail
  refine (through_u _ _ _ _ w2).mono ?_
  rintro e v2 ⟨f1, a1, c1, f2, a2, c2, rfl, hkt⟩
  have hmt := ownMap_keep hm2 hkt
  have hkk := hk2.trans hkt.nil
  clear hm2 hk2 b2
  go_wp2_with (at_mapUpdate; refine wpList_mapUpdate_own _ rfl _ _ _ 51 rfl 3 49 K Tryz.underlying51 encR (W.heap.size + 1 + 1 + 1) 2 _ rfl hmt (by unfold maxLen; omega) _ _ _ rfl rfl (key_i64 (by omega)) _ [] (encR_f _ _ _ _ _ _) ?_)
  intro w3 hm3 hg
  have hk3 := hkk.trans (keep_of_grown hg)
  have hi3 := hasI_put hi2 2 (.held (.agg #[.func f1 a1 c1, .func f2 a2 c2]))
  have b3 := (h1a.keep hk3 (by simp <;> omega)).cell 0
  simp only [List.getElem?_cons_zero] at b3
  clear hmt hkk hg hi2
  go_wp2_with fail
  refine (through_i _ _ _ _ w3).mono ?_
  rintro e v3 ⟨f1, a1, c1, f2, a2, c2, rfl, hkt⟩
  have hmt := ownMap_keep hm3 hkt
  have hkk := hk3.trans hkt.nil
  clear hm3 hk3 b3
  go_wp2_with (at_mapUpdate; refine wpList_mapUpdate_own _ rfl _ _ _ 51 rfl 3 49 K Tryz.underlying51 encR (W.heap.size + 1 + 1 + 1) 3 _ rfl hmt (by unfold maxLen; omega) _ _ _ rfl rfl (key_i64 (by omega)) _ [] (encR_f _ _ _ _ _ _) ?_)
  intro w4 hm4 hg
  have hk4 := hkk.trans (keep_of_grown hg)
  have hi4 := hasI_put hi3 3 (.held (.agg #[.func f1 a1 c1, .func f2 a2 c2]))
  have b4 := (h1a.keep hk4 (by simp <;> omega)).cell 0
  simp only [List.getElem?_cons_zero] at b4
  clear hmt hkk hg hi3
  go_wp2
  go_ret
  exact ⟨_, _, _, rfl, hk3a.after hk4 (by simp <;> omega), hm4, hi4, by omega⟩

set_option maxHeartbeats 4000000 in
theorem encs1 (W : World) : Calls Tryz.prog 23 #[.int .i64 1] W (EncsPost [2, 1, 0] W) := by
  have K := int_keyed Tryz.underlying3
  have hk3a : Keep [] W (((W.alloc (.cells #[.int .i64 1] 3)).alloc (.cells #[.func (.func 24) #[] #[.pointer (some ⟨W.heap.size, 0, none⟩)], .func (.func 26) #[] #[.pointer (some ⟨W.heap.size, 0, none⟩)]] 49)).alloc (.cells #[.func (.func 28) #[] #[.pointer (some ⟨W.heap.size, 0, none⟩)], .func (.func 30) #[] #[.pointer (some ⟨W.heap.size, 0, none⟩)]] 49)) := (((Keep.refl _ _).alloc _).alloc _).alloc _
  have h1a : Blk (((W.alloc (.cells #[.int .i64 1] 3)).alloc (.cells #[.func (.func 24) #[] #[.pointer (some ⟨W.heap.size, 0, none⟩)], .func (.func 26) #[] #[.pointer (some ⟨W.heap.size, 0, none⟩)]] 49)).alloc (.cells #[.func (.func 28) #[] #[.pointer (some ⟨W.heap.size, 0, none⟩)], .func (.func 30) #[] #[.pointer (some ⟨W.heap.size, 0, none⟩)]] 49)) W.heap.size 3 [.int .i64 1] := ((Blk.new W 3 [.int .i64 1]).alloc _).alloc _
  have h3a : Blk (((W.alloc (.cells #[.int .i64 1] 3)).alloc (.cells #[.func (.func 24) #[] #[.pointer (some ⟨W.heap.size, 0, none⟩)], .func (.func 26) #[] #[.pointer (some ⟨W.heap.size, 0, none⟩)]] 49)).alloc (.cells #[.func (.func 28) #[] #[.pointer (some ⟨W.heap.size, 0, none⟩)], .func (.func 30) #[] #[.pointer (some ⟨W.heap.size, 0, none⟩)]] 49)) (W.heap.size + 1) 49 [.func (.func 24) #[] #[.pointer (some ⟨W.heap.size, 0, none⟩)], .func (.func 26) #[] #[.pointer (some ⟨W.heap.size, 0, none⟩)]] := by
    have := (Blk.new (W.alloc (.cells #[.int .i64 1] 3)) 49 [.func (.func 24) #[] #[.pointer (some ⟨W.heap.size, 0, none⟩)], .func (.func 26) #[] #[.pointer (some ⟨W.heap.size, 0, none⟩)]]).alloc (.cells #[.func (.func 28) #[] #[.pointer (some ⟨W.heap.size, 0, none⟩)], .func (.func 30) #[] #[.pointer (some ⟨W.heap.size, 0, none⟩)]] 49)
    simpa using this
  have h4a : Blk (((W.alloc (.cells #[.int .i64 1] 3)).alloc (.cells #[.func (.func 24) #[] #[.pointer (some ⟨W.heap.size, 0, none⟩)], .func (.func 26) #[] #[.pointer (some ⟨W.heap.size, 0, none⟩)]] 49)).alloc (.cells #[.func (.func 28) #[] #[.pointer (some ⟨W.heap.size, 0, none⟩)], .func (.func 30) #[] #[.pointer (some ⟨W.heap.size, 0, none⟩)]] 49)) (W.heap.size + 1 + 1) 49 [.func (.func 28) #[] #[.pointer (some ⟨W.heap.size, 0, none⟩)], .func (.func 30) #[] #[.pointer (some ⟨W.heap.size, 0, none⟩)]] := by
    have := Blk.new ((W.alloc (.cells #[.int .i64 1] 3)).alloc (.cells #[.func (.func 24) #[] #[.pointer (some ⟨W.heap.size, 0, none⟩)], .func (.func 26) #[] #[.pointer (some ⟨W.heap.size, 0, none⟩)]] 49)) 49 [.func (.func 28) #[] #[.pointer (some ⟨W.heap.size, 0, none⟩)], .func (.func 30) #[] #[.pointer (some ⟨W.heap.size, 0, none⟩)]]
    simpa using this
  have hs3 : (((W.alloc (.cells #[.int .i64 1] 3)).alloc (.cells #[.func (.func 24) #[] #[.pointer (some ⟨W.heap.size, 0, none⟩)], .func (.func 26) #[] #[.pointer (some ⟨W.heap.size, 0, none⟩)]] 49)).alloc (.cells #[.func (.func 28) #[] #[.pointer (some ⟨W.heap.size, 0, none⟩)], .func (.func 30) #[] #[.pointer (some ⟨W.heap.size, 0, none⟩)]] 49)).heap.size = W.heap.size + 1 + 1 + 1 := by simp
  have hm0 : ((((W.alloc (.cells #[.int .i64 1] 3)).alloc (.cells #[.func (.func 24) #[] #[.pointer (some ⟨W.heap.size, 0, none⟩)], .func (.func 26) #[] #[.pointer (some ⟨W.heap.size, 0, none⟩)]] 49)).alloc (.cells #[.func (.func 28) #[] #[.pointer (some ⟨W.heap.size, 0, none⟩)], .func (.func 30) #[] #[.pointer (some ⟨W.heap.size, 0, none⟩)]] 49)).alloc (.map #[] 0)).ownsMap Tryz.prog 3 encR (W.heap.size + 1 + 1 + 1) 0 (.map []) := by
    have := World.ownsMap_made (((W.alloc (.cells #[.int .i64 1] 3)).alloc (.cells #[.func (.func 24) #[] #[.pointer (some ⟨W.heap.size, 0, none⟩)], .func (.func 26) #[] #[.pointer (some ⟨W.heap.size, 0, none⟩)]] 49)).alloc (.cells #[.func (.func 28) #[] #[.pointer (some ⟨W.heap.size, 0, none⟩)], .func (.func 30) #[] #[.pointer (some ⟨W.heap.size, 0, none⟩)]] 49)) Tryz.prog 3 encR
    rwa [hs3] at this
  have hka := (Keep.refl [] (((W.alloc (.cells #[.int .i64 1] 3)).alloc (.cells #[.func (.func 24) #[] #[.pointer (some ⟨W.heap.size, 0, none⟩)], .func (.func 26) #[] #[.pointer (some ⟨W.heap.size, 0, none⟩)]] 49)).alloc (.cells #[.func (.func 28) #[] #[.pointer (some ⟨W.heap.size, 0, none⟩)], .func (.func 30) #[] #[.pointer (some ⟨W.heap.size, 0, none⟩)]] 49))).alloc (.map #[] 0)
  obtain ⟨q0, q1⟩ := encAt (h3a.keep hka (by simp))
  have hmm := @run_makeMap Tryz.prog
  replace hs3 := Lib.hid hs3
  go_enter Tryz.func23, Tryz.ntmps23
  go_wp2_with (refine wpList_insert_own _ rfl _ _ _ 51 rfl 3 49 K Tryz.underlying51 encR (W.heap.size + 1 + 1 + 1) 0 _ rfl hm0 (by unfold maxLen; omega) _ _ _ rfl rfl (key_i64 (by omega)) _ [] (encR_f _ _ _ _ _ _) ?_)
  intro w1 hm1 hg1
  generalize (((W.alloc (.cells #[.int .i64 1] 3)).alloc (.cells #[.func (.func 24) #[] #[.pointer (some ⟨W.heap.size, 0, none⟩)], .func (.func 26) #[] #[.pointer (some ⟨W.heap.size, 0, none⟩)]] 49)).alloc (.cells #[.func (.func 28) #[] #[.pointer (some ⟨W.heap.size, 0, none⟩)], .func (.func 30) #[] #[.pointer (some ⟨W.heap.size, 0, none⟩)]] 49)) = W3 at *
  replace hs3 := hs3.out
  have hsz := hk3a.size
  have hl1 := h1a.lt
  have hl3 := h3a.lt
  have hl4 := h4a.lt
  have hk1 := hka.nil.trans (keep_of_grown hg1)
  obtain ⟨r0, r1⟩ := encAt (h4a.keep hk1 (by simp <;> omega))
  have hi1 := hasI_put hasI_empty 0 (.held (.agg #[.func (.func 24) #[] #[.pointer (some ⟨W.heap.size, 0, none⟩)], .func (.func 26) #[] #[.pointer (some ⟨W.heap.size, 0, none⟩)]]))
  clear q0 q1 hm0 hg1 hmm
  go_wp2_with (refine wpList_insert_own _ rfl _ _ _ 51 rfl 3 49 K Tryz.underlying51 encR (W.heap.size + 1 + 1 + 1) 1 _ rfl hm1 (by unfold maxLen; omega) _ _ _ rfl rfl (key_i64 (by omega)) _ [] (encR_f _ _ _ _ _ _) ?_)
  intro w2 hm2 hg2
  have hk2 := hk1.trans (keep_of_grown hg2)
  have hi2 := hasI_put hi1 1 (.held (.agg #[.func (.func 28) #[] #[.pointer (some ⟨W.heap.size, 0, none⟩)], .func (.func 30) #[] #[.pointer (some ⟨W.heap.size, 0, none⟩)]]))
  have b2 := (h1a.keep hk2 (by simp <;> omega)).cell 0
  simp only [List.getElem?_cons_zero] at b2
  clear r0 r1 hm1 hg2 hi1
  go_wp2_with fail
  refine (through_u _ _ _ _ w2).mono ?_
  rintro e v2 ⟨f1, a1, c1, f2, a2, c2, rfl, hkt⟩
  have hmt := ownMap_keep hm2 hkt
  have hkk := hk2.trans hkt.nil
  clear hm2 hk2 b2
  go_wp2_with (at_mapUpdate; refine wpList_mapUpdate_own _ rfl _ _ _ 51 rfl 3 49 K Tryz.underlying51 encR (W.heap.size + 1 + 1 + 1) 2 _ rfl hmt (by unfold maxLen; omega) _ _ _ rfl rfl (key_i64 (by omega)) _ [] (encR_f _ _ _ _ _ _) ?_)
  intro w3 hm3 hg
  have hk3 := hkk.trans (keep_of_grown hg)
  have hi3 := hasI_put hi2 2 (.held (.agg #[.func f1 a1 c1, .func f2 a2 c2]))
  have b3 := (h1a.keep hk3 (by simp <;> omega)).cell 0
  simp only [List.getElem?_cons_zero] at b3
  clear hmt hkk hg hi2
  go_wp2
  go_ret
  exact ⟨_, _, _, rfl, hk3a.after hk3 (by simp <;> omega), hm3, hi3, by omega⟩

set_option maxHeartbeats 4000000 in
theorem encs2 (W : World) : Calls Tryz.prog 23 #[.int .i64 2] W (EncsPost [4, 1, 0] W) := by
  have K := int_keyed Tryz.underlying3
  have hk3a : Keep [] W (((W.alloc (.cells #[.int .i64 2] 3)).alloc (.cells #[.func (.func 24) #[] #[.pointer (some ⟨W.heap.size, 0, none⟩)], .func (.func 26) #[] #[.pointer (some ⟨W.heap.size, 0, none⟩)]] 49)).alloc (.cells #[.func (.func 28) #[] #[.pointer (some ⟨W.heap.size, 0, none⟩)], .func (.func 30) #[] #[.pointer (some ⟨W.heap.size, 0, none⟩)]] 49)) := (((Keep.refl _ _).alloc _).alloc _).alloc _
  have h1a : Blk (((W.alloc (.cells #[.int .i64 2] 3)).alloc (.cells #[.func (.func 24) #[] #[.pointer (some ⟨W.heap.size, 0, none⟩)], .func (.func 26) #[] #[.pointer (some ⟨W.heap.size, 0, none⟩)]] 49)).alloc (.cells #[.func (.func 28) #[] #[.pointer (some ⟨W.heap.size, 0, none⟩)], .func (.func 30) #[] #[.pointer (some ⟨W.heap.size, 0, none⟩)]] 49)) W.heap.size 3 [.int .i64 2] := ((Blk.new W 3 [.int .i64 2]).alloc _).alloc _
  have h3a : Blk (((W.alloc (.cells #[.int .i64 2] 3)).alloc (.cells #[.func (.func 24) #[] #[.pointer (some ⟨W.heap.size, 0, none⟩)], .func (.func 26) #[] #[.pointer (some ⟨W.heap.size, 0, none⟩)]] 49)).alloc (.cells #[.func (.func 28) #[] #[.pointer (some ⟨W.heap.size, 0, none⟩)], .func (.func 30) #[] #[.pointer (some ⟨W.heap.size, 0, none⟩)]] 49)) (W.heap.size + 1) 49 [.func (.func 24) #[] #[.pointer (some ⟨W.heap.size, 0, none⟩)], .func (.func 26) #[] #[.pointer (some ⟨W.heap.size, 0, none⟩)]] := by
    have := (Blk.new (W.alloc (.cells #[.int .i64 2] 3)) 49 [.func (.func 24) #[] #[.pointer (some ⟨W.heap.size, 0, none⟩)], .func (.func 26) #[] #[.pointer (some ⟨W.heap.size, 0, none⟩)]]).alloc (.cells #[.func (.func 28) #[] #[.pointer (some ⟨W.heap.size, 0, none⟩)], .func (.func 30) #[] #[.pointer (some ⟨W.heap.size, 0, none⟩)]] 49)
    simpa using this
  have h4a : Blk (((W.alloc (.cells #[.int .i64 2] 3)).alloc (.cells #[.func (.func 24) #[] #[.pointer (some ⟨W.heap.size, 0, none⟩)], .func (.func 26) #[] #[.pointer (some ⟨W.heap.size, 0, none⟩)]] 49)).alloc (.cells #[.func (.func 28) #[] #[.pointer (some ⟨W.heap.size, 0, none⟩)], .func (.func 30) #[] #[.pointer (some ⟨W.heap.size, 0, none⟩)]] 49)) (W.heap.size + 1 + 1) 49 [.func (.func 28) #[] #[.pointer (some ⟨W.heap.size, 0, none⟩)], .func (.func 30) #[] #[.pointer (some ⟨W.heap.size, 0, none⟩)]] := by
    have := Blk.new ((W.alloc (.cells #[.int .i64 2] 3)).alloc (.cells #[.func (.func 24) #[] #[.pointer (some ⟨W.heap.size, 0, none⟩)], .func (.func 26) #[] #[.pointer (some ⟨W.heap.size, 0, none⟩)]] 49)) 49 [.func (.func 28) #[] #[.pointer (some ⟨W.heap.size, 0, none⟩)], .func (.func 30) #[] #[.pointer (some ⟨W.heap.size, 0, none⟩)]]
    simpa using this
  have hs3 : (((W.alloc (.cells #[.int .i64 2] 3)).alloc (.cells #[.func (.func 24) #[] #[.pointer (some ⟨W.heap.size, 0, none⟩)], .func (.func 26) #[] #[.pointer (some ⟨W.heap.size, 0, none⟩)]] 49)).alloc (.cells #[.func (.func 28) #[] #[.pointer (some ⟨W.heap.size, 0, none⟩)], .func (.func 30) #[] #[.pointer (some ⟨W.heap.size, 0, none⟩)]] 49)).heap.size = W.heap.size + 1 + 1 + 1 := by simp
  have hm0 : ((((W.alloc (.cells #[.int .i64 2] 3)).alloc (.cells #[.func (.func 24) #[] #[.pointer (some ⟨W.heap.size, 0, none⟩)], .func (.func 26) #[] #[.pointer (some ⟨W.heap.size, 0, none⟩)]] 49)).alloc (.cells #[.func (.func 28) #[] #[.pointer (some ⟨W.heap.size, 0, none⟩)], .func (.func 30) #[] #[.pointer (some ⟨W.heap.size, 0, none⟩)]] 49)).alloc (.map #[] 0)).ownsMap Tryz.prog 3 encR (W.heap.size + 1 + 1 + 1) 0 (.map []) := by
    have := World.ownsMap_made (((W.alloc (.cells #[.int .i64 2] 3)).alloc (.cells #[.func (.func 24) #[] #[.pointer (some ⟨W.heap.size, 0, none⟩)], .func (.func 26) #[] #[.pointer (some ⟨W.heap.size, 0, none⟩)]] 49)).alloc (.cells #[.func (.func 28) #[] #[.pointer (some ⟨W.heap.size, 0, none⟩)], .func (.func 30) #[] #[.pointer (some ⟨W.heap.size, 0, none⟩)]] 49)) Tryz.prog 3 encR
    rwa [hs3] at this
  have hka := (Keep.refl [] (((W.alloc (.cells #[.int .i64 2] 3)).alloc (.cells #[.func (.func 24) #[] #[.pointer (some ⟨W.heap.size, 0, none⟩)], .func (.func 26) #[] #[.pointer (some ⟨W.heap.size, 0, none⟩)]] 49)).alloc (.cells #[.func (.func 28) #[] #[.pointer (some ⟨W.heap.size, 0, none⟩)], .func (.func 30) #[] #[.pointer (some ⟨W.heap.size, 0, none⟩)]] 49))).alloc (.map #[] 0)
  obtain ⟨q0, q1⟩ := encAt (h3a.keep hka (by simp))
  have hmm := @run_makeMap Tryz.prog
  replace hs3 := Lib.hid hs3
  go_enter Tryz.func23, Tryz.ntmps23
  go_wp2_with (refine wpList_insert_own _ rfl _ _ _ 51 rfl 3 49 K Tryz.underlying51 encR (W.heap.size + 1 + 1 + 1) 0 _ rfl hm0 (by unfold maxLen; omega) _ _ _ rfl rfl (key_i64 (by omega)) _ [] (encR_f _ _ _ _ _ _) ?_)
  intro w1 hm1 hg1
  generalize (((W.alloc (.cells #[.int .i64 2] 3)).alloc (.cells #[.func (.func 24) #[] #[.pointer (some ⟨W.heap.size, 0, none⟩)], .func (.func 26) #[] #[.pointer (some ⟨W.heap.size, 0, none⟩)]] 49)).alloc (.cells #[.func (.func 28) #[] #[.pointer (some ⟨W.heap.size, 0, none⟩)], .func (.func 30) #[] #[.pointer (some ⟨W.heap.size, 0, none⟩)]] 49)) = W3 at *
  replace hs3 := hs3.out
  have hsz := hk3a.size
  have hl1 := h1a.lt
  have hl3 := h3a.lt
  have hl4 := h4a.lt
  have hk1 := hka.nil.trans (keep_of_grown hg1)
  obtain ⟨r0, r1⟩ := encAt (h4a.keep hk1 (by simp <;> omega))
  have hi1 := hasI_put hasI_empty 0 (.held (.agg #[.func (.func 24) #[] #[.pointer (some ⟨W.heap.size, 0, none⟩)], .func (.func 26) #[] #[.pointer (some ⟨W.heap.size, 0, none⟩)]]))
  clear q0 q1 hm0 hg1 hmm
  go_wp2_with (refine wpList_insert_own _ rfl _ _ _ 51 rfl 3 49 K Tryz.underlying51 encR (W.heap.size + 1 + 1 + 1) 1 _ rfl hm1 (by unfold maxLen; omega) _ _ _ rfl rfl (key_i64 (by omega)) _ [] (encR_f _ _ _ _ _ _) ?_)
  intro w2 hm2 hg2
  have hk2 := hk1.trans (keep_of_grown hg2)
  have hi2 := hasI_put hi1 1 (.held (.agg #[.func (.func 28) #[] #[.pointer (some ⟨W.heap.size, 0, none⟩)], .func (.func 30) #[] #[.pointer (some ⟨W.heap.size, 0, none⟩)]]))
  have b2 := (h1a.keep hk2 (by simp <;> omega)).cell 0
  simp only [List.getElem?_cons_zero] at b2
  clear r0 r1 hm1 hg2 hi1
  go_wp2_with fail
  refine (through_s _ _ _ _ w2).mono ?_
  rintro e v2 ⟨f1, a1, c1, f2, a2, c2, rfl, hkt⟩
  have hmt := ownMap_keep hm2 hkt
  have hkk := hk2.trans hkt.nil
  clear hm2 hk2 b2
  go_wp2_with (at_mapUpdate; refine wpList_mapUpdate_own _ rfl _ _ _ 51 rfl 3 49 K Tryz.underlying51 encR (W.heap.size + 1 + 1 + 1) 2 _ rfl hmt (by unfold maxLen; omega) _ _ _ rfl rfl (key_i64 (by omega)) _ [] (encR_f _ _ _ _ _ _) ?_)
  intro w3 hm3 hg
  have hk3 := hkk.trans (keep_of_grown hg)
  have hi3 := hasI_put hi2 4 (.held (.agg #[.func f1 a1 c1, .func f2 a2 c2]))
  have b3 := (h1a.keep hk3 (by simp <;> omega)).cell 0
  simp only [List.getElem?_cons_zero] at b3
  clear hmt hkk hg hi2
  go_wp2
  go_ret
  exact ⟨_, _, _, rfl, hk3a.after hk3 (by simp <;> omega), hm3, hi3, by omega⟩

set_option maxHeartbeats 4000000 in
theorem encs3 (W : World) : Calls Tryz.prog 23 #[.int .i64 3] W (EncsPost [3, 1, 0] W) := by
  have K := int_keyed Tryz.underlying3
  have hk3a : Keep [] W (((W.alloc (.cells #[.int .i64 3] 3)).alloc (.cells #[.func (.func 24) #[] #[.pointer (some ⟨W.heap.size, 0, none⟩)], .func (.func 26) #[] #[.pointer (some ⟨W.heap.size, 0, none⟩)]] 49)).alloc (.cells #[.func (.func 28) #[] #[.pointer (some ⟨W.heap.size, 0, none⟩)], .func (.func 30) #[] #[.pointer (some ⟨W.heap.size, 0, none⟩)]] 49)) := (((Keep.refl _ _).alloc _).alloc _).alloc _
  have h1a : Blk (((W.alloc (.cells #[.int .i64 3] 3)).alloc (.cells #[.func (.func 24) #[] #[.pointer (some ⟨W.heap.size, 0, none⟩)], .func (.func 26) #[] #[.pointer (some ⟨W.heap.size, 0, none⟩)]] 49)).alloc (.cells #[.func (.func 28) #[] #[.pointer (some ⟨W.heap.size, 0, none⟩)], .func (.func 30) #[] #[.pointer (some ⟨W.heap.size, 0, none⟩)]] 49)) W.heap.size 3 [.int .i64 3] := ((Blk.new W 3 [.int .i64 3]).alloc _).alloc _
  have h3a : Blk (((W.alloc (.cells #[.int .i64 3] 3)).alloc (.cells #[.func (.func 24) #[] #[.pointer (some ⟨W.heap.size, 0, none⟩)], .func (.func 26) #[] #[.pointer (some ⟨W.heap.size, 0, none⟩)]] 49)).alloc (.cells #[.func (.func 28) #[] #[.pointer (some ⟨W.heap.size, 0, none⟩)], .func (.func 30) #[] #[.pointer (some ⟨W.heap.size, 0, none⟩)]] 49)) (W.heap.size + 1) 49 [.func (.func 24) #[] #[.pointer (some ⟨W.heap.size, 0, none⟩)], .func (.func 26) #[] #[.pointer (some ⟨W.heap.size, 0, none⟩)]] := by
    have := (Blk.new (W.alloc (.cells #[.int .i64 3] 3)) 49 [.func (.func 24) #[] #[.pointer (some ⟨W.heap.size, 0, none⟩)], .func (.func 26) #[] #[.pointer (some ⟨W.heap.size, 0, none⟩)]]).alloc (.cells #[.func (.func 28) #[] #[.pointer (some ⟨W.heap.size, 0, none⟩)], .func (.func 30) #[] #[.pointer (some ⟨W.heap.size, 0, none⟩)]] 49)
    simpa using this
  have h4a : Blk (((W.alloc (.cells #[.int .i64 3] 3)).alloc (.cells #[.func (.func 24) #[] #[.pointer (some ⟨W.heap.size, 0, none⟩)], .func (.func 26) #[] #[.pointer (some ⟨W.heap.size, 0, none⟩)]] 49)).alloc (.cells #[.func (.func 28) #[] #[.pointer (some ⟨W.heap.size, 0, none⟩)], .func (.func 30) #[] #[.pointer (some ⟨W.heap.size, 0, none⟩)]] 49)) (W.heap.size + 1 + 1) 49 [.func (.func 28) #[] #[.pointer (some ⟨W.heap.size, 0, none⟩)], .func (.func 30) #[] #[.pointer (some ⟨W.heap.size, 0, none⟩)]] := by
    have := Blk.new ((W.alloc (.cells #[.int .i64 3] 3)).alloc (.cells #[.func (.func 24) #[] #[.pointer (some ⟨W.heap.size, 0, none⟩)], .func (.func 26) #[] #[.pointer (some ⟨W.heap.size, 0, none⟩)]] 49)) 49 [.func (.func 28) #[] #[.pointer (some ⟨W.heap.size, 0, none⟩)], .func (.func 30) #[] #[.pointer (some ⟨W.heap.size, 0, none⟩)]]
    simpa using this
  have hs3 : (((W.alloc (.cells #[.int .i64 3] 3)).alloc (.cells #[.func (.func 24) #[] #[.pointer (some ⟨W.heap.size, 0, none⟩)], .func (.func 26) #[] #[.pointer (some ⟨W.heap.size, 0, none⟩)]] 49)).alloc (.cells #[.func (.func 28) #[] #[.pointer (some ⟨W.heap.size, 0, none⟩)], .func (.func 30) #[] #[.pointer (some ⟨W.heap.size, 0, none⟩)]] 49)).heap.size = W.heap.size + 1 + 1 + 1 := by simp
  have hm0 : ((((W.alloc (.cells #[.int .i64 3] 3)).alloc (.cells #[.func (.func 24) #[] #[.pointer (some ⟨W.heap.size, 0, none⟩)], .func (.func 26) #[] #[.pointer (some ⟨W.heap.size, 0, none⟩)]] 49)).alloc (.cells #[.func (.func 28) #[] #[.pointer (some ⟨W.heap.size, 0, none⟩)], .func (.func 30) #[] #[.pointer (some ⟨W.heap.size, 0, none⟩)]] 49)).alloc (.map #[] 0)).ownsMap Tryz.prog 3 encR (W.heap.size + 1 + 1 + 1) 0 (.map []) := by
    have := World.ownsMap_made (((W.alloc (.cells #[.int .i64 3] 3)).alloc (.cells #[.func (.func 24) #[] #[.pointer (some ⟨W.heap.size, 0, none⟩)], .func (.func 26) #[] #[.pointer (some ⟨W.heap.size, 0, none⟩)]] 49)).alloc (.cells #[.func (.func 28) #[] #[.pointer (some ⟨W.heap.size, 0, none⟩)], .func (.func 30) #[] #[.pointer (some ⟨W.heap.size, 0, none⟩)]] 49)) Tryz.prog 3 encR
    rwa [hs3] at this
  have hka := (Keep.refl [] (((W.alloc (.cells #[.int .i64 3] 3)).alloc (.cells #[.func (.func 24) #[] #[.pointer (some ⟨W.heap.size, 0, none⟩)], .func (.func 26) #[] #[.pointer (some ⟨W.heap.size, 0, none⟩)]] 49)).alloc (.cells #[.func (.func 28) #[] #[.pointer (some ⟨W.heap.size, 0, none⟩)], .func (.func 30) #[] #[.pointer (some ⟨W.heap.size, 0, none⟩)]] 49))).alloc (.map #[] 0)
  obtain ⟨q0, q1⟩ := encAt (h3a.keep hka (by simp))
  have hmm := @run_makeMap Tryz.prog
  replace hs3 := Lib.hid hs3
  go_enter Tryz.func23, Tryz.ntmps23
  go_wp2_with (refine wpList_insert_own _ rfl _ _ _ 51 rfl 3 49 K Tryz.underlying51 encR (W.heap.size + 1 + 1 + 1) 0 _ rfl hm0 (by unfold maxLen; omega) _ _ _ rfl rfl (key_i64 (by omega)) _ [] (encR_f _ _ _ _ _ _) ?_)
  intro w1 hm1 hg1
  generalize (((W.alloc (.cells #[.int .i64 3] 3)).alloc (.cells #[.func (.func 24) #[] #[.pointer (some ⟨W.heap.size, 0, none⟩)], .func (.func 26) #[] #[.pointer (some ⟨W.heap.size, 0, none⟩)]] 49)).alloc (.cells #[.func (.func 28) #[] #[.pointer (some ⟨W.heap.size, 0, none⟩)], .func (.func 30) #[] #[.pointer (some ⟨W.heap.size, 0, none⟩)]] 49)) = W3 at *
  replace hs3 := hs3.out
  have hsz := hk3a.size
  have hl1 := h1a.lt
  have hl3 := h3a.lt
  have hl4 := h4a.lt
  have hk1 := hka.nil.trans (keep_of_grown hg1)
  obtain ⟨r0, r1⟩ := encAt (h4a.keep hk1 (by simp <;> omega))
  have hi1 := hasI_put hasI_empty 0 (.held (.agg #[.func (.func 24) #[] #[.pointer (some ⟨W.heap.size, 0, none⟩)], .func (.func 26) #[] #[.pointer (some ⟨W.heap.size, 0, none⟩)]]))
  clear q0 q1 hm0 hg1 hmm
  go_wp2_with (refine wpList_insert_own _ rfl _ _ _ 51 rfl 3 49 K Tryz.underlying51 encR (W.heap.size + 1 + 1 + 1) 1 _ rfl hm1 (by unfold maxLen; omega) _ _ _ rfl rfl (key_i64 (by omega)) _ [] (encR_f _ _ _ _ _ _) ?_)
  intro w2 hm2 hg2
  have hk2 := hk1.trans (keep_of_grown hg2)
  have hi2 := hasI_put hi1 1 (.held (.agg #[.func (.func 28) #[] #[.pointer (some ⟨W.heap.size, 0, none⟩)], .func (.func 30) #[] #[.pointer (some ⟨W.heap.size, 0, none⟩)]]))
  have b2 := (h1a.keep hk2 (by simp <;> omega)).cell 0
  simp only [List.getElem?_cons_zero] at b2
  clear r0 r1 hm1 hg2 hi1
  go_wp2_with fail
  refine (through_p _ _ _ _ w2).mono ?_
  rintro e v2 ⟨f1, a1, c1, f2, a2, c2, rfl, hkt⟩
  have hmt := ownMap_keep hm2 hkt
  have hkk := hk2.trans hkt.nil
  clear hm2 hk2 b2
  go_wp2_with (at_mapUpdate; refine wpList_mapUpdate_own _ rfl _ _ _ 51 rfl 3 49 K Tryz.underlying51 encR (W.heap.size + 1 + 1 + 1) 2 _ rfl hmt (by unfold maxLen; omega) _ _ _ rfl rfl (key_i64 (by omega)) _ [] (encR_f _ _ _ _ _ _) ?_)
  intro w3 hm3 hg
  have hk3 := hkk.trans (keep_of_grown hg)
  have hi3 := hasI_put hi2 3 (.held (.agg #[.func f1 a1 c1, .func f2 a2 c2]))
  have b3 := (h1a.keep hk3 (by simp <;> omega)).cell 0
  simp only [List.getElem?_cons_zero] at b3
  clear hmt hkk hg hi2
  go_wp2
  go_ret
  exact ⟨_, _, _, rfl, hk3a.after hk3 (by simp <;> omega), hm3, hi3, by omega⟩
end Go.Proofs.YtcpimhefclfbaaaGreatDoor
