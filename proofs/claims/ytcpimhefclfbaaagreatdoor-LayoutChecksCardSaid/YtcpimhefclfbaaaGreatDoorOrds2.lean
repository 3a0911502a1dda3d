/-
  Regions whose order is open: each operation is shown once: the law.
-/
import Derived.Test.YtcpimhefclfbaaaGreatDoorOrds
namespace Go.Proofs.YtcpimhefclfbaaaGreatDoor
open Go Go.RowKit
set_option linter.unusedVariables false
set_option linter.unusedSimpArgs false

section
variable {P : Program} {ops : Array Oper} {M : List Nat} {w0 : World} {C : Nat → World → Prop} {Ts : List Slot} {n : Nat}

/-- What ordsB tells. -/
structure OrdOk (ops : Array Oper) (Ts : List Slot) (n : Nat) : Prop where
  len : Ts.length = n
  some_ : ∀ j, j < n → ∃ o, ops[j]? = some o
  back : ∀ j o, j < n → ops[j]? = some o → ∀ k ∈ depsOf o, k < j
  reads : ∀ j k o ok d, j < n → k < n → ops[j]? = some o → ops[k]? = some ok → ok.dst = some d → d ∈ o.looksAt ops → k ∈ depsOf o
  own : ∀ j k o ok d, j < n → k < n → ops[j]? = some o → ops[k]? = some ok → o.dst = some d → ok.dst = some d → k = j
  chain : ∀ j k o, j < n → k < j → ops[j]? = some o → chAt Ts j = true → chAt Ts k = true → k ∈ depsOf o ∨ ∃ m, k < m ∧ m < j ∧ chAt Ts m = true ∧ m ∈ depsOf o

theorem ordOk_of (hT : Ts.length = n) (h : ordsB ops (Ts.map Slot.chain) n = true) : OrdOk ops Ts n := by
  have hch : ∀ k, (Ts.map Slot.chain).getD k false = chAt Ts k := fun k => by simp [chAt]
  have hj : ∀ j, j < n → ∃ o, ops[j]? = some o ∧ (∀ k ∈ depsOf o, k < j) ∧ (∀ k, k < n → ∃ ok, ops[k]? = some ok ∧ ∀ d, ok.dst = some d → (d ∈ o.looksAt ops → k ∈ depsOf o) ∧ (k = j ∨ o.dst ≠ some d)) ∧
      (chAt Ts j = true → ∀ k, k < j → chAt Ts k = true → k ∈ depsOf o ∨ ∃ m, k < m ∧ m < j ∧ chAt Ts m = true ∧ m ∈ depsOf o) := fun j hjn => by
    have h1 := List.all_eq_true.1 h j (List.mem_range.2 hjn)
    cases ho : ops[j]? with
    | none => rw [ho] at h1; simp at h1
    | some o =>
      rw [ho] at h1
      simp only [Bool.and_eq_true, List.all_eq_true, decide_eq_true_eq, List.mem_range] at h1
      obtain ⟨⟨a1, a2⟩, a3⟩ := h1
      refine ⟨o, rfl, a1, fun k hk => ?_, fun hc k hk hck => ?_⟩
      · have b := a2 k hk
        cases hok : ops[k]? with
        | none => rw [hok] at b; simp at b
        | some ok =>
          rw [hok] at b
          refine ⟨ok, rfl, fun d hd => ?_⟩
          simp only [hd, Bool.and_eq_true, Bool.or_eq_true, Bool.not_eq_true', beq_iff_eq, bne_iff_ne, ne_eq] at b
          refine ⟨fun hm => ?_, b.2⟩
          rcases b.1 with b1 | b1
          · exact absurd (List.contains_iff_mem.2 hm) (by rw [b1]; simp)
          · exact List.contains_iff_mem.1 b1
      · rw [hch] at a3
        simp only [hc, Bool.not_true, Bool.false_or, List.all_eq_true, List.mem_range] at a3
        have b := a3 k hk
        rw [hch] at b
        simp only [hck, Bool.not_true, Bool.false_or, Bool.or_eq_true, List.any_eq_true, List.mem_range, Bool.and_eq_true, decide_eq_true_eq] at b
        rcases b with b | ⟨m, hm, ⟨b1, b2⟩, b3⟩
        · exact .inl (List.contains_iff_mem.1 b)
        · rw [hch] at b1
          exact .inr ⟨m, b2, hm, b1, List.contains_iff_mem.1 b3⟩
  refine ⟨hT, fun j h => (hj j h).imp fun o h => h.1, fun j o h ho => ?_, fun j k o ok d h hk ho hok hd hm => ?_, fun j k o ok d h hk ho hok hd hd' => ?_, fun j k o h hk ho hc hck => ?_⟩
  · obtain ⟨o', h1, h2, _⟩ := hj j h
    rw [ho] at h1; cases h1; exact h2
  · obtain ⟨o', h1, _, h3, _⟩ := hj j h
    rw [ho] at h1; cases h1
    obtain ⟨ok', g1, g2⟩ := h3 k hk
    rw [hok] at g1; cases g1
    exact (g2 d hd).1 hm
  · obtain ⟨o', h1, _, h3, _⟩ := hj j h
    rw [ho] at h1; cases h1
    obtain ⟨ok', g1, g2⟩ := h3 k hk
    rw [hok] at g1; cases g1
    exact (g2 d hd').2.resolve_right (fun hne => hne hd)
  · obtain ⟨o', h1, _, _, h4⟩ := hj j h
    rw [ho] at h1; cases h1
    exact h4 hc k hk hck

/-- A state that the values in vals have come into, of the operations that are listed. -/
structure Agree (ops : Array Oper) (n : Nat) (listed : Array Bool) (vals : Nat → Value) (a0 a : Act) : Prop where
  size : a.tmps.size = a0.tmps.size
  defers : a.defers = a0.defers
  at_ : ∀ k o d, k < n → listed.getD k false = true → ops[k]? = some o → o.dst = some d → a.tmps[d]? = if d < a0.tmps.size then some (vals k) else none
  other : ∀ d, (∀ k o, k < n → listed.getD k false = true → ops[k]? = some o → o.dst ≠ some d) → a.tmps[d]? = a0.tmps[d]?

theorem exec_same {o : Oper} (hs : ∀ cs b, o.op ≠ .select cs b) {a b : Act} (h : ∀ t ∈ o.looksAt ops, a.tmps[t]? = b.tmps[t]?) : execOp a.eval o = execOp b.eval o :=
  execOp_congr o hs fun x hx => by
    cases x with
    | tmp t =>
      have := h t (List.mem_append_left _ (List.mem_filterMap.2 ⟨.tmp t, by simpa using hx, rfl⟩))
      simp only [Act.eval, Array.getD_eq_getD_getElem?, this]
    | _ => rfl
theorem wanted_same {o : Oper} {a b : Act} (h : ∀ t ∈ o.looksAt ops, a.tmps[t]? = b.tmps[t]?) : Region.wanted o (yielded ops a.tmps) = Region.wanted o (yielded ops b.tmps) := by
  unfold Region.wanted
  cases hg : o.guard with
  | none => rfl
  | some gw =>
    obtain ⟨g, want⟩ := gw
    have hy : yielded ops a.tmps g = yielded ops b.tmps g := by
      unfold yielded
      cases ht : (ops[g]?).bind (·.dst) with
      | none => rfl
      | some t =>
        simp only [Option.bind_some]
        rw [h t (by simp [Oper.looksAt, hg, ht])]
    simp only [hy]

theorem Obl.wpOp {i : Nat} {o : Oper} {a : Act} {w : World} {T : Value → World → Prop} {Q : Exit → Act → World → Prop} (hi : ops[i]? = some o) (ho : Obl P ops T o a w) {K : Act → World → Prop} (h : ∀ v w', T v w' → K (a.put o.dst v) w') : Go.wpOp P ops Q i K a w := by
  unfold Go.wpOp
  simp only [hi]
  rcases ho with ⟨hw, hd⟩ | ⟨hw, hT⟩
  · simp only [hw, if_true]
    refine .inl ?_
    unfold Oper.wp
    generalize (execOp a.eval o).run P w = r at *
    cases r with
    | ok n w' =>
      cases n <;> simp only [Does] at hd <;> simp only [Oper.upon]
      case value u => exact h _ _ hd
      case skip => exact h _ _ hd
      case enter f args => exact hd.mono fun e w'' ⟨v, he, h2⟩ => by subst he; exact h _ _ h2
    | halt x w' => cases x <;> simp only [Does] at hd
  · simp only [hw, Bool.false_eq_true, if_false]
    exact h _ _ hT
theorem Obl.of_same {o : Oper} {a b : Act} {w : World} {T : Value → World → Prop} (h : Obl P ops T o b w) (he : execOp a.eval o = execOp b.eval o) (hw : Region.wanted o (yielded ops a.tmps) = Region.wanted o (yielded ops b.tmps)) : Obl P ops T o a w := by
  unfold Obl at *
  rw [he, hw]
  exact h

theorem chain_listed (ok : OrdOk ops Ts n) {listed : Array Bool} (inv : HeadInv .any ops n listed) : ∀ i o, i < n → ops[i]? = some o → chAt Ts i = true → (∀ d ∈ depsOf o, listed.getD d false = true) → ∀ k, k < i → chAt Ts k = true → listed.getD k false = true := by
  intro i
  induction i using Nat.strongRecOn with
  | _ i ih =>
    intro o hi ho hc hd k hk hck
    rcases ok.chain i k o hi hk ho hc hck with h | ⟨m, h1, h2, h3, h4⟩
    · exact hd k h
    · obtain ⟨om, hom⟩ := ok.some_ m (by omega)
      refine ih m h2 om (by omega) hom h3 (fun d hdm => ?_) k h1 hck
      obtain ⟨e, he, hb, rfl⟩ := mem_depsOf.1 hdm
      exact inv.closed m om hom (hd m h4) e he hb

/-- Does an operation that writes come behind k? -/
def laterB (Ts : List Slot) (k : Nat) : Bool := (List.range Ts.length).any fun j => decide (k < j) && chAt Ts j
/-- What may still be written when k has come: nothing, if k is the last of those that write. -/
def lastM (Ts : List Slot) (M : List Nat) (k : Nat) : List Nat := if chAt Ts k && !laterB Ts k then [] else M
theorem laterB_of {k j : Nat} (h : k < j) (hj : j < Ts.length) (hc : chAt Ts j = true) : laterB Ts k = true := by
  unfold laterB
  simp only [List.any_eq_true, List.mem_range, Bool.and_eq_true, decide_eq_true_eq]
  exact ⟨j, hj, h, hc⟩

theorem ords_go {l : List Oper} {g : Nat} {Q : Exit → Act → World → Prop} {a0 : Act} (ok : OrdOk ops Ts n) (hops : ops = l.toArray) (hsel : Region.noSelect ops = true) (hn : n < ops.size) (hs : Region.sinkB .any ops n = true) (hc : Region.chainB .any ops n = true)
    (hlast : ∀ listed : Array Bool, HeadInv .any ops n listed → (∀ k, k < n → listed.getD k false = true) → Region.seqB .any ops g n listed = true) (hg : g = (l.drop n).length)
    (hl : ∀ k (t : Slot), Ts[k]? = some t → t.lasts (lastM Ts M k)) (hC : ∀ c w w', C c w → Keep [] w w' → C c w')
    (hO : ∀ i o t, (l.take n)[i]? = some o → Ts[i]? = some t → oblOf P ops M w0 C Ts o t (cntN (chAt Ts) i) (pre (l.take n) Ts 0 i (fun _ => a0)))
    (hR : ∀ vals w, Keep M w0 w → C (cntN (chAt Ts) n) w → KnownAll ops Ts vals w → wpList P ops Q (l.drop n) (pre (l.take n) Ts 0 n (fun _ => a0) vals) w) :
    ∀ (f : Nat) (listed : Array Bool) (a : Act) (w : World) (vals : Nat → Value), cntN (fun k => !listed.getD k false) n = f → HeadInv .any ops n listed → Keep M w0 w → C (cntN (fun k => chAt Ts k && listed.getD k false) n) w →
      (∀ k (t : Slot), k < n → listed.getD k false = true → Ts[k]? = some t → t.holds (depVals ops vals k) (vals k) w) → Agree ops n listed vals a0 a → wpAny P .any ops Q (f + g) listed a w := by
  have hget : ∀ k, k < n → (l.take n)[k]? = ops[k]? := fun k hk => by rw [hops, List.getElem?_take, if_pos hk]; simp
  have hTs : ∀ k, k < n → ∃ t, Ts[k]? = some t := fun k hk => ⟨Ts[k]'(by rw [ok.len]; exact hk), List.getElem?_eq_getElem _⟩
  -- the state in the text's order holds the same values
  have hpre : ∀ (i : Nat) (hi : i ≤ n) (vals : Nat → Value) (w : World), (∀ k (t : Slot), k < i → Ts[k]? = some t → t.put (vals k) = vals k) → ∀ d k o, k < i → ops[k]? = some o → o.dst = some d →
      (pre (l.take n) Ts 0 i (fun _ => a0) vals).tmps[d]? = if d < a0.tmps.size then some (vals k) else none := fun i hi vals w hput d k o hk ho hd => by
    obtain ⟨t, ht⟩ := hTs k (by omega)
    rw [pre_at (l.take n) Ts 0 i _ vals d k o t hk (by rw [hget k (by omega)]; exact ho) ht hd (fun m o' hm hmi ho' hd' => hm (ok.own k m o o' d (by omega) (by omega) ho (by rw [← hget m (by omega)]; exact ho') hd hd'))]
    rw [Nat.zero_add, hput k t hk ht]
  have hpre' : ∀ (i : Nat) (hi : i ≤ n) (vals : Nat → Value) (d : Tmp), (∀ k o, k < i → ops[k]? = some o → o.dst ≠ some d) → (pre (l.take n) Ts 0 i (fun _ => a0) vals).tmps[d]? = a0.tmps[d]? := fun i hi vals d h =>
    pre_other (l.take n) Ts 0 i (fun _ => a0) vals d (fun j o hj ho => h j o hj (by rw [← hget j (by omega)]; exact ho))
  intro f
  induction f with
  | zero =>
    intro listed a w vals hf inv hk hCc hkn hag
    have hall : ∀ k, k < n → listed.getD k false = true := fun k hkn' => by simpa using cntN_zero hf k hkn'
    have hput : ∀ k (t : Slot), k < n → Ts[k]? = some t → t.put (vals k) = vals k := fun k t hk' ht => Slot.holds_put (hkn k t hk' (hall k hk') ht)
    have ha : a = pre (l.take n) Ts 0 n (fun _ => a0) vals := by
      obtain ⟨s1, s2⟩ := pre_size (l.take n) Ts 0 n (fun _ => a0) vals
      have ht : a.tmps = (pre (l.take n) Ts 0 n (fun _ => a0) vals).tmps := by
        apply Array.ext_getElem?
        intro d
        by_cases hd : ∃ k o, k < n ∧ ops[k]? = some o ∧ o.dst = some d
        · obtain ⟨k, o, h1, h2, h3⟩ := hd
          rw [hag.at_ k o d h1 (hall k h1) h2 h3, hpre n (Nat.le_refl _) vals w hput d k o h1 h2 h3]
        · have hd' : ∀ k o, k < n → ops[k]? = some o → o.dst ≠ some d := fun k o h1 h2 h3 => hd ⟨k, o, h1, h2, h3⟩
          rw [hag.other d (fun k o h1 _ h2 => hd' k o h1 h2), hpre' n (Nat.le_refl _) vals d hd']
      have hd : a.defers = (pre (l.take n) Ts 0 n (fun _ => a0) vals).defers := hag.defers.trans s2.symm
      cases a
      cases hp : pre (l.take n) Ts 0 n (fun _ => a0) vals
      rw [hp] at ht hd
      simp only [Act.mk.injEq]
      exact ⟨ht, hd⟩
    rw [Nat.zero_add, hg]
    refine wpAny_of_seq (l.drop n) n listed a w (fun j => by rw [hops]; simp) ?_ ?_
    · rw [← hg]; exact hlast listed inv hall
    · rw [ha]
      refine hR vals w hk ?_ (fun k t ht => hkn k t (by rw [← ok.len]; exact (List.getElem?_eq_some_iff.1 ht).1) (hall k (by rw [← ok.len]; exact (List.getElem?_eq_some_iff.1 ht).1)) ht)
      have : cntN (fun k => chAt Ts k && listed.getD k false) n = cntN (chAt Ts) n := cntN_congr fun k hk => by rw [hall k hk, Bool.and_true]
      rwa [this] at hCc
  | succ f ih =>
    intro listed a w vals hf inv hk hCc hkn hag
    rw [show f + 1 + g = (f + g) + 1 by omega]
    obtain ⟨i0, hi0, hu0, hb0⟩ := cntN_some (p := fun k => !listed.getD k false) (n := n) (by omega)
    have hu0' : listed.getD i0 false = false := by simpa using hu0
    have hun0 : listed.getD i0 true = false := getD_in (by rw [inv.size]; omega) hu0'
    have hready0 : i0 ∈ Region.ready .any ops listed := by
      obtain ⟨o, ho⟩ := ok.some_ i0 hi0
      refine mem_ready.2 ⟨hun0, o, ho, fun e he hb => ?_⟩
      have := ok.back i0 o hi0 ho e.on (mem_depsOf.2 ⟨e, he, hb, rfl⟩)
      simpa using hb0 e.on this
    refine ⟨fun h => absurd hready0 (by rw [h]; simp), fun i hir => ?_⟩
    have hin : i < n := by
      rcases Nat.lt_or_ge i n with h | h
      · exact h
      · exact absurd hir (tail_waits hs hc hn inv _ i0 rfl hi0 hun0 i h)
    obtain ⟨hun, oi, hoi, hdep⟩ := mem_ready.1 hir
    have hdep' : ∀ d ∈ depsOf oi, listed.getD d false = true := fun d hd => by
      obtain ⟨e, he, hb, rfl⟩ := mem_depsOf.1 hd
      exact hdep e he hb
    have hunf : listed.getD i false = false := getD_both hun
    obtain ⟨ti, hti⟩ := hTs i hin
    have hbk := ok.back i oi hin hoi
    -- the state as the text's order would have it, for what i reads
    have hlook : ∀ t ∈ oi.looksAt ops, a.tmps[t]? = (pre (l.take n) Ts 0 i (fun _ => a0) (fun k => if listed.getD k false then vals k else (match (Ts[k]?) with | some t => t.put (vals k) | none => vals k))).tmps[t]? := fun t ht => by
      by_cases hd : ∃ k o, k < n ∧ ops[k]? = some o ∧ o.dst = some t
      · obtain ⟨k, o, h1, h2, h3⟩ := hd
        have hkd := ok.reads i k oi o t hin h1 hoi h2 h3 ht
        have hkl := hdep' k hkd
        rw [hag.at_ k o t h1 hkl h2 h3, hpre i (by omega) _ w ?_ t k o (hbk k hkd) h2 h3]
        · simp only [hkl, if_true]
        · intro k' t' hk' ht'
          by_cases hl' : listed.getD k' false = true
          · simp only [hl', if_true]
            exact Slot.holds_put (hkn k' t' (by omega) hl' ht')
          · simp only [hl', Bool.false_eq_true, if_false, ht']
            cases t' <;> rfl
      · have hd' : ∀ k o, k < n → ops[k]? = some o → o.dst ≠ some t := fun k o h1 h2 h3 => hd ⟨k, o, h1, h2, h3⟩
        rw [hag.other t (fun k o h1 _ h2 => hd' k o h1 h2), hpre' i (by omega) _ t (fun k o h1 h2 => hd' k o (by omega) h2)]
    generalize hvals' : (fun k => if listed.getD k false then vals k else (match (Ts[k]?) with | some t => t.put (vals k) | none => vals k)) = vals' at hlook
    have hv' : ∀ k, listed.getD k false = true → vals' k = vals k := fun k hkl => by rw [← hvals']; simp only [hkl, if_true]
    have hknown : Known ops Ts oi vals' w := fun k hkd t ht => by
      have hkl := hdep' k hkd
      have hkn' : k < n := Nat.lt_trans (hbk k hkd) hin
      have h1 := hkn k t hkn' hkl ht
      have h2 : depVals ops vals' k = depVals ops vals k := by
        unfold depVals
        obtain ⟨o, ho⟩ := ok.some_ k hkn'
        rw [ho]
        exact List.map_congr_left fun d hd => hv' d (by
          obtain ⟨e, he, hb, rfl⟩ := mem_depsOf.1 hd
          exact inv.closed k o ho hkl e he hb)
      rw [h2, hv' k hkl]
      exact h1
    have hds : (depsOf oi).map vals' = (depsOf oi).map vals := List.map_congr_left fun d hd => hv' d (hdep' d hd)
    have hsame1 := exec_same (ops := ops) (Region.noSelect_spec hsel i oi · · hoi) hlook
    have hsame2 := wanted_same (ops := ops) hlook
    have hob := hO i oi ti (by rw [hget i hin]; exact hoi) hti
    have hcnt : chAt Ts i = true → cntN (fun k => chAt Ts k && listed.getD k false) n = cntN (chAt Ts) i := fun hch => by
      rw [cntN_cut (i := i) (n := n) (by omega) (fun k hk1 hk2 => ?_)]
      · refine cntN_congr fun k hk1 => ?_
        cases hck : chAt Ts k with
        | false => rfl
        | true => rw [chain_listed ok inv i oi hin hoi hch hdep' k hk1 hck]; rfl
      · by_cases hki : k = i
        · subst hki; rw [hunf, Bool.and_false]
        · cases hck : chAt Ts k with
          | false => rfl
          | true =>
            cases hlk : listed.getD k false with
            | false => rfl
            | true =>
              obtain ⟨o, ho⟩ := ok.some_ k hk2
              have := chain_listed ok inv k o hk2 ho hck (fun d hd => by
                obtain ⟨e, he, hb, rfl⟩ := mem_depsOf.1 hd
                exact inv.closed k o ho hlk e he hb) i (by omega) hch
              rw [hunf] at this
              cases this
    -- behind i
    have hnext : ∀ v w', Keep M w w' → (∀ k (t : Slot), k < n → listed.getD k false = true → Ts[k]? = some t → ∀ ds v, t.holds ds v w → t.holds ds v w') → C (cntN (fun k => chAt Ts k && (listed.setIfInBounds i true).getD k false) n) w' → ti.holds ((depsOf oi).map vals) v w' → wpAny P .any ops Q (f + g) (listed.setIfInBounds i true) (a.put oi.dst v) w' := fun v w' hkw hst hCw hT => by
      have hset : ∀ k, k ≠ i → (listed.setIfInBounds i true).getD k false = listed.getD k false := fun k hki => getD_set_ne false (Ne.symm hki)
      have hself : (listed.setIfInBounds i true).getD i false = true := by
        have : i < listed.size := by rw [inv.size]; omega
        simp [this]
      have hdv : ∀ k, listed.getD k false = true → k < n → depVals ops (fun k => if k = i then v else vals k) k = depVals ops vals k := fun k hkl hkn' => by
        unfold depVals
        obtain ⟨o, ho⟩ := ok.some_ k hkn'
        rw [ho]
        refine List.map_congr_left fun d hd => ?_
        have hdl : listed.getD d false = true := by
          obtain ⟨e, he, hb, rfl⟩ := mem_depsOf.1 hd
          exact inv.closed k o ho hkl e he hb
        have : d ≠ i := fun he => by rw [he, hunf] at hdl; cases hdl
        simp only [this, if_false]
      refine ih (listed.setIfInBounds i true) (a.put oi.dst v) w' (fun k => if k = i then v else vals k) ?_ (inv.set hir hin) (hk.trans hkw) hCw ?_ ?_
      · have := cntN_set (p := fun k => !(listed.setIfInBounds i true).getD k false) (q := fun k => !listed.getD k false) (i := i) (n := n) hin (by rw [hself]; rfl) (by rw [hunf]; rfl) (fun k hki => by rw [hset k hki])
        omega
      · intro k t hkn' hkl ht
        by_cases hki : k = i
        · subst hki
          rw [hti] at ht
          injection ht with ht
          subst ht
          simp only [if_true]
          have : depVals ops (fun k' => if k' = k then v else vals k') k = (depsOf oi).map vals := by
            unfold depVals
            rw [hoi]
            refine List.map_congr_left fun d hd => ?_
            have : d ≠ k := fun he => by have := hbk d hd; omega
            simp only [this, if_false]
          rw [this]
          exact hT
        · rw [hset k hki] at hkl
          rw [hdv k hkl hkn']
          simp only [hki, if_false]
          exact hst k t hkn' hkl ht _ _ (hkn k t hkn' hkl ht)
      · refine ⟨(put_size _ _ _).trans hag.size, (put_defers _ _ _).trans hag.defers, fun k o d hkn' hkl ho hd => ?_, fun d hd => ?_⟩
        · by_cases hki : k = i
          · subst hki
            rw [hoi] at ho
            injection ho with ho
            subst ho
            rw [hd, put_same, hag.size]
            simp only [if_true]
          · rw [hset k hki] at hkl
            rw [put_other (fun he => hki (ok.own i k oi o d hin hkn' hoi ho he hd)), hag.at_ k o d hkn' hkl ho hd]
            simp only [hki, if_false]
        · rw [put_other (hd i oi hin hself hoi)]
          refine hag.other d fun k o hkn' hkl ho => ?_
          by_cases hki : k = i
          · subst hki; rw [hunf] at hkl; cases hkl
          · exact hd k o hkn' (by rw [hset k hki]; exact hkl) ho
    have hcs : ∀ b, chAt Ts i = b → cntN (fun k => chAt Ts k && (listed.setIfInBounds i true).getD k false) n = cntN (fun k => chAt Ts k && listed.getD k false) n + if b then 1 else 0 := fun b hb => by
      cases b with
      | false =>
        refine (cntN_congr fun k hk => ?_).trans (Nat.add_zero _).symm
        by_cases hki : k = i
        · subst hki; rw [hb]; rfl
        · rw [getD_set_ne false (Ne.symm hki)]
      | true =>
        refine cntN_set (i := i) hin (by rw [hunf, Bool.and_false]) ?_ (fun k hki => by rw [getD_set_ne false (Ne.symm hki)])
        have : i < listed.size := by rw [inv.size]; omega
        simp [hb, this]
    have hchi : chAt Ts i = ti.chain := by unfold chAt; rw [hti]; rfl
    unfold oblOf at hob
    cases hch : ti.chain with
    | false =>
      rw [hch] at hob
      have h1 := (hob vals' w hk hknown).of_same hsame1 hsame2
      refine h1.wpOp hoi fun v w' ⟨h2, h3⟩ => hnext v w' h2.nil (fun k t _ _ ht ds v hh => Slot.holds_keep (hl k t ht) hh h2.nil) ?_ (by rw [← hds]; exact h3)
      rw [hcs false (by rw [hchi, hch])]
      exact hC _ _ _ hCc h2
    | true =>
      rw [hch] at hob
      have h1 := (hob vals' w hk (by rw [← hcnt (by rw [hchi, hch])]; exact hCc) hknown).of_same hsame1 hsame2
      refine h1.wpOp hoi fun v w' ⟨⟨h2, h2'⟩, h3⟩ => hnext v w' h2 (fun k t hkn' hkl ht ds v hh => ?_) ?_ (by rw [← hds]; exact h3)
      · refine Slot.holds_keep (hl k t ht) hh ?_
        have hM : lastM Ts M k = M := by
          unfold lastM
          cases hck : chAt Ts k with
          | false => rfl
          | true =>
            have hik : k < i := by
              rcases Nat.lt_trichotomy i k with h | h | h
              · obtain ⟨o, ho⟩ := ok.some_ k hkn'
                have := chain_listed ok inv k o hkn' ho hck (fun d hd => by
                  obtain ⟨e, he, hb, rfl⟩ := mem_depsOf.1 hd
                  exact inv.closed k o ho hkl e he hb) i h (by rw [hchi, hch])
                rw [hunf] at this
                cases this
              · subst h; rw [hunf] at hkl; cases hkl
              · exact h
            rw [laterB_of hik (by rw [ok.len]; exact hin) (by rw [hchi, hch])]
            rfl
        rw [hM]
        exact h2
      rw [hcs true (by rw [hchi, hch]), hcnt (by rw [hchi, hch])]
      exact h2'
end
end Go.Proofs.YtcpimhefclfbaaaGreatDoor
