/-
  The walks of layer 9's functions: which cells may be encoded.
  The walks of layer 9's functions: a value as bytes.
  The walks of layer 9's functions: Encode.
  The walks of the reference's layer 9: Encode.
-/
import Derived.Lib.AppendStr
import Derived.OrdersHeld
import Derived.Deep.RegionHeld
import Derived.Test.YtcpimhefclfbaaaFCe
import Derived.Test.YtcpimhefclfbaaaFZl
namespace Go.Proofs.Ytcpimhefclfbaaa
open Go Go.RowKit
set_option maxRecDepth 10000
set_option linter.unusedVariables false
set_option linter.unusedSimpArgs false

/-- May cells be encoded? -/
def rightL (typ : Int) (l : List Cell) : Bool := known typ && decide (l.length ≤ 65536) && l.all (rightC typ false)
/-- The place of the first that is not right, or -1. -/
def firstBad (typ : Int) : List Cell → Int
  | [] => -1
  | c :: l => if rightC typ false c = false then 0 else if firstBad typ l < 0 then -1 else firstBad typ l + 1
theorem firstBad_none {typ : Int} : ∀ (l : List Cell), (∀ c ∈ l, rightC typ false c = true) → firstBad typ l = -1
  | [], _ => rfl
  | c :: l, h => by
    rw [firstBad, if_neg (by simp [h c (by simp)]), firstBad_none l (fun d hd => h d (by simp [hd]))]
    rfl
theorem firstBad_at {typ : Int} : ∀ (l : List Cell) (k : Nat) (hk : k < l.length), (∀ c ∈ l.take k, rightC typ false c = true) → rightC typ false l[k] = false → firstBad typ l = k
  | [], _, hk, _, _ => absurd hk (by simp)
  | c :: l, 0, _, _, h => by
    have h : rightC typ false c = false := h
    rw [firstBad, if_pos h]
    rfl
  | c :: l, k + 1, hk, hn, h => by
    have ih := firstBad_at l k (by simpa using hk) (fun d hd => hn d (by simp [hd])) (by simpa using h)
    rw [firstBad, if_neg (by simp [hn c (by simp)]), ih]
    simp
    omega
theorem firstBad_all {typ : Int} : ∀ (l : List Cell), decide (0 ≤ firstBad typ l) = !(l.all (rightC typ false))
  | [] => rfl
  | c :: l => by
    have ih := firstBad_all (typ := typ) l
    rw [firstBad, List.all_cons]
    cases h : rightC typ false c with
    | false => rw [if_pos rfl]; rfl
    | true =>
      rw [if_neg (by simp), Bool.true_and, ← ih]
      by_cases h0 : firstBad typ l < 0
      · rw [if_pos h0, decide_eq_false (by omega), decide_eq_false (by omega)]
      · rw [if_neg h0, decide_eq_true (by omega), decide_eq_true (by omega)]

/-- The column that a closure holds. -/
abbrev colBlk (W : World) (B : Nat) (typ : Int) : Prop := Blk W B 56 [.string { data := #[] }, .int .i64 typ, .bool false]

set_option maxHeartbeats 400000 in
theorem notRight_prog (typ : Int) (c : Cell) (B : Nat) (W : World) (hB : colBlk W B typ) :
    Calls Try.prog 85 #[cellVal c, .pointer (some ⟨B, 0, none⟩)] W fun e W' => e = .returned (.bool (!rightC typ false c)) ∧ Keep [] W W' := by
  have hB2 := hB.alloc (.cells #[.bool c.null, .int .i64 c.int.toInt, .string c.text, .int .i64 c.x.toInt, .int .i64 c.y.toInt] 50)
  have h0 := hB2.cell 0
  have h1 := hB2.cell 1
  have h2 := hB2.cell 2
  simp only [List.getElem?_cons_zero, List.getElem?_cons_succ] at h0 h1 h2
  have C := fun w => cellRight_prog c { data := #[] } typ false w
  generalize rightC typ false c = r at *
  go_enter Try.func85, Try.ntmps85
  go_wp2_with fail
  refine (C _).mono ?_
  rintro e w1 ⟨rfl, hk1⟩
  go_wp2
  go_ret
  exact ⟨rfl, ((Keep.refl _ _).alloc _).trans hk1⟩

set_option maxHeartbeats 1000000 in
theorem indexBad_prog {X : List Nat} {A : Option Addr} {n c : Nat} {l : List Cell} (typ : Int) (B : Nat) (W : World) (h : Cells X W A n c l) (hB : colBlk W B typ) :
    Calls Try.prog 105 #[.slice A n c, .func (.func 85) #[] #[.pointer (some ⟨B, 0, none⟩)]] W fun e W' => e = .returned (.int .i64 (firstBad typ l)) ∧ Keep [] W W' := by
  have hn := h.len
  have hc := h.cap
  have hnc := h.le
  obtain rfl := hn
  go_enter Try.func105, Try.ntmps105
  go_wp2
  go_loopw [8] (fun i wr => ∃ k : Nat, k ≤ l.length ∧ i = .int .i64 k ∧ Hid (∀ c ∈ l.take k, rightC typ false c = true) ∧ Keep [] W wr) (fun i _ => l.length - (intOf i).toNat)
  case atStart => exact ⟨0, by omega, rfl, by simp [Hid], Keep.refl _ _⟩
  case round =>
    obtain ⟨k, hk, rfl, HN, hkeep⟩ := hrel
    by_cases hlt : k < l.length
    · obtain ⟨b, off, rfl, _, _, hc0, hc1, hc2, hc3, hc4⟩ := Cells.at5 (h.pure hkeep) hlt
      have hnl := Lib.hid (firstBad_at (typ := typ) l k hlt HN.out)
      have HN2 : Hid (rightC typ false l[k] = true → ∀ c ∈ l.take (k + 1), rightC typ false c = true) := by
        intro h c hc
        rw [List.take_succ_eq_append_getElem hlt, List.mem_append] at hc
        rcases hc with hc | hc
        · exact HN.out c hc
        · simp at hc; subst hc; exact h
      generalize l[k] = x at *
      have C := notRight_prog typ x B wr (hB.keep hkeep (by simp))
      go_wp2_with fail
      refine C.mono ?_
      rintro e w1 ⟨rfl, hk1⟩
      cases hx : rightC typ false x with
      | false =>
        have hnl2 := Lib.hid (hnl.out hx)
        clear hx C
        go_wp2
        go_ret
        exact ⟨ret_i hnl2.out.symm, hkeep.trans hk1⟩
      | true =>
        have HN3 := Lib.hid (HN2.out hx)
        clear hx C
        go_wp2
        go_roundw
        case rel => exact ⟨k + 1, by omega, by go_num, HN3, hkeep.trans hk1⟩
        case measure => simp [intOf]; omega
    · have hnl := Lib.hid (firstBad_none (typ := typ) l (by have := HN.out; rwa [List.take_of_length_le (by omega)] at this))
      go_wp2
      go_ret
      exact ⟨ret_i hnl.out.symm, hkeep⟩

set_option maxHeartbeats 400000 in
theorem containsBad_prog {X : List Nat} {A : Option Addr} {n c : Nat} {l : List Cell} (typ : Int) (B : Nat) (W : World) (h : Cells X W A n c l) (hB : colBlk W B typ) :
    Calls Try.prog 84 #[.slice A n c, .func (.func 85) #[] #[.pointer (some ⟨B, 0, none⟩)]] W fun e W' => e = .returned (.bool (!(l.all (rightC typ false)))) ∧ Keep [] W W' := by
  have C := indexBad_prog typ B W h hB
  have hf := firstBad_all (typ := typ) l
  generalize hv : (!(l.all (rightC typ false))) = v at *
  generalize firstBad typ l = z at *
  replace hf := Lib.hid hf
  replace hv := Lib.hid hv
  go_enter Try.func84, Try.ntmps84
  go_wp2_with fail
  refine C.mono ?_
  rintro e w1 ⟨rfl, hk1⟩
  go_wp2
  go_ret
  exact ⟨ret_b hf.out, hk1⟩

set_option maxHeartbeats 1000000 in
theorem rightL_prog {X : List Nat} {A : Option Addr} {n c : Nat} {l : List Cell} (typ : Int) (W : World) (h : Cells X W A n c l) :
    Calls Try.prog 66 #[.int .i64 typ, .slice A n c] W fun e W' => e = .returned (.bool (rightL typ l)) ∧ Keep [] W W' := by
  obtain ⟨v, hv⟩ : ∃ v, Hid (rightL typ l = v) := ⟨_, rfl⟩
  rw [hv.out]
  have hk0 : Keep [] W (W.alloc (.cells #[.string { data := #[] }, .int .i64 typ, .bool false] 56)) := (Keep.refl _ _).alloc _
  have hB : colBlk (W.alloc (.cells #[.string { data := #[] }, .int .i64 typ, .bool false] 56)) W.heap.size typ := Blk.new W 56 _
  have C := containsBad_prog typ W.heap.size _ (h.pure hk0) hB
  have hc := h.cap
  have hnc := h.le
  obtain rfl := h.len
  replace C := Lib.hid C
  by_cases h0 : 0 ≤ typ
  · by_cases h3 : typ ≤ 3
    · by_cases hl : l.length ≤ 65536
      · have hv' : Hid (v = !(!(l.all (rightC typ false)))) := by
          rw [Hid, ← hv.out, rightL, known, decide_eq_true h0, decide_eq_true (show typ < 4 by omega), decide_eq_true hl]; simp
        generalize (!(l.all (rightC typ false))) = z at *
        go_enter Try.func66, Try.ntmps66
        go_wp2_with fail
        refine C.out.mono ?_
        rintro e w1 ⟨rfl, hk1⟩
        go_wp2
        go_ret
        exact ⟨ret_b (by rw [hv'.out]), hk0.trans hk1⟩
      · have hv' : Hid (v = false) := by rw [Hid, ← hv.out, rightL, decide_eq_false hl]; simp
        clear C
        go_enter Try.func66, Try.ntmps66
        go_wp2
        go_ret
        exact ⟨ret_b (by rw [hv'.out]), hk0⟩
    · have hv' : Hid (v = false) := by rw [Hid, ← hv.out, rightL, known, decide_eq_false (show ¬ typ < 4 by omega)]; simp
      clear C
      go_enter Try.func66, Try.ntmps66
      go_wp2
      go_ret
      exact ⟨ret_b (by rw [hv'.out]), hk0⟩
  · have hv' : Hid (v = false) := by rw [Hid, ← hv.out, rightL, known, decide_eq_false h0]; simp
    clear C
    go_enter Try.func66, Try.ntmps66
    go_wp2
    go_ret
    exact ⟨ret_b (by rw [hv'.out]), hk0⟩

set_option maxHeartbeats 1000000 in
theorem fine_ref {X : List Nat} {A : Option Addr} {n c : Nat} {l : List Cell} (typ : Int) (W : World) (h : Cells X W A n c l) :
    Calls Try.prog 71 #[.int .i64 typ, .slice A n c] W fun e W' => e = .returned (.bool (rightL typ l)) ∧ Keep [] W W' := by
  obtain ⟨v, hv⟩ : ∃ v, Hid (rightL typ l = v) := ⟨_, rfl⟩
  rw [hv.out]
  have hc := h.cap
  have hnc := h.le
  obtain rfl := h.len
  go_enter Try.func71, Try.ntmps71
  go_wp2
  go_loopw [5] (fun i wr => ∃ k : Nat, k ≤ l.length ∧ i = .int .i64 k ∧ Hid (∀ c ∈ l.take k, rightC typ false c = true) ∧ Keep [] W wr) (fun i _ => l.length - (intOf i).toNat)
  case atStart => exact ⟨0, by omega, rfl, by simp [Hid], Keep.refl _ _⟩
  case round =>
    obtain ⟨k, hk, rfl, HN, hkeep⟩ := hrel
    by_cases hlt : k < l.length
    · obtain ⟨b, off, rfl, _, _, hc0, hc1, hc2, hc3, hc4⟩ := Cells.at5 (h.pure hkeep) hlt
      have HN2 : Hid (rightC typ false l[k] = true → ∀ c ∈ l.take (k + 1), rightC typ false c = true) := by
        intro h c hc
        rw [List.take_succ_eq_append_getElem hlt, List.mem_append] at hc
        rcases hc with hc | hc
        · exact HN.out c hc
        · simp at hc; subst hc; exact h
      have HF : Hid (rightC typ false l[k] = false → v = false) := by
        intro hx
        rw [← hv.out, rightL]
        have : l.all (rightC typ false) = false := by
          rw [List.all_eq_false]
          exact ⟨l[k], List.getElem_mem hlt, by simp [hx]⟩
        rw [this, Bool.and_false]
      generalize l[k] = x at *
      have C := cellRight_ref x { data := #[] } typ false wr
      go_wp2_with fail
      refine C.mono ?_
      rintro e w1 ⟨rfl, hk1⟩
      cases hx : rightC typ false x with
      | false =>
        have hnl2 := Lib.hid (HF.out hx)
        clear hx C
        go_wp2
        go_ret
        exact ⟨ret_b hnl2.out.symm, hkeep.trans hk1⟩
      | true =>
        have HN3 := Lib.hid (HN2.out hx)
        clear hx C
        go_wp2
        go_roundw
        case rel => exact ⟨k + 1, by omega, by go_num, HN3, hkeep.trans hk1⟩
        case measure => simp [intOf]; omega
    · have hall : l.all (rightC typ false) = true := by
        have := HN.out
        rw [List.take_of_length_le (by omega)] at this
        exact List.all_eq_true.2 this
      have hv1 : v = (known typ && decide (l.length ≤ 65536)) := by rw [← hv.out, rightL, hall, Bool.and_true]
      clear hall
      by_cases h0 : 0 ≤ typ
      · by_cases h3 : typ ≤ 3
        · by_cases hl : l.length ≤ 65536
          · have hv' : Hid (v = true) := by
              rw [Hid, hv1, known, decide_eq_true h0, decide_eq_true (show typ < 4 by omega), decide_eq_true hl]; rfl
            clear hv1
            go_wp2
            go_ret
            exact ⟨ret_b (by rw [hv'.out]), hkeep⟩
          · have hv' : Hid (v = false) := by rw [Hid, hv1, decide_eq_false hl]; simp
            clear hv1
            go_wp2
            go_ret
            exact ⟨ret_b (by rw [hv'.out]), hkeep⟩
        · have hv' : Hid (v = false) := by rw [Hid, hv1, known, decide_eq_false (show ¬ typ < 4 by omega)]; simp
          clear hv1
          by_cases hl : l.length ≤ 65536
          all_goals
            go_wp2
            go_ret
            exact ⟨ret_b (by rw [hv'.out]), hkeep⟩
      · have hv' : Hid (v = false) := by rw [Hid, hv1, known, decide_eq_false h0]; simp
        clear hv1
        by_cases hl : l.length ≤ 65536
        all_goals
          go_wp2
          go_ret
          exact ⟨ret_b (by rw [hv'.out]), hkeep⟩
end Go.Proofs.Ytcpimhefclfbaaa

namespace Go.Proofs.Ytcpimhefclfbaaa
open Go Go.RowKit
set_option maxRecDepth 10000
set_option linter.unusedVariables false
set_option linter.unusedSimpArgs false

section
variable {P : Program} {K : Act → World → Prop} {Q : Exit → Act → World → Prop} {w : World} {a : Act} {o : Oper}
theorem wp_append_str (sl x : Operand) (t u : TypeId)
    (ho : o.op = .call { callee := .builtin .append, args := #[sl, x], argTypes := #[t, u] })
    (base : Nat) (e : TypeId) (i : TypeInfo) (ht : P.underlying t = some (.slice e)) (hu : P.underlying u = some .string) (hi : P.info? e = some i) (hz : i.zero = some (.int .u8 0))
    (hsize : i.size = 1) (hby : i.bytes = 1)
    (v : Value) (n : Nat) (xs : List Value) (hs : a.eval sl = v) (hown : w.ownsRow base e 1 v n xs) (s : ByteArray) (hx : a.eval x = .string s)
    (hbytes : n + s.size ≤ 140737488355328) (hbase : base ≤ w.heap.size)
    (h : ∀ v' w', w'.ownsRow base e 1 v' (n + s.size) (xs ++ s.data.toList.map vU8) → w.grownBy w' v.ownBlock → K (a.put o.dst v') w') : o.wp P a w K Q := by
  obtain ⟨v', w', hr, h2, h3, h4⟩ := Lib.run_append_own_string (P := P) w base t u o.type e i ht hu hi hz hsize hby v n xs hown s (by unfold maxLen; omega) hbytes hbase
  unfold Oper.wp execOp
  simp only [ho, resolve, invoke, builtin, Sem.run_bind, Sem.run_pure, Result.andThen_ok, List.map_toArray, List.map_cons, List.map_nil, hs, hx, hr]
  exact h v' w' h2 h3
end

/-- A whole number as one of 64 bits. -/
def uN (x : Int) : Nat := (x % 18446744073709551616).toNat
theorem uN_lt (x : Int) : uN x < 2 ^ 64 := by
  show uN x < 18446744073709551616
  unfold uN
  have := Int.emod_nonneg x (show (18446744073709551616 : Int) ≠ 0 by decide)
  have := Int.emod_lt_of_pos x (show (0 : Int) < 18446744073709551616 by decide)
  omega
theorem wrap_uN (x : Int) : IntKind.u64.wrap x = (uN x : Int) := by
  unfold uN
  have := Int.emod_nonneg x (show (18446744073709551616 : Int) ≠ 0 by decide)
  simp [IntKind.wrap, IntKind.bits, IntKind.signed]
  omega
theorem conv_uN (x : Int) (h : isI64 x) : wrap64 ((uN x : Nat) : Int) = x := by
  unfold isI64 at h
  unfold uN wrap64
  have := Int.emod_nonneg x (show (18446744073709551616 : Int) ≠ 0 by decide)
  have := Int.emod_lt_of_pos x (show (0 : Int) < 18446744073709551616 by decide)
  omega

/-- A value's bytes. -/
def cellB (typ : Int) (c : Cell) : List UInt8 :=
  if typ = 0 then lowB (uN c.int.toInt) else if typ = 3 then putB (zigN c.x.toInt) ++ putB (zigN c.y.toInt) else putB c.text.size ++ c.text.data.toList

set_option maxHeartbeats 1000000 in
theorem putC_prog {X : List Nat} {A : Option Addr} {m d : Nat} {l : List UInt8} (typ : Int) (c : Cell) (W : World) (h : Bys X W A m d l) (hroom : m ≤ 1000000000000) (ht : c.text.size ≤ 65536) :
    Calls Try.prog 68 #[.slice A m d, .int .i64 typ, cellVal c] W fun e W' => ∃ B k d', e = .returned (.slice B k d') ∧ Keep [] W W' ∧ W'.ownsRow W.heap.size 5 1 (.slice B k d') k ((l ++ cellB typ c).map vU8) := by
  obtain ⟨v, hv⟩ : ∃ v, Hid (cellB typ c = v) := ⟨_, rfl⟩
  rw [hv.out]
  obtain ⟨W2, hW2⟩ : ∃ W2, W.alloc (.cells #[.bool c.null, .int .i64 c.int.toInt, .string c.text, .int .i64 c.x.toInt, .int .i64 c.y.toInt] 50) = W2 := ⟨_, rfl⟩
  have hk2 : Keep [] W W2 := by rw [← hW2]; exact (Keep.refl _ _).alloc _
  have hb2 : Blk W2 W.heap.size 50 [.bool c.null, .int .i64 c.int.toInt, .string c.text, .int .i64 c.x.toInt, .int .i64 c.y.toInt] := by rw [← hW2]; exact Blk.new W 50 _
  have hl : ∀ w, Keep [] W2 w → w.cell? ⟨W.heap.size, 0, none⟩ = some (.bool c.null) ∧ w.cell? ⟨W.heap.size, 1, none⟩ = some (.int .i64 c.int.toInt) ∧ w.cell? ⟨W.heap.size, 2, none⟩ = some (.string c.text) ∧ w.cell? ⟨W.heap.size, 3, none⟩ = some (.int .i64 c.x.toInt) ∧ w.cell? ⟨W.heap.size, 4, none⟩ = some (.int .i64 c.y.toInt) := fun w hS =>
    have h := hb2.keep hS (by simp)
    ⟨h.cell 0, h.cell 1, h.cell 2, h.cell 3, h.cell 4⟩
  have h2 := h.pure hk2
  have hsz : W.heap.size ≤ W2.heap.size := hk2.size
  have hown0 : ∀ {w3 : World} {B : Option Addr} {k d3 : Nat} {xs : List Value}, w3.ownsRow W2.heap.size 5 1 (.slice B k d3) k xs → w3.ownsRow W.heap.size 5 1 (.slice B k d3) k xs := fun h => own_lower h hsz
  replace hown0 := @hown0
  obtain ⟨b1, b2, b3, b4, b5⟩ := hl W2 (Keep.refl _ _)
  by_cases h0 : typ = 0
  · have hv' : Hid (v = lowB (uN c.int.toInt)) := by rw [Hid, ← hv.out, cellB, if_pos h0]
    subst h0
    have C := u64_put (uN c.int.toInt) W2 h2 (uN_lt _) (by omega)
    rw [← wrap_uN] at C
    replace C := Lib.hid C
    go_enter Try.func68, Try.ntmps68
    go_wp2_with fail
    refine C.out.mono ?_
    rintro e w3 ⟨B, k, d3, rfl, hk3, hown⟩
    go_wp2
    go_ret
    exact ⟨_, _, _, rfl, hk2.trans hk3, by rw [hv'.out]; exact hown0 hown⟩
  by_cases h3 : typ = 3
  · have hv' : Hid (v = putB (zigN c.x.toInt) ++ putB (zigN c.y.toInt)) := by rw [Hid, ← hv.out, cellB, if_neg h0, if_pos h3]
    clear h0
    subst h3
    have zx : isI64 c.x.toInt := ⟨i64_lo _, i64_hi _⟩
    have zy : isI64 c.y.toInt := ⟨i64_lo _, i64_hi _⟩
    have C1 := fun w => zig_prog c.x.toInt w zx
    have C2 := fun w => zig_prog c.y.toInt w zy
    have C3 := put_prog (zigN c.x.toInt) W2 h2 (zig_lt zx) (by omega)
    have l1 := putB_len (zigN c.x.toInt)
    have hlen := h.len1
    replace C1 := Lib.hid C1
    replace C2 := Lib.hid C2
    replace C3 := Lib.hid C3
    replace l1 := Lib.hid l1
    replace hlen := Lib.hid hlen
    go_enter Try.func68, Try.ntmps68
    go_wp2_with fail
    refine (C1.out _).mono ?_
    rintro e w3 ⟨rfl, rfl⟩
    go_wp2_with fail
    refine C3.out.mono ?_
    rintro e w3 ⟨B, k, d3, rfl, hk3, hown⟩
    obtain ⟨d1, d2, d3', d4, d5⟩ := hl w3 hk3
    have hr3 : Bys [] w3 B k d3 (l ++ putB (zigN c.x.toInt)) := rd_of_own hown (by simp)
    have hk : k ≤ 1000000000010 := by have e1 := hr3.len1; have e2 := l1.out; have e3 := hlen.out; rw [List.length_append] at e1; omega
    have C4 := Lib.hid (put_prog (zigN c.y.toInt) w3 hr3 (zig_lt zy) (by omega))
    go_wp2_with fail
    refine (C2.out _).mono ?_
    rintro e w4 ⟨rfl, rfl⟩
    go_wp2_with fail
    refine C4.out.mono ?_
    rintro e w4 ⟨B4, k4, d4', rfl, hk4, hown4⟩
    go_wp2
    go_ret
    refine ⟨_, _, _, rfl, (hk2.trans hk3).trans hk4, ?_⟩
    rw [hv'.out, ← List.append_assoc]
    exact own_lower hown4 (hk2.trans hk3).size
  · have hv' : Hid (v = putB c.text.size ++ c.text.data.toList) := by rw [Hid, ← hv.out, cellB, if_neg h0, if_neg h3]
    obtain ⟨i0, hi, hz0, hz1, hz2⟩ := info_parts Try.infoU8
    have l1 := putB_len c.text.size
    have hlen := h.len1
    have C := put_prog c.text.size W2.drew h2.drew (by omega) (by omega)
    have hwr : IntKind.u64.wrap (c.text.size : Int) = c.text.size := IntWalk.u64_in _ (by omega)
    replace C := Lib.hid C
    replace l1 := Lib.hid l1
    replace hlen := Lib.hid hlen
    go_enter Try.func68, Try.ntmps68
    go_wp2
    refine wp_region_held_drew (S := fun w => Keep [] W2 w) (by kernel_rfl) ((Keep.refl _ _).drew) (fun hS => ?_)
    refine wpAnyH_take (i := 0) (v := .slice A m d) rfl (by kernel_rfl) (by kernel_rfl) (by kernel_rfl) (fun _ _ _ h => h) (Or.inl ⟨by rfl, ?_⟩) hS ?_
    · intro w hSw; go_simp
    simp only [Act.put, List.setIfInBounds_toArray, List.set_cons_zero, List.set_cons_succ]
    refine wpAnyH_take (i := 1) (v := .pointer (some ⟨W.heap.size, 2, none⟩)) rfl (by kernel_rfl) (by kernel_rfl) (by kernel_rfl) (fun _ _ _ h => h) (Or.inl ⟨by rfl, ?_⟩) hS ?_
    · intro w hSw; go_simp
    simp only [Act.put, List.setIfInBounds_toArray, List.set_cons_zero, List.set_cons_succ]
    refine wpAnyH_take (i := 2) (v := .string c.text) rfl (by kernel_rfl) (by kernel_rfl) (by kernel_rfl) (fun _ _ _ h => h) (Or.inl ⟨by rfl, ?_⟩) hS ?_
    · intro w hSw
      obtain ⟨d1, d2, d3', d4, d5⟩ := hl w hSw
      go_simp
    simp only [Act.put, List.setIfInBounds_toArray, List.set_cons_zero, List.set_cons_succ]
    refine wpAnyH_take (i := 3) (v := .int .i64 c.text.size) rfl (by kernel_rfl) (by kernel_rfl) (by kernel_rfl) (fun _ _ _ h => h) (Or.inl ⟨by rfl, ?_⟩) hS ?_
    · intro w hSw; go_simp
    simp only [Act.put, List.setIfInBounds_toArray, List.set_cons_zero, List.set_cons_succ]
    refine wpAnyH_take (i := 4) (v := .int .u64 c.text.size) rfl (by kernel_rfl) (by kernel_rfl) (by kernel_rfl) (fun _ _ _ h => h) (Or.inl ⟨by rfl, ?_⟩) hS ?_
    · intro w hSw; go_simp
    simp only [Act.put, List.setIfInBounds_toArray, List.set_cons_zero, List.set_cons_succ]
    refine wpAnyH_take (i := 6) (v := .pointer (some ⟨W.heap.size, 2, none⟩)) rfl (by kernel_rfl) (by kernel_rfl) (by kernel_rfl) (fun _ _ _ h => h) (Or.inl ⟨by rfl, ?_⟩) hS ?_
    · intro w hSw; go_simp
    simp only [Act.put, List.setIfInBounds_toArray, List.set_cons_zero, List.set_cons_succ]
    refine wpAnyH_take (i := 7) (v := .string c.text) rfl (by kernel_rfl) (by kernel_rfl) (by kernel_rfl) (fun _ _ _ h => h) (Or.inl ⟨by rfl, ?_⟩) hS ?_
    · intro w hSw
      obtain ⟨d1, d2, d3', d4, d5⟩ := hl w hSw
      go_simp
    simp only [Act.put, List.setIfInBounds_toArray, List.set_cons_zero, List.set_cons_succ]
    refine wpAnyH_ready (rs := [5]) (by kernel_rfl) (by simp) ?_
    refine AllReadyH.cons rfl (fun K hK => ?_) AllReadyH.nil
    go_simp
    refine C.out.mono ?_
    rintro e w4 ⟨B4, k4, d4, rfl, hk4, hown4⟩
    have hS4 : Keep [] W2 w4 := hS.trans hk4
    refine hK _ _ hS4 (fun _ => ?_)
    clear hK K
    have hr4 : Bys [] w4 B4 k4 d4 (l ++ putB c.text.size) := rd_of_own hown4 (by simp)
    have hk : k4 ≤ 1000000000010 := by have e1 := hr4.len1; have e2 := l1.out; have e3 := hlen.out; rw [List.length_append] at e1; omega
    refine wpAnyH_ready (rs := [8]) (by kernel_rfl) (by simp) ?_
    refine AllReadyH.cons rfl (fun K hK => ?_) AllReadyH.nil
    refine wp_append_str _ _ _ _ rfl W2.heap.size 5 i0 Try.underlying28 Try.underlying9 hi hz0 hz1 hz2 (.slice B4 k4 d4) k4 _ rfl hown4 c.text rfl (by omega) hS4.size ?_
    intro v' w5 hown5 hgr
    have hS5 : Keep [] W2 w5 := hS4.grown hgr (fun g hg => .inr (own_ge hown4 g hg))
    obtain ⟨B5, d5, rfl⟩ := own_form hown5
    refine hK _ _ hS5 (fun _ => ?_)
    clear hK K
    simp only [Act.put, List.setIfInBounds_toArray, List.set_cons_zero, List.set_cons_succ]
    refine wpAnyH_ready (rs := [9]) (by kernel_rfl) (by simp) ?_
    refine AllReadyH.cons rfl (fun K hK => ?_) AllReadyH.nil
    go_simp
    refine hK _ _ hS5 (fun _ => ?_)
    clear hK K
    refine wpAnyH_done (by kernel_rfl) ?_ _
    go_wp2
    go_ret
    refine ⟨_, _, _, rfl, hk2.trans hS5, ?_⟩
    rw [hv'.out, ← List.append_assoc, List.map_append]
    exact own_lower hown5 hsz
end Go.Proofs.Ytcpimhefclfbaaa

namespace Go.Proofs.Ytcpimhefclfbaaa
open Go Go.RowKit
set_option maxRecDepth 10000
set_option linter.unusedVariables false
set_option linter.unusedSimpArgs false

/-- A bool's number. -/
def bitU (c : Cell) : UInt64 := UInt64.ofNat (uN c.int.toInt)
theorem bitU_nat (c : Cell) : (bitU c).toNat = uN c.int.toInt := by
  have := uN_lt c.int.toInt
  unfold bitU
  rw [UInt64.toNat_ofNat']
  exact Nat.mod_eq_of_lt this
/-- The bytes of values. -/
def encB (typ : Int) (l : List Cell) : List UInt8 := if rightL typ l then (if typ = 1 then packB (l.map bitU) 1 else l.flatMap (cellB typ)) else []
theorem rightL_mem {typ : Int} {l : List Cell} (h : rightL typ l = true) : known typ = true ∧ l.length ≤ 65536 ∧ ∀ c ∈ l, rightC typ false c = true := by
  simp only [rightL, Bool.and_eq_true, decide_eq_true_eq, List.all_eq_true] at h
  exact ⟨h.1.1, h.1.2, h.2⟩
theorem rightC_text {typ : Int} {nl : Bool} {c : Cell} (h : rightC typ nl c = true) : c.text.size ≤ 65536 := by
  unfold rightC at h
  split at h
  · simp only [Bool.and_eq_true, decide_eq_true_eq] at h
    rw [h.1]; decide
  · simp only [Bool.and_eq_true, decide_eq_true_eq] at h
    exact h.1.1.2
theorem rightC_bit {c : Cell} (h : rightC 1 false c = true) : c.int.toInt = 0 ∨ c.int.toInt = 1 := by
  have hn := (rightC_known h).2
  rw [rightC_1 hn] at h
  simp only [Bool.and_eq_true, Bool.or_eq_true, decide_eq_true_eq] at h
  exact h.2
theorem bits_ok {l : List Cell} (h : rightL 1 l = true) : packOk (l.map bitU) 1 = true := by
  obtain ⟨_, hl, hc⟩ := rightL_mem h
  refine decide_eq_true ⟨by omega, by omega, by simpa using hl, ?_⟩
  have : width (l.map bitU) ≤ 1 := (width_le_iff _ 1).2 fun x hx => by
    obtain ⟨c, hcl, rfl⟩ := List.mem_map.1 hx
    rw [bitU_nat, uN]
    rcases rightC_bit (hc c hcl) with h0 | h0 <;> rw [h0] <;> decide
  omega
theorem cellB_len (typ : Int) (c : Cell) (h : c.text.size ≤ 65536) : (cellB typ c).length ≤ 65546 := by
  unfold cellB
  have h1 := putB_len (zigN c.x.toInt)
  have h2 := putB_len (zigN c.y.toInt)
  have h3 := putB_len c.text.size
  split
  · rw [lowB, lowF_len]; omega
  · split
    · rw [List.length_append]; omega
    · rw [List.length_append]
      have : c.text.data.toList.length = c.text.size := Array.length_toList
      omega
theorem cellsB_len (typ : Int) : ∀ (l : List Cell), (∀ c ∈ l, c.text.size ≤ 65536) → (l.flatMap (cellB typ)).length ≤ 65546 * l.length
  | [], _ => by simp
  | c :: l, h => by
    rw [List.flatMap_cons, List.length_append, List.length_cons]
    have h1 := cellB_len typ c (h c (by simp))
    have h2 := cellsB_len typ l (fun d hd => h d (by simp [hd]))
    omega
theorem fill_step {α β : Type} (f : α → β) (z : β) (l : List α) (k : Nat) (hk : k < l.length) : (l.take (k + 1)).map f ++ List.replicate (l.length - (k + 1)) z = ((l.take k).map f ++ List.replicate (l.length - k) z).set k (f l[k]) := by
  have hl : ((l.take k).map f).length = k := by simp; omega
  rw [List.set_append_right _ _ (by omega), hl, Nat.sub_self, List.take_succ_eq_append_getElem hk, List.map_append]
  rw [show l.length - k = (l.length - (k + 1)) + 1 from by omega, List.replicate_succ, List.set_cons_zero, List.append_assoc]
  rfl

set_option maxHeartbeats 2000000 in
theorem encode_prog {X : List Nat} {A : Option Addr} {n c : Nat} {l : List Cell} (typ : Int) (W : World) (h : Cells X W A n c l) :
    Calls Try.prog 48 #[.int .i64 typ, .slice A n c] W fun e W' => ∃ B m d, e = .returned (.tuple #[.slice B m d, .bool (rightL typ l)]) ∧ Keep [] W W' ∧ NewBys W W' B m d (encB typ l) := by
  have hc := h.cap
  have hnc := h.le
  obtain rfl := h.len
  have R := rightL_prog typ W h
  cases hR : rightL typ l with
  | false =>
    rw [hR] at R
    have hv : Hid (encB typ l = []) := by rw [Hid, encB, if_neg (by simp [hR])]
    replace R := Lib.hid R
    clear hR
    go_enter Try.func48, Try.ntmps48
    go_wp2_with fail
    refine R.out.mono ?_
    rintro e w1 ⟨rfl, hk1⟩
    go_wp2
    go_ret2
    exact ⟨none, 0, 0, rfl, hk1, fun Y _ => by rw [hv.out]; exact Rd.nil_ _ _ _⟩
  | true =>
    rw [hR] at R
    obtain ⟨hkn, hll, hall⟩ := rightL_mem hR
    replace hll : l.length ≤ 65536 := hll
    replace R := Lib.hid R
    by_cases h1 : typ = 1
    · have hv : Hid (encB typ l = packB (l.map bitU) 1) := by rw [Hid, encB, if_pos hR, if_pos h1]
      subst h1
      have hok := Lib.hid (bits_ok hR)
      obtain ⟨j0, gi, gz0, gz1, gz2⟩ := info_parts Try.infoU64
      clear hR hkn hall
      go_enter Try.func48, Try.ntmps48
      go_wp2_with fail
      refine R.out.mono ?_
      rintro e w1 ⟨rfl, hk1⟩
      go_wp2_with (at_make; refine wpList_make_full _ rfl _ _ 101 rfl w1.heap.size 59 j0 (.int .u64 0) 1 Try.underlying101 gi gz0 gz1 _ _ _ _ l.length rfl rfl rfl rfl (by rw [gz2]; omega) (by unfold maxLen; omega) (Nat.le_refl _) ?_)
      intro w2 hown hgr
      have hk2 : Keep [] w1 w2 := (Keep.refl [] w1).grown hgr (by simp)
      have hb1 : Blk w2 w1.heap.size 59 (((l.take 0).map bitU ++ List.replicate (l.length - 0) (0 : UInt64)).map vU64) := by
        have := blk_of_own hown
        simpa [toList_madeCells_one, vU64] using this
      clear hown hgr
      go_wp2
      go_loopw [23] (fun i wr => ∃ k : Nat, k ≤ l.length ∧ i = .int .i64 k ∧ Blk wr w1.heap.size 59 (((l.take k).map bitU ++ List.replicate (l.length - k) (0 : UInt64)).map vU64) ∧ Keep [] w1 wr) (fun i _ => l.length - (intOf i).toNat)
      case atStart => exact ⟨0, by omega, rfl, hb1, hk2⟩
      case round =>
        obtain ⟨k, hk, rfl, hb, hkeep⟩ := hrel
        by_cases hlt : k < l.length
        · obtain ⟨b, off, rfl, _, _, hc0, hc1, hc2, hc3, hc4⟩ := Cells.at5 ((h.pure hk1).pure hkeep) hlt
          have hlen : (((l.take k).map bitU ++ List.replicate (l.length - k) (0 : UInt64)).map vU64).length = l.length := by simp; omega
          have hw := hkeep.size
          have hms := Lib.hid (fill_step bitU (0 : UInt64) l k hlt)
          have hbo : Hid (vU64 (bitU l[k]) = .int .u64 (IntKind.u64.wrap l[k].int.toInt)) := by rw [Hid, vU64, bitU_nat, wrap_uN]
          obtain ⟨u, hu⟩ : ∃ u, Hid ((((l.take k).map bitU ++ List.replicate (l.length - k) (0 : UInt64)).map vU64)[k]? = some u) := ⟨_, List.getElem?_eq_getElem (by omega)⟩
          have hba := hb.alloc (.cells #[.bool l[k].null, .int .i64 l[k].int.toInt, .string l[k].text, .int .i64 l[k].x.toInt, .int .i64 l[k].y.toInt] 50)
          have hcell := hba.cell k
          rw [hu.out] at hcell
          have hfr := hba.frozen k
          generalize hx : l[k] = x at *
          go_wp2
          go_roundw
          case rel =>
            refine ⟨k + 1, by omega, by go_num, ?_, (hkeep.alloc _).setCell (.inr (Nat.le_refl _)) _⟩
            rw [hms.out, List.map_set, hbo.out]
            exact hba.set_ k _
          case measure => simp [intOf]; omega
        · obtain rfl : k = l.length := by omega
          have hb2 : Blk wr w1.heap.size 59 ((l.map bitU).map vU64) := by simpa using hb
          have hu : U64s [] wr (some ⟨w1.heap.size, 0, none⟩) l.length l.length (l.map bitU) := hb2.rd (by simp) (by simp) (Nat.le_refl _) (by unfold maxLen; omega) (by rw [List.take_of_length_le (by simp)])
          clear hb hb2
          have P := pack_prog 1 wr hu (by omega)
          rw [hok.out] at P
          go_wp2_with fail
          refine P.mono ?_
          rintro e w3 ⟨B3, m3, d3, rfl, hk3, hb3⟩
          go_wp2
          go_ret2
          have hs : W.heap.size ≤ wr.heap.size := (hk1.trans hkeep).size
          exact ⟨_, _, _, rfl, (hk1.trans hkeep).trans hk3, fun Y hY => by rw [hv.out]; exact hb3 Y (fun b hb => Nat.lt_of_lt_of_le (hY b hb) hs)⟩
    · have hv : Hid (encB typ l = l.flatMap (cellB typ)) := by rw [Hid, encB, if_pos hR, if_neg h1]
      have htx : Hid (∀ c ∈ l, c.text.size ≤ 65536) := fun c hc => rightC_text (hall c hc)
      obtain ⟨i0, hi, hz0, hz1, hz2⟩ := info_parts Try.infoU8
      have ht1 : (typ == 1) = false := by simp [h1]
      replace h1 := Lib.hid h1
      clear hR hkn hall
      go_enter Try.func48, Try.ntmps48
      go_wp2_with fail
      refine R.out.mono ?_
      rintro e w1 ⟨rfl, hk1⟩
      go_wp2
      go_loopw [9, 41] (fun s i wr => ∃ k : Nat, k ≤ l.length ∧ i = .int .i64 k ∧ wr.ownsRow W.heap.size 5 1 s ((l.take k).flatMap (cellB typ)).length (((l.take k).flatMap (cellB typ)).map vU8) ∧ Keep [] W wr) (fun _ i _ => l.length - (intOf i).toNat)
      case atStart => exact ⟨0, by omega, rfl, World.ownsRow_nil _ _ _ _, hk1⟩
      case round =>
        obtain ⟨k, hk, rfl, hown, hkeep⟩ := hrel
        have hsz := hkeep.size
        obtain ⟨B3, d3, rfl⟩ := own_form hown
        have htk : ((l.take k).flatMap (cellB typ)).length ≤ 65546 * k := by
          have := cellsB_len typ (l.take k) (fun c hc => htx.out c (List.mem_of_mem_take hc))
          rw [List.length_take, Nat.min_eq_left hk] at this
          exact this
        by_cases hlt : k < l.length
        · obtain ⟨b, off, rfl, _, _, hc0, hc1, hc2, hc3, hc4⟩ := Cells.at5 (h.pure hkeep) hlt
          have hst : Hid ((l.take (k + 1)).flatMap (cellB typ) = (l.take k).flatMap (cellB typ) ++ cellB typ l[k]) := by
            rw [Hid, List.take_succ_eq_append_getElem hlt, List.flatMap_append]; simp
          have hx := htx.out l[k] (List.getElem_mem hlt)
          have hxl := cellB_len typ l[k] hx
          generalize l[k] = x at *
          generalize (l.take k).flatMap (cellB typ) = q at *
          have hka := hkeep.alloc (.cells #[.bool x.null, .int .i64 x.int.toInt, .string x.text, .int .i64 x.x.toInt, .int .i64 x.y.toInt] 50)
          have hoa := hown.alloc (.cells #[.bool x.null, .int .i64 x.int.toInt, .string x.text, .int .i64 x.x.toInt, .int .i64 x.y.toInt] 50)
          have C := putC_prog (X := []) (A := none) (m := 0) (d := 0) (l := []) typ x (wr.alloc (.cells #[.bool x.null, .int .i64 x.int.toInt, .string x.text, .int .i64 x.x.toInt, .int .i64 x.y.toInt] 50)) (Rd.nil_ [] _ 1) (by omega) hx
          replace C := Lib.hid C
          go_wp2_with fail
          refine C.out.mono ?_
          rintro e w2 ⟨B, m, d, rfl, hk2, hown2⟩
          have hr2 : Bys [] w2 B m d (cellB typ x) := by
            have := rd_of_own (X := []) hown2 (by simp)
            simpa using this
          have hm := hr2.len1
          have hk12 := hka.trans hk2
          have ho2 := own_keep hoa hk2 (by simp)
          clear hown hoa hown2
          go_wp2_with (at_builtin; refine wpList_append_rd rfl _ _ 28 rfl W.heap.size 5 i0 (.int .u8 0) 1 1 Try.underlying28 hi hz0 hz1 hz2 rfl (by omega) (.slice B3 q.length d3) q.length _ rfl ho2 rfl hr2 (vU8_one (cellB typ x)) (by unfold maxLen; omega) (by omega) hk12.size ?_)
          intro v' w3 hown' hgr
          have hk3 : Keep [] W w3 := hk12.grown hgr (fun g hg => .inr (own_ge ho2 g hg))
          clear hgr ho2
          go_wp2
          go_roundw
          case rel =>
            refine ⟨k + 1, by omega, by go_num, ?_, hk3⟩
            rw [hst.out, List.length_append, hm, List.map_append]
            exact hown'
          case measure => simp [intOf]; omega
        · obtain rfl : k = l.length := by omega
          go_wp2
          go_ret2
          refine ⟨_, _, _, rfl, hkeep, fun Y hY => ?_⟩
          have hr := rd_of_own hown hY
          rw [List.take_length] at hr
          rw [hv.out, List.take_length]
          exact hr
end Go.Proofs.Ytcpimhefclfbaaa

namespace Go.Proofs.Ytcpimhefclfbaaa
open Go Go.RowKit
set_option maxRecDepth 10000
set_option linter.unusedVariables false
set_option linter.unusedSimpArgs false

set_option maxHeartbeats 4000000 in
theorem encode_ref {X : List Nat} {A : Option Addr} {n c : Nat} {l : List Cell} (typ : Int) (W : World) (h : Cells X W A n c l) :
    Calls Try.prog 50 #[.int .i64 typ, .slice A n c] W fun e W' => ∃ B m d, e = .returned (.tuple #[.slice B m d, .bool (rightL typ l)]) ∧ Keep [] W W' ∧ NewBys W W' B m d (encB typ l) := by
  have hc := h.cap
  have hnc := h.le
  obtain rfl := h.len
  have R := fine_ref typ W h
  cases hR : rightL typ l with
  | false =>
    rw [hR] at R
    have hv : Hid (encB typ l = []) := by rw [Hid, encB, if_neg (by simp [hR])]
    replace R := Lib.hid R
    clear hR
    go_enter Try.func50, Try.ntmps50
    go_wp2_with fail
    refine R.out.mono ?_
    rintro e w1 ⟨rfl, hk1⟩
    go_wp2
    go_ret2
    exact ⟨none, 0, 0, rfl, hk1, fun Y _ => by rw [hv.out]; exact Rd.nil_ _ _ _⟩
  | true =>
    rw [hR] at R
    obtain ⟨hkn, hll, hall⟩ := rightL_mem hR
    replace hll : l.length ≤ 65536 := hll
    replace R := Lib.hid R
    have htx : Hid (∀ c ∈ l, c.text.size ≤ 65536) := fun c hc => rightC_text (hall c hc)
    clear hall
    obtain ⟨i0, hi, hz0, hz1, hz2⟩ := info_parts Try.infoU8
    have htyp : typ = 0 ∨ typ = 1 ∨ typ = 2 ∨ typ = 3 := by
      simp only [known, Bool.and_eq_true, decide_eq_true_eq] at hkn
      omega
    clear hkn
    rcases htyp with rfl | rfl | rfl | rfl
    · have hv : Hid (encB 0 l = l.flatMap (cellB 0)) := by rw [Hid, encB, if_pos hR, if_neg (by decide)]
      clear hR
      go_enter Try.func50, Try.ntmps50
      go_wp2_with fail
      refine R.out.mono ?_
      rintro e w1 ⟨rfl, hk1⟩
      go_wp2
      go_loopw [7, 9] (fun s i wr => ∃ k : Nat, k ≤ l.length ∧ i = .int .i64 k ∧ wr.ownsRow W.heap.size 5 1 s ((l.take k).flatMap (cellB 0)).length (((l.take k).flatMap (cellB 0)).map vU8) ∧ Keep [] W wr) (fun _ i _ => l.length - (intOf i).toNat)
      case atStart => exact ⟨0, by omega, rfl, World.ownsRow_nil _ _ _ _, hk1⟩
      case round =>
        obtain ⟨k, hk, rfl, hown, hkeep⟩ := hrel
        have hsz := hkeep.size
        obtain ⟨B3, d3, rfl⟩ := own_form hown
        have htk : ((l.take k).flatMap (cellB 0)).length ≤ 65546 * k := by
          have := cellsB_len 0 (l.take k) (fun c hc => htx.out c (List.mem_of_mem_take hc))
          rw [List.length_take, Nat.min_eq_left hk] at this
          exact this
        by_cases hlt : k < l.length
        · obtain ⟨b, off, rfl, _, _, hc0, hc1, hc2, hc3, hc4⟩ := Cells.at5 (h.pure hkeep) hlt
          have hst : Hid ((l.take (k + 1)).flatMap (cellB 0) = (l.take k).flatMap (cellB 0) ++ cellB 0 l[k]) := by
            rw [Hid, List.take_succ_eq_append_getElem hlt, List.flatMap_append]; simp
          have hx := htx.out l[k] (List.getElem_mem hlt)
          have hxl := cellB_len 0 l[k] hx
          have hat : ∀ w', Keep [] wr w' → w'.cell? ⟨b, off + k * 5, none⟩ = some (.bool l[k].null) ∧ w'.cell? ⟨b, off + k * 5 + 1, none⟩ = some (.int .i64 l[k].int.toInt) ∧ w'.cell? ⟨b, off + k * 5 + 2, none⟩ = some (.string l[k].text) ∧ w'.cell? ⟨b, off + k * 5 + 3, none⟩ = some (.int .i64 l[k].x.toInt) ∧ w'.cell? ⟨b, off + k * 5 + 4, none⟩ = some (.int .i64 l[k].y.toInt) := fun w' hk' => by
            obtain ⟨_, _, he, _, _, g0, g1, g2, g3, g4⟩ := Cells.at5 (h.pure (hkeep.trans hk')) hlt
            cases he
            exact ⟨g0, g1, g2, g3, g4⟩
          replace hat := Lib.hid hat
          have hrd : Bys [] wr B3 ((l.take k).flatMap (cellB 0)).length d3 ((l.take k).flatMap (cellB 0)) := rd_of_own hown (by simp)
          generalize l[k] = x at *
          generalize (l.take k).flatMap (cellB 0) = q at *
          have C := low_ref (uN x.int.toInt) wr hrd (uN_lt _) (by omega)
          rw [← wrap_uN] at C
          replace C := Lib.hid C
          go_wp2_with fail
          refine C.out.mono ?_
          rintro e w3 ⟨B4, m4, d4, rfl, hk4, hown4⟩
          have hm := (rd_of_own (X := []) hown4 (by simp) : Bys [] w3 B4 m4 d4 _).len1
          have ho := own_lower hown4 hsz
          clear hown4 hown
          go_wp2
          go_roundw
          case rel =>
            refine ⟨k + 1, by omega, by go_num, ?_, hkeep.trans hk4⟩
            have hcb : cellB 0 x = lowB (uN x.int.toInt) := rfl
            rw [hst.out, hcb, hm]
            exact ho
          case measure => simp [intOf]; omega
        · obtain rfl : k = l.length := by omega
          go_wp2
          go_ret2
          refine ⟨_, _, _, rfl, hkeep, fun Y hY => ?_⟩
          have hr := rd_of_own hown hY
          rw [List.take_length] at hr
          rw [hv.out, List.take_length]
          exact hr
    · have hv : Hid (encB 1 l = packB (l.map bitU) 1) := by rw [Hid, encB, if_pos hR, if_pos rfl]
      have hok := Lib.hid (bits_ok hR)
      obtain ⟨j0, gi, gz0, gz1, gz2⟩ := info_parts Try.infoU64
      clear hR
      go_enter Try.func50, Try.ntmps50
      go_wp2_with fail
      refine R.out.mono ?_
      rintro e w1 ⟨rfl, hk1⟩
      go_wp2
      go_loopw [8, 9] (fun s i wr => ∃ k : Nat, k ≤ l.length ∧ i = .int .i64 k ∧ wr.ownsRow W.heap.size 59 1 s k (((l.take k).map bitU).map vU64) ∧ Keep [] W wr) (fun _ i _ => l.length - (intOf i).toNat)
      case atStart => exact ⟨0, by omega, rfl, World.ownsRow_nil _ _ _ _, hk1⟩
      case round =>
        obtain ⟨k, hk, rfl, hown, hkeep⟩ := hrel
        have hsz := hkeep.size
        obtain ⟨B3, d3, rfl⟩ := own_form hown
        by_cases hlt : k < l.length
        · obtain ⟨b, off, rfl, _, _, hc0, hc1, hc2, hc3, hc4⟩ := Cells.at5 (h.pure hkeep) hlt
          have hst : Hid (((l.take (k + 1)).map bitU).map vU64 = ((l.take k).map bitU).map vU64 ++ [bitU l[k]].map vU64) := by
            rw [Hid, List.take_succ_eq_append_getElem hlt, List.map_append, List.map_append]; rfl
          have hbo : Hid (vU64 (bitU l[k]) = .int .u64 (IntKind.u64.wrap l[k].int.toInt)) := by rw [Hid, vU64, bitU_nat, wrap_uN]
          generalize l[k] = x at *
          generalize ((l.take k).map bitU).map vU64 = q at *
          have hbk : U64s [] (wr.alloc (.cells #[.int .u64 (IntKind.u64.wrap x.int.toInt)] 59)) (some ⟨wr.heap.size, 0, none⟩) 1 1 [bitU x] := by
            refine (Blk.new wr 59 [.int .u64 (IntKind.u64.wrap x.int.toInt)]).rd (by simp) rfl (by omega) (by simp [maxLen]) ?_
            simp [hbo.out]
          go_wp2_with (at_builtin; refine wpList_append_rd rfl _ _ 101 rfl W.heap.size 59 j0 (.int .u64 0) 1 8 Try.underlying101 gi gz0 gz1 gz2 rfl (by omega) (.slice B3 k d3) k _ rfl (hown.alloc _) rfl hbk (vU64_one [bitU x]) (by unfold maxLen; omega) (by omega) (by simp; omega) ?_)
          intro v' w3 hown' hgr
          have hk3 : Keep [] W w3 := (hkeep.alloc (.cells #[.int .u64 (IntKind.u64.wrap x.int.toInt)] 59)).grown hgr (fun g hg => .inr (own_ge hown g hg))
          clear hgr hown hbk
          go_wp2
          go_roundw
          case rel =>
            refine ⟨k + 1, by omega, by go_num, ?_, hk3⟩
            rw [hst.out]
            exact hown'
          case measure => simp [intOf]; omega
        · obtain rfl : k = l.length := by omega
          rw [List.take_length] at *
          have hu : U64s [] wr B3 l.length d3 (l.map bitU) := rd_of_own hown (by simp)
          have P := pack_ref 1 wr hu (by omega)
          rw [hok.out] at P
          clear hown
          go_wp2_with fail
          refine P.mono ?_
          rintro e w3 ⟨B5, m5, d5, rfl, hk5, hb5⟩
          go_wp2
          go_ret2
          exact ⟨_, _, _, rfl, hkeep.trans hk5, fun Y hY => by rw [hv.out]; exact hb5 Y (fun b hb => Nat.lt_of_lt_of_le (hY b hb) hsz)⟩
    · have hv : Hid (encB 2 l = l.flatMap (cellB 2)) := by rw [Hid, encB, if_pos hR, if_neg (by decide)]
      clear hR
      go_enter Try.func50, Try.ntmps50
      go_wp2_with fail
      refine R.out.mono ?_
      rintro e w1 ⟨rfl, hk1⟩
      go_wp2
      go_loopw [7, 9] (fun s i wr => ∃ k : Nat, k ≤ l.length ∧ i = .int .i64 k ∧ wr.ownsRow W.heap.size 5 1 s ((l.take k).flatMap (cellB 2)).length (((l.take k).flatMap (cellB 2)).map vU8) ∧ Keep [] W wr) (fun _ i _ => l.length - (intOf i).toNat)
      case atStart => exact ⟨0, by omega, rfl, World.ownsRow_nil _ _ _ _, hk1⟩
      case round =>
        obtain ⟨k, hk, rfl, hown, hkeep⟩ := hrel
        have hsz := hkeep.size
        obtain ⟨B3, d3, rfl⟩ := own_form hown
        have htk : ((l.take k).flatMap (cellB 2)).length ≤ 65546 * k := by
          have := cellsB_len 2 (l.take k) (fun c hc => htx.out c (List.mem_of_mem_take hc))
          rw [List.length_take, Nat.min_eq_left hk] at this
          exact this
        by_cases hlt : k < l.length
        · obtain ⟨b, off, rfl, _, _, hc0, hc1, hc2, hc3, hc4⟩ := Cells.at5 (h.pure hkeep) hlt
          have hst : Hid ((l.take (k + 1)).flatMap (cellB 2) = (l.take k).flatMap (cellB 2) ++ cellB 2 l[k]) := by
            rw [Hid, List.take_succ_eq_append_getElem hlt, List.flatMap_append]; simp
          have hx := htx.out l[k] (List.getElem_mem hlt)
          have hxl := cellB_len 2 l[k] hx
          have hat : ∀ w', Keep [] wr w' → w'.cell? ⟨b, off + k * 5, none⟩ = some (.bool l[k].null) ∧ w'.cell? ⟨b, off + k * 5 + 1, none⟩ = some (.int .i64 l[k].int.toInt) ∧ w'.cell? ⟨b, off + k * 5 + 2, none⟩ = some (.string l[k].text) ∧ w'.cell? ⟨b, off + k * 5 + 3, none⟩ = some (.int .i64 l[k].x.toInt) ∧ w'.cell? ⟨b, off + k * 5 + 4, none⟩ = some (.int .i64 l[k].y.toInt) := fun w' hk' => by
            obtain ⟨_, _, he, _, _, g0, g1, g2, g3, g4⟩ := Cells.at5 (h.pure (hkeep.trans hk')) hlt
            cases he
            exact ⟨g0, g1, g2, g3, g4⟩
          replace hat := Lib.hid hat
          have hrd : Bys [] wr B3 ((l.take k).flatMap (cellB 2)).length d3 ((l.take k).flatMap (cellB 2)) := rd_of_own hown (by simp)
          generalize l[k] = x at *
          generalize (l.take k).flatMap (cellB 2) = q at *
          have C3 := put_ref x.text.size wr hrd (by omega) (by omega)
          have hwr : IntKind.u64.wrap (x.text.size : Int) = x.text.size := IntWalk.u64_in _ (by omega)
          have l1 := putB_len x.text.size
          replace C3 := Lib.hid C3
          replace l1 := Lib.hid l1
          go_wp2_with fail
          refine C3.out.mono ?_
          rintro e w3 ⟨B4, m4, d4, rfl, hk4, hown4⟩
          have hr4 : Bys [] w3 B4 m4 d4 (q ++ putB x.text.size) := rd_of_own hown4 (by simp)
          have hm4 : m4 ≤ 5000000000 := by have e1 := hr4.len1; have e2 := l1.out; rw [List.length_append] at e1; omega
          have ho := own_lower hown4 hsz
          have hk4' := hkeep.trans hk4
          obtain ⟨gc0, gc1, gc2, gc3, gc4⟩ := hat.out w3 hk4
          clear hown4 hown
          go_wp2_with (at_builtin; refine Lib.wpList_append_own_string _ rfl _ _ 28 9 rfl W.heap.size 5 i0 Try.underlying28 Try.underlying9 hi hz0 hz1 hz2 (.slice B4 m4 d4) m4 _ rfl ho x.text rfl (by unfold maxLen; omega) (by omega) hk4'.size ?_)
          intro v' w5 hown5 hgr _
          have hk5 : Keep [] W w5 := hk4'.grown hgr (fun g hg => .inr (own_ge ho g hg))
          clear hgr ho
          go_wp2
          go_roundw
          case rel =>
            refine ⟨k + 1, by omega, by go_num, ?_, hk5⟩
            have hcb : cellB 2 x = putB x.text.size ++ x.text.data.toList := rfl
            have hsl : x.text.data.toList.length = x.text.size := Array.length_toList
            rw [hst.out, hcb, ← List.append_assoc, List.length_append, hr4.len1, hsl, List.map_append, List.map_append, List.append_assoc]
            exact hown5
          case measure => simp [intOf]; omega
        · obtain rfl : k = l.length := by omega
          go_wp2
          go_ret2
          refine ⟨_, _, _, rfl, hkeep, fun Y hY => ?_⟩
          have hr := rd_of_own hown hY
          rw [List.take_length] at hr
          rw [hv.out, List.take_length]
          exact hr
    · have hv : Hid (encB 3 l = l.flatMap (cellB 3)) := by rw [Hid, encB, if_pos hR, if_neg (by decide)]
      clear hR
      go_enter Try.func50, Try.ntmps50
      go_wp2_with fail
      refine R.out.mono ?_
      rintro e w1 ⟨rfl, hk1⟩
      go_wp2
      go_loopw [7, 9] (fun s i wr => ∃ k : Nat, k ≤ l.length ∧ i = .int .i64 k ∧ wr.ownsRow W.heap.size 5 1 s ((l.take k).flatMap (cellB 3)).length (((l.take k).flatMap (cellB 3)).map vU8) ∧ Keep [] W wr) (fun _ i _ => l.length - (intOf i).toNat)
      case atStart => exact ⟨0, by omega, rfl, World.ownsRow_nil _ _ _ _, hk1⟩
      case round =>
        obtain ⟨k, hk, rfl, hown, hkeep⟩ := hrel
        have hsz := hkeep.size
        obtain ⟨B3, d3, rfl⟩ := own_form hown
        have htk : ((l.take k).flatMap (cellB 3)).length ≤ 65546 * k := by
          have := cellsB_len 3 (l.take k) (fun c hc => htx.out c (List.mem_of_mem_take hc))
          rw [List.length_take, Nat.min_eq_left hk] at this
          exact this
        by_cases hlt : k < l.length
        · obtain ⟨b, off, rfl, _, _, hc0, hc1, hc2, hc3, hc4⟩ := Cells.at5 (h.pure hkeep) hlt
          have hst : Hid ((l.take (k + 1)).flatMap (cellB 3) = (l.take k).flatMap (cellB 3) ++ cellB 3 l[k]) := by
            rw [Hid, List.take_succ_eq_append_getElem hlt, List.flatMap_append]; simp
          have hx := htx.out l[k] (List.getElem_mem hlt)
          have hxl := cellB_len 3 l[k] hx
          have hat : ∀ w', Keep [] wr w' → w'.cell? ⟨b, off + k * 5, none⟩ = some (.bool l[k].null) ∧ w'.cell? ⟨b, off + k * 5 + 1, none⟩ = some (.int .i64 l[k].int.toInt) ∧ w'.cell? ⟨b, off + k * 5 + 2, none⟩ = some (.string l[k].text) ∧ w'.cell? ⟨b, off + k * 5 + 3, none⟩ = some (.int .i64 l[k].x.toInt) ∧ w'.cell? ⟨b, off + k * 5 + 4, none⟩ = some (.int .i64 l[k].y.toInt) := fun w' hk' => by
            obtain ⟨_, _, he, _, _, g0, g1, g2, g3, g4⟩ := Cells.at5 (h.pure (hkeep.trans hk')) hlt
            cases he
            exact ⟨g0, g1, g2, g3, g4⟩
          replace hat := Lib.hid hat
          have hrd : Bys [] wr B3 ((l.take k).flatMap (cellB 3)).length d3 ((l.take k).flatMap (cellB 3)) := rd_of_own hown (by simp)
          generalize l[k] = x at *
          generalize (l.take k).flatMap (cellB 3) = q at *
          have zx : isI64 x.x.toInt := ⟨i64_lo _, i64_hi _⟩
          have zy : isI64 x.y.toInt := ⟨i64_lo _, i64_hi _⟩
          have C1 := fun w => zig_ref x.x.toInt w zx
          have C2 := fun w => zig_ref x.y.toInt w zy
          have C3 := put_ref (zigN x.x.toInt) wr hrd (zig_lt zx) (by omega)
          have l1 := putB_len (zigN x.x.toInt)
          replace C1 := Lib.hid C1
          replace C2 := Lib.hid C2
          replace C3 := Lib.hid C3
          replace l1 := Lib.hid l1
          go_wp2_with fail
          refine (C1.out _).mono ?_
          rintro e w3 ⟨rfl, rfl⟩
          go_wp2_with fail
          refine C3.out.mono ?_
          rintro e w3 ⟨B4, m4, d4, rfl, hk4, hown4⟩
          have hr4 : Bys [] w3 B4 m4 d4 (q ++ putB (zigN x.x.toInt)) := rd_of_own hown4 (by simp)
          have hm4 : m4 ≤ 5000000000 := by have e1 := hr4.len1; have e2 := l1.out; rw [List.length_append] at e1; omega
          have C4 := Lib.hid (put_ref (zigN x.y.toInt) w3 hr4 (zig_lt zy) (by omega))
          obtain ⟨gc0, gc1, gc2, gc3, gc4⟩ := hat.out w3 hk4
          go_wp2_with fail
          refine (C2.out _).mono ?_
          rintro e w4 ⟨rfl, rfl⟩
          go_wp2_with fail
          refine C4.out.mono ?_
          rintro e w4 ⟨B5, m5, d5, rfl, hk5, hown5⟩
          have hm := (rd_of_own (X := []) hown5 (by simp) : Bys [] w4 B5 m5 d5 _).len1
          have ho := own_lower hown5 (hkeep.trans hk4).size
          clear hown4 hown5 hown
          go_wp2
          go_roundw
          case rel =>
            refine ⟨k + 1, by omega, by go_num, ?_, (hkeep.trans hk4).trans hk5⟩
            have hcb : cellB 3 x = putB (zigN x.x.toInt) ++ putB (zigN x.y.toInt) := rfl
            rw [hst.out, hcb, ← List.append_assoc, hm]
            exact ho
          case measure => simp [intOf]; omega
        · obtain rfl : k = l.length := by omega
          go_wp2
          go_ret2
          refine ⟨_, _, _, rfl, hkeep, fun Y hY => ?_⟩
          have hr := rd_of_own hown hY
          rw [List.take_length] at hr
          rw [hv.out, List.take_length]
          exact hr
end Go.Proofs.Ytcpimhefclfbaaa
