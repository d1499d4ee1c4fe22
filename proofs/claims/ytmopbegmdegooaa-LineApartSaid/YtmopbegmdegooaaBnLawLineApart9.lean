/- LineApart: the row. Proved: whatever the input, the law answers true and leaves its arguments as they were. -/
import Derived.Test.YtmopbegmdegooaaBnLine8
import Derived.Deep.SlicePairs
import Derived.Test.YtmopbegmdegooaaRows
import Derived.ProofKit
import Derived.OpenShut
import Derived.ChangeOld
import Derived.SizedLaws
import Derived.Carry
import Derived.Lib.SmallJoins
import Derived.RowKit3
import Derived.WideLaws
import Derived.Laws.Rows
/- Arguments that are points, numbers, and slices of points: what the form hands a law, as the abstract machine's values. -/
namespace Go.Proofs.Ytmopbegmdegooaa
open Go Vm M Go.Deep Go.ChangeShapes Go.WideShapes Go.ChangeAt Go.RowKit
set_option linter.unusedVariables false
theorem own : ownKnob Try.prog.godebug = none := by kernel_rfl
theorem laidOut : laidOutB Try.prog = true := by kernel_rfl
section
variable {H : Type} {enc : TypeId × Value → H} {w : World} {base : Nat} {spare : Nat → Bool} {held : Bool}
theorem open_pt {r : Reach} {b0 : Nat} {v : Value} {d : DataW H} {ps : List MemPlace} (hval : Value.okWide Try.prog w r b0 23 v) (h : DataW.Trod enc Try.prog w base spare held 23 v d ps) : ∃ p : P2, v = ptV p := by
  obtain ⟨v0, v1, y0, y1, n, rfl, _, _, h0, h1⟩ := Go.Joins.open_agg2 Try.underlying23 (by kernel_rfl) (by kernel_rfl) hval h
  obtain ⟨x, hx, _, _⟩ := DataW.trod_int Try.underlying2 h0
  obtain ⟨y, hy, _, _⟩ := DataW.trod_int Try.underlying2 h1
  cases hx
  cases hy
  exact ⟨(x, y), rfl⟩
end
/-- A call by values, from no memory of the call's own. -/
theorem CallsP.calls {f : FuncId} {ps : List PVal} {r : PVal} (h : CallsP Try.prog f ps r) {vs : Array Value} {w : World} (hs : vs.size = ps.length) (hr : Rps (fun _ _ => False) ps (fun i y => vs[i]? = some y) 0) {u : Value} (hu : ∀ L x, Rp L r x → x = u) :
    Calls Try.prog f vs w fun e w' => e = .returned u ∧ Below w.heap.size w w' := by
  refine (h (fun _ _ => False) w vs (fun _ _ h => h.elim) hs (Rps_mono (fun _ _ h => h.elim) _ _ _ _ (fun _ _ h => h) hr)).mono ?_
  rintro e w' ⟨v, ok', rfl, hb, _, _, _, hv⟩
  exact ⟨by rw [hu _ _ hv], hb⟩
theorem Rp_pt (L : Addr → Value → Prop) (p : P2) : Rp L (ptP p) (ptV p) := by
  simp only [ptP, ptV, Rp]
  exact ⟨_, rfl, rfl, by simp [Rps, Rp]⟩
theorem Rp_int (L : Addr → Value → Prop) (n : Int) : Rp L (iP n) (.int .i64 n) := by simp [iP, Rp]
theorem Rp_bool {L : Addr → Value → Prop} {b : Bool} {x : Value} (h : Rp L (bP b) x) : x = .bool b := by simpa [bP, Rp] using h
theorem Rps_cons {L : Addr → Value → Prop} {x : PVal} {xs : List PVal} {f : Nat → Value → Prop} {i : Nat} {y : Value} (hy : f i y) (hr : Rp L x y) (h : Rps L xs f (i + 1)) : Rps L (x :: xs) f i := by
  simp only [Rps]
  exact ⟨⟨y, hy, hr⟩, h⟩
theorem Rps_nil {L : Addr → Value → Prop} {f : Nat → Value → Prop} {i : Nat} : Rps L [] f i := by simp [Rps]
theorem list_of {len : Nat} {R : Nat → P2 → Prop} (h : ∀ i, i < len → ∃ p, R i p) : ∃ ps : List P2, ps.length = len ∧ ∀ i p, ps[i]? = some p → R i p := by
  induction len with
  | zero => exact ⟨[], rfl, fun i p hp => by simp at hp⟩
  | succ n ih =>
    obtain ⟨ps, hl, hR⟩ := ih fun i hi => h i (by omega)
    obtain ⟨p, hp⟩ := h n (by omega)
    refine ⟨ps ++ [p], by simp [hl], fun i q hq => ?_⟩
    by_cases hi : i < n
    · rw [List.getElem?_append_left (by omega)] at hq
      exact hR i q hq
    · have := (List.getElem?_eq_some_iff.1 hq).1
      simp only [List.length_append, List.length_singleton] at this
      have e : i = n := by omega
      subst e
      rw [List.getElem?_append_right (by omega), hl, Nat.sub_self] at hq
      simp only [List.getElem?_cons_zero, Option.some.injEq] at hq
      exact hq ▸ hp
theorem rps_flat {L : Addr → Value → Prop} {A : Option Addr} : ∀ (ps : List P2) (k : Nat), (∀ i p, ps[i]? = some p → ∃ a, A = some a ∧ L (a.add (k + i * 2)) (.int .i64 p.1) ∧ L (a.add (k + i * 2 + 1)) (.int .i64 p.2)) → Rps L (flatPP ps) (fun i y => ∃ a, A = some a ∧ L (a.add i) y) k
  | [], k, _ => by simp [flatPP, Rps]
  | p :: ps, k, h => by
    obtain ⟨a, ha, h1, h2⟩ := h 0 p rfl
    simp only [flatPP, Rps, Rp]
    refine ⟨⟨_, ⟨a, ha, by simpa using h1⟩, rfl⟩, ⟨_, ⟨a, ha, by simpa using h2⟩, rfl⟩, rps_flat ps (k + 1 + 1) fun i q hq => ?_⟩
    obtain ⟨b, hb, h3, h4⟩ := h (i + 1) q (by simpa using hq)
    refine ⟨b, hb, ?_, ?_⟩
    · rw [show k + 1 + 1 + i * 2 = k + (i + 1) * 2 by omega]; exact h3
    · rw [show k + 1 + 1 + i * 2 + 1 = k + (i + 1) * 2 + 1 by omega]; exact h4
theorem cell_lt {w : World} {a : Addr} {v : Value} (h : w.cell? a = some v) : a.block < w.heap.size := by
  unfold World.cell? at h
  split at h
  · rename_i hb
    exact (Array.getElem?_eq_some_iff.1 hb).1
  · cases h
section
variable {H : Type} {enc : TypeId × Value → H} {W : World}
theorem open_sl {b0 : Nat} {v : Value} {d : DataW H} {pl : List MemPlace} (hval : Value.okWide Try.prog W .any b0 24 v) (h : DataW.Trod enc Try.prog W 0 (fun _ => true) true 24 v d pl) : ∃ ps : List P2, Rp (sees (fun b _ => b < W.heap.size) W) (slP ps) v := by
  obtain ⟨A, len, cap, rfl⟩ := okWide_slice Try.underlying24 hval
  obtain ⟨fuel, hf⟩ := h
  rcases open_slice_pairs Try.underlying24 Try.underlying23 (by kernel_rfl) rfl rfl (by kernel_rfl) (by kernel_rfl) hf with ⟨hcs, _⟩ | ⟨a, len', cap', m, n, V0, V1, D0, D1, P0, P1, hcs, _, hl, _, hm, _, hall⟩
  · simp [Value.cells] at hcs
    obtain ⟨rfl, rfl, rfl⟩ := hcs
    refine ⟨[], ?_⟩
    simp only [slP, flatPP, Rp, Rps]
    exact ⟨none, 0, rfl, Nat.le_refl _, trivial⟩
  · simp [Value.cells] at hcs
    obtain ⟨rfl, rfl, rfl⟩ := hcs
    simp only [if_true] at hm
    subst hm
    obtain ⟨ps, hps, hR⟩ := list_of (len := len) (R := fun i p => W.cell? (a.add (i * 2)) = some (.int .i64 p.1) ∧ W.cell? (a.add (i * 2 + 1)) = some (.int .i64 p.2)) fun i hi => by
      obtain ⟨c0, c1, t0, t1⟩ := hall i (by omega)
      obtain ⟨x, hx, _, _⟩ := DataW.trod_int Try.underlying2 t0
      obtain ⟨y, hy, _, _⟩ := DataW.trod_int Try.underlying2 t1
      simp only [List.cons.injEq, and_true] at hx hy
      exact ⟨(x, y), by rw [c0, hx], by rw [c1, hy]⟩
    refine ⟨ps, ?_⟩
    simp only [slP, Rp]
    refine ⟨some a, m, by rw [hps], by rw [hps]; exact hl, rps_flat ps 0 fun i p hp => ?_⟩
    obtain ⟨h0, h1⟩ := hR i p hp
    rw [Nat.zero_add]
    exact ⟨a, rfl, ⟨cell_lt h0, h0⟩, cell_lt h1, h1⟩
end
/-- A call by values, of memory that lay there. -/
theorem callsS {f : FuncId} {ps : List PVal} {r : PVal} (h : CallsP Try.prog f ps r) {vs : Array Value} {w : World} (hs : vs.size = ps.length) (hr : Rps (sees (fun b _ => b < w.heap.size) w) ps (fun i y => vs[i]? = some y) 0) {u : Value} (hu : ∀ L x, Rp L r x → x = u) :
    Calls Try.prog f vs w fun e w' => e = .returned u ∧ Below w.heap.size w w' := by
  refine (h (fun b _ => b < w.heap.size) w vs (fun _ _ h => h) hs hr).mono ?_
  rintro e w' ⟨v, ok', rfl, hb, _, _, _, hv⟩
  exact ⟨by rw [hu _ _ hv], hb⟩
end Go.Proofs.Ytmopbegmdegooaa
/- A line parted at its own points, from behind: what the parts are. -/
namespace Go.Proofs.Ytmopbegmdegooaa
open Go Vm M
set_option linter.unusedVariables false
set_option linter.unusedSimpArgs false
theorem pAt_take' {ps : List P2} {k m : Nat} (h : k < m) : pAt (ps.take m) k = pAt ps k := pAt_take h
theorem okB_parts {ps : List P2} (h : okB ps = true) : 2 ≤ ps.length ∧ ps.length ≤ 64 ∧ (∀ i, i < ps.length → okP (pAt ps i) = true) ∧ simpleB ps = true := by
  unfold okB at h
  simp only [Bool.and_eq_true, decide_eq_true_eq, Bool.not_eq_true'] at h
  obtain ⟨⟨⟨h2, h64⟩, hn⟩, hs⟩ := h
  refine ⟨h2, h64, fun i hi => ?_, hs⟩
  cases ho : okP (pAt ps i) with
  | true => rfl
  | false => rw [nok_iff.2 ⟨i, hi, ho⟩] at hn; cases hn
theorem okP_id {p : P2} (h : okP p = true) : nearP p = p := by
  unfold okP at h
  simp only [Bool.and_eq_true, decide_eq_true_eq] at h
  exact nearP_id ⟨⟨h.1.1.1, h.1.1.2⟩, h.1.2, h.2⟩
/-- The first segment that has a point of a simple line that is not its first or last one is the one that ends there. -/
theorem at_own {ps : List P2} (h : okB ps = true) {k : Nat} (h1 : 1 ≤ k) (hk : k < ps.length - 1) : atO ps (pAt ps k) = some (k - 1) := by
  obtain ⟨h2, h64, ho, hs⟩ := okB_parts h
  obtain ⟨j, hj, hjk⟩ := at_self h2 (show k < ps.length by omega)
  rw [hj]
  by_cases he : j = k - 1
  · rw [he]
  · exfalso
    have hjl : j < k - 1 := by omega
    have hf := firstAt_some (show firstAt (atB ps (pAt ps k)) (ps.length - 1) 0 = some j from hj)
    have hon := hf.2.2.1
    unfold atB at hon
    have ids : ∀ i, i < ps.length → nearP (pAt ps i) = pAt ps i := fun i hi => okP_id (ho i hi)
    rw [simple_iff] at hs
    have hr := (hs j (by omega)).2 (k - 1) (by omega) (by omega)
    rw [show k - 1 + 1 = k by omega] at hr
    have hne := (hs (k - 1) (by omega)).1
    rw [show k - 1 + 1 = k by omega] at hne
    -- the point is on both
    have c1 : comB (nearP (pAt ps j)) (nearP (pAt ps (j + 1))) (nearP (pAt ps (k - 1))) (nearP (pAt ps k)) (nearP (pAt ps k)) = true := by
      unfold comB
      rw [ids j (by omega), ids (j + 1) (by omega), ids (k - 1) (by omega), ids k (by omega)]
      rw [hon, on_self2]
      rfl
    have m1 : nearP (pAt ps k) ∈ [nearP (pAt ps j), nearP (pAt ps (j + 1)), nearP (pAt ps (k - 1)), nearP (pAt ps k)] := by simp
    unfold wantI at hr
    by_cases hadj : k - 1 = j + 1
    · rw [beq_iff_eq.2 hadj, Bool.true_or] at hr
      have c2 : comB (nearP (pAt ps j)) (nearP (pAt ps (j + 1))) (nearP (pAt ps (k - 1))) (nearP (pAt ps k)) (nearP (pAt ps (k - 1))) = true := by
        unfold comB
        rw [ids j (by omega), ids (j + 1) (by omega), ids (k - 1) (by omega), ids k (by omega)]
        rw [← hadj, on_self2, on_self1]
        rfl
      have m2 : nearP (pAt ps (k - 1)) ∈ [nearP (pAt ps j), nearP (pAt ps (j + 1)), nearP (pAt ps (k - 1)), nearP (pAt ps k)] := by simp
      have := relate_one_com hr _ m2 _ m1 c2 c1
      rw [ids (k - 1) (by omega), ids k (by omega)] at this
      rw [this, eqB_iff.2 rfl] at hne
      cases hne
    · rw [beq_eq_false_iff_ne.2 hadj, beq_eq_false_iff_ne.2 (by omega : k - 1 ≠ ps.length - 2), Bool.false_and, Bool.and_false, Bool.or_false] at hr
      rw [relate_zero_com hr _ m1] at c1
      cases c1
theorem atO_take {ps : List P2} {p : P2} {m k : Nat} (hm : m ≤ ps.length) (hk : k + 1 < m) (h : atO ps p = some k) : atO (ps.take m) p = some k := by
  have hf := firstAt_some (show firstAt (atB ps p) (ps.length - 1) 0 = some k from h)
  have hl : (ps.take m).length = m := by rw [List.length_take]; omega
  refine firstAt_eq_some (c := atB (ps.take m) p) (d := (ps.take m).length - 1) (Nat.zero_le _) (by rw [hl]; omega) ?_ fun i _ hi => ?_
  · have := hf.2.2.1
    unfold atB at this ⊢
    rw [pAt_take (by omega), pAt_take (by omega)]
    exact this
  · have := hf.2.2.2 i (Nat.zero_le _) hi
    unfold atB at this ⊢
    rw [pAt_take (by omega), pAt_take (by omega)]
    exact this
theorem drop_take_two {ps : List P2} {k : Nat} (h : k + 1 < ps.length) : (ps.take (k + 2)).drop k = [pAt ps k, pAt ps (k + 1)] := by
  rw [List.drop_take, show k + 2 - k = 2 by omega, List.drop_eq_getElem_cons (by omega : k < ps.length), List.drop_eq_getElem_cons h, pAt_getElem (by omega : k < ps.length), pAt_getElem h]
  rfl
theorem take_snoc_pAt {ps : List P2} {k : Nat} (h : k < ps.length) : ps.take (k + 1) = ps.take k ++ [pAt ps k] := by
  rw [List.take_add_one, List.getElem?_eq_getElem h, pAt_getElem h]
  rfl
theorem split_own {ps : List P2} (h : okB ps = true) {k : Nat} (h1 : 1 ≤ k) (hk : k < ps.length - 1) : splitO (ps.take (k + 2)) (pAt ps k) = some (ps.take (k + 1), [pAt ps k, pAt ps (k + 1)]) := by
  obtain ⟨h2, h64, ho, hs⟩ := okB_parts h
  have ha := at_own h h1 hk
  have hl : (ps.take (k + 2)).length = k + 2 := by rw [List.length_take]; omega
  have hst := atO_take (m := k + 2) (by omega) (by omega) ha
  have hsi := simple_iff.1 hs
  have n1 : eqB (pAt ps (k - 1)) (pAt ps k) = false := by
    have := (hsi (k - 1) (by omega)).1
    rw [show k - 1 + 1 = k by omega] at this
    exact this
  have n2 : eqB (pAt ps (k + 1)) (pAt ps k) = false := by rw [eqB_comm]; exact (hsi k hk).1
  have n0 : eqB (pAt ps 0) (pAt ps k) = false := ne_first hs (by omega) hk
  unfold splitO
  rw [hst]
  simp only
  rw [hl, ho k (by omega), pAt_take (by omega), pAt_take (by omega), pAt_take (by omega), show k - 1 + 1 = k by omega, pAt_take (by omega), show k + 2 - 1 = k + 1 by omega, n0, n2, n1, eqB_iff.2 rfl]
  simp only [Bool.not_true, Bool.or_false, cond_false, cond_true, Option.some.injEq, Prod.mk.injEq]
  exact ⟨by rw [List.take_take, Nat.min_eq_left (by omega), ← take_snoc_pAt (by omega)], drop_take_two (by omega)⟩
end Go.Proofs.Ytmopbegmdegooaa
/- slices.Grow, Concat, Clip; line.Join: their rounds, their calls. -/
namespace Go.Proofs.Ytmopbegmdegooaa
open Go Vm M
set_option linter.unusedVariables false
set_option linter.unusedSimpArgs false
def LL (a b : List P2) : PVal := .list 2 [slP a, slP b]
def modeG : FuncId → Nat := fun f => bif Nat.beq f 83 then 2 else 0
noncomputable def cfG (L : Lib Try.prog) : Cfg := cfgOf lives modeG L
theorem cfG_ok (L : Lib Try.prog) : CfgOk (cfG L) := cfgOf_ok lives modeG L
theorem cf_ok' (L : Lib Try.prog) : CfgOk (cf L) := cf_ok L
def zsL (s : Int) : List AVal := (List.replicate s.toNat [iA 0, iA 0]).flatten
def cnT (a b : List P2) (s i : Int) : List AVal := [AVal.list 2 [slP a, slP b], .junk, .junk, iA s] ++ jk 5 ++ [AVal.list 2 [slP a, slP b], iA 2, iA i] ++ jk 24
def cnE (a b : List P2) (s i : Int) : List AVal := [AVal.list 2 [slP a, slP b], .junk, .junk, iA s] ++ jk 5 ++ [AVal.list 2 [slP a, slP b], iA 2, iA i, bA false] ++ jk 23
def cmT (a b : List P2) (x : AVal) (i : Int) : List AVal := jk 6 ++ [x] ++ jk 18 ++ [AVal.list 2 [slP a, slP b], iA 2, iA i] ++ jk 8
def cmE (a b : List P2) (x : AVal) (i : Int) : List AVal := jk 6 ++ [x] ++ jk 18 ++ [AVal.list 2 [slP a, slP b], iA 2, iA i, bA false] ++ jk 7
def gw (L : Lib Try.prog) (s : Int) : AVal × List AObj :=
  (AVal.row 0 0 2 0 0, ([AObj.row 2 0 none (List.flatten (List.replicate (Int.toNat (IntKind.wrap IntKind.i64 (s - IntKind.wrap IntKind.i64 ((↑0 : Int) - (↑0 : Int))))) (List.map AVal.v (Array.toList (Value.cells (Value.agg #[Value.int IntKind.i64 0, Value.int IntKind.i64 0]))))))]))
theorem gw_eq (L : Lib Try.prog) (s : Int) (p1 : (decide (IntKind.wrap IntKind.i64 (s - IntKind.wrap IntKind.i64 ((↑0 : Int) - (↑0 : Int))) > 0)) = true) (p0 : (decide (s < 0)) = false) (e0 : 0 < IntKind.wrap IntKind.i64 (s - IntKind.wrap IntKind.i64 ((↑0 : Int) - (↑0 : Int))) ∧ IntKind.wrap IntKind.i64 (s - IntKind.wrap IntKind.i64 ((↑0 : Int) - (↑0 : Int))) * (↑16 : Int) ≤ 140737488355328 ∧ IntKind.wrap IntKind.i64 (s - IntKind.wrap IntKind.i64 ((↑0 : Int) - (↑0 : Int))) ≤ 9223372036854775807) : evalF (cfG L) (201 + 1) (0) 83 ([AVal.v (Value.slice none 0 0), iA s]) ([]) = some (gw L s) := by
  have key := fun (bs : List Bool) (r : AVal × List AObj) (ob : List Prop) (h : funP (cfG L) (evalF (cfG L) 201) 201 [(9999, 0, Hint.idx), (5, 5, Hint.appZ)] 83 (0) ([AVal.v (Value.slice none 0 0), iA s]) ([]) bs [] = .ok (r.1, r.2, ob)) (hp : allOb ob) => funP_ok h hp
  unfold gw
  exact key [false, true] ((AVal.row 0 0 2 0 0, ([AObj.row 2 0 none (List.flatten (List.replicate (Int.toNat (IntKind.wrap IntKind.i64 (s - IntKind.wrap IntKind.i64 ((↑0 : Int) - (↑0 : Int))))) (List.map AVal.v (Array.toList (Value.cells (Value.agg #[Value.int IntKind.i64 0, Value.int IntKind.i64 0]))))))]))) _ (by kernel_rfl) (allOb_cons (by exact e0) (allOb_cons p1 (allOb_cons p0 allOb_nil)))
def cn0 (L : Lib Try.prog) (a : List P2) (b : List P2) (s : Int) : AExit × List AVal × List AObj :=
  (AExit.normal, (([AVal.list 2 [slP a, slP b], AVal.junk, AVal.junk, AVal.v (Value.int IntKind.i64 (IntKind.wrap IntKind.i64 (s + (↑(lenAt (upL (List.drop (0 * 1) [slP a, slP b]))) : Int))))] ++ jk 5 ++ [AVal.list 2 [slP a, slP b], AVal.v (Value.int IntKind.i64 2), AVal.v (Value.int IntKind.i64 (IntKind.wrap IntKind.i64 (0 + 1)))] ++ jk 24), []))
theorem cn0_eq (L : Lib Try.prog) (a : List P2) (b : List P2) (s : Int) (p1 : (decide (IntKind.wrap IntKind.i64 (s + (↑(lenAt (upL (List.drop (0 * 1) [slP a, slP b]))) : Int)) < 0)) = false) : roundC 0 (evalC (cfG L) (evalF (cfG L) 202) (Option.getD (List.lookup 66 lives) []) 0 0 202 (loopAt Try.f66 0)) (cnT a b s 0) ([]) = some (cn0 L a b s) := by
  have key := fun (bs : List Bool) (r : AExit × List AVal × List AObj) (ob : List Prop) (h : roundP (cfG L) (evalF (cfG L) 202) (Option.getD (List.lookup 66 lives) []) 0 0 202 [(9999, 0, Hint.idx)] (loopAt Try.f66 0) (cnT a b s 0) ([]) bs [] = .ok (r.1, r.2.1, r.2.2, ob)) (hp : allOb ob) => roundP_ok h hp
  unfold cn0
  exact key [true, false] ((AExit.normal, (([AVal.list 2 [slP a, slP b], AVal.junk, AVal.junk, AVal.v (Value.int IntKind.i64 (IntKind.wrap IntKind.i64 (s + (↑(lenAt (upL (List.drop (0 * 1) [slP a, slP b]))) : Int))))] ++ jk 5 ++ [AVal.list 2 [slP a, slP b], AVal.v (Value.int IntKind.i64 2), AVal.v (Value.int IntKind.i64 (IntKind.wrap IntKind.i64 (0 + 1)))] ++ jk 24), []))) _ (by kernel_rfl) (allOb_cons (show Plain [] from by simp only [Plain, List.all_append, List.all_cons, List.all_nil, plainO, upL_flatPP, flatP_plain, Nat.zero_mul, List.drop_zero] <;> rfl) (allOb_cons p1 (allOb_cons (show partA (Cfg.P (cfG L)) 24 (upL (List.drop (0 * 1) [slP a, slP b])) 0 = some (AVal.list (lenAt (upL (List.drop (0 * 1) [slP a, slP b]))) (cellsAt (upL (List.drop (0 * 1) [slP a, slP b])))) from by kernel_rfl) (allOb_cons (show (0 : Int) ≤ 0 ∧ (0 : Int) < (↑2 : Int) ∧ 0 < 1 ∧ 2 = 2 from by decide) (allOb_cons lit_t allOb_nil)))))
def cn1 (L : Lib Try.prog) (a : List P2) (b : List P2) (s : Int) : AExit × List AVal × List AObj :=
  (AExit.normal, (([AVal.list 2 [slP a, slP b], AVal.junk, AVal.junk, AVal.v (Value.int IntKind.i64 (IntKind.wrap IntKind.i64 (s + (↑(lenAt (upL (List.drop (1 * 1) [slP a, slP b]))) : Int))))] ++ jk 5 ++ [AVal.list 2 [slP a, slP b], AVal.v (Value.int IntKind.i64 2), AVal.v (Value.int IntKind.i64 (IntKind.wrap IntKind.i64 (1 + 1)))] ++ jk 24), []))
theorem cn1_eq (L : Lib Try.prog) (a : List P2) (b : List P2) (s : Int) (p1 : (decide (IntKind.wrap IntKind.i64 (s + (↑(lenAt (upL (List.drop (1 * 1) [slP a, slP b]))) : Int)) < 0)) = false) : roundC 0 (evalC (cfG L) (evalF (cfG L) 202) (Option.getD (List.lookup 66 lives) []) 0 0 202 (loopAt Try.f66 0)) (cnT a b s 1) ([]) = some (cn1 L a b s) := by
  have key := fun (bs : List Bool) (r : AExit × List AVal × List AObj) (ob : List Prop) (h : roundP (cfG L) (evalF (cfG L) 202) (Option.getD (List.lookup 66 lives) []) 0 0 202 [(9999, 0, Hint.idx)] (loopAt Try.f66 0) (cnT a b s 1) ([]) bs [] = .ok (r.1, r.2.1, r.2.2, ob)) (hp : allOb ob) => roundP_ok h hp
  unfold cn1
  exact key [true, false] ((AExit.normal, (([AVal.list 2 [slP a, slP b], AVal.junk, AVal.junk, AVal.v (Value.int IntKind.i64 (IntKind.wrap IntKind.i64 (s + (↑(lenAt (upL (List.drop (1 * 1) [slP a, slP b]))) : Int))))] ++ jk 5 ++ [AVal.list 2 [slP a, slP b], AVal.v (Value.int IntKind.i64 2), AVal.v (Value.int IntKind.i64 (IntKind.wrap IntKind.i64 (1 + 1)))] ++ jk 24), []))) _ (by kernel_rfl) (allOb_cons (show Plain [] from by simp only [Plain, List.all_append, List.all_cons, List.all_nil, plainO, upL_flatPP, flatP_plain, Nat.zero_mul, List.drop_zero] <;> rfl) (allOb_cons p1 (allOb_cons (show partA (Cfg.P (cfG L)) 24 (upL (List.drop (1 * 1) [slP a, slP b])) 0 = some (AVal.list (lenAt (upL (List.drop (1 * 1) [slP a, slP b]))) (cellsAt (upL (List.drop (1 * 1) [slP a, slP b])))) from by kernel_rfl) (allOb_cons (show (0 : Int) ≤ 1 ∧ (1 : Int) < (↑2 : Int) ∧ 0 < 1 ∧ 2 = 2 from by decide) (allOb_cons lit_t allOb_nil)))))
def cn2 (L : Lib Try.prog) (a : List P2) (b : List P2) (s : Int) : AExit × List AVal × List AObj :=
  (AExit.exit 0, (([AVal.list 2 [slP a, slP b], AVal.junk, AVal.junk, AVal.v (Value.int IntKind.i64 s)] ++ jk 5 ++ [AVal.list 2 [slP a, slP b], AVal.v (Value.int IntKind.i64 2), AVal.v (Value.int IntKind.i64 2), AVal.v (Value.bool false)] ++ jk 23), []))
theorem cn2_eq (L : Lib Try.prog) (a : List P2) (b : List P2) (s : Int) : roundC 0 (evalC (cfG L) (evalF (cfG L) 202) (Option.getD (List.lookup 66 lives) []) 0 0 202 (loopAt Try.f66 0)) (cnT a b s 2) ([]) = some (cn2 L a b s) := by
  have key := fun (bs : List Bool) (r : AExit × List AVal × List AObj) (ob : List Prop) (h : roundP (cfG L) (evalF (cfG L) 202) (Option.getD (List.lookup 66 lives) []) 0 0 202 [(9999, 0, Hint.idx)] (loopAt Try.f66 0) (cnT a b s 2) ([]) bs [] = .ok (r.1, r.2.1, r.2.2, ob)) (hp : allOb ob) => roundP_ok h hp
  unfold cn2
  exact key [false] ((AExit.exit 0, (([AVal.list 2 [slP a, slP b], AVal.junk, AVal.junk, AVal.v (Value.int IntKind.i64 s)] ++ jk 5 ++ [AVal.list 2 [slP a, slP b], AVal.v (Value.int IntKind.i64 2), AVal.v (Value.int IntKind.i64 2), AVal.v (Value.bool false)] ++ jk 23), []))) _ (by kernel_rfl) (allOb_cons (show Plain [] from by simp only [Plain, List.all_append, List.all_cons, List.all_nil, plainO, upL_flatPP, flatP_plain, Nat.zero_mul, List.drop_zero] <;> rfl) (allOb_cons lit_f allOb_nil))
def cm0 (L : Lib Try.prog) (a : List P2) (b : List P2) (zs : List AVal) : AExit × List AVal × List AObj :=
  (AExit.normal, ((jk 6 ++ [AVal.row 0 0 2 0 (0 + List.length a)] ++ jk 18 ++ [AVal.list 2 [slP a, slP b], AVal.v (Value.int IntKind.i64 2), AVal.v (Value.int IntKind.i64 (IntKind.wrap IntKind.i64 (0 + 1)))] ++ jk 8), ([AObj.row 2 0 none (upL (flatPP a))])))
theorem cm0_eq (L : Lib Try.prog) (a : List P2) (b : List P2) (zs : List AVal) (e0 : 0 = 0 ∧ (0 + List.length a) * 16 ≤ 140737488355328 ∧ 0 + List.length a ≤ 9223372036854775807) (e1 : Ones (upL (flatPP a))) (e2 : 0 < List.length a) (e3 : List.length (flatPP a) = List.length a * 2) (e4 : 0 ≠ List.length zs) : roundC 0 (evalC (cfG L) (evalF (cfG L) 202) (Option.getD (List.lookup 66 lives) []) 0 0 202 (loopAt Try.f66 1)) (cmT a b (AVal.row 0 0 2 0 0) 0) ([AObj.row 2 0 none zs]) = some (cm0 L a b zs) := by
  have key := fun (bs : List Bool) (r : AExit × List AVal × List AObj) (ob : List Prop) (h : roundP (cfG L) (evalF (cfG L) 202) (Option.getD (List.lookup 66 lives) []) 0 0 202 [(9999, 0, Hint.idx), (13, 2, Hint.appS)] (loopAt Try.f66 1) (cmT a b (AVal.row 0 0 2 0 0) 0) ([AObj.row 2 0 none zs]) bs [] = .ok (r.1, r.2.1, r.2.2, ob)) (hp : allOb ob) => roundP_ok h hp
  unfold cm0
  exact key [true] ((AExit.normal, ((jk 6 ++ [AVal.row 0 0 2 0 (0 + List.length a)] ++ jk 18 ++ [AVal.list 2 [slP a, slP b], AVal.v (Value.int IntKind.i64 2), AVal.v (Value.int IntKind.i64 (IntKind.wrap IntKind.i64 (0 + 1)))] ++ jk 8), ([AObj.row 2 0 none (upL (flatPP a))])))) _ (by kernel_rfl) (allOb_cons (show Plain ([AObj.row 2 1 none (upL (flatPP a))]) from by simp only [Plain, List.all_append, List.all_cons, List.all_nil, plainO, upL_flatPP, flatP_plain, Nat.zero_mul, List.drop_zero] <;> rfl) (allOb_cons (by exact e4) (allOb_cons (by exact e3) (allOb_cons (by exact e2) (allOb_cons (by exact e1) (allOb_cons (by exact e0) (allOb_cons (show partA (Cfg.P (cfG L)) 24 (upL (List.drop (0 * 1) [slP a, slP b])) 0 = some (AVal.list (lenAt (upL (List.drop (0 * 1) [slP a, slP b]))) (cellsAt (upL (List.drop (0 * 1) [slP a, slP b])))) from by kernel_rfl) (allOb_cons (show (0 : Int) ≤ 0 ∧ (0 : Int) < (↑2 : Int) ∧ 0 < 1 ∧ 2 = 2 from by decide) (allOb_cons lit_t allOb_nil)))))))))
def cm1 (L : Lib Try.prog) (a : List P2) (b : List P2) (c : List P2) : AExit × List AVal × List AObj :=
  (AExit.normal, ((jk 6 ++ [AVal.row 0 0 2 0 (List.length a + List.length b)] ++ jk 18 ++ [AVal.list 2 [slP a, slP b], AVal.v (Value.int IntKind.i64 2), AVal.v (Value.int IntKind.i64 (IntKind.wrap IntKind.i64 (1 + 1)))] ++ jk 8), ([AObj.row 2 0 none (upL (flatPP c))])))
theorem cm1_eq (L : Lib Try.prog) (a : List P2) (b : List P2) (c : List P2) (e0 : (0 + List.length a) * 2 = List.length (upL (flatPP a)) ∧ (List.length a + List.length b) * 16 ≤ 140737488355328 ∧ List.length a + List.length b ≤ 9223372036854775807) (e1 : Ones (upL (flatPP b))) (e2 : 0 < List.length b) (e3 : List.length (flatPP b) = List.length b * 2) (e4 : upL (flatPP a) ++ upL (flatPP b) = upL (flatPP c)) : roundC 0 (evalC (cfG L) (evalF (cfG L) 202) (Option.getD (List.lookup 66 lives) []) 0 0 202 (loopAt Try.f66 1)) (cmT a b (AVal.row 0 0 2 0 (List.length a)) 1) ([AObj.row 2 0 none (upL (flatPP a))]) = some (cm1 L a b c) := by
  have key := fun (bs : List Bool) (r : AExit × List AVal × List AObj) (ob : List Prop) (h : roundP (cfG L) (evalF (cfG L) 202) (Option.getD (List.lookup 66 lives) []) 0 0 202 [(9999, 0, Hint.idx), (13, 2, Hint.appY (upL (flatPP c)))] (loopAt Try.f66 1) (cmT a b (AVal.row 0 0 2 0 (List.length a)) 1) ([AObj.row 2 0 none (upL (flatPP a))]) bs [] = .ok (r.1, r.2.1, r.2.2, ob)) (hp : allOb ob) => roundP_ok h hp
  unfold cm1
  exact key [true] ((AExit.normal, ((jk 6 ++ [AVal.row 0 0 2 0 (List.length a + List.length b)] ++ jk 18 ++ [AVal.list 2 [slP a, slP b], AVal.v (Value.int IntKind.i64 2), AVal.v (Value.int IntKind.i64 (IntKind.wrap IntKind.i64 (1 + 1)))] ++ jk 8), ([AObj.row 2 0 none (upL (flatPP c))])))) _ (by kernel_rfl) (allOb_cons (show Plain ([AObj.row 2 1 none (upL (flatPP c))]) from by simp only [Plain, List.all_append, List.all_cons, List.all_nil, plainO, upL_flatPP, flatP_plain, Nat.zero_mul, List.drop_zero] <;> rfl) (allOb_cons (by exact e4) (allOb_cons (by exact e3) (allOb_cons (by exact e2) (allOb_cons (by exact e1) (allOb_cons (by exact e0) (allOb_cons (show partA (Cfg.P (cfG L)) 24 (upL (List.drop (1 * 1) [slP a, slP b])) 0 = some (AVal.list (lenAt (upL (List.drop (1 * 1) [slP a, slP b]))) (cellsAt (upL (List.drop (1 * 1) [slP a, slP b])))) from by kernel_rfl) (allOb_cons (show (0 : Int) ≤ 1 ∧ (1 : Int) < (↑2 : Int) ∧ 0 < 1 ∧ 2 = 2 from by decide) (allOb_cons lit_t allOb_nil)))))))))
def cm2 (L : Lib Try.prog) (a : List P2) (b : List P2) (c : List P2) (m : Nat) : AExit × List AVal × List AObj :=
  (AExit.exit 2, ((jk 6 ++ [AVal.row 0 0 2 0 m] ++ jk 18 ++ [AVal.list 2 [slP a, slP b], AVal.v (Value.int IntKind.i64 2), AVal.v (Value.int IntKind.i64 2), AVal.v (Value.bool false)] ++ jk 7), ([AObj.row 2 0 none (upL (flatPP c))])))
theorem cm2_eq (L : Lib Try.prog) (a : List P2) (b : List P2) (c : List P2) (m : Nat) : roundC 0 (evalC (cfG L) (evalF (cfG L) 202) (Option.getD (List.lookup 66 lives) []) 0 0 202 (loopAt Try.f66 1)) (cmT a b (AVal.row 0 0 2 0 m) 2) ([AObj.row 2 0 none (upL (flatPP c))]) = some (cm2 L a b c m) := by
  have key := fun (bs : List Bool) (r : AExit × List AVal × List AObj) (ob : List Prop) (h : roundP (cfG L) (evalF (cfG L) 202) (Option.getD (List.lookup 66 lives) []) 0 0 202 [(9999, 0, Hint.idx)] (loopAt Try.f66 1) (cmT a b (AVal.row 0 0 2 0 m) 2) ([AObj.row 2 0 none (upL (flatPP c))]) bs [] = .ok (r.1, r.2.1, r.2.2, ob)) (hp : allOb ob) => roundP_ok h hp
  unfold cm2
  exact key [false] ((AExit.exit 2, ((jk 6 ++ [AVal.row 0 0 2 0 m] ++ jk 18 ++ [AVal.list 2 [slP a, slP b], AVal.v (Value.int IntKind.i64 2), AVal.v (Value.int IntKind.i64 2), AVal.v (Value.bool false)] ++ jk 7), ([AObj.row 2 0 none (upL (flatPP c))])))) _ (by kernel_rfl) (allOb_cons (show Plain ([AObj.row 2 0 none (upL (flatPP c))]) from by simp only [Plain, List.all_append, List.all_cons, List.all_nil, plainO, upL_flatPP, flatP_plain, Nat.zero_mul, List.drop_zero] <;> rfl) (allOb_cons lit_f allOb_nil))
def cnAl (L : Lib Try.prog) (a : List P2) (b : List P2) (c : List P2) (zs : List AVal) (s : Int) (m : Nat) : PVal :=
  slP c
theorem cnAl_calls (L : Lib Try.prog) (a : List P2) (b : List P2) (c : List P2) (zs : List AVal) (s : Int) (m : Nat) (e0 : iterC 0 (evalC (cfG L) (evalF (cfG L) 202) ((lives.lookup 66).getD []) 0 0 202 (loopAt Try.f66 0)) 202 ([AVal.list 2 [PVal.list (List.length a) (flatPP a), PVal.list (List.length b) (flatPP b)], AVal.junk, AVal.junk, AVal.v (Value.int IntKind.i64 0)] ++ jk 5 ++ [AVal.list 2 [PVal.list (List.length a) (flatPP a), PVal.list (List.length b) (flatPP b)], AVal.v (Value.int IntKind.i64 (↑2 : Int)), AVal.v (Value.int IntKind.i64 0)] ++ jk 24) [] = some (AExit.exit 0, (([AVal.list 2 [PVal.list (List.length a) (flatPP a), PVal.list (List.length b) (flatPP b)], AVal.junk, AVal.junk, AVal.v (Value.int IntKind.i64 s)] ++ jk 5 ++ [AVal.list 2 [PVal.list (List.length a) (flatPP a), PVal.list (List.length b) (flatPP b)], AVal.v (Value.int IntKind.i64 2), AVal.v (Value.int IntKind.i64 2), AVal.v (Value.bool false)] ++ jk 23), []))) (e1 : callA (cfG L) (evalF (cfG L) 202) 0 83 [AVal.v (Value.slice none 0 0), AVal.v (Value.int IntKind.i64 s)] [] = some (AVal.row 0 0 2 0 0, [AObj.row 2 0 none zs])) (e2 : iterC 0 (evalC (cfG L) (evalF (cfG L) 202) ((lives.lookup 66).getD []) 0 0 202 (loopAt Try.f66 1)) 202 (jk 6 ++ [AVal.row 0 0 2 0 0] ++ jk 18 ++ [AVal.list 2 [PVal.list (List.length a) (flatPP a), PVal.list (List.length b) (flatPP b)], AVal.v (Value.int IntKind.i64 (↑2 : Int)), AVal.v (Value.int IntKind.i64 0)] ++ jk 8) ([AObj.row 2 0 none zs]) = some (AExit.exit 2, ((jk 6 ++ [AVal.row 0 0 2 0 m] ++ jk 18 ++ [AVal.list 2 [PVal.list (List.length a) (flatPP a), PVal.list (List.length b) (flatPP b)], AVal.v (Value.int IntKind.i64 2), AVal.v (Value.int IntKind.i64 2), AVal.v (Value.bool false)] ++ jk 7), ([AObj.row 2 0 none (upL (flatPP c))])))) (e3 : peek (Vm.mark 0 deep [AObj.row 2 0 none (upL (flatPP c))] (AVal.row 0 0 2 0 m)) deep (AVal.row 0 0 2 0 m) = some (slP c)) : CallsP Try.prog 66 [LL a b] (cnAl L a b c zs s m) := by
  have key := fun (bs : List Bool) (r : PVal) (ob : List Prop) (h : callP (cfG L) (evalF (cfG L) 202) 202 [(9999, 0, Hint.idx), (9, 1, Hint.call (AVal.row 0 0 2 0 0) [AObj.row 2 0 none zs])] 66 [LL a b] bs [(AExit.exit 0, cnE a b s 2, []), (AExit.exit 2, cmE a b (AVal.row 0 0 2 0 m) 2, [AObj.row 2 0 none (upL (flatPP c))])] (some (slP c)) = .ok (r, ob)) (hp : allOb ob) => callP_ok (cfG_ok L) h hp
  unfold cnAl
  exact key [] (slP c) _ (by kernel_rfl) (allOb_cons (by exact e3) (allOb_cons (by exact e2) (allOb_cons (by exact e1) (allOb_cons (by exact e0) allOb_nil))))
def jnT (L : Lib Try.prog) (a : List P2) (b : List P2) (c : List P2) : PVal :=
  slP c
theorem jnT_calls (L : Lib Try.prog) (a : List P2) (b : List P2) (c : List P2) (p2 : (eqB (pAt a (Int.toNat (IntKind.wrap IntKind.i64 ((↑(List.length a) : Int) - 1)))) (pAt b 0)) = true) (p1 : (decide ((↑(List.length b) : Int) > 0)) = true) (p0 : (decide ((↑(List.length a) : Int) > 0)) = true) (b0 : (0 : Int) ≤ IntKind.wrap IntKind.i64 ((↑(List.length a) : Int) - 1) ∧ (IntKind.wrap IntKind.i64 ((↑(List.length a) : Int) - 1) : Int) < (↑(List.length a) : Int)) (b1 : (0 : Int) ≤ 0 ∧ (0 : Int) < (↑(List.length b) : Int)) (e0 : boundsA (List.length b) (some (AVal.v (Value.int IntKind.i64 1))) none none = some (1, List.length b, none)) (e1 : pureCall (cf L) (evalF (cf L) 203) 66 [PVal.list 2 [slP a, PVal.list (List.length b - 1) (cutA (flatPP b) 2 1 (List.length b))]] = some (slP c)) (e2 : pureCall (cf L) (evalF (cf L) 203) 59 [slP c] = some (slP c)) : CallsP Try.prog 41 [slP a, slP b] (jnT L a b c) := by
  have key := fun (bs : List Bool) (r : PVal) (ob : List Prop) (h : callP (cf L) (evalF (cf L) 203) 203 [(9999, 0, Hint.idx), (2, 1, Hint.cut), (3, 3, Hint.pcall (slP c)), (3, 4, Hint.pcall (slP c))] 41 [slP a, slP b] bs [] (none) = .ok (r, ob)) (hp : allOb ob) => callP_ok (cf_ok L) h hp
  unfold jnT
  exact key [true, true, true] (slP c) _ (by kernel_rfl) (allOb_cons (by exact e2) (allOb_cons (by exact e1) (allOb_cons (by exact e0) (allOb_cons p2 (allOb_cons (show partA (Cfg.P (cf L)) 23 (upL (List.drop (0 * 2) (flatPP b))) 0 = some (AVal.agg ([AVal.v (Value.int IntKind.i64 (Prod.fst (pAt b 0)))] ++ ([AVal.v (Value.int IntKind.i64 (Prod.snd (pAt b 0)))] ++ []))) from by first | exact part_pt b1 | exact part_x b1 | exact part_y b1 | exact partQ_pt b1 | exact partQ_x b1 | exact partQ_y b1 | exact part_pt b0 | exact part_x b0 | exact part_y b0 | exact partQ_pt b0 | exact partQ_x b0 | exact partQ_y b0) (allOb_cons (idx_ok b1) (allOb_cons (show partA (Cfg.P (cf L)) 23 (upL (List.drop (Int.toNat (IntKind.wrap IntKind.i64 ((↑(List.length a) : Int) - 1)) * 2) (flatPP a))) 0 = some (AVal.agg ([AVal.v (Value.int IntKind.i64 (Prod.fst (pAt a (Int.toNat (IntKind.wrap IntKind.i64 ((↑(List.length a) : Int) - 1))))))] ++ ([AVal.v (Value.int IntKind.i64 (Prod.snd (pAt a (Int.toNat (IntKind.wrap IntKind.i64 ((↑(List.length a) : Int) - 1))))))] ++ []))) from by first | exact part_pt b0 | exact part_x b0 | exact part_y b0 | exact partQ_pt b0 | exact partQ_x b0 | exact partQ_y b0) (allOb_cons (idx_ok b0) (allOb_cons p1 (allOb_cons p0 allOb_nil))))))))))
def jnF (L : Lib Try.prog) (a : List P2) (b : List P2) (c : List P2) : PVal :=
  slP c
theorem jnF_calls (L : Lib Try.prog) (a : List P2) (b : List P2) (c : List P2) (p2 : (eqB (pAt a (Int.toNat (IntKind.wrap IntKind.i64 ((↑(List.length a) : Int) - 1)))) (pAt b 0)) = false) (p1 : (decide ((↑(List.length b) : Int) > 0)) = true) (p0 : (decide ((↑(List.length a) : Int) > 0)) = true) (b0 : (0 : Int) ≤ IntKind.wrap IntKind.i64 ((↑(List.length a) : Int) - 1) ∧ (IntKind.wrap IntKind.i64 ((↑(List.length a) : Int) - 1) : Int) < (↑(List.length a) : Int)) (b1 : (0 : Int) ≤ 0 ∧ (0 : Int) < (↑(List.length b) : Int)) (e0 : pureCall (cf L) (evalF (cf L) 203) 66 [PVal.list 2 [slP a, slP b]] = some (slP c)) (e1 : pureCall (cf L) (evalF (cf L) 203) 59 [slP c] = some (slP c)) : CallsP Try.prog 41 [slP a, slP b] (jnF L a b c) := by
  have key := fun (bs : List Bool) (r : PVal) (ob : List Prop) (h : callP (cf L) (evalF (cf L) 203) 203 [(9999, 0, Hint.idx), (2, 1, Hint.cut), (3, 3, Hint.pcall (slP c)), (3, 4, Hint.pcall (slP c))] 41 [slP a, slP b] bs [] (none) = .ok (r, ob)) (hp : allOb ob) => callP_ok (cf_ok L) h hp
  unfold jnF
  exact key [true, true, false] (slP c) _ (by kernel_rfl) (allOb_cons (by exact e1) (allOb_cons (by exact e0) (allOb_cons p2 (allOb_cons (show partA (Cfg.P (cf L)) 23 (upL (List.drop (0 * 2) (flatPP b))) 0 = some (AVal.agg ([AVal.v (Value.int IntKind.i64 (Prod.fst (pAt b 0)))] ++ ([AVal.v (Value.int IntKind.i64 (Prod.snd (pAt b 0)))] ++ []))) from by first | exact part_pt b1 | exact part_x b1 | exact part_y b1 | exact partQ_pt b1 | exact partQ_x b1 | exact partQ_y b1 | exact part_pt b0 | exact part_x b0 | exact part_y b0 | exact partQ_pt b0 | exact partQ_x b0 | exact partQ_y b0) (allOb_cons (idx_ok b1) (allOb_cons (show partA (Cfg.P (cf L)) 23 (upL (List.drop (Int.toNat (IntKind.wrap IntKind.i64 ((↑(List.length a) : Int) - 1)) * 2) (flatPP a))) 0 = some (AVal.agg ([AVal.v (Value.int IntKind.i64 (Prod.fst (pAt a (Int.toNat (IntKind.wrap IntKind.i64 ((↑(List.length a) : Int) - 1))))))] ++ ([AVal.v (Value.int IntKind.i64 (Prod.snd (pAt a (Int.toNat (IntKind.wrap IntKind.i64 ((↑(List.length a) : Int) - 1))))))] ++ []))) from by first | exact part_pt b0 | exact part_x b0 | exact part_y b0 | exact partQ_pt b0 | exact partQ_x b0 | exact partQ_y b0) (allOb_cons (idx_ok b0) (allOb_cons p1 (allOb_cons p0 allOb_nil)))))))))
def jnG (L : Lib Try.prog) (a : List P2) (b : List P2) (c : List P2) : PVal :=
  slP c
theorem jnG_calls (L : Lib Try.prog) (a : List P2) (b : List P2) (c : List P2) (p1 : (decide ((↑(List.length b) : Int) > 0)) = false) (p0 : (decide ((↑(List.length a) : Int) > 0)) = true) (e0 : pureCall (cf L) (evalF (cf L) 203) 66 [PVal.list 2 [slP a, slP b]] = some (slP c)) (e1 : pureCall (cf L) (evalF (cf L) 203) 59 [slP c] = some (slP c)) : CallsP Try.prog 41 [slP a, slP b] (jnG L a b c) := by
  have key := fun (bs : List Bool) (r : PVal) (ob : List Prop) (h : callP (cf L) (evalF (cf L) 203) 203 [(9999, 0, Hint.idx), (2, 1, Hint.cut), (3, 3, Hint.pcall (slP c)), (3, 4, Hint.pcall (slP c))] 41 [slP a, slP b] bs [] (none) = .ok (r, ob)) (hp : allOb ob) => callP_ok (cf_ok L) h hp
  unfold jnG
  exact key [true, false, false] (slP c) _ (by kernel_rfl) (allOb_cons (by exact e1) (allOb_cons (by exact e0) (allOb_cons lit_f (allOb_cons p1 (allOb_cons p0 allOb_nil)))))
def jnH (L : Lib Try.prog) (a : List P2) (b : List P2) (c : List P2) : PVal :=
  slP c
theorem jnH_calls (L : Lib Try.prog) (a : List P2) (b : List P2) (c : List P2) (p0 : (decide ((↑(List.length a) : Int) > 0)) = false) (e0 : pureCall (cf L) (evalF (cf L) 203) 66 [PVal.list 2 [slP a, slP b]] = some (slP c)) (e1 : pureCall (cf L) (evalF (cf L) 203) 59 [slP c] = some (slP c)) : CallsP Try.prog 41 [slP a, slP b] (jnH L a b c) := by
  have key := fun (bs : List Bool) (r : PVal) (ob : List Prop) (h : callP (cf L) (evalF (cf L) 203) 203 [(9999, 0, Hint.idx), (2, 1, Hint.cut), (3, 3, Hint.pcall (slP c)), (3, 4, Hint.pcall (slP c))] 41 [slP a, slP b] bs [] (none) = .ok (r, ob)) (hp : allOb ob) => callP_ok (cf_ok L) h hp
  unfold jnH
  exact key [false, false, false] (slP c) _ (by kernel_rfl) (allOb_cons (by exact e1) (allOb_cons (by exact e0) (allOb_cons lit_f (allOb_cons lit_f (allOb_cons p0 allOb_nil)))))
end Go.Proofs.Ytmopbegmdegooaa
/- slices.Concat: the rounds where a slice is empty; slices.Clip. -/
namespace Go.Proofs.Ytmopbegmdegooaa
open Go Vm M
set_option linter.unusedVariables false
set_option linter.unusedSimpArgs false
def cm0n (L : Lib Try.prog) (b : List P2) (zs : List P2) : AExit × List AVal × List AObj :=
  (AExit.normal, ((jk 6 ++ [AVal.row 0 0 2 0 0] ++ jk 18 ++ [AVal.list 2 [PVal.list 0 [], slP b], AVal.v (Value.int IntKind.i64 2), AVal.v (Value.int IntKind.i64 (IntKind.wrap IntKind.i64 (0 + 1)))] ++ jk 8), ([AObj.row 2 0 none (upL (flatPP zs))])))
theorem cm0n_eq (L : Lib Try.prog) (b : List P2) (zs : List P2) : roundC 0 (evalC (cfG L) (evalF (cfG L) 202) (Option.getD (List.lookup 66 lives) []) 0 0 202 (loopAt Try.f66 1)) (cmT [] b (AVal.row 0 0 2 0 0) 0) ([AObj.row 2 0 none (upL (flatPP zs))]) = some (cm0n L b zs) := by
  have key := fun (bs : List Bool) (r : AExit × List AVal × List AObj) (ob : List Prop) (h : roundP (cfG L) (evalF (cfG L) 202) (Option.getD (List.lookup 66 lives) []) 0 0 202 [(9999, 0, Hint.idx)] (loopAt Try.f66 1) (cmT [] b (AVal.row 0 0 2 0 0) 0) ([AObj.row 2 0 none (upL (flatPP zs))]) bs [] = .ok (r.1, r.2.1, r.2.2, ob)) (hp : allOb ob) => roundP_ok h hp
  unfold cm0n
  exact key [true] ((AExit.normal, ((jk 6 ++ [AVal.row 0 0 2 0 0] ++ jk 18 ++ [AVal.list 2 [PVal.list 0 [], slP b], AVal.v (Value.int IntKind.i64 2), AVal.v (Value.int IntKind.i64 (IntKind.wrap IntKind.i64 (0 + 1)))] ++ jk 8), ([AObj.row 2 0 none (upL (flatPP zs))])))) _ (by kernel_rfl) (allOb_cons (show Plain ([AObj.row 2 0 none (upL (flatPP zs))]) from by simp only [Plain, List.all_append, List.all_cons, List.all_nil, plainO, upL_flatPP, flatP_plain, Nat.zero_mul, List.drop_zero] <;> rfl) (allOb_cons (show partA (Cfg.P (cfG L)) 24 (upL (List.drop (0 * 1) [slP [], slP b])) 0 = some (AVal.list (lenAt (upL (List.drop (0 * 1) [slP [], slP b]))) (cellsAt (upL (List.drop (0 * 1) [slP [], slP b])))) from by kernel_rfl) (allOb_cons (show (0 : Int) ≤ 0 ∧ (0 : Int) < (↑2 : Int) ∧ 0 < 1 ∧ 2 = 2 from by decide) (allOb_cons lit_t allOb_nil))))
def cm1s (L : Lib Try.prog) (b : List P2) (zs : List AVal) : AExit × List AVal × List AObj :=
  (AExit.normal, ((jk 6 ++ [AVal.row 0 0 2 0 (0 + List.length b)] ++ jk 18 ++ [AVal.list 2 [PVal.list 0 [], slP b], AVal.v (Value.int IntKind.i64 2), AVal.v (Value.int IntKind.i64 (IntKind.wrap IntKind.i64 (1 + 1)))] ++ jk 8), ([AObj.row 2 0 none (upL (flatPP b))])))
theorem cm1s_eq (L : Lib Try.prog) (b : List P2) (zs : List AVal) (e0 : 0 = 0 ∧ (0 + List.length b) * 16 ≤ 140737488355328 ∧ 0 + List.length b ≤ 9223372036854775807) (e1 : Ones (upL (flatPP b))) (e2 : 0 < List.length b) (e3 : List.length (flatPP b) = List.length b * 2) (e4 : 0 ≠ List.length zs) : roundC 0 (evalC (cfG L) (evalF (cfG L) 202) (Option.getD (List.lookup 66 lives) []) 0 0 202 (loopAt Try.f66 1)) (cmT [] b (AVal.row 0 0 2 0 0) 1) ([AObj.row 2 0 none zs]) = some (cm1s L b zs) := by
  have key := fun (bs : List Bool) (r : AExit × List AVal × List AObj) (ob : List Prop) (h : roundP (cfG L) (evalF (cfG L) 202) (Option.getD (List.lookup 66 lives) []) 0 0 202 [(9999, 0, Hint.idx), (13, 2, Hint.appS)] (loopAt Try.f66 1) (cmT [] b (AVal.row 0 0 2 0 0) 1) ([AObj.row 2 0 none zs]) bs [] = .ok (r.1, r.2.1, r.2.2, ob)) (hp : allOb ob) => roundP_ok h hp
  unfold cm1s
  exact key [true] ((AExit.normal, ((jk 6 ++ [AVal.row 0 0 2 0 (0 + List.length b)] ++ jk 18 ++ [AVal.list 2 [PVal.list 0 [], slP b], AVal.v (Value.int IntKind.i64 2), AVal.v (Value.int IntKind.i64 (IntKind.wrap IntKind.i64 (1 + 1)))] ++ jk 8), ([AObj.row 2 0 none (upL (flatPP b))])))) _ (by kernel_rfl) (allOb_cons (show Plain ([AObj.row 2 1 none (upL (flatPP b))]) from by simp only [Plain, List.all_append, List.all_cons, List.all_nil, plainO, upL_flatPP, flatP_plain, Nat.zero_mul, List.drop_zero] <;> rfl) (allOb_cons (by exact e4) (allOb_cons (by exact e3) (allOb_cons (by exact e2) (allOb_cons (by exact e1) (allOb_cons (by exact e0) (allOb_cons (show partA (Cfg.P (cfG L)) 24 (upL (List.drop (1 * 1) [slP [], slP b])) 0 = some (AVal.list (lenAt (upL (List.drop (1 * 1) [slP [], slP b]))) (cellsAt (upL (List.drop (1 * 1) [slP [], slP b])))) from by kernel_rfl) (allOb_cons (show (0 : Int) ≤ 1 ∧ (1 : Int) < (↑2 : Int) ∧ 0 < 1 ∧ 2 = 2 from by decide) (allOb_cons lit_t allOb_nil)))))))))
def cm1n (L : Lib Try.prog) (a : List P2) (c : List P2) (m : Nat) : AExit × List AVal × List AObj :=
  (AExit.normal, ((jk 6 ++ [AVal.row 0 0 2 0 m] ++ jk 18 ++ [AVal.list 2 [slP a, PVal.list 0 []], AVal.v (Value.int IntKind.i64 2), AVal.v (Value.int IntKind.i64 (IntKind.wrap IntKind.i64 (1 + 1)))] ++ jk 8), ([AObj.row 2 0 none (upL (flatPP c))])))
theorem cm1n_eq (L : Lib Try.prog) (a : List P2) (c : List P2) (m : Nat) : roundC 0 (evalC (cfG L) (evalF (cfG L) 202) (Option.getD (List.lookup 66 lives) []) 0 0 202 (loopAt Try.f66 1)) (cmT a [] (AVal.row 0 0 2 0 m) 1) ([AObj.row 2 0 none (upL (flatPP c))]) = some (cm1n L a c m) := by
  have key := fun (bs : List Bool) (r : AExit × List AVal × List AObj) (ob : List Prop) (h : roundP (cfG L) (evalF (cfG L) 202) (Option.getD (List.lookup 66 lives) []) 0 0 202 [(9999, 0, Hint.idx)] (loopAt Try.f66 1) (cmT a [] (AVal.row 0 0 2 0 m) 1) ([AObj.row 2 0 none (upL (flatPP c))]) bs [] = .ok (r.1, r.2.1, r.2.2, ob)) (hp : allOb ob) => roundP_ok h hp
  unfold cm1n
  exact key [true] ((AExit.normal, ((jk 6 ++ [AVal.row 0 0 2 0 m] ++ jk 18 ++ [AVal.list 2 [slP a, PVal.list 0 []], AVal.v (Value.int IntKind.i64 2), AVal.v (Value.int IntKind.i64 (IntKind.wrap IntKind.i64 (1 + 1)))] ++ jk 8), ([AObj.row 2 0 none (upL (flatPP c))])))) _ (by kernel_rfl) (allOb_cons (show Plain ([AObj.row 2 0 none (upL (flatPP c))]) from by simp only [Plain, List.all_append, List.all_cons, List.all_nil, plainO, upL_flatPP, flatP_plain, Nat.zero_mul, List.drop_zero] <;> rfl) (allOb_cons (show partA (Cfg.P (cfG L)) 24 (upL (List.drop (1 * 1) [slP a, slP []])) 0 = some (AVal.list (lenAt (upL (List.drop (1 * 1) [slP a, slP []]))) (cellsAt (upL (List.drop (1 * 1) [slP a, slP []])))) from by kernel_rfl) (allOb_cons (show (0 : Int) ≤ 1 ∧ (1 : Int) < (↑2 : Int) ∧ 0 < 1 ∧ 2 = 2 from by decide) (allOb_cons lit_t allOb_nil))))
def cmN0 (L : Lib Try.prog) : AExit × List AVal × List AObj :=
  (AExit.normal, ((jk 6 ++ [AVal.v (Value.slice none 0 0)] ++ jk 18 ++ [AVal.list 2 [PVal.list 0 [], PVal.list 0 []], AVal.v (Value.int IntKind.i64 2), AVal.v (Value.int IntKind.i64 (IntKind.wrap IntKind.i64 (0 + 1)))] ++ jk 8), []))
theorem cmN0_eq (L : Lib Try.prog) : roundC 0 (evalC (cfG L) (evalF (cfG L) 202) (Option.getD (List.lookup 66 lives) []) 0 0 202 (loopAt Try.f66 1)) (cmT [] [] (AVal.v (Value.slice none 0 0)) 0) ([]) = some (cmN0 L) := by
  have key := fun (bs : List Bool) (r : AExit × List AVal × List AObj) (ob : List Prop) (h : roundP (cfG L) (evalF (cfG L) 202) (Option.getD (List.lookup 66 lives) []) 0 0 202 [(9999, 0, Hint.idx)] (loopAt Try.f66 1) (cmT [] [] (AVal.v (Value.slice none 0 0)) 0) ([]) bs [] = .ok (r.1, r.2.1, r.2.2, ob)) (hp : allOb ob) => roundP_ok h hp
  unfold cmN0
  exact key [true] ((AExit.normal, ((jk 6 ++ [AVal.v (Value.slice none 0 0)] ++ jk 18 ++ [AVal.list 2 [PVal.list 0 [], PVal.list 0 []], AVal.v (Value.int IntKind.i64 2), AVal.v (Value.int IntKind.i64 (IntKind.wrap IntKind.i64 (0 + 1)))] ++ jk 8), []))) _ (by kernel_rfl) (allOb_cons (show Plain [] from by simp only [Plain, List.all_append, List.all_cons, List.all_nil, plainO, upL_flatPP, flatP_plain, Nat.zero_mul, List.drop_zero] <;> rfl) (allOb_cons (show partA (Cfg.P (cfG L)) 24 (upL (List.drop (0 * 1) [slP [], slP []])) 0 = some (AVal.list (lenAt (upL (List.drop (0 * 1) [slP [], slP []]))) (cellsAt (upL (List.drop (0 * 1) [slP [], slP []])))) from by kernel_rfl) (allOb_cons (show (0 : Int) ≤ 0 ∧ (0 : Int) < (↑2 : Int) ∧ 0 < 1 ∧ 2 = 2 from by decide) (allOb_cons lit_t allOb_nil))))
def cmN1 (L : Lib Try.prog) : AExit × List AVal × List AObj :=
  (AExit.normal, ((jk 6 ++ [AVal.v (Value.slice none 0 0)] ++ jk 18 ++ [AVal.list 2 [PVal.list 0 [], PVal.list 0 []], AVal.v (Value.int IntKind.i64 2), AVal.v (Value.int IntKind.i64 (IntKind.wrap IntKind.i64 (1 + 1)))] ++ jk 8), []))
theorem cmN1_eq (L : Lib Try.prog) : roundC 0 (evalC (cfG L) (evalF (cfG L) 202) (Option.getD (List.lookup 66 lives) []) 0 0 202 (loopAt Try.f66 1)) (cmT [] [] (AVal.v (Value.slice none 0 0)) 1) ([]) = some (cmN1 L) := by
  have key := fun (bs : List Bool) (r : AExit × List AVal × List AObj) (ob : List Prop) (h : roundP (cfG L) (evalF (cfG L) 202) (Option.getD (List.lookup 66 lives) []) 0 0 202 [(9999, 0, Hint.idx)] (loopAt Try.f66 1) (cmT [] [] (AVal.v (Value.slice none 0 0)) 1) ([]) bs [] = .ok (r.1, r.2.1, r.2.2, ob)) (hp : allOb ob) => roundP_ok h hp
  unfold cmN1
  exact key [true] ((AExit.normal, ((jk 6 ++ [AVal.v (Value.slice none 0 0)] ++ jk 18 ++ [AVal.list 2 [PVal.list 0 [], PVal.list 0 []], AVal.v (Value.int IntKind.i64 2), AVal.v (Value.int IntKind.i64 (IntKind.wrap IntKind.i64 (1 + 1)))] ++ jk 8), []))) _ (by kernel_rfl) (allOb_cons (show Plain [] from by simp only [Plain, List.all_append, List.all_cons, List.all_nil, plainO, upL_flatPP, flatP_plain, Nat.zero_mul, List.drop_zero] <;> rfl) (allOb_cons (show partA (Cfg.P (cfG L)) 24 (upL (List.drop (1 * 1) [slP [], slP []])) 0 = some (AVal.list (lenAt (upL (List.drop (1 * 1) [slP [], slP []]))) (cellsAt (upL (List.drop (1 * 1) [slP [], slP []])))) from by kernel_rfl) (allOb_cons (show (0 : Int) ≤ 1 ∧ (1 : Int) < (↑2 : Int) ∧ 0 < 1 ∧ 2 = 2 from by decide) (allOb_cons lit_t allOb_nil))))
def cmN2 (L : Lib Try.prog) : AExit × List AVal × List AObj :=
  (AExit.exit 2, ((jk 6 ++ [AVal.v (Value.slice none 0 0)] ++ jk 18 ++ [AVal.list 2 [PVal.list 0 [], PVal.list 0 []], AVal.v (Value.int IntKind.i64 2), AVal.v (Value.int IntKind.i64 2), AVal.v (Value.bool false)] ++ jk 7), []))
theorem cmN2_eq (L : Lib Try.prog) : roundC 0 (evalC (cfG L) (evalF (cfG L) 202) (Option.getD (List.lookup 66 lives) []) 0 0 202 (loopAt Try.f66 1)) (cmT [] [] (AVal.v (Value.slice none 0 0)) 2) ([]) = some (cmN2 L) := by
  have key := fun (bs : List Bool) (r : AExit × List AVal × List AObj) (ob : List Prop) (h : roundP (cfG L) (evalF (cfG L) 202) (Option.getD (List.lookup 66 lives) []) 0 0 202 [(9999, 0, Hint.idx)] (loopAt Try.f66 1) (cmT [] [] (AVal.v (Value.slice none 0 0)) 2) ([]) bs [] = .ok (r.1, r.2.1, r.2.2, ob)) (hp : allOb ob) => roundP_ok h hp
  unfold cmN2
  exact key [false] ((AExit.exit 2, ((jk 6 ++ [AVal.v (Value.slice none 0 0)] ++ jk 18 ++ [AVal.list 2 [PVal.list 0 [], PVal.list 0 []], AVal.v (Value.int IntKind.i64 2), AVal.v (Value.int IntKind.i64 2), AVal.v (Value.bool false)] ++ jk 7), []))) _ (by kernel_rfl) (allOb_cons (show Plain [] from by simp only [Plain, List.all_append, List.all_cons, List.all_nil, plainO, upL_flatPP, flatP_plain, Nat.zero_mul, List.drop_zero] <;> rfl) (allOb_cons lit_f allOb_nil))
def gw0 (L : Lib Try.prog) : AVal × List AObj :=
  (AVal.v (Value.slice none 0 0), [])
theorem gw0_eq (L : Lib Try.prog) : evalF (cfG L) (201 + 1) (0) 83 ([AVal.v (Value.slice none 0 0), iA 0]) ([]) = some (gw0 L) := by
  have key := fun (bs : List Bool) (r : AVal × List AObj) (ob : List Prop) (h : funP (cfG L) (evalF (cfG L) 201) 201 [(9999, 0, Hint.idx)] 83 (0) ([AVal.v (Value.slice none 0 0), iA 0]) ([]) bs [] = .ok (r.1, r.2, ob)) (hp : allOb ob) => funP_ok h hp
  unfold gw0
  exact key [false, false] ((AVal.v (Value.slice none 0 0), [])) _ (by kernel_rfl) (allOb_cons lit_f (allOb_cons lit_f allOb_nil))
def cnN (L : Lib Try.prog) : PVal :=
  PVal.v (Value.slice none 0 0)
theorem cnN_calls (L : Lib Try.prog) (e0 : iterC 0 (evalC (cfG L) (evalF (cfG L) 202) ((lives.lookup 66).getD []) 0 0 202 (loopAt Try.f66 0)) 202 ([AVal.list 2 [PVal.list 0 [], PVal.list 0 []], AVal.junk, AVal.junk, AVal.v (Value.int IntKind.i64 0)] ++ jk 5 ++ [AVal.list 2 [PVal.list 0 [], PVal.list 0 []], AVal.v (Value.int IntKind.i64 (↑2 : Int)), AVal.v (Value.int IntKind.i64 0)] ++ jk 24) [] = some (AExit.exit 0, (([AVal.list 2 [PVal.list 0 [], PVal.list 0 []], AVal.junk, AVal.junk, AVal.v (Value.int IntKind.i64 0)] ++ jk 5 ++ [AVal.list 2 [PVal.list 0 [], PVal.list 0 []], AVal.v (Value.int IntKind.i64 2), AVal.v (Value.int IntKind.i64 2), AVal.v (Value.bool false)] ++ jk 23), []))) (e1 : callA (cfG L) (evalF (cfG L) 202) 0 83 [AVal.v (Value.slice none 0 0), AVal.v (Value.int IntKind.i64 0)] [] = some (AVal.v (Value.slice none 0 0), [])) (e2 : iterC 0 (evalC (cfG L) (evalF (cfG L) 202) ((lives.lookup 66).getD []) 0 0 202 (loopAt Try.f66 1)) 202 (jk 6 ++ [AVal.v (Value.slice none 0 0)] ++ jk 18 ++ [AVal.list 2 [PVal.list 0 [], PVal.list 0 []], AVal.v (Value.int IntKind.i64 (↑2 : Int)), AVal.v (Value.int IntKind.i64 0)] ++ jk 8) [] = some (AExit.exit 2, ((jk 6 ++ [AVal.v (Value.slice none 0 0)] ++ jk 18 ++ [AVal.list 2 [PVal.list 0 [], PVal.list 0 []], AVal.v (Value.int IntKind.i64 2), AVal.v (Value.int IntKind.i64 2), AVal.v (Value.bool false)] ++ jk 7), []))) : CallsP Try.prog 66 [LL [] []] (cnN L) := by
  have key := fun (bs : List Bool) (r : PVal) (ob : List Prop) (h : callP (cfG L) (evalF (cfG L) 202) 202 [(9999, 0, Hint.idx), (9, 1, Hint.call (AVal.v (Value.slice none 0 0)) [])] 66 [LL [] []] bs [(AExit.exit 0, cnE [] [] 0 2, []), (AExit.exit 2, cmE [] [] (AVal.v (Value.slice none 0 0)) 2, [])] (none) = .ok (r, ob)) (hp : allOb ob) => callP_ok (cfG_ok L) h hp
  unfold cnN
  exact key [] (PVal.v (Value.slice none 0 0)) _ (by kernel_rfl) (allOb_cons (by exact e2) (allOb_cons (by exact e1) (allOb_cons (by exact e0) allOb_nil)))
end Go.Proofs.Ytmopbegmdegooaa
/- slices.Concat, Clip, line.Join: what they answer. -/
namespace Go.Proofs.Ytmopbegmdegooaa
open Go Vm M
set_option linter.unusedVariables false
set_option linter.unusedSimpArgs false
def zP (s : Nat) : List P2 := List.replicate s (0, 0)
theorem zs_flat : ∀ s : Nat, (List.replicate s (List.map AVal.v (Array.toList (Value.cells (Value.agg #[Value.int IntKind.i64 0, Value.int IntKind.i64 0]))))).flatten = upL (flatPP (zP s))
  | 0 => rfl
  | s + 1 => by
    have := zs_flat s
    unfold zP at this ⊢
    rw [List.replicate_succ, List.replicate_succ, List.flatten_cons, this]
    rfl
theorem grow_call {L : Lib Try.prog} {s : Nat} (h1 : 1 ≤ s) (h : s ≤ 1000) : callA (cfG L) (evalF (cfG L) 202) 0 83 [.v (.slice none 0 0), .v (.int .i64 s)] [] = some (.row 0 0 2 0 0, [.row 2 0 none (upL (flatPP (zP s)))]) := by
  have e0 : IntKind.i64.wrap ((0 : Int) - 0) = 0 := IntWalk.i64_in _ (by omega)
  have e1 : IntKind.i64.wrap ((s : Int) - IntKind.i64.wrap ((0 : Int) - 0)) = (s : Int) := by rw [e0, IntWalk.i64_in _ (by omega), Int.sub_zero]
  have h2 := gw_eq L s (decide_eq_true (by rw [e1]; omega)) (decide_eq_false (by omega)) (by rw [e1]; exact ⟨by omega, by omega, by omega⟩)
  unfold gw at h2
  rw [e1, Int.toNat_natCast, zs_flat] at h2
  have e : callA (cfG L) (evalF (cfG L) 202) 0 83 [.v (.slice none 0 0), .v (.int .i64 s)] [] = evalF (cfG L) 202 0 83 [.v (.slice none 0 0), .v (.int .i64 s)] [] := by kernel_rfl
  rw [e]
  exact h2
section
variable (L : Lib Try.prog) (a b : List P2) (ha : a.length ≤ 200) (hb : b.length ≤ 200)
noncomputable abbrev bodyC0 : List AVal → List AObj → Res := evalC (cfG L) (evalF (cfG L) 202) ((lives.lookup 66).getD []) 0 0 202 (loopAt Try.f66 0)
noncomputable abbrev bodyC1 : List AVal → List AObj → Res := evalC (cfG L) (evalF (cfG L) 202) ((lives.lookup 66).getD []) 0 0 202 (loopAt Try.f66 1)
include ha hb in
theorem cc_size : At 0 (bodyC0 L) 3 (cnT a b 0 0) [] (some (.exit 0, cnE a b ((a ++ b).length : Nat) 2, [])) := by
  have w0 : IntKind.i64.wrap ((0 : Int) + ((a.length : Nat) : Int)) = (a.length : Int) := by rw [IntWalk.i64_in _ (by omega)]; omega
  have w1 : IntKind.i64.wrap ((a.length : Int) + ((b.length : Nat) : Int)) = ((a ++ b).length : Nat) := by rw [IntWalk.i64_in _ (by omega), List.length_append]; omega
  have s0 : roundC 0 (bodyC0 L) (cnT a b 0 0) [] = some (.normal, cnT a b a.length 1, []) := by
    rw [show bodyC0 L = _ from rfl]
    rw [cn0_eq L a b 0 (decide_eq_false (by show ¬ IntKind.i64.wrap ((0 : Int) + ((a.length : Nat) : Int)) < 0; rw [w0]; omega))]
    have e : cn0 L a b 0 = (.normal, cnT a b (IntKind.i64.wrap ((0 : Int) + ((a.length : Nat) : Int))) 1, []) := by kernel_rfl
    rw [e, w0]
  have s1 : roundC 0 (bodyC0 L) (cnT a b a.length 1) [] = some (.normal, cnT a b ((a ++ b).length : Nat) 2, []) := by
    rw [show bodyC0 L = _ from rfl]
    rw [cn1_eq L a b a.length (decide_eq_false (by show ¬ IntKind.i64.wrap ((a.length : Int) + ((b.length : Nat) : Int)) < 0; rw [w1]; omega))]
    have e : cn1 L a b a.length = (.normal, cnT a b (IntKind.i64.wrap ((a.length : Int) + ((b.length : Nat) : Int))) 2, []) := by kernel_rfl
    rw [e, w1]
  exact At.step s0 (At.step s1 (At.leave (cn2_eq L a b ((a ++ b).length : Nat)) (by simp)))
include ha hb in
theorem cc_fill (h : 1 ≤ (a ++ b).length) : At 0 (bodyC1 L) 3 (cmT a b (.row 0 0 2 0 0) 0) [.row 2 0 none (upL (flatPP (zP (a ++ b).length)))] (some (.exit 2, cmE a b (.row 0 0 2 0 (a ++ b).length) 2, [.row 2 0 none (upL (flatPP (a ++ b)))])) := by
  have hz : 0 ≠ (upL (flatPP (zP (a ++ b).length))).length := by rw [upL_flatPP, flatP_length]; unfold zP; rw [List.length_replicate]; omega
  have hend : ∀ m : Nat, m = (a ++ b).length → At 0 (bodyC1 L) 1 (cmT a b (.row 0 0 2 0 m) 2) [.row 2 0 none (upL (flatPP (a ++ b)))] (some (.exit 2, cmE a b (.row 0 0 2 0 (a ++ b).length) 2, [.row 2 0 none (upL (flatPP (a ++ b)))])) := fun m hm => by
    subst hm
    exact At.leave (cm2_eq L a b (a ++ b) (a ++ b).length) (by simp)
  cases a with
  | nil =>
    simp only [List.nil_append] at h hz hend ⊢
    have s0 : roundC 0 (bodyC1 L) (cmT [] b (.row 0 0 2 0 0) 0) [.row 2 0 none (upL (flatPP (zP b.length)))] = some (.normal, cmT [] b (.row 0 0 2 0 0) 1, [.row 2 0 none (upL (flatPP (zP b.length)))]) := cm0n_eq L b (zP b.length)
    have s1 : roundC 0 (bodyC1 L) (cmT [] b (.row 0 0 2 0 0) 1) [.row 2 0 none (upL (flatPP (zP b.length)))] = some (.normal, cmT [] b (.row 0 0 2 0 b.length) 2, [.row 2 0 none (upL (flatPP b))]) := by
      rw [show bodyC1 L = _ from rfl]
      rw [cm1s_eq L b (upL (flatPP (zP b.length))) ⟨rfl, by omega, by omega⟩ (by rw [upL_flatPP]; exact onesP _) (by omega) (flatPP_length _) hz]
      unfold cm1s
      rw [Nat.zero_add]
      rfl
    exact At.step s0 (At.step s1 (hend _ rfl))
  | cons p ps =>
    have s0 : roundC 0 (bodyC1 L) (cmT (p :: ps) b (.row 0 0 2 0 0) 0) [.row 2 0 none (upL (flatPP (zP (p :: ps ++ b).length)))] = some (.normal, cmT (p :: ps) b (.row 0 0 2 0 (p :: ps).length) 1, [.row 2 0 none (upL (flatPP (p :: ps)))]) := by
      rw [show bodyC1 L = _ from rfl]
      rw [cm0_eq L (p :: ps) b (upL (flatPP (zP (p :: ps ++ b).length))) ⟨rfl, by omega, by omega⟩ (by rw [upL_flatPP]; exact onesP _) (by simp) (flatPP_length _) hz]
      unfold cm0
      rw [Nat.zero_add]
      rfl
    cases b with
    | nil =>
      simp only [List.append_nil] at hend s0 ⊢
      have s1 : roundC 0 (bodyC1 L) (cmT (p :: ps) [] (.row 0 0 2 0 (p :: ps).length) 1) [.row 2 0 none (upL (flatPP (p :: ps)))] = some (.normal, cmT (p :: ps) [] (.row 0 0 2 0 (p :: ps).length) 2, [.row 2 0 none (upL (flatPP (p :: ps)))]) := cm1n_eq L (p :: ps) (p :: ps) (p :: ps).length
      exact At.step s0 (At.step s1 (hend _ rfl))
    | cons q qs =>
      have s1 : roundC 0 (bodyC1 L) (cmT (p :: ps) (q :: qs) (.row 0 0 2 0 (p :: ps).length) 1) [.row 2 0 none (upL (flatPP (p :: ps)))] = some (.normal, cmT (p :: ps) (q :: qs) (.row 0 0 2 0 ((p :: ps).length + (q :: qs).length)) 2, [.row 2 0 none (upL (flatPP (p :: ps ++ q :: qs)))]) := by
        rw [show bodyC1 L = _ from rfl]
        rw [cm1_eq L (p :: ps) (q :: qs) (p :: ps ++ q :: qs) ⟨by rw [upL_flatPP, flatP_length]; omega, by omega, by omega⟩ (by rw [upL_flatPP]; exact onesP _) (by simp) (flatPP_length _) (by rw [upL_flatPP, upL_flatPP, upL_flatPP, flatP_append])]
        rfl
      exact At.step s0 (At.step s1 (hend _ (by rw [List.length_append])))
end
theorem concat_nil : CallsP Try.prog 66 [LL [] []] (slP []) := by
  have l0 := At.use (at_more (cc_size LA8 [] [] (by simp) (by simp)) (m := 202) (by omega)) (by rfl) (T := cnT [] [] 0 0) (S := []) (by kernel_rfl)
  have g : callA (cfG LA8) (evalF (cfG LA8) 202) 0 83 [.v (.slice none 0 0), .v (.int .i64 0)] [] = some (.v (.slice none 0 0), []) := by
    have e : callA (cfG LA8) (evalF (cfG LA8) 202) 0 83 [.v (.slice none 0 0), .v (.int .i64 0)] [] = evalF (cfG LA8) 202 0 83 [.v (.slice none 0 0), .v (.int .i64 0)] [] := by kernel_rfl
    rw [e]
    exact gw0_eq LA8
  have l1 : At 0 (bodyC1 LA8) 3 (cmT [] [] (.v (.slice none 0 0)) 0) [] (some (.exit 2, cmE [] [] (.v (.slice none 0 0)) 2, [])) := At.step (cmN0_eq LA8) (At.step (cmN1_eq LA8) (At.leave (cmN2_eq LA8) (by simp)))
  exact callsP_wkR (cnN_calls LA8 l0 g (At.use (at_more l1 (m := 202) (by omega)) (by rfl) (by kernel_rfl))) (unSl_wk rfl)
theorem concat_calls (a b : List P2) (ha : a.length ≤ 200) (hb : b.length ≤ 200) : CallsP Try.prog 66 [LL a b] (slP (a ++ b)) := by
  by_cases h : 1 ≤ (a ++ b).length
  · have hz : ([.row 2 0 none (upL (flatPP (zP (a ++ b).length)))] : List AObj).all plainO = true := by
      simp only [List.all_cons, List.all_nil, plainO, upL_flatPP, flatP_plain]
      rfl
    have l0 := At.use (at_more (cc_size LA8 a b ha hb) (m := 202) (by omega)) (by rfl) (T := cnT a b 0 0) (S := []) (by kernel_rfl)
    have l1 := At.use (at_more (cc_fill LA8 a b ha hb h) (m := 202) (by omega)) hz (T := cmT a b (.row 0 0 2 0 0) 0) (S := [.row 2 0 none (upL (flatPP (zP (a ++ b).length)))]) (by kernel_rfl)
    refine cnAl_calls LA8 a b (a ++ b) (upL (flatPP (zP (a ++ b).length))) ((a ++ b).length : Nat) (a ++ b).length l0 (grow_call h (by rw [List.length_append]; omega)) l1 ?_
    have hS : ([.row 2 0 none (upL (flatPP (a ++ b)))] : List AObj)[0]? = some (.row 2 0 none (flatP (a ++ b))) := by rw [upL_flatPP]; rfl
    rw [show deep = 5 + 1 from rfl, mark_row (n := 5) hS]
    exact peek_rowE (n := 4) (by rw [upL_flatPP]; rfl)
  · have h0 : (a ++ b).length = 0 := by omega
    rw [List.length_append] at h0
    obtain rfl : a = [] := List.eq_nil_of_length_eq_zero (by omega)
    obtain rfl : b = [] := List.eq_nil_of_length_eq_zero (by omega)
    exact concat_nil
end Go.Proofs.Ytmopbegmdegooaa
/- line.Join: what it answers. -/
namespace Go.Proofs.Ytmopbegmdegooaa
open Go Vm M
set_option linter.unusedVariables false
set_option linter.unusedSimpArgs false
theorem clipV_calls (c : List P2) : CallsP Try.prog 59 [slP c] (slP c) := by
  cases c with
  | nil => exact callsP_wkR (callP_ok (cf_ok LR4) (k := 2) (hs := []) (f := 59) (ps := [slP []]) (bs := []) (ls := []) (out := none) (r := .clip) (ob := []) (by kernel_rfl) allOb_nil) Wk_clip
  | cons q qs =>
    have h := callP_ok (cf_ok LR4) (k := 2) (hs := [(1, 5, .cut)]) (f := 59) (ps := [slP (q :: qs)]) (bs := []) (ls := []) (out := none) (r := .list ((((q :: qs).length : Nat) : Int).toNat - 0) (cutA (flatPP (q :: qs)) 2 0 (((q :: qs).length : Nat) : Int).toNat))
      (ob := [∃ m, boundsA (q :: qs).length none (some (iA ((q :: qs).length : Int))) (some (iA ((q :: qs).length : Int))) = some (0, (((q :: qs).length : Nat) : Int).toNat, some m) ∧ m ≠ 0]) (by kernel_rfl) (allOb_cons ⟨(q :: qs).length, boundsA_clip _, by simp⟩ allOb_nil)
    rw [Int.toNat_natCast, cutP_flat, List.drop_zero, Nat.sub_zero, List.take_length] at h
    exact h
/-- A slice of points, just so. -/
def unL2 : PVal → Option (List P2)
  | .list n xs => match unFlat xs with
    | some ps => if ps.length = n then some ps else none
    | none => none
  | _ => none
theorem unL2_eq {x : PVal} {ps : List P2} (h : unL2 x = some ps) : x = slP ps := by
  unfold unL2 at h
  split at h
  · split at h
    · rename_i qs hq
      split at h
      · rename_i hl
        simp only [Option.some.injEq] at h
        subst h
        unfold slP
        rw [hl, unFlat_some hq]
      · cases h
    · cases h
  · cases h
theorem unL2_slP (ps : List P2) : unL2 (slP ps) = some ps := by simp [unL2, slP, unFlat_flat]
def gCat : List PVal → Option PVal
  | [.list 2 [x, y]] => match unL2 x, unL2 y with
    | some a, some b => if a.length ≤ 200 ∧ b.length ≤ 200 then some (slP (a ++ b)) else none
    | _, _ => none
  | _ => none
theorem gCat_spec : ∀ ps r, gCat ps = some r → CallsP Try.prog 66 ps r := by
  intro ps r h
  unfold gCat at h
  split at h
  · split at h
    · rename_i a b ha hb
      split at h
      · rename_i hl
        simp only [Option.some.injEq] at h
        subst h
        rw [unL2_eq ha, unL2_eq hb]
        exact concat_calls a b hl.1 hl.2
      · cases h
    · cases h
  · cases h
theorem gCat_of {a b : List P2} (ha : a.length ≤ 200) (hb : b.length ≤ 200) : gCat [.list 2 [slP a, slP b]] = some (slP (a ++ b)) := by
  unfold gCat
  simp only [unL2_slP]
  exact if_pos ⟨ha, hb⟩
noncomputable def LJ1 : Lib Try.prog := LR4.add 59 (fun ps => match ps with | [x] => (unSl x).map slP | _ => none) (Vm.enters_of named_prog Try.func59 (by kernel_rfl)) (fun ps r h => by
  split at h
  · rename_i x
    cases hx : unSl x with
    | none => rw [hx] at h; cases h
    | some c =>
      rw [hx] at h
      simp only [Option.map_some, Option.some.injEq] at h
      subst h
      exact callsP_weak (clipV_calls c) ⟨unSl_wk hx, trivial⟩
  · cases h)
noncomputable def LJ2 : Lib Try.prog := LJ1.add 66 gCat (Vm.enters_of named_prog Try.func66 (by kernel_rfl)) gCat_spec
/-- One line behind another. -/
def joinP (a b : List P2) : List P2 := bif decide (0 < a.length) && decide (0 < b.length) && eqB (pAt a (a.length - 1)) (pAt b 0) then a ++ b.drop 1 else a ++ b
theorem clip_j {ev : Ev} (c : List P2) : pureCall (cf LJ2) ev 59 [slP c] = some (slP c) := pure_given (g := fun ps => match ps with | [x] => (unSl x).map slP | _ => none) (by kernel_rfl) (by simp only [unSl_slP]; rfl)
theorem cat_j {ev : Ev} {a b : List P2} (ha : a.length ≤ 200) (hb : b.length ≤ 200) : pureCall (cf LJ2) ev 66 [.list 2 [slP a, slP b]] = some (slP (a ++ b)) := pure_given (g := gCat) (by kernel_rfl) (gCat_of ha hb)
theorem join_calls (a b : List P2) (ha : a.length ≤ 200) (hb : b.length ≤ 200) : CallsP Try.prog 41 [slP a, slP b] (slP (joinP a b)) := by
  unfold joinP
  by_cases h1 : 0 < a.length
  · have d1 : decide ((a.length : Int) > 0) = true := decide_eq_true (by omega)
    have hw : IntKind.i64.wrap ((a.length : Int) - 1) = ((a.length - 1 : Nat) : Int) := by rw [IntWalk.i64_in _ (by omega)]; omega
    by_cases h2 : 0 < b.length
    · have d2 : decide ((b.length : Int) > 0) = true := decide_eq_true (by omega)
      rw [decide_eq_true h1, decide_eq_true h2, Bool.true_and, Bool.true_and]
      cases he : eqB (pAt a (a.length - 1)) (pAt b 0) with
      | true =>
        refine jnT_calls LJ2 a b (a ++ b.drop 1) (by rw [hw, Int.toNat_natCast]; exact he) d2 d1 ⟨by rw [hw]; omega, by rw [hw]; omega⟩ ⟨by omega, by omega⟩ (by rw [show (1 : Int) = ((1 : Nat) : Int) from rfl]; exact boundsA_lo (by omega)) ?_ (clip_j _)
        rw [cutP_flat, List.take_of_length_le (by rw [List.length_drop]; omega)]
        have := @cat_j (evalF (cf LJ2) 203) a (b.drop 1) ha (by rw [List.length_drop]; omega)
        rw [show slP (b.drop 1) = .list (b.drop 1).length (flatPP (b.drop 1)) from rfl, List.length_drop] at this
        exact this
      | false =>
        exact jnF_calls LJ2 a b (a ++ b) (by rw [hw, Int.toNat_natCast]; exact he) d2 d1 ⟨by rw [hw]; omega, by rw [hw]; omega⟩ ⟨by omega, by omega⟩ (cat_j ha hb) (clip_j _)
    · rw [decide_eq_false h2, Bool.and_false, Bool.false_and]
      exact jnG_calls LJ2 a b (a ++ b) (decide_eq_false (by omega)) d1 (cat_j ha hb) (clip_j _)
  · rw [decide_eq_false h1, Bool.false_and, Bool.false_and]
    exact jnH_calls LJ2 a b (a ++ b) (decide_eq_false (by omega)) (cat_j ha hb) (clip_j _)
noncomputable def LJ3 : Lib Try.prog := LJ2.add 41 (gSSo fun a b => if a.length ≤ 200 ∧ b.length ≤ 200 then some (slP (joinP a b)) else none) (Vm.enters_of named_prog Try.func41 (by kernel_rfl)) (gSSo_spec fun a b r h => by
  by_cases hl : a.length ≤ 200 ∧ b.length ≤ 200
  · rw [if_pos hl, Option.some.injEq] at h
    subst h
    exact join_calls a b hl.1 hl.2
  · rw [if_neg hl] at h
    cases h)
noncomputable def LJ4 : Lib Try.prog := LJ3.add 31 (gSSo fSame) (Vm.enters_of named_prog Try.func31 (by kernel_rfl)) (gSSo_spec fSame_ok)
end Go.Proofs.Ytmopbegmdegooaa
/- terrierref12.Reverse, Join, slices.Equal, line.Same, LineTurns: their rounds, their calls. -/
namespace Go.Proofs.Ytmopbegmdegooaa
open Go Vm M
set_option linter.unusedVariables false
set_option linter.unusedSimpArgs false
def rvT (xs : List P2) (x : AVal) (i : Int) : List AVal := [slA xs, .junk, .junk, x, iA i] ++ jk 15
def rvE (xs : List P2) (x : AVal) (i : Int) : List AVal := [slA xs, .junk, .junk, x, iA i] ++ jk 4 ++ [bA false] ++ jk 10
def rvS (gs : List P2) : List AObj := [.free, .row 2 0 none (upL (flatPP gs))]
def eqT (xs ys : List P2) (i : Int) : List AVal := [slA xs, slA ys] ++ jk 10 ++ [iA xs.length, iA i] ++ jk 12
def eqE (xs ys : List P2) (i : Int) : List AVal := [slA xs, slA ys] ++ jk 10 ++ [iA xs.length, iA i, bA false] ++ jk 11
def eqX : List AVal := jk 4 ++ [bA false] ++ jk 21
def rr1 (L : Lib Try.prog) (xs : List P2) (i : Int) : AExit × List AVal × List AObj :=
  (bif decide (i ≥ 0) then (AExit.normal, (([slA xs, AVal.junk, AVal.junk, AVal.row 1 0 2 0 1, iA (IntKind.i64.wrap (i - 1))] ++ jk 15), ([AObj.free, AObj.row 2 0 none [iA (Prod.fst (pAt xs (Int.toNat i))), iA (Prod.snd (pAt xs (Int.toNat i)))]]))) else (AExit.exit 0, (([slA xs, AVal.junk, AVal.junk, AVal.v (Value.slice none 0 0), iA i] ++ jk 4 ++ [bA false] ++ jk 10), [])))
theorem rr1_eq (L : Lib Try.prog) (xs : List P2) (i : Int) (b0 : (decide (i ≥ 0)) = true → (0 : Int) ≤ i ∧ (i : Int) < (↑(List.length xs) : Int)) : roundC 0 (evalC (cf L) (evalF (cf L) 201) (Option.getD (List.lookup 42 lives) []) 0 0 201 (loopAt Try.f42 0)) (rvT xs (AVal.v (Value.slice none 0 0)) i) ([]) = some (rr1 L xs i) := by
  have key := fun (bs : List Bool) (r : AExit × List AVal × List AObj) (ob : List Prop) (h : roundP (cf L) (evalF (cf L) 201) (Option.getD (List.lookup 42 lives) []) 0 0 201 [(9999, 0, Hint.idx)] (loopAt Try.f42 0) (rvT xs (AVal.v (Value.slice none 0 0)) i) ([]) bs [] = .ok (r.1, r.2.1, r.2.2, ob)) (hp : allOb ob) => roundP_ok h hp
  unfold rr1
  exact bif_case (P := fun r => roundC 0 (evalC (cf L) (evalF (cf L) 201) (Option.getD (List.lookup 42 lives) []) 0 0 201 (loopAt Try.f42 0)) (rvT xs (AVal.v (Value.slice none 0 0)) i) ([]) = some r)
    (fun h0 => key [true] ((AExit.normal, (([slA xs, AVal.junk, AVal.junk, AVal.row 1 0 2 0 1, iA (IntKind.i64.wrap (i - 1))] ++ jk 15), ([AObj.free, AObj.row 2 0 none [iA (Prod.fst (pAt xs (Int.toNat i))), iA (Prod.snd (pAt xs (Int.toNat i)))]])))) _ (by kernel_rfl) (allOb_cons (show Plain ([AObj.row 2 0 none [iA (Prod.fst (pAt xs (Int.toNat i))), iA (Prod.snd (pAt xs (Int.toNat i)))], AObj.row 2 0 none [iA (Prod.fst (pAt xs (Int.toNat i))), iA (Prod.snd (pAt xs (Int.toNat i)))]]) from by simp only [Plain, List.all_append, List.all_cons, List.all_nil, plainO, upL_flatPP, flatP_plain, Nat.zero_mul, List.drop_zero] <;> rfl) (allOb_cons (part_pt (b0 h0)) (allOb_cons (idx_ok (b0 h0)) (allOb_cons h0 allOb_nil)))))
    (fun h0 => key [false] ((AExit.exit 0, (([slA xs, AVal.junk, AVal.junk, AVal.v (Value.slice none 0 0), iA i] ++ jk 4 ++ [bA false] ++ jk 10), []))) _ (by kernel_rfl) (allOb_cons (show Plain [] from by simp only [Plain, List.all_append, List.all_cons, List.all_nil, plainO, upL_flatPP, flatP_plain, Nat.zero_mul, List.drop_zero] <;> rfl) (allOb_cons h0 allOb_nil)))
def rr2 (L : Lib Try.prog) (xs : List P2) (gs : List P2) (hs : List P2) (i : Int) : AExit × List AVal × List AObj :=
  (bif decide (i ≥ 0) then (AExit.normal, (([slA xs, AVal.junk, AVal.junk, AVal.row 1 0 2 0 (List.length gs + 1), iA (IntKind.i64.wrap (i - 1))] ++ jk 15), ([AObj.free, AObj.row 2 0 none (upL (flatPP hs))]))) else (AExit.exit 0, (([slA xs, AVal.junk, AVal.junk, AVal.row 1 0 2 0 (List.length gs), iA i] ++ jk 4 ++ [bA false] ++ jk 10), ([AObj.free, AObj.row 2 0 none (upL (flatPP gs))]))))
theorem rr2_eq (L : Lib Try.prog) (xs : List P2) (gs : List P2) (hs : List P2) (i : Int) (b0 : (decide (i ≥ 0)) = true → (0 : Int) ≤ i ∧ (i : Int) < (↑(List.length xs) : Int)) (e0 : (decide (i ≥ 0)) = true → (0 + List.length gs) * 2 = List.length (upL (flatPP gs)) ∧ (List.length gs + 1) * 16 ≤ 140737488355328 ∧ List.length gs + 1 ≤ 9223372036854775807) (e1 : (decide (i ≥ 0)) = true → Ones [iA (Prod.fst (pAt xs (Int.toNat i))), iA (Prod.snd (pAt xs (Int.toNat i)))]) (e2 : (decide (i ≥ 0)) = true → upL (flatPP gs) ++ [iA (Prod.fst (pAt xs (Int.toNat i))), iA (Prod.snd (pAt xs (Int.toNat i)))] = upL (flatPP hs)) : roundC 0 (evalC (cf L) (evalF (cf L) 201) (Option.getD (List.lookup 42 lives) []) 0 0 201 (loopAt Try.f42 0)) (rvT xs (AVal.row 1 0 2 0 (List.length gs)) i) (rvS gs) = some (rr2 L xs gs hs i) := by
  have key := fun (bs : List Bool) (r : AExit × List AVal × List AObj) (ob : List Prop) (h : roundP (cf L) (evalF (cf L) 201) (Option.getD (List.lookup 42 lives) []) 0 0 201 [(9999, 0, Hint.idx), (5, 6, Hint.appY (upL (flatPP hs)))] (loopAt Try.f42 0) (rvT xs (AVal.row 1 0 2 0 (List.length gs)) i) (rvS gs) bs [] = .ok (r.1, r.2.1, r.2.2, ob)) (hp : allOb ob) => roundP_ok h hp
  unfold rr2
  exact bif_case (P := fun r => roundC 0 (evalC (cf L) (evalF (cf L) 201) (Option.getD (List.lookup 42 lives) []) 0 0 201 (loopAt Try.f42 0)) (rvT xs (AVal.row 1 0 2 0 (List.length gs)) i) (rvS gs) = some r)
    (fun h0 => key [true] ((AExit.normal, (([slA xs, AVal.junk, AVal.junk, AVal.row 1 0 2 0 (List.length gs + 1), iA (IntKind.i64.wrap (i - 1))] ++ jk 15), ([AObj.free, AObj.row 2 0 none (upL (flatPP hs))])))) _ (by kernel_rfl) (allOb_cons (show Plain ([AObj.row 2 0 none [iA (Prod.fst (pAt xs (Int.toNat i))), iA (Prod.snd (pAt xs (Int.toNat i)))], AObj.row 2 1 none (upL (flatPP hs))]) from by simp only [Plain, List.all_append, List.all_cons, List.all_nil, plainO, upL_flatPP, flatP_plain, Nat.zero_mul, List.drop_zero] <;> rfl) (allOb_cons (by exact (e2 h0)) (allOb_cons (show 2 ≤ 2 from by decide) (allOb_cons (show 0 < 1 from by decide) (allOb_cons (by exact (e1 h0)) (allOb_cons (by exact (e0 h0)) (allOb_cons (part_pt (b0 h0)) (allOb_cons (idx_ok (b0 h0)) (allOb_cons h0 allOb_nil))))))))))
    (fun h0 => key [false] ((AExit.exit 0, (([slA xs, AVal.junk, AVal.junk, AVal.row 1 0 2 0 (List.length gs), iA i] ++ jk 4 ++ [bA false] ++ jk 10), ([AObj.free, AObj.row 2 0 none (upL (flatPP gs))])))) _ (by kernel_rfl) (allOb_cons (show Plain ([AObj.free, AObj.row 2 0 none (upL (flatPP gs))]) from by simp only [Plain, List.all_append, List.all_cons, List.all_nil, plainO, upL_flatPP, flatP_plain, Nat.zero_mul, List.drop_zero] <;> rfl) (allOb_cons h0 allOb_nil)))
def rrA (L : Lib Try.prog) (xs : List P2) (gs : List P2) : PVal :=
  slP gs
theorem rrA_calls (L : Lib Try.prog) (xs : List P2) (gs : List P2) (e0 : iterC 0 (evalC (cf L) (evalF (cf L) 201) ((lives.lookup 42).getD []) 0 0 201 (loopAt Try.f42 0)) 201 ([AVal.list (List.length xs) (flatPP xs), AVal.junk, AVal.junk, AVal.v (Value.slice none 0 0), iA (IntKind.i64.wrap ((↑(List.length xs) : Int) - 1))] ++ jk 15) [] = some (AExit.exit 0, (([AVal.list (List.length xs) (flatPP xs), AVal.junk, AVal.junk, AVal.row 1 0 2 0 (List.length gs), iA (-1)] ++ jk 4 ++ [bA false] ++ jk 10), ([AObj.free, AObj.row 2 0 none (upL (flatPP gs))])))) (e1 : peek (Vm.mark 0 deep [AObj.free, AObj.row 2 0 none (upL (flatPP gs))] (AVal.row 1 0 2 0 (List.length gs))) deep (AVal.row 1 0 2 0 (List.length gs)) = some (slP gs)) : CallsP Try.prog 42 [slP xs] (rrA L xs gs) := by
  have key := fun (bs : List Bool) (r : PVal) (ob : List Prop) (h : callP (cf L) (evalF (cf L) 201) 201 [(9999, 0, Hint.idx)] 42 [slP xs] bs [(AExit.exit 0, rvE xs (AVal.row 1 0 2 0 (List.length gs)) (-1), rvS gs)] (some (slP gs)) = .ok (r, ob)) (hp : allOb ob) => callP_ok (cf_ok L) h hp
  unfold rrA
  exact key [] (slP gs) _ (by kernel_rfl) (allOb_cons (by exact e1) (allOb_cons (by exact e0) allOb_nil))
def rrN (L : Lib Try.prog) : PVal :=
  PVal.v (Value.slice none 0 0)
theorem rrN_calls (L : Lib Try.prog) (e0 : iterC 0 (evalC (cf L) (evalF (cf L) 201) ((lives.lookup 42).getD []) 0 0 201 (loopAt Try.f42 0)) 201 ([AVal.list 0 [], AVal.junk, AVal.junk, AVal.v (Value.slice none 0 0), iA (IntKind.i64.wrap ((↑0 : Int) - 1))] ++ jk 15) [] = some (AExit.exit 0, (([AVal.list 0 [], AVal.junk, AVal.junk, AVal.v (Value.slice none 0 0), iA (-1)] ++ jk 4 ++ [bA false] ++ jk 10), []))) : CallsP Try.prog 42 [slP []] (rrN L) := by
  have key := fun (bs : List Bool) (r : PVal) (ob : List Prop) (h : callP (cf L) (evalF (cf L) 201) 201 [(9999, 0, Hint.idx)] 42 [slP []] bs [(AExit.exit 0, rvE [] (AVal.v (Value.slice none 0 0)) (-1), [])] (none) = .ok (r, ob)) (hp : allOb ob) => callP_ok (cf_ok L) h hp
  unfold rrN
  exact key [] (PVal.v (Value.slice none 0 0)) _ (by kernel_rfl) (allOb_cons (by exact e0) allOb_nil)
def jo1 (L : Lib Try.prog) (a : List P2) (b : List P2) (c : List P2) : PVal :=
  slP c
theorem jo1_calls (L : Lib Try.prog) (a : List P2) (b : List P2) (c : List P2) (p2 : (eqB (pAt a (Int.toNat (IntKind.i64.wrap ((↑(List.length a) : Int) - 1)))) (pAt b 0)) = true) (p1 : (decide ((↑(List.length b) : Int) > 0)) = true) (p0 : (decide ((↑(List.length a) : Int) > 0)) = true) (e0 : 0 = 0 ∧ (0 + List.length a) * 16 ≤ 140737488355328 ∧ 0 + List.length a ≤ 9223372036854775807) (e1 : Ones (upL (flatPP a))) (e2 : 0 < List.length a) (e3 : List.length (flatPP a) = List.length a * 2) (b0 : (0 : Int) ≤ IntKind.i64.wrap ((↑(List.length a) : Int) - 1) ∧ (IntKind.i64.wrap ((↑(List.length a) : Int) - 1) : Int) < (↑(List.length a) : Int)) (b1 : (0 : Int) ≤ 0 ∧ (0 : Int) < (↑(List.length b) : Int)) (e4 : boundsA (List.length b) (some (iA 1)) none none = some (1, List.length b, none)) (e5 : (0 + (0 + List.length a)) * 2 = List.length (upL (flatPP a)) ∧ (0 + List.length a + (List.length b - 1)) * 16 ≤ 140737488355328 ∧ 0 + List.length a + (List.length b - 1) ≤ 9223372036854775807) (e6 : Ones (upL (cutA (flatPP b) 2 1 (List.length b)))) (e7 : 0 < List.length b - 1) (e8 : List.length (cutA (flatPP b) 2 1 (List.length b)) = (List.length b - 1) * 2) (e9 : upL (flatPP a) ++ upL (cutA (flatPP b) 2 1 (List.length b)) = upL (flatPP c)) (e10 : peek (Vm.mark 0 deep [AObj.row 2 2 none (upL (flatPP c)), AObj.free, AObj.free, AObj.free, AObj.free, AObj.free, AObj.free, AObj.free, AObj.free, AObj.free, AObj.free, AObj.free, AObj.free, AObj.free, AObj.free, AObj.free, AObj.free, AObj.free, AObj.free, AObj.free, AObj.free] (AVal.row 0 2 2 0 (0 + List.length a + (List.length b - 1)))) deep (AVal.row 0 2 2 0 (0 + List.length a + (List.length b - 1))) = some (slP c)) : CallsP Try.prog 43 [slP a, slP b] (jo1 L a b c) := by
  have key := fun (bs : List Bool) (r : PVal) (ob : List Prop) (h : callP (cf L) (evalF (cf L) 201) 201 [(9999, 0, Hint.idx), (1, 2, Hint.appX), (3, 2, Hint.cut), (3, 3, Hint.appY (upL (flatPP c)))] 43 [slP a, slP b] bs [] (some (slP c)) = .ok (r, ob)) (hp : allOb ob) => callP_ok (cf_ok L) h hp
  unfold jo1
  exact key [true, true, true] (slP c) _ (by kernel_rfl) (allOb_cons (by exact e10) (allOb_cons (by exact e9) (allOb_cons (by exact e8) (allOb_cons (by exact e7) (allOb_cons (by exact e6) (allOb_cons (by exact e5) (allOb_cons (by exact e4) (allOb_cons p2 (allOb_cons (part_pt b1) (allOb_cons (idx_ok b1) (allOb_cons (part_pt b0) (allOb_cons (idx_ok b0) (allOb_cons p1 (allOb_cons p0 (allOb_cons (by exact e3) (allOb_cons (by exact e2) (allOb_cons (by exact e1) (allOb_cons (by exact e0) allOb_nil))))))))))))))))))
def jo2 (L : Lib Try.prog) (a : List P2) (q : P2) : PVal :=
  slP a
theorem jo2_calls (L : Lib Try.prog) (a : List P2) (q : P2) (p2 : (eqB (pAt a (Int.toNat (IntKind.i64.wrap ((↑(List.length a) : Int) - 1)))) (pAt [q] 0)) = true) (p0 : (decide ((↑(List.length a) : Int) > 0)) = true) (e0 : 0 = 0 ∧ (0 + List.length a) * 16 ≤ 140737488355328 ∧ 0 + List.length a ≤ 9223372036854775807) (e1 : Ones (upL (flatPP a))) (e2 : 0 < List.length a) (e3 : List.length (flatPP a) = List.length a * 2) (b0 : (0 : Int) ≤ IntKind.i64.wrap ((↑(List.length a) : Int) - 1) ∧ (IntKind.i64.wrap ((↑(List.length a) : Int) - 1) : Int) < (↑(List.length a) : Int)) (b1 : (0 : Int) ≤ 0 ∧ (0 : Int) < (↑(List.length [q]) : Int)) (e4 : peek (Vm.mark 0 deep [AObj.row 2 1 none (upL (flatPP a)), AObj.free, AObj.free, AObj.free, AObj.free, AObj.free, AObj.free, AObj.free, AObj.free, AObj.free, AObj.free, AObj.free, AObj.free, AObj.free, AObj.free, AObj.free, AObj.free, AObj.free, AObj.free, AObj.free, AObj.free] (AVal.row 0 1 2 0 (0 + List.length a))) deep (AVal.row 0 1 2 0 (0 + List.length a)) = some (slP a)) : CallsP Try.prog 43 [slP a, slP [q]] (jo2 L a q) := by
  have key := fun (bs : List Bool) (r : PVal) (ob : List Prop) (h : callP (cf L) (evalF (cf L) 201) 201 [(9999, 0, Hint.idx), (1, 2, Hint.appX)] 43 [slP a, slP [q]] bs [] (some (slP a)) = .ok (r, ob)) (hp : allOb ob) => callP_ok (cf_ok L) h hp
  unfold jo2
  exact key [true, true, true] (slP a) _ (by kernel_rfl) (allOb_cons (by exact e4) (allOb_cons p2 (allOb_cons (part_pt b1) (allOb_cons (idx_ok b1) (allOb_cons (part_pt b0) (allOb_cons (idx_ok b0) (allOb_cons lit_t (allOb_cons p0 (allOb_cons (by exact e3) (allOb_cons (by exact e2) (allOb_cons (by exact e1) (allOb_cons (by exact e0) allOb_nil))))))))))))
def jo3 (L : Lib Try.prog) (a : List P2) (b : List P2) (c : List P2) : PVal :=
  slP c
theorem jo3_calls (L : Lib Try.prog) (a : List P2) (b : List P2) (c : List P2) (p2 : (eqB (pAt a (Int.toNat (IntKind.i64.wrap ((↑(List.length a) : Int) - 1)))) (pAt b 0)) = false) (p1 : (decide ((↑(List.length b) : Int) > 0)) = true) (p0 : (decide ((↑(List.length a) : Int) > 0)) = true) (e0 : 0 = 0 ∧ (0 + List.length a) * 16 ≤ 140737488355328 ∧ 0 + List.length a ≤ 9223372036854775807) (e1 : Ones (upL (flatPP a))) (e2 : 0 < List.length a) (e3 : List.length (flatPP a) = List.length a * 2) (b0 : (0 : Int) ≤ IntKind.i64.wrap ((↑(List.length a) : Int) - 1) ∧ (IntKind.i64.wrap ((↑(List.length a) : Int) - 1) : Int) < (↑(List.length a) : Int)) (b1 : (0 : Int) ≤ 0 ∧ (0 : Int) < (↑(List.length b) : Int)) (e4 : (0 + (0 + List.length a)) * 2 = List.length (upL (flatPP a)) ∧ (0 + List.length a + List.length b) * 16 ≤ 140737488355328 ∧ 0 + List.length a + List.length b ≤ 9223372036854775807) (e5 : Ones (upL (flatPP b))) (e6 : 0 < List.length b) (e7 : List.length (flatPP b) = List.length b * 2) (e8 : upL (flatPP a) ++ upL (flatPP b) = upL (flatPP c)) (e9 : peek (Vm.mark 0 deep [AObj.row 2 2 none (upL (flatPP c)), AObj.free, AObj.free, AObj.free, AObj.free, AObj.free, AObj.free, AObj.free, AObj.free, AObj.free, AObj.free, AObj.free, AObj.free, AObj.free, AObj.free, AObj.free, AObj.free, AObj.free, AObj.free, AObj.free, AObj.free] (AVal.row 0 2 2 0 (0 + List.length a + List.length b))) deep (AVal.row 0 2 2 0 (0 + List.length a + List.length b)) = some (slP c)) : CallsP Try.prog 43 [slP a, slP b] (jo3 L a b c) := by
  have key := fun (bs : List Bool) (r : PVal) (ob : List Prop) (h : callP (cf L) (evalF (cf L) 201) 201 [(9999, 0, Hint.idx), (1, 2, Hint.appX), (4, 2, Hint.appY (upL (flatPP c)))] 43 [slP a, slP b] bs [] (some (slP c)) = .ok (r, ob)) (hp : allOb ob) => callP_ok (cf_ok L) h hp
  unfold jo3
  exact key [true, true, false] (slP c) _ (by kernel_rfl) (allOb_cons (by exact e9) (allOb_cons (by exact e8) (allOb_cons (by exact e7) (allOb_cons (by exact e6) (allOb_cons (by exact e5) (allOb_cons (by exact e4) (allOb_cons p2 (allOb_cons (part_pt b1) (allOb_cons (idx_ok b1) (allOb_cons (part_pt b0) (allOb_cons (idx_ok b0) (allOb_cons p1 (allOb_cons p0 (allOb_cons (by exact e3) (allOb_cons (by exact e2) (allOb_cons (by exact e1) (allOb_cons (by exact e0) allOb_nil)))))))))))))))))
def jo4 (L : Lib Try.prog) (a : List P2) : PVal :=
  slP a
theorem jo4_calls (L : Lib Try.prog) (a : List P2) (p0 : (decide ((↑(List.length a) : Int) > 0)) = true) (e0 : 0 = 0 ∧ (0 + List.length a) * 16 ≤ 140737488355328 ∧ 0 + List.length a ≤ 9223372036854775807) (e1 : Ones (upL (flatPP a))) (e2 : 0 < List.length a) (e3 : List.length (flatPP a) = List.length a * 2) (e4 : peek (Vm.mark 0 deep [AObj.row 2 1 none (upL (flatPP a)), AObj.free, AObj.free, AObj.free, AObj.free, AObj.free, AObj.free, AObj.free, AObj.free, AObj.free, AObj.free, AObj.free, AObj.free, AObj.free, AObj.free, AObj.free, AObj.free, AObj.free, AObj.free, AObj.free, AObj.free] (AVal.row 0 1 2 0 (0 + List.length a))) deep (AVal.row 0 1 2 0 (0 + List.length a)) = some (slP a)) : CallsP Try.prog 43 [slP a, slP []] (jo4 L a) := by
  have key := fun (bs : List Bool) (r : PVal) (ob : List Prop) (h : callP (cf L) (evalF (cf L) 201) 201 [(9999, 0, Hint.idx), (1, 2, Hint.appX)] 43 [slP a, slP []] bs [] (some (slP a)) = .ok (r, ob)) (hp : allOb ob) => callP_ok (cf_ok L) h hp
  unfold jo4
  exact key [true, false, false] (slP a) _ (by kernel_rfl) (allOb_cons (by exact e4) (allOb_cons lit_f (allOb_cons lit_f (allOb_cons p0 (allOb_cons (by exact e3) (allOb_cons (by exact e2) (allOb_cons (by exact e1) (allOb_cons (by exact e0) allOb_nil))))))))
def jo5 (L : Lib Try.prog) (b : List P2) : PVal :=
  slP b
theorem jo5_calls (L : Lib Try.prog) (b : List P2) (e0 : 0 = 0 ∧ (0 + List.length b) * 16 ≤ 140737488355328 ∧ 0 + List.length b ≤ 9223372036854775807) (e1 : Ones (upL (flatPP b))) (e2 : 0 < List.length b) (e3 : List.length (flatPP b) = List.length b * 2) (e4 : peek (Vm.mark 0 deep [AObj.row 2 1 none (upL (flatPP b)), AObj.free, AObj.free, AObj.free, AObj.free, AObj.free, AObj.free, AObj.free, AObj.free, AObj.free, AObj.free, AObj.free, AObj.free, AObj.free, AObj.free, AObj.free, AObj.free, AObj.free, AObj.free, AObj.free, AObj.free] (AVal.row 0 1 2 0 (0 + List.length b))) deep (AVal.row 0 1 2 0 (0 + List.length b)) = some (slP b)) : CallsP Try.prog 43 [slP [], slP b] (jo5 L b) := by
  have key := fun (bs : List Bool) (r : PVal) (ob : List Prop) (h : callP (cf L) (evalF (cf L) 201) 201 [(9999, 0, Hint.idx), (4, 2, Hint.appX)] 43 [slP [], slP b] bs [] (some (slP b)) = .ok (r, ob)) (hp : allOb ob) => callP_ok (cf_ok L) h hp
  unfold jo5
  exact key [false, false, false] (slP b) _ (by kernel_rfl) (allOb_cons (by exact e4) (allOb_cons (by exact e3) (allOb_cons (by exact e2) (allOb_cons (by exact e1) (allOb_cons (by exact e0) (allOb_cons lit_f (allOb_cons lit_f (allOb_cons lit_f allOb_nil))))))))
def jo6 (L : Lib Try.prog) : PVal :=
  PVal.list 0 []
theorem jo6_calls (L : Lib Try.prog) : CallsP Try.prog 43 [slP [], slP []] (jo6 L) := by
  have key := fun (bs : List Bool) (r : PVal) (ob : List Prop) (h : callP (cf L) (evalF (cf L) 201) 201 [(9999, 0, Hint.idx)] 43 [slP [], slP []] bs [] (none) = .ok (r, ob)) (hp : allOb ob) => callP_ok (cf_ok L) h hp
  unfold jo6
  exact key [false, false, false] (PVal.list 0 []) _ (by kernel_rfl) (allOb_cons lit_f (allOb_cons lit_f (allOb_cons lit_f allOb_nil)))
def eq1 (L : Lib Try.prog) (xs : List P2) (ys : List P2) (i : Int) : AExit × List AVal × List AObj :=
  (bif decide (i < (↑(List.length xs) : Int)) then (bif !eqB (pAt xs (Int.toNat i)) (pAt ys (Int.toNat i)) then (AExit.ret, ((jk 4 ++ [bA false] ++ jk 21), [])) else (AExit.normal, (([slA xs, slA ys] ++ jk 10 ++ [iA (↑(List.length xs) : Int), iA (IntKind.i64.wrap (i + 1))] ++ jk 12), []))) else (AExit.exit 0, (([slA xs, slA ys] ++ jk 10 ++ [iA (↑(List.length xs) : Int), iA i, bA false] ++ jk 11), [])))
theorem eq1_eq (L : Lib Try.prog) (xs : List P2) (ys : List P2) (i : Int) (b0 : (decide (i < (↑(List.length xs) : Int))) = true → (0 : Int) ≤ i ∧ (i : Int) < (↑(List.length xs) : Int)) (b1 : (decide (i < (↑(List.length xs) : Int))) = true → (0 : Int) ≤ i ∧ (i : Int) < (↑(List.length ys) : Int)) : roundC 0 (evalC (cf L) (evalF (cf L) 201) (Option.getD (List.lookup 67 lives) []) 0 0 201 (loopAt Try.f67 0)) (eqT xs ys i) ([]) = some (eq1 L xs ys i) := by
  have key := fun (bs : List Bool) (r : AExit × List AVal × List AObj) (ob : List Prop) (h : roundP (cf L) (evalF (cf L) 201) (Option.getD (List.lookup 67 lives) []) 0 0 201 [(9999, 0, Hint.idx)] (loopAt Try.f67 0) (eqT xs ys i) ([]) bs [] = .ok (r.1, r.2.1, r.2.2, ob)) (hp : allOb ob) => roundP_ok h hp
  unfold eq1
  exact bif_case (P := fun r => roundC 0 (evalC (cf L) (evalF (cf L) 201) (Option.getD (List.lookup 67 lives) []) 0 0 201 (loopAt Try.f67 0)) (eqT xs ys i) ([]) = some r)
    (fun h0 => bif_case (P := fun r => roundC 0 (evalC (cf L) (evalF (cf L) 201) (Option.getD (List.lookup 67 lives) []) 0 0 201 (loopAt Try.f67 0)) (eqT xs ys i) ([]) = some r)
     (fun h1 => key [true, true] ((AExit.ret, ((jk 4 ++ [bA false] ++ jk 21), []))) _ (by kernel_rfl) (allOb_cons (show Plain (List.replicate 9 AObj.free) from by simp only [Plain, List.all_append, List.all_cons, List.all_nil, plainO, upL_flatPP, flatP_plain, Nat.zero_mul, List.drop_zero] <;> rfl) (allOb_cons h1 (allOb_cons (part_pt (b1 h0)) (allOb_cons (idx_ok (b1 h0)) (allOb_cons (part_pt (b0 h0)) (allOb_cons (idx_ok (b0 h0)) (allOb_cons h0 allOb_nil))))))))
     (fun h1 => key [true, false] ((AExit.normal, (([slA xs, slA ys] ++ jk 10 ++ [iA (↑(List.length xs) : Int), iA (IntKind.i64.wrap (i + 1))] ++ jk 12), []))) _ (by kernel_rfl) (allOb_cons (show Plain (List.replicate 9 AObj.free) from by simp only [Plain, List.all_append, List.all_cons, List.all_nil, plainO, upL_flatPP, flatP_plain, Nat.zero_mul, List.drop_zero] <;> rfl) (allOb_cons h1 (allOb_cons (part_pt (b1 h0)) (allOb_cons (idx_ok (b1 h0)) (allOb_cons (part_pt (b0 h0)) (allOb_cons (idx_ok (b0 h0)) (allOb_cons h0 allOb_nil)))))))))
    (fun h0 => key [false] ((AExit.exit 0, (([slA xs, slA ys] ++ jk 10 ++ [iA (↑(List.length xs) : Int), iA i, bA false] ++ jk 11), []))) _ (by kernel_rfl) (allOb_cons (show Plain [] from by simp only [Plain, List.all_append, List.all_cons, List.all_nil, plainO, upL_flatPP, flatP_plain, Nat.zero_mul, List.drop_zero] <;> rfl) (allOb_cons h0 allOb_nil)))
def eqA (L : Lib Try.prog) (xs : List P2) (ys : List P2) : PVal :=
  bP false
theorem eqA_calls (L : Lib Try.prog) (xs : List P2) (ys : List P2) (p0 : ((↑(List.length xs) : Int) != (↑(List.length ys) : Int)) = true) : CallsP Try.prog 67 [slP xs, slP ys] (eqA L xs ys) := by
  have key := fun (bs : List Bool) (r : PVal) (ob : List Prop) (h : callP (cf L) (evalF (cf L) 201) 201 [(9999, 0, Hint.idx)] 67 [slP xs, slP ys] bs [] (none) = .ok (r, ob)) (hp : allOb ob) => callP_ok (cf_ok L) h hp
  unfold eqA
  exact key [true] (bP false) _ (by kernel_rfl) (allOb_cons p0 allOb_nil)
def eqC (L : Lib Try.prog) (xs : List P2) (ys : List P2) : PVal :=
  bP false
theorem eqC_calls (L : Lib Try.prog) (xs : List P2) (ys : List P2) (p0 : ((↑(List.length xs) : Int) != (↑(List.length ys) : Int)) = false) (e0 : iterC 0 (evalC (cf L) (evalF (cf L) 201) ((lives.lookup 67).getD []) 0 0 201 (loopAt Try.f67 0)) 201 ([AVal.list (List.length xs) (flatPP xs), AVal.list (List.length ys) (flatPP ys)] ++ jk 10 ++ [iA (↑(List.length xs) : Int), iA 0] ++ jk 12) [] = some (AExit.ret, ((jk 4 ++ [bA false] ++ jk 21), []))) : CallsP Try.prog 67 [slP xs, slP ys] (eqC L xs ys) := by
  have key := fun (bs : List Bool) (r : PVal) (ob : List Prop) (h : callP (cf L) (evalF (cf L) 201) 201 [(9999, 0, Hint.idx)] 67 [slP xs, slP ys] bs [(AExit.ret, eqX, [])] (none) = .ok (r, ob)) (hp : allOb ob) => callP_ok (cf_ok L) h hp
  unfold eqC
  exact key [false] (bP false) _ (by kernel_rfl) (allOb_cons (by exact e0) (allOb_cons p0 allOb_nil))
def eqD (L : Lib Try.prog) (xs : List P2) (ys : List P2) (i : Int) : PVal :=
  bP true
theorem eqD_calls (L : Lib Try.prog) (xs : List P2) (ys : List P2) (i : Int) (p0 : ((↑(List.length xs) : Int) != (↑(List.length ys) : Int)) = false) (e0 : iterC 0 (evalC (cf L) (evalF (cf L) 201) ((lives.lookup 67).getD []) 0 0 201 (loopAt Try.f67 0)) 201 ([AVal.list (List.length xs) (flatPP xs), AVal.list (List.length ys) (flatPP ys)] ++ jk 10 ++ [iA (↑(List.length xs) : Int), iA 0] ++ jk 12) [] = some (AExit.exit 0, (([AVal.list (List.length xs) (flatPP xs), AVal.list (List.length ys) (flatPP ys)] ++ jk 10 ++ [iA (↑(List.length xs) : Int), iA i, bA false] ++ jk 11), []))) : CallsP Try.prog 67 [slP xs, slP ys] (eqD L xs ys i) := by
  have key := fun (bs : List Bool) (r : PVal) (ob : List Prop) (h : callP (cf L) (evalF (cf L) 201) 201 [(9999, 0, Hint.idx)] 67 [slP xs, slP ys] bs [(AExit.exit 0, eqE xs ys i, [])] (none) = .ok (r, ob)) (hp : allOb ob) => callP_ok (cf_ok L) h hp
  unfold eqD
  exact key [false] (bP true) _ (by kernel_rfl) (allOb_cons (by exact e0) (allOb_cons p0 allOb_nil))
def saA (L : Lib Try.prog) (xs : List P2) (ys : List P2) (b : Bool) : PVal :=
  bP b
theorem saA_calls (L : Lib Try.prog) (xs : List P2) (ys : List P2) (b : Bool) (e0 : pureCall (cf L) (evalF (cf L) 202) 67 [slP xs, slP ys] = some (bP b)) : CallsP Try.prog 44 [slP xs, slP ys] (saA L xs ys b) := by
  have key := fun (bs : List Bool) (r : PVal) (ob : List Prop) (h : callP (cf L) (evalF (cf L) 202) 202 [(1, 2, Hint.pcall (bP b))] 44 [slP xs, slP ys] bs [] (none) = .ok (r, ob)) (hp : allOb ob) => callP_ok (cf_ok L) h hp
  unfold saA
  exact key [] (bP b) _ (by kernel_rfl) (allOb_cons (by exact e0) allOb_nil)
def ltA (L : Lib Try.prog) (a : List P2) (b : List P2) (x : List P2) (y : List P2) (xr : List P2) (j : List P2) (o : Bool) (e : Bool) : PVal :=
  (bif decide (IntKind.i64.wrap ((↑(List.length a) : Int) + (↑(List.length b) : Int)) > 140) then bP true else bP true)
theorem ltA_calls (L : Lib Try.prog) (a : List P2) (b : List P2) (x : List P2) (y : List P2) (xr : List P2) (j : List P2) (o : Bool) (e : Bool) (p5 : (o == o) = true) (p4 : (e == e) = true) (e0 : pureCall (cf L) (evalF (cf L) 203) 32 [] = some (bP true)) (e1 : (decide (IntKind.i64.wrap ((↑(List.length a) : Int) + (↑(List.length b) : Int)) > 140)) = false → pureCall (cf L) (evalF (cf L) 203) 29 [slP a] = some (slP x)) (e2 : (decide (IntKind.i64.wrap ((↑(List.length a) : Int) + (↑(List.length b) : Int)) > 140)) = false → pureCall (cf L) (evalF (cf L) 203) 29 [slP b] = some (slP y)) (e3 : (decide (IntKind.i64.wrap ((↑(List.length a) : Int) + (↑(List.length b) : Int)) > 140)) = false → pureCall (cf L) (evalF (cf L) 203) 38 [slP x] = some (slP xr)) (e4 : (decide (IntKind.i64.wrap ((↑(List.length a) : Int) + (↑(List.length b) : Int)) > 140)) = false → pureCall (cf L) (evalF (cf L) 203) 42 [slP x] = some (slP xr)) (e5 : (decide (IntKind.i64.wrap ((↑(List.length a) : Int) + (↑(List.length b) : Int)) > 140)) = false → pureCall (cf L) (evalF (cf L) 203) 31 [slP xr, slP xr] = some (bP true)) (e6 : (decide (IntKind.i64.wrap ((↑(List.length a) : Int) + (↑(List.length b) : Int)) > 140)) = false → pureCall (cf L) (evalF (cf L) 203) 38 [slP xr] = some (slP x)) (e7 : (decide (IntKind.i64.wrap ((↑(List.length a) : Int) + (↑(List.length b) : Int)) > 140)) = false → pureCall (cf L) (evalF (cf L) 203) 31 [slP x, slP x] = some (bP true)) (e8 : (decide (IntKind.i64.wrap ((↑(List.length a) : Int) + (↑(List.length b) : Int)) > 140)) = false → pureCall (cf L) (evalF (cf L) 203) 41 [slP x, slP y] = some (slP j)) (e9 : (decide (IntKind.i64.wrap ((↑(List.length a) : Int) + (↑(List.length b) : Int)) > 140)) = false → pureCall (cf L) (evalF (cf L) 203) 43 [slP x, slP y] = some (slP j)) (e10 : (decide (IntKind.i64.wrap ((↑(List.length a) : Int) + (↑(List.length b) : Int)) > 140)) = false → pureCall (cf L) (evalF (cf L) 203) 31 [slP j, slP j] = some (bP true)) (e11 : (decide (IntKind.i64.wrap ((↑(List.length a) : Int) + (↑(List.length b) : Int)) > 140)) = false → pureCall (cf L) (evalF (cf L) 203) 44 [slP x, slP y] = some (bP e)) (e12 : (decide (IntKind.i64.wrap ((↑(List.length a) : Int) + (↑(List.length b) : Int)) > 140)) = false → pureCall (cf L) (evalF (cf L) 203) 31 [slP x, slP y] = some (bP e)) (e13 : (decide (IntKind.i64.wrap ((↑(List.length a) : Int) + (↑(List.length b) : Int)) > 140)) = false → pureCall (cf L) (evalF (cf L) 203) 33 [slP xr] = some (bP o)) (e14 : (decide (IntKind.i64.wrap ((↑(List.length a) : Int) + (↑(List.length b) : Int)) > 140)) = false → pureCall (cf L) (evalF (cf L) 203) 33 [slP x] = some (bP o)) : CallsP Try.prog 15 [slP a, slP b] (ltA L a b x y xr j o e) := by
  have key := fun (bs : List Bool) (r : PVal) (ob : List Prop) (h : callP (cf L) (evalF (cf L) 203) 203 [(9999, 0, Hint.idx), (2, 0, Hint.pcall (bP true)), (3, 1, Hint.pcall (slP x)), (3, 3, Hint.pcall (slP y)), (4, 1, Hint.pcall (slP xr)), (5, 2, Hint.pcall (slP xr)), (5, 3, Hint.pcall (bP true)), (5, 6, Hint.pcall (slP x)), (5, 8, Hint.pcall (bP true)), (5, 13, Hint.pcall (slP j)), (5, 16, Hint.pcall (slP j)), (5, 17, Hint.pcall (bP true)), (5, 22, Hint.pcall (bP e)), (5, 25, Hint.pcall (bP e)), (5, 30, Hint.pcall (bP o)), (5, 32, Hint.pcall (bP o)), (5, 36, Hint.pcall (bP true))] 15 [slP a, slP b] bs [] (none) = .ok (r, ob)) (hp : allOb ob) => callP_ok (cf_ok L) h hp
  unfold ltA
  exact bif_case (P := fun r => CallsP Try.prog 15 [slP a, slP b] r)
    (fun h0 => key [true] (bP true) _ (by kernel_rfl) (allOb_cons (by exact e0) (allOb_cons h0 allOb_nil)))
    (fun h0 => key [false, true, true, true, true, true] (bP true) _ (by kernel_rfl) (allOb_cons (by exact e0) (allOb_cons p5 (allOb_cons (by exact (e14 h0)) (allOb_cons (by exact (e13 h0)) (allOb_cons p4 (allOb_cons (by exact (e12 h0)) (allOb_cons (by exact (e11 h0)) (allOb_cons lit_t (allOb_cons (by exact (e10 h0)) (allOb_cons (by exact (e9 h0)) (allOb_cons (by exact (e8 h0)) (allOb_cons lit_t (allOb_cons (by exact (e7 h0)) (allOb_cons (by exact (e6 h0)) (allOb_cons lit_t (allOb_cons (by exact (e5 h0)) (allOb_cons (by exact (e4 h0)) (allOb_cons (by exact (e3 h0)) (allOb_cons (by exact (e2 h0)) (allOb_cons (by exact (e1 h0)) (allOb_cons h0 allOb_nil))))))))))))))))))))))
end Go.Proofs.Ytmopbegmdegooaa
/- The law LineTurns: what its code answers is true. -/
namespace Go.Proofs.Ytmopbegmdegooaa
open Go Vm M
set_option linter.unusedVariables false
set_option linter.unusedSimpArgs false
/-! terrierref12.Reverse -/
noncomputable abbrev bodyRr : List AVal → List AObj → Res := evalC (cf LJ4) (evalF (cf LJ4) 201) ((lives.lookup 42).getD []) 0 0 201 (loopAt Try.f42 0)
/-- The last points, from the last one on. -/
def rvG (xs : List P2) (m : Nat) : List P2 := xs.reverse.take m
theorem rvG_succ {xs : List P2} {m : Nat} (h : m < xs.length) : rvG xs (m + 1) = rvG xs m ++ [pAt xs (xs.length - 1 - m)] := by
  unfold rvG
  rw [take_snoc_pAt (by rw [List.length_reverse]; exact h), pAt_rev h]
theorem rvG_length {xs : List P2} {m : Nat} (h : m ≤ xs.length) : (rvG xs m).length = m := by
  unfold rvG
  rw [List.length_take, List.length_reverse]
  omega
theorem row_back {S : List AObj} {o e n : Nat} {fz : Option Nat} {ps : List P2} (h : S[o]? = some (.row 2 e fz (upL (flatPP ps)))) (hn : n = ps.length) : peek (Vm.mark 0 deep S (.row o e 2 0 n)) deep (.row o e 2 0 n) = some (slP ps) := by
  subst hn
  have hl := (List.getElem?_eq_some_iff.1 h).1
  rw [upL_flatPP] at h
  rw [show deep = 5 + 1 from rfl, mark_row (n := 5) h]
  exact peek_rowE (n := 4) (by rw [List.getElem?_set_self hl])
section
variable (xs : List P2) (h200 : xs.length ≤ 200)
include h200
theorem rr_first (h1 : 1 ≤ xs.length) : roundC 0 bodyRr (rvT xs (.v (.slice none 0 0)) ((xs.length : Int) - 1 - (0 : Nat))) [] = some (.normal, rvT xs (.row 1 0 2 0 (rvG xs 1).length) ((xs.length : Int) - 1 - (1 : Nat)), rvS (rvG xs 1)) := by
  have hi : (xs.length : Int) - 1 - (0 : Nat) = ((xs.length - 1 : Nat) : Int) := by omega
  have h := rr1_eq LJ4 xs ((xs.length : Int) - 1 - (0 : Nat)) (fun _ => ⟨by omega, by omega⟩)
  rw [show bodyRr = _ from rfl]
  rw [h]
  have hg : rvG xs 1 = [pAt xs (xs.length - 1)] := by rw [rvG_succ (by omega)]; simp [rvG]
  unfold rr1
  rw [decide_eq_true (by omega : (xs.length : Int) - 1 - (0 : Nat) ≥ 0), IntWalk.i64_in _ (by omega), hg, hi, Int.toNat_natCast, show (xs.length - 1 : Nat) - (1 : Int) = (xs.length : Int) - 1 - (1 : Nat) by omega]
  rfl
theorem rr_next {m : Nat} (h1 : 1 ≤ m) (hm : m < xs.length) : roundC 0 bodyRr (rvT xs (.row 1 0 2 0 (rvG xs m).length) ((xs.length : Int) - 1 - m)) (rvS (rvG xs m)) = some (.normal, rvT xs (.row 1 0 2 0 (rvG xs (m + 1)).length) ((xs.length : Int) - 1 - (m + 1 : Nat)), rvS (rvG xs (m + 1))) := by
  have hi : (xs.length : Int) - 1 - m = ((xs.length - 1 - m : Nat) : Int) := by omega
  have hl := rvG_length (xs := xs) (m := m) (by omega)
  have h := rr2_eq LJ4 xs (rvG xs m) (rvG xs (m + 1)) ((xs.length : Int) - 1 - m) (fun _ => ⟨by omega, by omega⟩) (fun _ => ⟨by rw [upL_flatPP, flatP_length]; omega, by omega, by omega⟩) (fun _ => by rfl) (fun _ => by
    rw [hi, Int.toNat_natCast, rvG_succ hm]
    have := flat_snoc (rvG xs m) (pAt xs (xs.length - 1 - m))
    rw [List.drop_zero] at this
    exact this)
  rw [show bodyRr = _ from rfl]
  rw [h]
  unfold rr2
  rw [decide_eq_true (by omega : (xs.length : Int) - 1 - m ≥ 0), IntWalk.i64_in _ (by omega), rvG_length (m := m + 1) (by omega), hl, show (xs.length : Int) - 1 - m - 1 = (xs.length : Int) - 1 - (m + 1 : Nat) by omega]
  rfl
theorem rr_loop (h1 : 1 ≤ xs.length) : At 0 bodyRr (xs.length - 1 + 1 + 1) (rvT xs (.v (.slice none 0 0)) ((xs.length : Int) - 1 - (0 : Nat))) [] (some (.exit 0, rvE xs (.row 1 0 2 0 xs.reverse.length) (-1), rvS xs.reverse)) := by
  have hgen : ∀ (d m : Nat), 1 ≤ m → m + d = xs.length → At 0 bodyRr (d + 1) (rvT xs (.row 1 0 2 0 (rvG xs m).length) ((xs.length : Int) - 1 - m)) (rvS (rvG xs m)) (some (.exit 0, rvE xs (.row 1 0 2 0 xs.reverse.length) (-1), rvS xs.reverse)) := by
    intro d
    induction d with
    | zero =>
      intro m hm1 hm
      obtain rfl : m = xs.length := by omega
      have hg : rvG xs xs.length = xs.reverse := by unfold rvG; rw [List.take_of_length_le (by rw [List.length_reverse]; omega)]
      rw [hg, show (xs.length : Int) - 1 - xs.length = -1 by omega]
      have hf : decide ((-1 : Int) ≥ 0) = false := rfl
      have h := rr2_eq LJ4 xs xs.reverse [] (-1) (fun h => by rw [hf] at h; cases h) (fun h => by rw [hf] at h; cases h) (fun h => by rw [hf] at h; cases h) (fun h => by rw [hf] at h; cases h)
      refine At.leave ?_ (by simp)
      rw [show bodyRr = _ from rfl]
      rw [h]
      unfold rr2
      rw [hf]
      rfl
    | succ d ih =>
      intro m hm1 hm
      exact At.step (rr_next xs h200 hm1 (by omega)) (ih (m + 1) (by omega) (by omega))
  exact At.step (rr_first xs h200 h1) (hgen (xs.length - 1) 1 (Nat.le_refl 1) (by omega))
theorem rev12_calls : CallsP Try.prog 42 [slP xs] (slP xs.reverse) := by
  by_cases h1 : 1 ≤ xs.length
  · have hi : IntKind.i64.wrap ((xs.length : Int) - 1) = (xs.length : Int) - 1 - (0 : Nat) := by rw [IntWalk.i64_in _ (by omega)]; omega
    exact rrA_calls LJ4 xs xs.reverse (by rw [hi]; exact At.use (at_more (rr_loop xs h200 h1) (m := 201) (by omega)) (by rfl) (T := rvT xs (.v (.slice none 0 0)) ((xs.length : Int) - 1 - (0 : Nat))) (S := []) (by kernel_rfl)) (row_back rfl rfl)
  · obtain rfl : xs = [] := List.eq_nil_of_length_eq_zero (by omega)
    have hf : decide ((-1 : Int) ≥ 0) = false := rfl
    have l : At 0 bodyRr 1 (rvT [] (.v (.slice none 0 0)) (-1)) [] (some (.exit 0, rvE [] (.v (.slice none 0 0)) (-1), [])) := At.leave (rr1_eq LJ4 [] (-1) (fun h => by rw [hf] at h; cases h)) (by simp)
    have e : IntKind.i64.wrap ((0 : Int) - 1) = -1 := IntWalk.i64_in _ (by omega)
    exact callsP_wkR (rrN_calls LJ4 (by rw [e]; exact At.use (at_more l (m := 201) (by omega)) (by rfl) (by kernel_rfl))) (unSl_wk rfl)
end
/-! line.Reverse of no points -/
theorem rev_nil : CallsP Try.prog 38 [slP []] (slP []) :=
  callsP_wkR (callP_ok (cf_ok NC0) (k := 201) (hs := []) (f := 38) (ps := [slP []]) (bs := []) (ls := []) (out := none) (r := .clip) (ob := []) (by kernel_rfl) allOb_nil) Wk_clip
theorem rev_calls (xs : List P2) (h : xs.length ≤ 200) : CallsP Try.prog 38 [slP xs] (slP xs.reverse) := by
  cases xs with
  | nil => exact rev_nil
  | cons q qs => exact reverse_cons q qs (by simp only [List.length_cons] at h; omega)
/-! terrierref12.Join -/
theorem join12_calls (a b : List P2) (ha : a.length ≤ 200) (hb : b.length ≤ 200) : CallsP Try.prog 43 [slP a, slP b] (slP (joinP a b)) := by
  have hO : ∀ c : List P2, Ones (upL (flatPP c)) := fun c => by rw [upL_flatPP]; exact onesP _
  have hF : ∀ c : List P2, (upL (flatPP c)).length = c.length * 2 := fun c => by rw [upL_flatPP, flatP_length]
  have hA : ∀ c d : List P2, upL (flatPP c) ++ upL (flatPP d) = upL (flatPP (c ++ d)) := fun c d => by rw [upL_flatPP, upL_flatPP, upL_flatPP, flatP_append]
  unfold joinP
  by_cases h1 : 0 < a.length
  · have d1 : decide ((a.length : Int) > 0) = true := decide_eq_true (by omega)
    have hw : IntKind.i64.wrap ((a.length : Int) - 1) = ((a.length - 1 : Nat) : Int) := by rw [IntWalk.i64_in _ (by omega)]; omega
    have hsz : 0 = 0 ∧ (0 + a.length) * 16 ≤ 140737488355328 ∧ 0 + a.length ≤ 9223372036854775807 := ⟨rfl, by omega, by omega⟩
    rw [decide_eq_true h1, Bool.true_and]
    cases b with
    | nil =>
      rw [show decide (0 < ([] : List P2).length) = false from rfl, Bool.false_and, cond_false, List.append_nil]
      exact jo4_calls LJ4 a d1 hsz (hO a) h1 (flatPP_length _) (row_back rfl (by omega))
    | cons q qs =>
      rw [show decide (0 < (q :: qs).length) = true from rfl, Bool.true_and]
      have hq : pAt (q :: qs) 0 = q := pAt_get rfl
      cases he : eqB (pAt a (a.length - 1)) (pAt (q :: qs) 0) with
      | true =>
        rw [cond_true]
        cases qs with
        | nil =>
          rw [show ([q] : List P2).drop 1 = [] from rfl, List.append_nil]
          exact jo2_calls LJ4 a q (by rw [hw, Int.toNat_natCast]; exact he) d1 hsz (hO a) h1 (flatPP_length _) ⟨by rw [hw]; omega, by rw [hw]; omega⟩ ⟨by omega, by simp⟩ (row_back rfl (by omega))
        | cons q2 qt =>
          have hc : cutA (flatPP (q :: q2 :: qt)) 2 1 (q :: q2 :: qt).length = flatPP (q2 :: qt) := by
            rw [cutP_flat, List.take_of_length_le (by rw [List.length_drop]; exact Nat.le_refl _)]
            rfl
          rw [show (q :: q2 :: qt).drop 1 = q2 :: qt from rfl]
          have hl2 : (q :: q2 :: qt).length = (q2 :: qt).length + 1 := rfl
          exact jo1_calls LJ4 a (q :: q2 :: qt) (a ++ q2 :: qt) (by rw [hw, Int.toNat_natCast]; exact he) (decide_eq_true (by rw [hl2]; omega)) d1 hsz (hO a) h1 (flatPP_length _) ⟨by rw [hw]; omega, by rw [hw]; omega⟩ ⟨by omega, by rw [hl2]; omega⟩
            (by rw [show (1 : Int) = ((1 : Nat) : Int) from rfl]; exact boundsA_lo (by rw [hl2]; omega)) ⟨by rw [hF]; omega, by omega, by omega⟩ (by rw [hc]; exact hO _) (by rw [hl2]; simp) (by rw [hc, flatPP_length]; rfl) (by rw [hc]; exact hA _ _)
            (row_back rfl (by rw [List.length_append, hl2]; omega))
      | false =>
        rw [cond_false]
        have hl1 : (q :: qs).length = qs.length + 1 := rfl
        exact jo3_calls LJ4 a (q :: qs) (a ++ q :: qs) (by rw [hw, Int.toNat_natCast]; exact he) (decide_eq_true (by rw [hl1]; omega)) d1 hsz (hO a) h1 (flatPP_length _) ⟨by rw [hw]; omega, by rw [hw]; omega⟩ ⟨by omega, by rw [hl1]; omega⟩
          ⟨by rw [hF]; omega, by omega, by omega⟩ (hO _) (by simp) (flatPP_length _) (hA _ _) (row_back rfl (by rw [List.length_append]; omega))
  · obtain rfl : a = [] := List.eq_nil_of_length_eq_zero (by omega)
    rw [decide_eq_false h1, Bool.false_and, Bool.false_and, cond_false, List.nil_append]
    cases b with
    | nil => exact callsP_wkR (jo6_calls LJ4) (unSl_wk rfl)
    | cons q qs => exact jo5_calls LJ4 (q :: qs) ⟨rfl, by omega, by omega⟩ (hO _) (by simp) (flatPP_length _) (row_back rfl (by omega))
/-! slices.Equal, line.Same -/
noncomputable abbrev bodyEq : List AVal → List AObj → Res := evalC (cf LJ4) (evalF (cf LJ4) 201) ((lives.lookup 67).getD []) 0 0 201 (loopAt Try.f67 0)
def neI (xs ys : List P2) (i : Nat) : Bool := !eqB (pAt xs i) (pAt ys i)
theorem eq_loop (xs ys : List P2) (hl : xs.length = ys.length) (h200 : xs.length ≤ 200) : At 0 bodyEq (xs.length + 1) (eqT xs ys (0 : Nat)) [] (some (match firstAt (neI xs ys) xs.length 0 with | some _ => (.ret, eqX, []) | none => (.exit 0, eqE xs ys xs.length, []))) := by
  have key : ∀ k : Nat, k ≤ xs.length → roundC 0 bodyEq (eqT xs ys k) [] = some (eq1 LJ4 xs ys k) := fun k hk =>
    eq1_eq LJ4 xs ys k (fun h => by have := of_decide_eq_true h; exact ⟨by omega, by omega⟩) (fun h => by have := of_decide_eq_true h; exact ⟨by omega, by omega⟩)
  refine At.search (T := fun k => eqT xs ys k) (S := fun _ => []) (n := xs.length) (c := neI xs ys) (X := fun _ => (.ret, eqX, [])) (E := (.exit 0, eqE xs ys xs.length, [])) ?_ ?_ ?_ xs.length 0 (by omega)
  · intro k hk hc
    rw [key k (by omega)]
    unfold neI at hc
    unfold eq1
    rw [decide_eq_true (by omega : (k : Int) < (xs.length : Int)), Int.toNat_natCast, hc, wrS (by omega)]
    rfl
  · intro k hk hc
    refine ⟨?_, by simp⟩
    rw [key k (by omega)]
    unfold neI at hc
    unfold eq1
    rw [decide_eq_true (by omega : (k : Int) < (xs.length : Int)), Int.toNat_natCast, hc]
    rfl
  · refine ⟨?_, by simp⟩
    rw [key _ (Nat.le_refl _)]
    unfold eq1
    rw [decide_eq_false (by omega : ¬ (xs.length : Int) < (xs.length : Int))]
    rfl
theorem same_iff {xs ys : List P2} (hl : xs.length = ys.length) : xs = ys ↔ firstAt (neI xs ys) xs.length 0 = none := by
  constructor
  · rintro rfl
    exact firstAt_eq_none fun i _ _ => by unfold neI; rw [eqB_iff.2 rfl]; rfl
  · intro h
    refine List.ext_getElem hl fun i h1 h2 => ?_
    have := firstAt_none h i (by omega) (by omega)
    unfold neI at this
    rw [Bool.not_eq_false', eqB_iff, pAt_getElem h1, pAt_getElem h2] at this
    exact this
theorem equal_calls (xs ys : List P2) (h200 : xs.length ≤ 200) : CallsP Try.prog 67 [slP xs, slP ys] (bP (decide (xs = ys))) := by
  by_cases hl : xs.length = ys.length
  · have hne : ((xs.length : Int) != (ys.length : Int)) = false := by rw [hl]; exact bne_self_eq_false _
    have hloop := eq_loop xs ys hl h200
    cases hf : firstAt (neI xs ys) xs.length 0 with
    | some j =>
      have hn : xs ≠ ys := fun h => by rw [(same_iff hl).1 h] at hf; cases hf
      rw [hf] at hloop
      rw [decide_eq_false hn]
      exact eqC_calls LJ4 xs ys hne (At.use (at_more hloop (m := 201) (by omega)) (by rfl) (by kernel_rfl))
    | none =>
      rw [hf] at hloop
      rw [decide_eq_true ((same_iff hl).2 hf)]
      exact eqD_calls LJ4 xs ys xs.length hne (At.use (at_more hloop (m := 201) (by omega)) (by rfl) (by kernel_rfl))
  · have hne : ((xs.length : Int) != (ys.length : Int)) = true := bne_iff_ne.2 (by omega)
    rw [decide_eq_false (fun h => hl (by rw [h]))]
    exact eqA_calls LJ4 xs ys hne
def gLen2 (f : List P2 → List P2 → PVal) : List PVal → Option PVal := gSSo fun a b => if a.length ≤ 200 ∧ b.length ≤ 200 then some (f a b) else none
theorem gLen2_spec {F : FuncId} {f : List P2 → List P2 → PVal} (h : ∀ a b : List P2, a.length ≤ 200 → b.length ≤ 200 → CallsP Try.prog F [slP a, slP b] (f a b)) : ∀ ps r, gLen2 f ps = some r → CallsP Try.prog F ps r :=
  gSSo_spec fun a b r hr => by
    by_cases hl : a.length ≤ 200 ∧ b.length ≤ 200
    · rw [if_pos hl, Option.some.injEq] at hr
      subst hr
      exact h a b hl.1 hl.2
    · rw [if_neg hl] at hr
      cases hr
theorem gLen2_of {f : List P2 → List P2 → PVal} {a b : List P2} (ha : a.length ≤ 200) (hb : b.length ≤ 200) : gLen2 f [slP a, slP b] = some (f a b) := by
  unfold gLen2
  rw [gSSo_slP]
  exact if_pos ⟨ha, hb⟩
noncomputable def LT1 : Lib Try.prog := LJ4.add 67 (gLen2 fun a b => bP (decide (a = b))) (Vm.enters_of named_prog Try.func67 (by kernel_rfl)) (gLen2_spec fun a b ha _ => equal_calls a b ha)
theorem lsame_calls (xs ys : List P2) (hx : xs.length ≤ 200) (hy : ys.length ≤ 200) : CallsP Try.prog 44 [slP xs, slP ys] (bP (decide (xs = ys))) :=
  saA_calls LT1 xs ys _ (pure_given (g := gLen2 fun a b => bP (decide (a = b))) (by kernel_rfl) (gLen2_of hx hy))
noncomputable def LT2 : Lib Try.prog := LT1.add 44 (gLen2 fun a b => bP (decide (a = b))) (Vm.enters_of named_prog Try.func44 (by kernel_rfl)) (gLen2_spec fun a b ha hb => lsame_calls a b ha hb)
noncomputable def LT3 : Lib Try.prog := LT2.add 43 (gLen2 fun a b => slP (joinP a b)) (Vm.enters_of named_prog Try.func43 (by kernel_rfl)) (gLen2_spec fun a b ha hb => join12_calls a b ha hb)
noncomputable def LT4 : Lib Try.prog := LT3.add 42 (gSo fun ps => lim ps (slP ps.reverse)) (Vm.enters_of named_prog Try.func42 (by kernel_rfl)) (gSo_spec fun ps r h => by obtain ⟨h1, rfl⟩ := lim_some h; exact rev12_calls ps h1)
noncomputable def LT5 : Lib Try.prog := LT4.add 38 (gSo fun ps => lim ps (slP ps.reverse)) (Vm.enters_of named_prog Try.func38 (by kernel_rfl)) (gSo_spec fun ps r h => by obtain ⟨h1, rfl⟩ := lim_some h; exact rev_calls ps h1)
section
variable {ev : Ev} {ps qs : List P2}
theorem t_ok : pureCall (cf LT5) ev 33 [slP ps] = some (bP (okB ps)) := pure_given (g := gSo fun ps => some (bP (okB ps))) (by kernel_rfl) (by rw [gSo_slP])
theorem t_awake : pureCall (cf LT5) ev 32 [] = some (bP true) := pure_given (g := fun ps => match ps with | [] => some (bP true) | _ => none) (by kernel_rfl) rfl
theorem t_grid (h : ps.length ≤ 200) : pureCall (cf LT5) ev 29 [slP ps] = some (slP (nrL ps)) := pure_given (g := gSo fGrid) (by kernel_rfl) (by rw [gSo_slP]; unfold fGrid; rw [if_pos h]; rfl)
theorem t_same12 (h : ps.length ≤ 200) : pureCall (cf LT5) ev 31 [slP ps, slP qs] = some (bP (decide (ps = qs))) := pure_given (g := gSSo fSame) (by kernel_rfl) (by rw [gSSo_slP]; exact if_pos h)
theorem t_rev (h : ps.length ≤ 200) : pureCall (cf LT5) ev 38 [slP ps] = some (slP ps.reverse) := pure_given (g := gSo fun ps => lim ps (slP ps.reverse)) (by kernel_rfl) (by rw [gSo_slP, lim_of h])
theorem t_rev12 (h : ps.length ≤ 200) : pureCall (cf LT5) ev 42 [slP ps] = some (slP ps.reverse) := pure_given (g := gSo fun ps => lim ps (slP ps.reverse)) (by kernel_rfl) (by rw [gSo_slP, lim_of h])
theorem t_same (h : ps.length ≤ 200) (h2 : qs.length ≤ 200) : pureCall (cf LT5) ev 44 [slP ps, slP qs] = some (bP (decide (ps = qs))) := pure_given (g := gLen2 fun a b => bP (decide (a = b))) (by kernel_rfl) (gLen2_of h h2)
theorem t_join (h : ps.length ≤ 200) (h2 : qs.length ≤ 200) : pureCall (cf LT5) ev 41 [slP ps, slP qs] = some (slP (joinP ps qs)) := pure_given (g := gSSo fun a b => if a.length ≤ 200 ∧ b.length ≤ 200 then some (slP (joinP a b)) else none) (by kernel_rfl) (by rw [gSSo_slP]; exact if_pos ⟨h, h2⟩)
theorem t_join12 (h : ps.length ≤ 200) (h2 : qs.length ≤ 200) : pureCall (cf LT5) ev 43 [slP ps, slP qs] = some (slP (joinP ps qs)) := pure_given (g := gLen2 fun a b => slP (joinP a b)) (by kernel_rfl) (gLen2_of h h2)
end
theorem joinP_length (a b : List P2) : (joinP a b).length ≤ a.length + b.length := by
  unfold joinP
  cases decide (0 < a.length) && decide (0 < b.length) && eqB (pAt a (a.length - 1)) (pAt b 0) with
  | true => rw [cond_true, List.length_append, List.length_drop]; omega
  | false => rw [cond_false, List.length_append]; omega
theorem lineTurns_calls (a b : List P2) (ha : a.length < 140737488355328) (hb : b.length < 140737488355328) : CallsP Try.prog 15 [slP a, slP b] (bP true) := by
  have hs : ∀ {P : Prop}, (a.length + b.length ≤ 140 → P) → decide (IntKind.i64.wrap ((a.length : Int) + (b.length : Int)) > 140) = false → P := fun f h => f (by
    have := of_decide_eq_false h
    rw [IntWalk.i64_in _ (by omega)] at this
    omega)
  have la := nrL_length a
  have lb := nrL_length b
  have lj := joinP_length (nrL a) (nrL b)
  have key := ltA_calls LT5 a b (nrL a) (nrL b) (nrL a).reverse (joinP (nrL a) (nrL b)) (okB (nrL a)) (decide (nrL a = nrL b)) (by cases okB (nrL a) <;> rfl) (by cases decide (nrL a = nrL b) <;> rfl) t_awake
    (hs fun h => t_grid (by omega)) (hs fun h => t_grid (by omega)) (hs fun h => t_rev (by omega)) (hs fun h => t_rev12 (by omega))
    (hs fun h => by have := @t_same12 (evalF (cf LT5) 203) (nrL a).reverse (nrL a).reverse (by rw [List.length_reverse]; omega); rw [decide_eq_true rfl] at this; exact this)
    (hs fun h => by have := @t_rev (evalF (cf LT5) 203) (nrL a).reverse (by rw [List.length_reverse]; omega); rw [List.reverse_reverse] at this; exact this)
    (hs fun h => by have := @t_same12 (evalF (cf LT5) 203) (nrL a) (nrL a) (by omega); rw [decide_eq_true rfl] at this; exact this)
    (hs fun h => t_join (by omega) (by omega)) (hs fun h => t_join12 (by omega) (by omega))
    (hs fun h => by have := @t_same12 (evalF (cf LT5) 203) (joinP (nrL a) (nrL b)) (joinP (nrL a) (nrL b)) (by omega); rw [decide_eq_true rfl] at this; exact this)
    (hs fun h => t_same (by omega) (by omega)) (hs fun h => t_same12 (by omega)) (hs fun h => by have := @t_ok (evalF (cf LT5) 203) (nrL a).reverse; rw [ok_rev] at this; exact this) (hs fun h => t_ok)
  have e : ltA LT5 a b (nrL a) (nrL b) (nrL a).reverse (joinP (nrL a) (nrL b)) (okB (nrL a)) (decide (nrL a = nrL b)) = bP true := by
    unfold ltA
    cases decide (IntKind.i64.wrap ((a.length : Int) + (b.length : Int)) > 140) <;> rfl
  rw [e] at key
  exact key
end Go.Proofs.Ytmopbegmdegooaa
/- Lines apart: what is the same of it whichever way they are told; where boxes do not meet nothing does. -/
namespace Go.Proofs.Ytmopbegmdegooaa
open Go Vm M
set_option linter.unusedVariables false
set_option linter.unusedSimpArgs false
/-- The end that two segments share, and whether they do. -/
def sharedP (a b c d : P2) : P2 × Bool := bif relate a b c d != 1 then ((0, 0), false) else (bif eqB (nearP a) (nearP c) || eqB (nearP a) (nearP d) then nearP a else nearP b, true)
def endL (ps : List P2) (p : P2) : Bool := eqB p (pAt ps 0) || eqB p (pAt ps (ps.length - 1))
def goodV (a b : List P2) (v : Int) (s : P2) : Bool := (v == 0) || ((v == 1) && (endL a s && endL b s))
/-- Whether a segment of the one and one of the other may be as they are. -/
def goodP (a b : List P2) (i k : Nat) : Bool := goodV a b (relate (pAt a i) (pAt a (i + 1)) (pAt b k) (pAt b (k + 1))) (sharedP (pAt a i) (pAt a (i + 1)) (pAt b k) (pAt b (k + 1))).1
def badRow (a b : List P2) (i : Nat) : Bool := (firstAt (fun k => !goodP a b i k) (b.length - 1) 0).isSome
def apartB (a b : List P2) : Bool := (firstAt (badRow a b) (a.length - 1) 0).isNone
theorem apart_iff {a b : List P2} : apartB a b = true ↔ ∀ i, i < a.length - 1 → ∀ k, k < b.length - 1 → goodP a b i k = true := by
  unfold apartB
  rw [Option.isNone_iff_eq_none]
  constructor
  · intro h i hi k hk
    have h1 := firstAt_none h i (by omega) (by omega)
    unfold badRow at h1
    cases hf : firstAt (fun k => !goodP a b i k) (b.length - 1) 0 with
    | some j => rw [hf] at h1; cases h1
    | none =>
      have h2 := firstAt_none hf k (by omega) (by omega)
      simpa using h2
  · intro h
    refine firstAt_eq_none fun i _ hi => ?_
    unfold badRow
    rw [firstAt_eq_none fun k _ hk => by rw [h i (by omega) k (by omega)]; rfl]
    rfl
/-- The shared end is an end of both, and the only one. -/
theorem shared_end {a b c d : P2} (h : relate a b c d = 1) : ((sharedP a b c d).1 = nearP a ∨ (sharedP a b c d).1 = nearP b) ∧ ((sharedP a b c d).1 = nearP c ∨ (sharedP a b c d).1 = nearP d) := by
  have hs : sharedP a b c d = (bif eqB (nearP a) (nearP c) || eqB (nearP a) (nearP d) then nearP a else nearP b, true) := by
    unfold sharedP
    rw [h]
    rfl
  rw [hs]
  -- one of the four is an end of both
  obtain ⟨h1, h2, h3, h4⟩ := ends_spec (nearP a) (nearP b) (nearP c) (nearP d) [nearP a, nearP b, nearP c, nearP d]
  have hb : (endsR a b c d).2.1 = 1 := by
    unfold relate at h
    split at h
    · omega
    · split at h
      · rename_i hb; exact hb
      · split at h
        · omega
        · split at h <;> omega
  unfold endsR at hb
  rw [h4] at hb
  have hx : ∃ x, endB (nearP a) (nearP b) (nearP c) (nearP d) x = true := by
    cases hf : (endsF (nearP a) (nearP b) (nearP c) (nearP d) [nearP a, nearP b, nearP c, nearP d] (0, 0, [])).2.2.filter (endB (nearP a) (nearP b) (nearP c) (nearP d)) with
    | nil => rw [hf] at hb; simp at hb
    | cons x l =>
      have : x ∈ (endsF (nearP a) (nearP b) (nearP c) (nearP d) [nearP a, nearP b, nearP c, nearP d] (0, 0, [])).2.2.filter (endB (nearP a) (nearP b) (nearP c) (nearP d)) := by rw [hf]; simp
      exact ⟨x, (List.mem_filter.1 this).2⟩
  obtain ⟨x, hx⟩ := hx
  unfold endB at hx
  simp only [Bool.and_eq_true, Bool.or_eq_true, eqB_iff] at hx
  cases he : eqB (nearP a) (nearP c) || eqB (nearP a) (nearP d) with
  | true =>
    rw [Bool.or_eq_true, eqB_iff, eqB_iff] at he
    exact ⟨.inl rfl, he⟩
  | false =>
    rw [Bool.or_eq_false_iff] at he
    refine ⟨.inr rfl, ?_⟩
    rcases hx.1 with h5 | h5
    · exfalso
      rcases hx.2 with h6 | h6
      · rw [← h5, ← h6, eqB_iff.2 rfl] at he; cases he.1
      · rw [← h5, ← h6, eqB_iff.2 rfl] at he; cases he.2
    · rw [← h5]; exact hx.2
theorem end_com {a b c d p : P2} (h1 : p = nearP a ∨ p = nearP b) (h2 : p = nearP c ∨ p = nearP d) : p ∈ [nearP a, nearP b, nearP c, nearP d] ∧ comB (nearP a) (nearP b) (nearP c) (nearP d) p = true := by
  constructor
  · rcases h1 with rfl | rfl <;> simp
  · unfold comB
    have o1 : M.on (nearP a) (nearP b) p = true := by
      rcases h1 with rfl | rfl
      · exact on_self1 _ _
      · exact on_self2 _ _
    have o2 : M.on (nearP c) (nearP d) p = true := by
      rcases h2 with rfl | rfl
      · exact on_self1 _ _
      · exact on_self2 _ _
    rw [o1, o2]
    rfl
theorem shared_uniq {a b c d p : P2} (h : relate a b c d = 1) (h1 : p = nearP a ∨ p = nearP b) (h2 : p = nearP c ∨ p = nearP d) : (sharedP a b c d).1 = p := by
  obtain ⟨k1, k2⟩ := shared_end h
  obtain ⟨m1, c1⟩ := end_com k1 k2
  obtain ⟨m2, c2⟩ := end_com h1 h2
  exact relate_one_com h _ m1 _ m2 c1 c2
theorem shared_comm {a b c d : P2} (h : relate a b c d = 1) : (sharedP c d a b).1 = (sharedP a b c d).1 := by
  have h' : relate c d a b = 1 := by rw [relate_comm]; exact h
  obtain ⟨k1, k2⟩ := shared_end h
  exact shared_uniq h' k2 k1
theorem shared_flip {a b c d : P2} (h : relate a b c d = 1) : (sharedP b a c d).1 = (sharedP a b c d).1 := by
  have h' : relate b a c d = 1 := by rw [relate_flip1]; exact h
  obtain ⟨k1, k2⟩ := shared_end h
  exact shared_uniq h' k1.symm k2
theorem goodV_eq {a b c d : List P2} {v : Int} {s t : P2} (he : v = 1 → (endL a s && endL b s) = (endL c t && endL d t)) : goodV a b v s = goodV c d v t := by
  unfold goodV
  by_cases h : v = 1
  · subst h
    rw [he rfl]
  · rw [beq_eq_false_iff_ne.2 h, Bool.false_and, Bool.false_and]
theorem good_comm (a b : List P2) (i k : Nat) : goodP b a k i = goodP a b i k := by
  unfold goodP
  rw [relate_comm (pAt a i) (pAt a (i + 1)) (pAt b k) (pAt b (k + 1))]
  exact goodV_eq fun h => by rw [shared_comm h, Bool.and_comm]
theorem endL_rev {a : List P2} (h : 1 ≤ a.length) (s : P2) : endL a.reverse s = endL a s := by
  unfold endL
  rw [List.length_reverse, pAt_rev (by omega), pAt_rev (by omega), show a.length - 1 - 0 = a.length - 1 by omega, show a.length - 1 - (a.length - 1) = 0 by omega, Bool.or_comm]
theorem good_rev {a b : List P2} {i : Nat} (k : Nat) (hi : i < a.length - 1) : goodP a.reverse b i k = goodP a b (a.length - 2 - i) k := by
  unfold goodP
  rw [pAt_rev (by omega), pAt_rev (by omega), show a.length - 1 - i = a.length - 2 - i + 1 by omega, show a.length - 1 - (i + 1) = a.length - 2 - i by omega, relate_flip1]
  exact goodV_eq fun h => by rw [shared_flip h, endL_rev (by omega)]
theorem apart_comm (a b : List P2) : apartB b a = apartB a b := by
  rw [Bool.eq_iff_iff, apart_iff, apart_iff]
  constructor
  · intro h i hi k hk
    rw [← good_comm]
    exact h k hk i hi
  · intro h k hk i hi
    rw [good_comm]
    exact h i hi k hk
theorem apart_rev (a b : List P2) : apartB a.reverse b = apartB a b := by
  rw [Bool.eq_iff_iff, apart_iff, apart_iff, List.length_reverse]
  constructor
  · intro h i hi k hk
    have := h (a.length - 2 - i) (by omega) k hk
    rw [good_rev k (by omega), show a.length - 2 - (a.length - 2 - i) = i by omega] at this
    exact this
  · intro h i hi k hk
    rw [good_rev k hi]
    exact h _ (by omega) k hk
/-! boxes -/
def minP (p q : P2) : P2 := (min p.1 q.1, min p.2 q.2)
def maxP (p q : P2) : P2 := (max p.1 q.1, max p.2 q.2)
/-- The box of the first k points. -/
def boxK (ps : List P2) : Nat → P2 × P2
  | 0 => ((0, 0), (0, 0))
  | 1 => (nearP (pAt ps 0), nearP (pAt ps 0))
  | k + 1 + 1 => (minP (boxK ps (k + 1)).1 (nearP (pAt ps (k + 1))), maxP (boxK ps (k + 1)).2 (nearP (pAt ps (k + 1))))
def leP (p q : P2) : Bool := decide (p.1 ≤ q.1) && decide (p.2 ≤ q.2)
def meetB (al ah bl bh : P2) : Bool := leP (nearP al) (nearP ah) && leP (nearP al) (nearP bh) && (leP (nearP bl) (nearP ah) && leP (nearP bl) (nearP bh))
theorem box_in (ps : List P2) : ∀ (k i : Nat), i < k → ((boxK ps k).1.1 ≤ (nearP (pAt ps i)).1 ∧ (boxK ps k).1.2 ≤ (nearP (pAt ps i)).2) ∧ ((nearP (pAt ps i)).1 ≤ (boxK ps k).2.1 ∧ (nearP (pAt ps i)).2 ≤ (boxK ps k).2.2)
  | 0, i, h => absurd h (by omega)
  | 1, i, h => by
    obtain rfl : i = 0 := by omega
    unfold boxK
    exact ⟨⟨Int.le_refl _, Int.le_refl _⟩, Int.le_refl _, Int.le_refl _⟩
  | k + 1 + 1, i, h => by
    unfold boxK minP maxP
    simp only
    by_cases hi : i = k + 1
    · subst hi
      exact ⟨⟨Int.min_le_right _ _, Int.min_le_right _ _⟩, Int.le_max_right _ _, Int.le_max_right _ _⟩
    · have := box_in ps (k + 1) i (by omega)
      exact ⟨⟨Int.le_trans (Int.min_le_left _ _) this.1.1, Int.le_trans (Int.min_le_left _ _) this.1.2⟩, Int.le_trans this.2.1 (Int.le_max_left _ _), Int.le_trans this.2.2 (Int.le_max_left _ _)⟩
theorem box_grid (ps : List P2) : ∀ k, 1 ≤ k → inG (boxK ps k).1 ∧ inG (boxK ps k).2
  | 0, h => absurd h (by omega)
  | 1, _ => ⟨nearP_in _, nearP_in _⟩
  | k + 1 + 1, _ => by
    obtain ⟨h1, h2⟩ := box_grid ps (k + 1) (by omega)
    have h3 := nearP_in (pAt ps (k + 1))
    unfold boxK minP maxP
    unfold inG at h1 h2 h3 ⊢
    simp only
    omega
theorem cross_core {α β γ δ a b c d : Int} (id1 : α * d + γ * b = β * c + δ * a) (id2 : α - β = δ - γ) (h1 : a < c) (h2 : a < d) (h3 : b < c) (h4 : b < d) (ha : 0 < α) (hb : β < 0) (hc : γ < 0) (hd : 0 < δ) : False := by
  obtain ⟨s, hs⟩ : ∃ s, s = min c d := ⟨_, rfl⟩
  have p1 := Int.mul_le_mul_of_nonneg_left (show s ≤ d by omega) (Int.le_of_lt ha)
  have p2 := Int.mul_le_mul_of_nonneg_left (show s ≤ c by omega) (show 0 ≤ -β by omega)
  have p3 := Int.mul_le_mul_of_nonneg_left (show a ≤ s - 1 by omega) (Int.le_of_lt hd)
  have p4 := Int.mul_le_mul_of_nonneg_left (show b ≤ s - 1 by omega) (show 0 ≤ -γ by omega)
  have e : α * s - β * s = δ * s - γ * s := by rw [← Int.sub_mul, ← Int.sub_mul, id2]
  rw [Int.neg_mul, Int.neg_mul] at p2 p4
  rw [Int.mul_sub, Int.mul_one] at p3 p4
  omega
theorem sgn_mul_neg {x y : Int} (h : sgn x * sgn y < 0) : (0 < x ∧ y < 0) ∨ (x < 0 ∧ 0 < y) := by
  unfold sgn at h
  by_cases h1 : x < 0
  · rw [if_pos h1] at h
    by_cases h2 : y < 0
    · rw [if_pos h2] at h; omega
    · rw [if_neg h2] at h
      by_cases h3 : 0 < y
      · exact .inr ⟨h1, h3⟩
      · rw [if_neg h3] at h; omega
  · rw [if_neg h1] at h
    by_cases h2 : 0 < x
    · rw [if_pos h2] at h
      by_cases h3 : y < 0
      · exact .inl ⟨h2, h3⟩
      · rw [if_neg h3] at h
        by_cases h4 : 0 < y
        · rw [if_pos h4] at h; omega
        · rw [if_neg h4] at h; omega
    · rw [if_neg h2, Int.zero_mul] at h; omega
/-- Two segments of which one is all to the one side of the other do not cross. -/
theorem side_core {a b c d : P2} {f : P2 → Int} (id1 : area a b c * f d + area c d a * f b = area a b d * f c + area c d b * f a) (h1 : f a < f c) (h2 : f a < f d) (h3 : f b < f c) (h4 : f b < f d) : ¬ (turnR a b c * turnR a b d < 0 ∧ turnR c d a * turnR c d b < 0) := by
  rintro ⟨k1, k2⟩
  have id2 : area a b c - area a b d = area c d b - area c d a := by unfold area; grind
  unfold turnR at k1 k2
  rcases sgn_mul_neg k1 with ⟨ha, hb⟩ | ⟨ha, hb⟩
  · rcases sgn_mul_neg k2 with ⟨hc, hd⟩ | ⟨hc, hd⟩
    · omega
    · exact cross_core id1 id2 h1 h2 h3 h4 ha hb hc hd
  · rcases sgn_mul_neg k2 with ⟨hc, hd⟩ | ⟨hc, hd⟩
    · exact cross_core (α := area a b d) (β := area a b c) (γ := area c d b) (δ := area c d a) (a := f b) (b := f a) (c := f d) (d := f c) (by omega) (by omega) h4 h3 h2 h1 hb ha hd hc
    · omega
theorem id_x (a b c d : P2) : area a b c * d.1 + area c d a * b.1 = area a b d * c.1 + area c d b * a.1 := by unfold area; grind
theorem id_y (a b c d : P2) : area a b c * d.2 + area c d a * b.2 = area a b d * c.2 + area c d b * a.2 := by unfold area; grind
/-- Where segments have anything in common there is no line between them that goes along the grid. -/
theorem relate_boxes {a b c d : P2} (h : relate a b c d ≠ 0) : ∀ f : P2 → Int, (f = Prod.fst ∨ f = Prod.snd) → ¬ (f (nearP a) < f (nearP c) ∧ f (nearP a) < f (nearP d) ∧ f (nearP b) < f (nearP c) ∧ f (nearP b) < f (nearP d)) := by
  intro f hf ⟨h1, h2, h3, h4⟩
  obtain ⟨k1, k2, k3, k4⟩ := ends_spec (nearP a) (nearP b) (nearP c) (nearP d) [nearP a, nearP b, nearP c, nearP d]
  -- no point is on both
  have hno : (endsF (nearP a) (nearP b) (nearP c) (nearP d) [nearP a, nearP b, nearP c, nearP d] (0, 0, [])).2.2 = [] := by
    cases he : (endsF (nearP a) (nearP b) (nearP c) (nearP d) [nearP a, nearP b, nearP c, nearP d] (0, 0, [])).2.2 with
    | nil => rfl
    | cons p l =>
      exfalso
      have hm := (k2 p).1 (by rw [he]; simp)
      have hc := hm.2
      unfold comB at hc
      rw [Bool.and_eq_true] at hc
      have hp : nearP p = p := by
        have := hm.1
        simp only [List.mem_cons, List.not_mem_nil, or_false] at this
        rcases this with rfl | rfl | rfl | rfl <;> exact nearP_nearP _
      have o1 := (on_iff (nearP_in a) (nearP_in b) (by rw [← hp]; exact nearP_in p)).1 hc.1
      have o2 := (on_iff (nearP_in c) (nearP_in d) (by rw [← hp]; exact nearP_in p)).1 hc.2
      rcases hf with rfl | rfl
      · omega
      · omega
  rw [hno] at k3 k4
  refine h ?_
  unfold relate endsR
  rw [k3, k4]
  rw [if_neg (by simp), if_neg (by simp), if_neg (by simp)]
  rw [if_neg]
  unfold turn
  rcases hf with rfl | rfl
  · exact side_core (id_x _ _ _ _) h1 h2 h3 h4
  · exact side_core (id_y _ _ _ _) h1 h2 h3 h4
theorem meet_of {a b : List P2} {i k : Nat} (hi : i < a.length - 1) (hk : k < b.length - 1) (h : relate (pAt a i) (pAt a (i + 1)) (pAt b k) (pAt b (k + 1)) ≠ 0) : meetB (boxK a a.length).1 (boxK a a.length).2 (boxK b b.length).1 (boxK b b.length).2 = true := by
  have ga := box_grid a a.length (by omega)
  have gb := box_grid b b.length (by omega)
  have a1 := box_in a a.length i (by omega)
  have a2 := box_in a a.length (i + 1) (by omega)
  have b1 := box_in b b.length k (by omega)
  have b2 := box_in b b.length (k + 1) (by omega)
  have h' : relate (pAt b k) (pAt b (k + 1)) (pAt a i) (pAt a (i + 1)) ≠ 0 := by rw [relate_comm]; exact h
  have x1 := relate_boxes h Prod.fst (.inl rfl)
  have y1 := relate_boxes h Prod.snd (.inr rfl)
  have x2 := relate_boxes h' Prod.fst (.inl rfl)
  have y2 := relate_boxes h' Prod.snd (.inr rfl)
  unfold meetB leP
  rw [nearP_id ga.1, nearP_id ga.2, nearP_id gb.1, nearP_id gb.2]
  simp only [Bool.and_eq_true, decide_eq_true_eq]
  omega
/-- Where the boxes do not meet lines are apart. -/
theorem apart_box {a b : List P2} (h : meetB (boxK a a.length).1 (boxK a a.length).2 (boxK b b.length).1 (boxK b b.length).2 = false) : apartB a b = true := by
  rw [apart_iff]
  intro i hi k hk
  by_cases hr : relate (pAt a i) (pAt a (i + 1)) (pAt b k) (pAt b (k + 1)) = 0
  · unfold goodP goodV
    rw [hr]
    rfl
  · rw [meet_of hi hk hr] at h
    cases h
end Go.Proofs.Ytmopbegmdegooaa
/- pt.Box, pt.Meet, seg.Shared, line.end, line.Apart, and the document's: their rounds, their calls. -/
namespace Go.Proofs.Ytmopbegmdegooaa
open Go Vm M
set_option linter.unusedVariables false
set_option linter.unusedSimpArgs false
def bxT (ps : List P2) (i : Int) : List AVal := [slA ps, AVal.junk, AVal.ptr 0 0 0, AVal.ptr 1 0 0, AVal.junk, AVal.junk, AVal.junk, slA ps, iA ps.length, iA i] ++ jk 38
def bxE (ps : List P2) (i : Int) : List AVal := [slA ps, AVal.junk, AVal.ptr 0 0 0, AVal.ptr 1 0 0, AVal.junk, AVal.junk, AVal.junk, slA ps, iA ps.length, iA i, bA false] ++ jk 37
def bxS (l h : P2) : List AObj := [.box (cellsP l), .box (cellsP h)]
def mtT (A C : P2) (i : Int) : List AVal := jk 10 ++ [AVal.ptr 15 0 0, bA true] ++ jk 14 ++ [AVal.agg (cellsP A ++ cellsP C), iA i] ++ jk 21
def mtS (B D : P2) (R : List AObj) : List AObj := R ++ [.box (cellsP B ++ cellsP D)]
def mtU (A C B D : P2) (i k : Int) : List AVal := jk 10 ++ [AVal.ptr 15 0 0, bA true, .junk, AVal.ptr 0 0 0] ++ jk 12 ++ [AVal.agg (cellsP A ++ cellsP C), iA i, .junk, .junk, AVal.agg (cellsP B ++ cellsP D), iA k] ++ jk 17
def mtV (A C B D : P2) (i k : Int) : List AVal := jk 10 ++ [AVal.ptr 15 0 0, bA true, .junk, AVal.ptr 0 0 0] ++ jk 12 ++ [AVal.agg (cellsP A ++ cellsP C), iA i, .junk, .junk, AVal.agg (cellsP B ++ cellsP D), iA k, bA false] ++ jk 16
def mtX : List AVal := jk 11 ++ [bA false] ++ jk 37
def mtE (A C : P2) (i : Int) : List AVal := jk 10 ++ [AVal.ptr 15 0 0, bA true] ++ jk 14 ++ [AVal.agg (cellsP A ++ cellsP C), iA i, bA false] ++ jk 20
def fr15 : List AObj := List.replicate 15 .free
def fr14 (X : P2) : List AObj := .box (cellsP X) :: List.replicate 14 .free
def apT (a b : List P2) (i : Int) : List AVal := [slA a, slA b] ++ jk 9 ++ [bA true, iA i] ++ jk 97
def apU (a b : List P2) (i k : Int) : List AVal := [slA a, slA b] ++ jk 9 ++ [bA true, iA i, iA k] ++ jk 96
def apV (a b : List P2) (i k : Int) : List AVal := [slA a, slA b] ++ jk 9 ++ [bA true, iA i, iA k] ++ jk 39 ++ [bA false] ++ jk 56
def apE (a b : List P2) (i : Int) : List AVal := [slA a, slA b] ++ jk 9 ++ [bA true, iA i] ++ jk 33 ++ [bA false] ++ jk 63
def apX : List AVal := jk 11 ++ [bA false] ++ jk 98
def acT (a b : List P2) (i : Int) : List AVal := [slA a, slA b] ++ jk 3 ++ [iA i] ++ jk 72
def acU (a b : List P2) (i k : Int) : List AVal := [slA a, slA b] ++ jk 3 ++ [iA i, iA k] ++ jk 71
def acV (a b : List P2) (i k : Int) : List AVal := [slA a, slA b] ++ jk 3 ++ [iA i, iA k] ++ jk 13 ++ [bA false] ++ jk 57
def acE (a b : List P2) (i : Int) : List AVal := [slA a, slA b] ++ jk 3 ++ [iA i] ++ jk 7 ++ [bA false] ++ jk 64
def acX : List AVal := jk 4 ++ [bA false] ++ jk 73
def bxR (L : Lib Try.prog) (ps : List P2) (i : Int) (l : P2) (h : P2) (q : P2) : AExit × List AVal × List AObj :=
  (bif decide (i < (↑(List.length ps) : Int)) then (bif i == 0 then (AExit.normal, (([slA ps, AVal.junk, AVal.ptr 0 0 0, AVal.ptr 1 0 0, AVal.junk, AVal.junk, AVal.junk, slA ps, iA (↑(List.length ps) : Int), iA (IntKind.i64.wrap (i + 1))] ++ jk 38), ([AObj.box [iA (if Prod.fst q < Prod.fst q then Prod.fst q else Prod.fst q), iA (if Prod.snd q < Prod.snd q then Prod.snd q else Prod.snd q)], AObj.box [iA (if Prod.fst q > Prod.fst q then Prod.fst q else Prod.fst q), iA (if Prod.snd q > Prod.snd q then Prod.snd q else Prod.snd q)]]))) else (AExit.normal, (([slA ps, AVal.junk, AVal.ptr 0 0 0, AVal.ptr 1 0 0, AVal.junk, AVal.junk, AVal.junk, slA ps, iA (↑(List.length ps) : Int), iA (IntKind.i64.wrap (i + 1))] ++ jk 38), ([AObj.box [iA (if Prod.fst q < Prod.fst l then Prod.fst q else Prod.fst l), iA (if Prod.snd q < Prod.snd l then Prod.snd q else Prod.snd l)], AObj.box [iA (if Prod.fst q > Prod.fst h then Prod.fst q else Prod.fst h), iA (if Prod.snd q > Prod.snd h then Prod.snd q else Prod.snd h)]])))) else (AExit.exit 0, (([slA ps, AVal.junk, AVal.ptr 0 0 0, AVal.ptr 1 0 0, AVal.junk, AVal.junk, AVal.junk, slA ps, iA (↑(List.length ps) : Int), iA i, bA false] ++ jk 37), ([AObj.box [iA (Prod.fst l), iA (Prod.snd l)], AObj.box [iA (Prod.fst h), iA (Prod.snd h)]]))))
theorem bxR_eq (L : Lib Try.prog) (ps : List P2) (i : Int) (l : P2) (h : P2) (q : P2) (b0 : (decide (i < (↑(List.length ps) : Int))) = true → (0 : Int) ≤ i ∧ (i : Int) < (↑(List.length ps) : Int)) (e0 : (decide (i < (↑(List.length ps) : Int))) = true → pureCall (cf L) (evalF (cf L) 201) 56 [ptP (pAt ps (Int.toNat i))] = some (ptP q)) : roundC 0 (evalC (cf L) (evalF (cf L) 201) (Option.getD (List.lookup 68 lives) []) 0 0 201 (loopAt Try.f68 0)) (bxT ps i) (bxS l h) = some (bxR L ps i l h q) := by
  have key := fun (bs : List Bool) (r : AExit × List AVal × List AObj) (ob : List Prop) (h : roundP (cf L) (evalF (cf L) 201) (Option.getD (List.lookup 68 lives) []) 0 0 201 [(9999, 0, Hint.idx), (4, 1, Hint.pcall (ptP q))] (loopAt Try.f68 0) (bxT ps i) (bxS l h) bs [] = .ok (r.1, r.2.1, r.2.2, ob)) (hp : allOb ob) => roundP_ok h hp
  unfold bxR
  exact bif_case (P := fun r => roundC 0 (evalC (cf L) (evalF (cf L) 201) (Option.getD (List.lookup 68 lives) []) 0 0 201 (loopAt Try.f68 0)) (bxT ps i) (bxS l h) = some r)
    (fun h0 => bif_case (P := fun r => roundC 0 (evalC (cf L) (evalF (cf L) 201) (Option.getD (List.lookup 68 lives) []) 0 0 201 (loopAt Try.f68 0)) (bxT ps i) (bxS l h) = some r)
     (fun h1 => key [true, true] ((AExit.normal, (([slA ps, AVal.junk, AVal.ptr 0 0 0, AVal.ptr 1 0 0, AVal.junk, AVal.junk, AVal.junk, slA ps, iA (↑(List.length ps) : Int), iA (IntKind.i64.wrap (i + 1))] ++ jk 38), ([AObj.box [iA (if Prod.fst q < Prod.fst q then Prod.fst q else Prod.fst q), iA (if Prod.snd q < Prod.snd q then Prod.snd q else Prod.snd q)], AObj.box [iA (if Prod.fst q > Prod.fst q then Prod.fst q else Prod.fst q), iA (if Prod.snd q > Prod.snd q then Prod.snd q else Prod.snd q)]])))) _ (by kernel_rfl) (allOb_cons (show Plain ([AObj.box [iA (if Prod.fst q < Prod.fst q then Prod.fst q else Prod.fst q), iA (if Prod.snd q < Prod.snd q then Prod.snd q else Prod.snd q)], AObj.box [iA (if Prod.fst q > Prod.fst q then Prod.fst q else Prod.fst q), iA (if Prod.snd q > Prod.snd q then Prod.snd q else Prod.snd q)], AObj.box [iA (Prod.fst q), iA (Prod.snd q)]] ++ List.replicate 4 AObj.free) from by simp only [Plain, List.all_append, List.all_cons, List.all_nil, plainO, upL_flatPP, flatP_plain, Nat.zero_mul, List.drop_zero] <;> rfl) (allOb_cons h1 (allOb_cons (by exact (e0 h0)) (allOb_cons (part_pt (b0 h0)) (allOb_cons (idx_ok (b0 h0)) (allOb_cons h0 allOb_nil)))))))
     (fun h1 => key [true, false] ((AExit.normal, (([slA ps, AVal.junk, AVal.ptr 0 0 0, AVal.ptr 1 0 0, AVal.junk, AVal.junk, AVal.junk, slA ps, iA (↑(List.length ps) : Int), iA (IntKind.i64.wrap (i + 1))] ++ jk 38), ([AObj.box [iA (if Prod.fst q < Prod.fst l then Prod.fst q else Prod.fst l), iA (if Prod.snd q < Prod.snd l then Prod.snd q else Prod.snd l)], AObj.box [iA (if Prod.fst q > Prod.fst h then Prod.fst q else Prod.fst h), iA (if Prod.snd q > Prod.snd h then Prod.snd q else Prod.snd h)]])))) _ (by kernel_rfl) (allOb_cons (show Plain ([AObj.box [iA (if Prod.fst q < Prod.fst l then Prod.fst q else Prod.fst l), iA (if Prod.snd q < Prod.snd l then Prod.snd q else Prod.snd l)], AObj.box [iA (if Prod.fst q > Prod.fst h then Prod.fst q else Prod.fst h), iA (if Prod.snd q > Prod.snd h then Prod.snd q else Prod.snd h)], AObj.box [iA (Prod.fst q), iA (Prod.snd q)]]) from by simp only [Plain, List.all_append, List.all_cons, List.all_nil, plainO, upL_flatPP, flatP_plain, Nat.zero_mul, List.drop_zero] <;> rfl) (allOb_cons h1 (allOb_cons (by exact (e0 h0)) (allOb_cons (part_pt (b0 h0)) (allOb_cons (idx_ok (b0 h0)) (allOb_cons h0 allOb_nil))))))))
    (fun h0 => key [false] ((AExit.exit 0, (([slA ps, AVal.junk, AVal.ptr 0 0 0, AVal.ptr 1 0 0, AVal.junk, AVal.junk, AVal.junk, slA ps, iA (↑(List.length ps) : Int), iA i, bA false] ++ jk 37), ([AObj.box [iA (Prod.fst l), iA (Prod.snd l)], AObj.box [iA (Prod.fst h), iA (Prod.snd h)]])))) _ (by kernel_rfl) (allOb_cons (show Plain ([AObj.box [iA (Prod.fst l), iA (Prod.snd l)], AObj.box [iA (Prod.fst h), iA (Prod.snd h)]]) from by simp only [Plain, List.all_append, List.all_cons, List.all_nil, plainO, upL_flatPP, flatP_plain, Nat.zero_mul, List.drop_zero] <;> rfl) (allOb_cons h0 allOb_nil)))
def bxA (L : Lib Try.prog) (ps : List P2) (i : Int) (l : P2) (h : P2) : PVal :=
  PVal.tup [ptP l, ptP h, bP (decide ((↑(List.length ps) : Int) > 0))]
theorem bxA_calls (L : Lib Try.prog) (ps : List P2) (i : Int) (l : P2) (h : P2) (e0 : iterC 0 (evalC (cf L) (evalF (cf L) 201) ((lives.lookup 68).getD []) 0 0 201 (loopAt Try.f68 0)) 201 ([AVal.list (List.length ps) (flatPP ps), AVal.junk, AVal.ptr 0 0 0, AVal.ptr 1 0 0, AVal.junk, AVal.junk, AVal.junk, AVal.list (List.length ps) (flatPP ps), iA (↑(List.length ps) : Int), iA 0] ++ jk 38) ([AObj.box [iA 0, iA 0], AObj.box [iA 0, iA 0]]) = some (AExit.exit 0, (([AVal.list (List.length ps) (flatPP ps), AVal.junk, AVal.ptr 0 0 0, AVal.ptr 1 0 0, AVal.junk, AVal.junk, AVal.junk, AVal.list (List.length ps) (flatPP ps), iA (↑(List.length ps) : Int), iA i, bA false] ++ jk 37), ([AObj.box [iA (Prod.fst l), iA (Prod.snd l)], AObj.box [iA (Prod.fst h), iA (Prod.snd h)]])))) : CallsP Try.prog 68 [slP ps] (bxA L ps i l h) := by
  have key := fun (bs : List Bool) (r : PVal) (ob : List Prop) (h : callP (cf L) (evalF (cf L) 201) 201 [(9999, 0, Hint.idx)] 68 [slP ps] bs [(AExit.exit 0, bxE ps i, bxS l h)] (none) = .ok (r, ob)) (hp : allOb ob) => callP_ok (cf_ok L) h hp
  unfold bxA
  exact key [] (PVal.tup [ptP l, ptP h, bP (decide ((↑(List.length ps) : Int) > 0))]) _ (by kernel_rfl) (allOb_cons (by exact e0) allOb_nil)
def mi0 (L : Lib Try.prog) (A : P2) (C : P2) (B : P2) (D : P2) (X : P2) (i : Int) : AExit × List AVal × List AObj :=
  (bif decide (Prod.fst X > Prod.fst B) then (AExit.exit 0, ((jk 11 ++ [bA false] ++ jk 37), [])) else (bif decide (Prod.snd X > Prod.snd B) then (AExit.exit 0, ((jk 11 ++ [bA false] ++ jk 37), [])) else (AExit.normal, ((jk 10 ++ [AVal.ptr 15 0 0, bA true, AVal.junk, AVal.ptr 0 0 0] ++ jk 12 ++ [AVal.agg [iA (Prod.fst A), iA (Prod.snd A), iA (Prod.fst C), iA (Prod.snd C)], iA i, AVal.junk, AVal.junk, AVal.agg [iA (Prod.fst B), iA (Prod.snd B), iA (Prod.fst D), iA (Prod.snd D)], iA (IntKind.i64.wrap (0 + 1))] ++ jk 17), ([AObj.box [iA (Prod.fst X), iA (Prod.snd X)]] ++ List.replicate 14 AObj.free ++ [AObj.box [iA (Prod.fst B), iA (Prod.snd B), iA (Prod.fst D), iA (Prod.snd D)]])))))
theorem mi0_eq (L : Lib Try.prog) (A : P2) (C : P2) (B : P2) (D : P2) (X : P2) (i : Int) : roundC 0 (evalC (cf L) (evalF (cf L) 201) (Option.getD (List.lookup 69 lives) []) 0 0 201 (loopAt Try.f69 1)) (mtU A C B D i 0) (mtS B D (fr14 X)) = some (mi0 L A C B D X i) := by
  have key := fun (bs : List Bool) (r : AExit × List AVal × List AObj) (ob : List Prop) (h : roundP (cf L) (evalF (cf L) 201) (Option.getD (List.lookup 69 lives) []) 0 0 201 [(9999, 0, Hint.idx)] (loopAt Try.f69 1) (mtU A C B D i 0) (mtS B D (fr14 X)) bs [] = .ok (r.1, r.2.1, r.2.2, ob)) (hp : allOb ob) => roundP_ok h hp
  unfold mi0
  exact bif_case (P := fun r => roundC 0 (evalC (cf L) (evalF (cf L) 201) (Option.getD (List.lookup 69 lives) []) 0 0 201 (loopAt Try.f69 1)) (mtU A C B D i 0) (mtS B D (fr14 X)) = some r)
    (fun h0 => key [true, true, true] ((AExit.exit 0, ((jk 11 ++ [bA false] ++ jk 37), []))) _ (by kernel_rfl) (allOb_cons (show Plain ([AObj.box [iA (Prod.fst X), iA (Prod.snd X)], AObj.box [iA (Prod.fst B), iA (Prod.snd B)]] ++ List.replicate 13 AObj.free ++ [AObj.box [iA (Prod.fst B), iA (Prod.snd B), iA (Prod.fst D), iA (Prod.snd D)]]) from by simp only [Plain, List.all_append, List.all_cons, List.all_nil, plainO, upL_flatPP, flatP_plain, Nat.zero_mul, List.drop_zero] <;> rfl) (allOb_cons lit_t (allOb_cons h0 (allOb_cons lit_t allOb_nil)))))
    (fun h0 => bif_case (P := fun r => roundC 0 (evalC (cf L) (evalF (cf L) 201) (Option.getD (List.lookup 69 lives) []) 0 0 201 (loopAt Try.f69 1)) (mtU A C B D i 0) (mtS B D (fr14 X)) = some r)
     (fun h1 => key [true, false, true] ((AExit.exit 0, ((jk 11 ++ [bA false] ++ jk 37), []))) _ (by kernel_rfl) (allOb_cons (show Plain ([AObj.box [iA (Prod.fst X), iA (Prod.snd X)], AObj.box [iA (Prod.fst B), iA (Prod.snd B)]] ++ List.replicate 13 AObj.free ++ [AObj.box [iA (Prod.fst B), iA (Prod.snd B), iA (Prod.fst D), iA (Prod.snd D)]]) from by simp only [Plain, List.all_append, List.all_cons, List.all_nil, plainO, upL_flatPP, flatP_plain, Nat.zero_mul, List.drop_zero] <;> rfl) (allOb_cons h1 (allOb_cons h0 (allOb_cons lit_t allOb_nil)))))
     (fun h1 => key [true, false, false] ((AExit.normal, ((jk 10 ++ [AVal.ptr 15 0 0, bA true, AVal.junk, AVal.ptr 0 0 0] ++ jk 12 ++ [AVal.agg [iA (Prod.fst A), iA (Prod.snd A), iA (Prod.fst C), iA (Prod.snd C)], iA i, AVal.junk, AVal.junk, AVal.agg [iA (Prod.fst B), iA (Prod.snd B), iA (Prod.fst D), iA (Prod.snd D)], iA (IntKind.i64.wrap (0 + 1))] ++ jk 17), ([AObj.box [iA (Prod.fst X), iA (Prod.snd X)]] ++ List.replicate 14 AObj.free ++ [AObj.box [iA (Prod.fst B), iA (Prod.snd B), iA (Prod.fst D), iA (Prod.snd D)]])))) _ (by kernel_rfl) (allOb_cons (show Plain ([AObj.box [iA (Prod.fst X), iA (Prod.snd X)], AObj.box [iA (Prod.fst B), iA (Prod.snd B)]] ++ List.replicate 13 AObj.free ++ [AObj.box [iA (Prod.fst B), iA (Prod.snd B), iA (Prod.fst D), iA (Prod.snd D)]]) from by simp only [Plain, List.all_append, List.all_cons, List.all_nil, plainO, upL_flatPP, flatP_plain, Nat.zero_mul, List.drop_zero] <;> rfl) (allOb_cons h1 (allOb_cons h0 (allOb_cons lit_t allOb_nil))))))
def mi1 (L : Lib Try.prog) (A : P2) (C : P2) (B : P2) (D : P2) (X : P2) (i : Int) : AExit × List AVal × List AObj :=
  (bif decide (Prod.fst X > Prod.fst D) then (AExit.exit 0, ((jk 11 ++ [bA false] ++ jk 37), [])) else (bif decide (Prod.snd X > Prod.snd D) then (AExit.exit 0, ((jk 11 ++ [bA false] ++ jk 37), [])) else (AExit.normal, ((jk 10 ++ [AVal.ptr 15 0 0, bA true, AVal.junk, AVal.ptr 0 0 0] ++ jk 12 ++ [AVal.agg [iA (Prod.fst A), iA (Prod.snd A), iA (Prod.fst C), iA (Prod.snd C)], iA i, AVal.junk, AVal.junk, AVal.agg [iA (Prod.fst B), iA (Prod.snd B), iA (Prod.fst D), iA (Prod.snd D)], iA (IntKind.i64.wrap (1 + 1))] ++ jk 17), ([AObj.box [iA (Prod.fst X), iA (Prod.snd X)]] ++ List.replicate 14 AObj.free ++ [AObj.box [iA (Prod.fst B), iA (Prod.snd B), iA (Prod.fst D), iA (Prod.snd D)]])))))
theorem mi1_eq (L : Lib Try.prog) (A : P2) (C : P2) (B : P2) (D : P2) (X : P2) (i : Int) : roundC 0 (evalC (cf L) (evalF (cf L) 201) (Option.getD (List.lookup 69 lives) []) 0 0 201 (loopAt Try.f69 1)) (mtU A C B D i 1) (mtS B D (fr14 X)) = some (mi1 L A C B D X i) := by
  have key := fun (bs : List Bool) (r : AExit × List AVal × List AObj) (ob : List Prop) (h : roundP (cf L) (evalF (cf L) 201) (Option.getD (List.lookup 69 lives) []) 0 0 201 [(9999, 0, Hint.idx)] (loopAt Try.f69 1) (mtU A C B D i 1) (mtS B D (fr14 X)) bs [] = .ok (r.1, r.2.1, r.2.2, ob)) (hp : allOb ob) => roundP_ok h hp
  unfold mi1
  exact bif_case (P := fun r => roundC 0 (evalC (cf L) (evalF (cf L) 201) (Option.getD (List.lookup 69 lives) []) 0 0 201 (loopAt Try.f69 1)) (mtU A C B D i 1) (mtS B D (fr14 X)) = some r)
    (fun h0 => key [true, true, true] ((AExit.exit 0, ((jk 11 ++ [bA false] ++ jk 37), []))) _ (by kernel_rfl) (allOb_cons (show Plain ([AObj.box [iA (Prod.fst X), iA (Prod.snd X)], AObj.box [iA (Prod.fst D), iA (Prod.snd D)]] ++ List.replicate 13 AObj.free ++ [AObj.box [iA (Prod.fst B), iA (Prod.snd B), iA (Prod.fst D), iA (Prod.snd D)]]) from by simp only [Plain, List.all_append, List.all_cons, List.all_nil, plainO, upL_flatPP, flatP_plain, Nat.zero_mul, List.drop_zero] <;> rfl) (allOb_cons lit_t (allOb_cons h0 (allOb_cons lit_t allOb_nil)))))
    (fun h0 => bif_case (P := fun r => roundC 0 (evalC (cf L) (evalF (cf L) 201) (Option.getD (List.lookup 69 lives) []) 0 0 201 (loopAt Try.f69 1)) (mtU A C B D i 1) (mtS B D (fr14 X)) = some r)
     (fun h1 => key [true, false, true] ((AExit.exit 0, ((jk 11 ++ [bA false] ++ jk 37), []))) _ (by kernel_rfl) (allOb_cons (show Plain ([AObj.box [iA (Prod.fst X), iA (Prod.snd X)], AObj.box [iA (Prod.fst D), iA (Prod.snd D)]] ++ List.replicate 13 AObj.free ++ [AObj.box [iA (Prod.fst B), iA (Prod.snd B), iA (Prod.fst D), iA (Prod.snd D)]]) from by simp only [Plain, List.all_append, List.all_cons, List.all_nil, plainO, upL_flatPP, flatP_plain, Nat.zero_mul, List.drop_zero] <;> rfl) (allOb_cons h1 (allOb_cons h0 (allOb_cons lit_t allOb_nil)))))
     (fun h1 => key [true, false, false] ((AExit.normal, ((jk 10 ++ [AVal.ptr 15 0 0, bA true, AVal.junk, AVal.ptr 0 0 0] ++ jk 12 ++ [AVal.agg [iA (Prod.fst A), iA (Prod.snd A), iA (Prod.fst C), iA (Prod.snd C)], iA i, AVal.junk, AVal.junk, AVal.agg [iA (Prod.fst B), iA (Prod.snd B), iA (Prod.fst D), iA (Prod.snd D)], iA (IntKind.i64.wrap (1 + 1))] ++ jk 17), ([AObj.box [iA (Prod.fst X), iA (Prod.snd X)]] ++ List.replicate 14 AObj.free ++ [AObj.box [iA (Prod.fst B), iA (Prod.snd B), iA (Prod.fst D), iA (Prod.snd D)]])))) _ (by kernel_rfl) (allOb_cons (show Plain ([AObj.box [iA (Prod.fst X), iA (Prod.snd X)], AObj.box [iA (Prod.fst D), iA (Prod.snd D)]] ++ List.replicate 13 AObj.free ++ [AObj.box [iA (Prod.fst B), iA (Prod.snd B), iA (Prod.fst D), iA (Prod.snd D)]]) from by simp only [Plain, List.all_append, List.all_cons, List.all_nil, plainO, upL_flatPP, flatP_plain, Nat.zero_mul, List.drop_zero] <;> rfl) (allOb_cons h1 (allOb_cons h0 (allOb_cons lit_t allOb_nil))))))
def mi2 (L : Lib Try.prog) (A : P2) (C : P2) (B : P2) (D : P2) (X : P2) (i : Int) : AExit × List AVal × List AObj :=
  (AExit.exit 2, ((jk 10 ++ [AVal.ptr 15 0 0, bA true, AVal.junk, AVal.ptr 0 0 0] ++ jk 12 ++ [AVal.agg [iA (Prod.fst A), iA (Prod.snd A), iA (Prod.fst C), iA (Prod.snd C)], iA i, AVal.junk, AVal.junk, AVal.agg [iA (Prod.fst B), iA (Prod.snd B), iA (Prod.fst D), iA (Prod.snd D)], iA 2, bA false] ++ jk 16), ([AObj.box [iA (Prod.fst X), iA (Prod.snd X)]] ++ List.replicate 14 AObj.free ++ [AObj.box [iA (Prod.fst B), iA (Prod.snd B), iA (Prod.fst D), iA (Prod.snd D)]])))
theorem mi2_eq (L : Lib Try.prog) (A : P2) (C : P2) (B : P2) (D : P2) (X : P2) (i : Int) : roundC 0 (evalC (cf L) (evalF (cf L) 201) (Option.getD (List.lookup 69 lives) []) 0 0 201 (loopAt Try.f69 1)) (mtU A C B D i 2) (mtS B D (fr14 X)) = some (mi2 L A C B D X i) := by
  have key := fun (bs : List Bool) (r : AExit × List AVal × List AObj) (ob : List Prop) (h : roundP (cf L) (evalF (cf L) 201) (Option.getD (List.lookup 69 lives) []) 0 0 201 [(9999, 0, Hint.idx)] (loopAt Try.f69 1) (mtU A C B D i 2) (mtS B D (fr14 X)) bs [] = .ok (r.1, r.2.1, r.2.2, ob)) (hp : allOb ob) => roundP_ok h hp
  unfold mi2
  exact key [false] ((AExit.exit 2, ((jk 10 ++ [AVal.ptr 15 0 0, bA true, AVal.junk, AVal.ptr 0 0 0] ++ jk 12 ++ [AVal.agg [iA (Prod.fst A), iA (Prod.snd A), iA (Prod.fst C), iA (Prod.snd C)], iA i, AVal.junk, AVal.junk, AVal.agg [iA (Prod.fst B), iA (Prod.snd B), iA (Prod.fst D), iA (Prod.snd D)], iA 2, bA false] ++ jk 16), ([AObj.box [iA (Prod.fst X), iA (Prod.snd X)]] ++ List.replicate 14 AObj.free ++ [AObj.box [iA (Prod.fst B), iA (Prod.snd B), iA (Prod.fst D), iA (Prod.snd D)]])))) _ (by kernel_rfl) (allOb_cons (show Plain ([AObj.box [iA (Prod.fst X), iA (Prod.snd X)]] ++ List.replicate 14 AObj.free ++ [AObj.box [iA (Prod.fst B), iA (Prod.snd B), iA (Prod.fst D), iA (Prod.snd D)]]) from by simp only [Plain, List.all_append, List.all_cons, List.all_nil, plainO, upL_flatPP, flatP_plain, Nat.zero_mul, List.drop_zero] <;> rfl) (allOb_cons lit_f allOb_nil))
def mo0 (L : Lib Try.prog) (A : P2) (C : P2) (B : P2) (D : P2) : AExit × List AVal × List AObj :=
  (AExit.normal, ((jk 10 ++ [AVal.ptr 15 0 0, bA true] ++ jk 14 ++ [AVal.agg [iA (Prod.fst A), iA (Prod.snd A), iA (Prod.fst C), iA (Prod.snd C)], iA (IntKind.i64.wrap (0 + 1))] ++ jk 21), (List.replicate 15 AObj.free ++ [AObj.box [iA (Prod.fst B), iA (Prod.snd B), iA (Prod.fst D), iA (Prod.snd D)]])))
theorem mo0_eq (L : Lib Try.prog) (A : P2) (C : P2) (B : P2) (D : P2) (e0 : iterC 0 (evalC (cf L) (evalF (cf L) 201) ((lives.lookup 69).getD []) 0 0 201 (loopAt Try.f69 1)) 201 (jk 10 ++ [AVal.ptr 15 0 0, bA true, AVal.junk, AVal.ptr 0 0 0] ++ jk 12 ++ [AVal.agg [iA (Prod.fst A), iA (Prod.snd A), iA (Prod.fst C), iA (Prod.snd C)], iA 0, AVal.junk, AVal.junk, AVal.agg [iA (Prod.fst B), iA (Prod.snd B), iA (Prod.fst D), iA (Prod.snd D)], iA 0] ++ jk 17) ([AObj.box [iA (Prod.fst A), iA (Prod.snd A)]] ++ List.replicate 14 AObj.free ++ [AObj.box [iA (Prod.fst B), iA (Prod.snd B), iA (Prod.fst D), iA (Prod.snd D)]]) = some (AExit.exit 2, ((jk 10 ++ [AVal.ptr 15 0 0, bA true, AVal.junk, AVal.ptr 0 0 0] ++ jk 12 ++ [AVal.agg [iA (Prod.fst A), iA (Prod.snd A), iA (Prod.fst C), iA (Prod.snd C)], iA 0, AVal.junk, AVal.junk, AVal.agg [iA (Prod.fst B), iA (Prod.snd B), iA (Prod.fst D), iA (Prod.snd D)], iA 2, bA false] ++ jk 16), ([AObj.box [iA (Prod.fst A), iA (Prod.snd A)]] ++ List.replicate 14 AObj.free ++ [AObj.box [iA (Prod.fst B), iA (Prod.snd B), iA (Prod.fst D), iA (Prod.snd D)]])))) : roundC 0 (evalC (cf L) (evalF (cf L) 201) (Option.getD (List.lookup 69 lives) []) 0 0 201 (loopAt Try.f69 0)) (mtT A C 0) (mtS B D fr15) = some (mo0 L A C B D) := by
  have key := fun (bs : List Bool) (r : AExit × List AVal × List AObj) (ob : List Prop) (h : roundP (cf L) (evalF (cf L) 201) (Option.getD (List.lookup 69 lives) []) 0 0 201 [(9999, 0, Hint.idx)] (loopAt Try.f69 0) (mtT A C 0) (mtS B D fr15) bs [(AExit.exit 2, mtV A C B D 0 2, mtS B D (fr14 A))] = .ok (r.1, r.2.1, r.2.2, ob)) (hp : allOb ob) => roundP_ok h hp
  unfold mo0
  exact key [true] ((AExit.normal, ((jk 10 ++ [AVal.ptr 15 0 0, bA true] ++ jk 14 ++ [AVal.agg [iA (Prod.fst A), iA (Prod.snd A), iA (Prod.fst C), iA (Prod.snd C)], iA (IntKind.i64.wrap (0 + 1))] ++ jk 21), (List.replicate 15 AObj.free ++ [AObj.box [iA (Prod.fst B), iA (Prod.snd B), iA (Prod.fst D), iA (Prod.snd D)]])))) _ (by kernel_rfl) (allOb_cons (show Plain ([AObj.box [iA (Prod.fst A), iA (Prod.snd A)]] ++ List.replicate 14 AObj.free ++ [AObj.box [iA (Prod.fst B), iA (Prod.snd B), iA (Prod.fst D), iA (Prod.snd D)]]) from by simp only [Plain, List.all_append, List.all_cons, List.all_nil, plainO, upL_flatPP, flatP_plain, Nat.zero_mul, List.drop_zero] <;> rfl) (allOb_cons (by exact e0) (allOb_cons lit_t allOb_nil)))
def mo0x (L : Lib Try.prog) (A : P2) (C : P2) (B : P2) (D : P2) : AExit × List AVal × List AObj :=
  (AExit.exit 0, ((jk 11 ++ [bA false] ++ jk 37), []))
theorem mo0x_eq (L : Lib Try.prog) (A : P2) (C : P2) (B : P2) (D : P2) (e0 : iterC 0 (evalC (cf L) (evalF (cf L) 201) ((lives.lookup 69).getD []) 0 0 201 (loopAt Try.f69 1)) 201 (jk 10 ++ [AVal.ptr 15 0 0, bA true, AVal.junk, AVal.ptr 0 0 0] ++ jk 12 ++ [AVal.agg [iA (Prod.fst A), iA (Prod.snd A), iA (Prod.fst C), iA (Prod.snd C)], iA 0, AVal.junk, AVal.junk, AVal.agg [iA (Prod.fst B), iA (Prod.snd B), iA (Prod.fst D), iA (Prod.snd D)], iA 0] ++ jk 17) ([AObj.box [iA (Prod.fst A), iA (Prod.snd A)]] ++ List.replicate 14 AObj.free ++ [AObj.box [iA (Prod.fst B), iA (Prod.snd B), iA (Prod.fst D), iA (Prod.snd D)]]) = some (AExit.exit 0, ((jk 11 ++ [bA false] ++ jk 37), []))) : roundC 0 (evalC (cf L) (evalF (cf L) 201) (Option.getD (List.lookup 69 lives) []) 0 0 201 (loopAt Try.f69 0)) (mtT A C 0) (mtS B D fr15) = some (mo0x L A C B D) := by
  have key := fun (bs : List Bool) (r : AExit × List AVal × List AObj) (ob : List Prop) (h : roundP (cf L) (evalF (cf L) 201) (Option.getD (List.lookup 69 lives) []) 0 0 201 [(9999, 0, Hint.idx)] (loopAt Try.f69 0) (mtT A C 0) (mtS B D fr15) bs [(AExit.exit 0, mtX, [])] = .ok (r.1, r.2.1, r.2.2, ob)) (hp : allOb ob) => roundP_ok h hp
  unfold mo0x
  exact key [true] ((AExit.exit 0, ((jk 11 ++ [bA false] ++ jk 37), []))) _ (by kernel_rfl) (allOb_cons (show Plain [] from by simp only [Plain, List.all_append, List.all_cons, List.all_nil, plainO, upL_flatPP, flatP_plain, Nat.zero_mul, List.drop_zero] <;> rfl) (allOb_cons (by exact e0) (allOb_cons lit_t allOb_nil)))
def mo1 (L : Lib Try.prog) (A : P2) (C : P2) (B : P2) (D : P2) : AExit × List AVal × List AObj :=
  (AExit.normal, ((jk 10 ++ [AVal.ptr 15 0 0, bA true] ++ jk 14 ++ [AVal.agg [iA (Prod.fst A), iA (Prod.snd A), iA (Prod.fst C), iA (Prod.snd C)], iA (IntKind.i64.wrap (1 + 1))] ++ jk 21), (List.replicate 15 AObj.free ++ [AObj.box [iA (Prod.fst B), iA (Prod.snd B), iA (Prod.fst D), iA (Prod.snd D)]])))
theorem mo1_eq (L : Lib Try.prog) (A : P2) (C : P2) (B : P2) (D : P2) (e0 : iterC 0 (evalC (cf L) (evalF (cf L) 201) ((lives.lookup 69).getD []) 0 0 201 (loopAt Try.f69 1)) 201 (jk 10 ++ [AVal.ptr 15 0 0, bA true, AVal.junk, AVal.ptr 0 0 0] ++ jk 12 ++ [AVal.agg [iA (Prod.fst A), iA (Prod.snd A), iA (Prod.fst C), iA (Prod.snd C)], iA 1, AVal.junk, AVal.junk, AVal.agg [iA (Prod.fst B), iA (Prod.snd B), iA (Prod.fst D), iA (Prod.snd D)], iA 0] ++ jk 17) ([AObj.box [iA (Prod.fst C), iA (Prod.snd C)]] ++ List.replicate 14 AObj.free ++ [AObj.box [iA (Prod.fst B), iA (Prod.snd B), iA (Prod.fst D), iA (Prod.snd D)]]) = some (AExit.exit 2, ((jk 10 ++ [AVal.ptr 15 0 0, bA true, AVal.junk, AVal.ptr 0 0 0] ++ jk 12 ++ [AVal.agg [iA (Prod.fst A), iA (Prod.snd A), iA (Prod.fst C), iA (Prod.snd C)], iA 1, AVal.junk, AVal.junk, AVal.agg [iA (Prod.fst B), iA (Prod.snd B), iA (Prod.fst D), iA (Prod.snd D)], iA 2, bA false] ++ jk 16), ([AObj.box [iA (Prod.fst C), iA (Prod.snd C)]] ++ List.replicate 14 AObj.free ++ [AObj.box [iA (Prod.fst B), iA (Prod.snd B), iA (Prod.fst D), iA (Prod.snd D)]])))) : roundC 0 (evalC (cf L) (evalF (cf L) 201) (Option.getD (List.lookup 69 lives) []) 0 0 201 (loopAt Try.f69 0)) (mtT A C 1) (mtS B D fr15) = some (mo1 L A C B D) := by
  have key := fun (bs : List Bool) (r : AExit × List AVal × List AObj) (ob : List Prop) (h : roundP (cf L) (evalF (cf L) 201) (Option.getD (List.lookup 69 lives) []) 0 0 201 [(9999, 0, Hint.idx)] (loopAt Try.f69 0) (mtT A C 1) (mtS B D fr15) bs [(AExit.exit 2, mtV A C B D 1 2, mtS B D (fr14 C))] = .ok (r.1, r.2.1, r.2.2, ob)) (hp : allOb ob) => roundP_ok h hp
  unfold mo1
  exact key [true] ((AExit.normal, ((jk 10 ++ [AVal.ptr 15 0 0, bA true] ++ jk 14 ++ [AVal.agg [iA (Prod.fst A), iA (Prod.snd A), iA (Prod.fst C), iA (Prod.snd C)], iA (IntKind.i64.wrap (1 + 1))] ++ jk 21), (List.replicate 15 AObj.free ++ [AObj.box [iA (Prod.fst B), iA (Prod.snd B), iA (Prod.fst D), iA (Prod.snd D)]])))) _ (by kernel_rfl) (allOb_cons (show Plain ([AObj.box [iA (Prod.fst C), iA (Prod.snd C)]] ++ List.replicate 14 AObj.free ++ [AObj.box [iA (Prod.fst B), iA (Prod.snd B), iA (Prod.fst D), iA (Prod.snd D)]]) from by simp only [Plain, List.all_append, List.all_cons, List.all_nil, plainO, upL_flatPP, flatP_plain, Nat.zero_mul, List.drop_zero] <;> rfl) (allOb_cons (by exact e0) (allOb_cons lit_t allOb_nil)))
def mo1x (L : Lib Try.prog) (A : P2) (C : P2) (B : P2) (D : P2) : AExit × List AVal × List AObj :=
  (AExit.exit 0, ((jk 11 ++ [bA false] ++ jk 37), []))
theorem mo1x_eq (L : Lib Try.prog) (A : P2) (C : P2) (B : P2) (D : P2) (e0 : iterC 0 (evalC (cf L) (evalF (cf L) 201) ((lives.lookup 69).getD []) 0 0 201 (loopAt Try.f69 1)) 201 (jk 10 ++ [AVal.ptr 15 0 0, bA true, AVal.junk, AVal.ptr 0 0 0] ++ jk 12 ++ [AVal.agg [iA (Prod.fst A), iA (Prod.snd A), iA (Prod.fst C), iA (Prod.snd C)], iA 1, AVal.junk, AVal.junk, AVal.agg [iA (Prod.fst B), iA (Prod.snd B), iA (Prod.fst D), iA (Prod.snd D)], iA 0] ++ jk 17) ([AObj.box [iA (Prod.fst C), iA (Prod.snd C)]] ++ List.replicate 14 AObj.free ++ [AObj.box [iA (Prod.fst B), iA (Prod.snd B), iA (Prod.fst D), iA (Prod.snd D)]]) = some (AExit.exit 0, ((jk 11 ++ [bA false] ++ jk 37), []))) : roundC 0 (evalC (cf L) (evalF (cf L) 201) (Option.getD (List.lookup 69 lives) []) 0 0 201 (loopAt Try.f69 0)) (mtT A C 1) (mtS B D fr15) = some (mo1x L A C B D) := by
  have key := fun (bs : List Bool) (r : AExit × List AVal × List AObj) (ob : List Prop) (h : roundP (cf L) (evalF (cf L) 201) (Option.getD (List.lookup 69 lives) []) 0 0 201 [(9999, 0, Hint.idx)] (loopAt Try.f69 0) (mtT A C 1) (mtS B D fr15) bs [(AExit.exit 0, mtX, [])] = .ok (r.1, r.2.1, r.2.2, ob)) (hp : allOb ob) => roundP_ok h hp
  unfold mo1x
  exact key [true] ((AExit.exit 0, ((jk 11 ++ [bA false] ++ jk 37), []))) _ (by kernel_rfl) (allOb_cons (show Plain [] from by simp only [Plain, List.all_append, List.all_cons, List.all_nil, plainO, upL_flatPP, flatP_plain, Nat.zero_mul, List.drop_zero] <;> rfl) (allOb_cons (by exact e0) (allOb_cons lit_t allOb_nil)))
def mo2 (L : Lib Try.prog) (A : P2) (C : P2) (B : P2) (D : P2) : AExit × List AVal × List AObj :=
  (AExit.exit 0, ((jk 10 ++ [AVal.ptr 15 0 0, bA true] ++ jk 14 ++ [AVal.agg [iA (Prod.fst A), iA (Prod.snd A), iA (Prod.fst C), iA (Prod.snd C)], iA 2, bA false] ++ jk 20), (List.replicate 15 AObj.free ++ [AObj.box [iA (Prod.fst B), iA (Prod.snd B), iA (Prod.fst D), iA (Prod.snd D)]])))
theorem mo2_eq (L : Lib Try.prog) (A : P2) (C : P2) (B : P2) (D : P2) : roundC 0 (evalC (cf L) (evalF (cf L) 201) (Option.getD (List.lookup 69 lives) []) 0 0 201 (loopAt Try.f69 0)) (mtT A C 2) (mtS B D fr15) = some (mo2 L A C B D) := by
  have key := fun (bs : List Bool) (r : AExit × List AVal × List AObj) (ob : List Prop) (h : roundP (cf L) (evalF (cf L) 201) (Option.getD (List.lookup 69 lives) []) 0 0 201 [(9999, 0, Hint.idx)] (loopAt Try.f69 0) (mtT A C 2) (mtS B D fr15) bs [] = .ok (r.1, r.2.1, r.2.2, ob)) (hp : allOb ob) => roundP_ok h hp
  unfold mo2
  exact key [false] ((AExit.exit 0, ((jk 10 ++ [AVal.ptr 15 0 0, bA true] ++ jk 14 ++ [AVal.agg [iA (Prod.fst A), iA (Prod.snd A), iA (Prod.fst C), iA (Prod.snd C)], iA 2, bA false] ++ jk 20), (List.replicate 15 AObj.free ++ [AObj.box [iA (Prod.fst B), iA (Prod.snd B), iA (Prod.fst D), iA (Prod.snd D)]])))) _ (by kernel_rfl) (allOb_cons (show Plain (List.replicate 15 AObj.free ++ [AObj.box [iA (Prod.fst B), iA (Prod.snd B), iA (Prod.fst D), iA (Prod.snd D)]]) from by simp only [Plain, List.all_append, List.all_cons, List.all_nil, plainO, upL_flatPP, flatP_plain, Nat.zero_mul, List.drop_zero] <;> rfl) (allOb_cons lit_f allOb_nil))
def mtA (L : Lib Try.prog) (a : P2) (b : P2) (c : P2) (d : P2) : PVal :=
  bP true
theorem mtA_calls (L : Lib Try.prog) (a : P2) (b : P2) (c : P2) (d : P2) (e0 : pureCall (cf L) (evalF (cf L) 201) 56 [ptP a] = some (ptP (nearP a))) (e1 : pureCall (cf L) (evalF (cf L) 201) 56 [ptP c] = some (ptP (nearP c))) (e2 : pureCall (cf L) (evalF (cf L) 201) 56 [ptP b] = some (ptP (nearP b))) (e3 : pureCall (cf L) (evalF (cf L) 201) 56 [ptP d] = some (ptP (nearP d))) (e4 : iterC 0 (evalC (cf L) (evalF (cf L) 201) ((lives.lookup 69).getD []) 0 0 201 (loopAt Try.f69 0)) 201 (jk 10 ++ [AVal.ptr 15 0 0, bA true] ++ jk 14 ++ [AVal.agg [iA (Prod.fst (nearP a)), iA (Prod.snd (nearP a)), iA (Prod.fst (nearP c)), iA (Prod.snd (nearP c))], iA 0] ++ jk 21) ([AObj.box [iA (Prod.fst a), iA (Prod.snd a)], AObj.box [iA (Prod.fst b), iA (Prod.snd b)], AObj.box [iA (Prod.fst c), iA (Prod.snd c)], AObj.box [iA (Prod.fst d), iA (Prod.snd d)]] ++ List.replicate 10 AObj.free ++ [AObj.box [iA (Prod.fst (nearP a)), iA (Prod.snd (nearP a)), iA (Prod.fst (nearP c)), iA (Prod.snd (nearP c))], AObj.box [iA (Prod.fst (nearP b)), iA (Prod.snd (nearP b)), iA (Prod.fst (nearP d)), iA (Prod.snd (nearP d))], AObj.free, AObj.free]) = some (AExit.exit 0, ((jk 10 ++ [AVal.ptr 15 0 0, bA true] ++ jk 14 ++ [AVal.agg [iA (Prod.fst (nearP a)), iA (Prod.snd (nearP a)), iA (Prod.fst (nearP c)), iA (Prod.snd (nearP c))], iA 2, bA false] ++ jk 20), (List.replicate 15 AObj.free ++ [AObj.box [iA (Prod.fst (nearP b)), iA (Prod.snd (nearP b)), iA (Prod.fst (nearP d)), iA (Prod.snd (nearP d))]])))) : CallsP Try.prog 69 [ptP a, ptP b, ptP c, ptP d] (mtA L a b c d) := by
  have key := fun (bs : List Bool) (r : PVal) (ob : List Prop) (h : callP (cf L) (evalF (cf L) 201) 201 [(9999, 0, Hint.idx), (1, 1, Hint.pcall (ptP (nearP a))), (1, 3, Hint.pcall (ptP (nearP c))), (1, 6, Hint.pcall (ptP (nearP b))), (1, 8, Hint.pcall (ptP (nearP d)))] 69 [ptP a, ptP b, ptP c, ptP d] bs [(AExit.exit 0, mtE (nearP a) (nearP c) 2, mtS (nearP b) (nearP d) fr15)] (none) = .ok (r, ob)) (hp : allOb ob) => callP_ok (cf_ok L) h hp
  unfold mtA
  exact key [] (bP true) _ (by kernel_rfl) (allOb_cons (by exact e4) (allOb_cons (by exact e3) (allOb_cons (by exact e2) (allOb_cons (by exact e1) (allOb_cons (by exact e0) allOb_nil)))))
def mtB (L : Lib Try.prog) (a : P2) (b : P2) (c : P2) (d : P2) : PVal :=
  bP false
theorem mtB_calls (L : Lib Try.prog) (a : P2) (b : P2) (c : P2) (d : P2) (e0 : pureCall (cf L) (evalF (cf L) 201) 56 [ptP a] = some (ptP (nearP a))) (e1 : pureCall (cf L) (evalF (cf L) 201) 56 [ptP c] = some (ptP (nearP c))) (e2 : pureCall (cf L) (evalF (cf L) 201) 56 [ptP b] = some (ptP (nearP b))) (e3 : pureCall (cf L) (evalF (cf L) 201) 56 [ptP d] = some (ptP (nearP d))) (e4 : iterC 0 (evalC (cf L) (evalF (cf L) 201) ((lives.lookup 69).getD []) 0 0 201 (loopAt Try.f69 0)) 201 (jk 10 ++ [AVal.ptr 15 0 0, bA true] ++ jk 14 ++ [AVal.agg [iA (Prod.fst (nearP a)), iA (Prod.snd (nearP a)), iA (Prod.fst (nearP c)), iA (Prod.snd (nearP c))], iA 0] ++ jk 21) ([AObj.box [iA (Prod.fst a), iA (Prod.snd a)], AObj.box [iA (Prod.fst b), iA (Prod.snd b)], AObj.box [iA (Prod.fst c), iA (Prod.snd c)], AObj.box [iA (Prod.fst d), iA (Prod.snd d)]] ++ List.replicate 10 AObj.free ++ [AObj.box [iA (Prod.fst (nearP a)), iA (Prod.snd (nearP a)), iA (Prod.fst (nearP c)), iA (Prod.snd (nearP c))], AObj.box [iA (Prod.fst (nearP b)), iA (Prod.snd (nearP b)), iA (Prod.fst (nearP d)), iA (Prod.snd (nearP d))], AObj.free, AObj.free]) = some (AExit.exit 0, ((jk 11 ++ [bA false] ++ jk 37), []))) : CallsP Try.prog 69 [ptP a, ptP b, ptP c, ptP d] (mtB L a b c d) := by
  have key := fun (bs : List Bool) (r : PVal) (ob : List Prop) (h : callP (cf L) (evalF (cf L) 201) 201 [(9999, 0, Hint.idx), (1, 1, Hint.pcall (ptP (nearP a))), (1, 3, Hint.pcall (ptP (nearP c))), (1, 6, Hint.pcall (ptP (nearP b))), (1, 8, Hint.pcall (ptP (nearP d)))] 69 [ptP a, ptP b, ptP c, ptP d] bs [(AExit.exit 0, mtX, [])] (none) = .ok (r, ob)) (hp : allOb ob) => callP_ok (cf_ok L) h hp
  unfold mtB
  exact key [] (bP false) _ (by kernel_rfl) (allOb_cons (by exact e4) (allOb_cons (by exact e3) (allOb_cons (by exact e2) (allOb_cons (by exact e1) (allOb_cons (by exact e0) allOb_nil)))))
def shA (L : Lib Try.prog) (a : P2) (b : P2) (c : P2) (d : P2) (v : Int) : PVal :=
  (bif v != 1 then PVal.tup [PVal.agg [iP 0, iP 0], bP false] else (bif eqB (nearP a) (nearP c) then PVal.tup [ptP (nearP a), bP true] else (bif eqB (nearP a) (nearP d) then PVal.tup [ptP (nearP a), bP true] else PVal.tup [ptP (nearP b), bP true])))
theorem shA_calls (L : Lib Try.prog) (a : P2) (b : P2) (c : P2) (d : P2) (v : Int) (e0 : pureCall (cf L) (evalF (cf L) 201) 18 [ptP a, ptP b, ptP c, ptP d] = some (iP v)) (e1 : (v != 1) = false → pureCall (cf L) (evalF (cf L) 201) 56 [ptP a] = some (ptP (nearP a))) (e2 : (v != 1) = false → pureCall (cf L) (evalF (cf L) 201) 56 [ptP b] = some (ptP (nearP b))) (e3 : (v != 1) = false → pureCall (cf L) (evalF (cf L) 201) 56 [ptP c] = some (ptP (nearP c))) (e4 : (v != 1) = false → (eqB (nearP a) (nearP c)) = false → pureCall (cf L) (evalF (cf L) 201) 56 [ptP d] = some (ptP (nearP d))) : CallsP Try.prog 70 [ptP a, ptP b, ptP c, ptP d] (shA L a b c d v) := by
  have key := fun (bs : List Bool) (r : PVal) (ob : List Prop) (h : callP (cf L) (evalF (cf L) 201) 201 [(9999, 0, Hint.idx), (1, 4, Hint.pcall (iP v)), (3, 1, Hint.pcall (ptP (nearP a))), (3, 3, Hint.pcall (ptP (nearP b))), (4, 2, Hint.pcall (ptP (nearP c))), (4, 7, Hint.pcall (ptP (nearP d)))] 70 [ptP a, ptP b, ptP c, ptP d] bs [] (none) = .ok (r, ob)) (hp : allOb ob) => callP_ok (cf_ok L) h hp
  unfold shA
  exact bif_case (P := fun r => CallsP Try.prog 70 [ptP a, ptP b, ptP c, ptP d] r)
    (fun h0 => key [true] (PVal.tup [PVal.agg [iP 0, iP 0], bP false]) _ (by kernel_rfl) (allOb_cons h0 (allOb_cons (by exact e0) allOb_nil)))
    (fun h0 => bif_case (P := fun r => CallsP Try.prog 70 [ptP a, ptP b, ptP c, ptP d] r)
     (fun h1 => key [false, true, true] (PVal.tup [ptP (nearP a), bP true]) _ (by kernel_rfl) (allOb_cons lit_t (allOb_cons h1 (allOb_cons (by exact (e3 h0)) (allOb_cons (by exact (e2 h0)) (allOb_cons (by exact (e1 h0)) (allOb_cons h0 (allOb_cons (by exact e0) allOb_nil))))))))
     (fun h1 => bif_case (P := fun r => CallsP Try.prog 70 [ptP a, ptP b, ptP c, ptP d] r)
      (fun h2 => key [false, false, true] (PVal.tup [ptP (nearP a), bP true]) _ (by kernel_rfl) (allOb_cons h2 (allOb_cons (by exact (e4 h0 h1)) (allOb_cons h1 (allOb_cons (by exact (e3 h0)) (allOb_cons (by exact (e2 h0)) (allOb_cons (by exact (e1 h0)) (allOb_cons h0 (allOb_cons (by exact e0) allOb_nil)))))))))
      (fun h2 => key [false, false, false] (PVal.tup [ptP (nearP b), bP true]) _ (by kernel_rfl) (allOb_cons h2 (allOb_cons (by exact (e4 h0 h1)) (allOb_cons h1 (allOb_cons (by exact (e3 h0)) (allOb_cons (by exact (e2 h0)) (allOb_cons (by exact (e1 h0)) (allOb_cons h0 (allOb_cons (by exact e0) allOb_nil)))))))))))
def shB (L : Lib Try.prog) (a : P2) (b : P2) (c : P2) (d : P2) (v : Int) : PVal :=
  (bif v != 1 then PVal.tup [PVal.agg [iP 0, iP 0], bP false] else (bif eqB (nearP a) (nearP c) then PVal.tup [ptP (nearP a), bP true] else (bif eqB (nearP a) (nearP d) then PVal.tup [ptP (nearP a), bP true] else PVal.tup [ptP (nearP b), bP true])))
theorem shB_calls (L : Lib Try.prog) (a : P2) (b : P2) (c : P2) (d : P2) (v : Int) (e0 : pureCall (cf L) (evalF (cf L) 201) 64 [ptP a, ptP b, ptP c, ptP d] = some (iP v)) (e1 : (v != 1) = false → pureCall (cf L) (evalF (cf L) 201) 50 [ptP a] = some (ptP (nearP a))) (e2 : (v != 1) = false → pureCall (cf L) (evalF (cf L) 201) 50 [ptP b] = some (ptP (nearP b))) (e3 : (v != 1) = false → pureCall (cf L) (evalF (cf L) 201) 50 [ptP c] = some (ptP (nearP c))) (e4 : (v != 1) = false → pureCall (cf L) (evalF (cf L) 201) 50 [ptP d] = some (ptP (nearP d))) : CallsP Try.prog 72 [ptP a, ptP b, ptP c, ptP d] (shB L a b c d v) := by
  have key := fun (bs : List Bool) (r : PVal) (ob : List Prop) (h : callP (cf L) (evalF (cf L) 201) 201 [(9999, 0, Hint.idx), (1, 4, Hint.pcall (iP v)), (3, 1, Hint.pcall (ptP (nearP a))), (3, 3, Hint.pcall (ptP (nearP b))), (3, 5, Hint.pcall (ptP (nearP c))), (3, 7, Hint.pcall (ptP (nearP d)))] 72 [ptP a, ptP b, ptP c, ptP d] bs [] (none) = .ok (r, ob)) (hp : allOb ob) => callP_ok (cf_ok L) h hp
  unfold shB
  exact bif_case (P := fun r => CallsP Try.prog 72 [ptP a, ptP b, ptP c, ptP d] r)
    (fun h0 => key [true] (PVal.tup [PVal.agg [iP 0, iP 0], bP false]) _ (by kernel_rfl) (allOb_cons h0 (allOb_cons (by exact e0) allOb_nil)))
    (fun h0 => bif_case (P := fun r => CallsP Try.prog 72 [ptP a, ptP b, ptP c, ptP d] r)
     (fun h1 => key [false, true, true] (PVal.tup [ptP (nearP a), bP true]) _ (by kernel_rfl) (allOb_cons lit_t (allOb_cons h1 (allOb_cons (by exact (e4 h0)) (allOb_cons (by exact (e3 h0)) (allOb_cons (by exact (e2 h0)) (allOb_cons (by exact (e1 h0)) (allOb_cons h0 (allOb_cons (by exact e0) allOb_nil)))))))))
     (fun h1 => bif_case (P := fun r => CallsP Try.prog 72 [ptP a, ptP b, ptP c, ptP d] r)
      (fun h2 => key [false, false, true] (PVal.tup [ptP (nearP a), bP true]) _ (by kernel_rfl) (allOb_cons h2 (allOb_cons h1 (allOb_cons (by exact (e4 h0)) (allOb_cons (by exact (e3 h0)) (allOb_cons (by exact (e2 h0)) (allOb_cons (by exact (e1 h0)) (allOb_cons h0 (allOb_cons (by exact e0) allOb_nil)))))))))
      (fun h2 => key [false, false, false] (PVal.tup [ptP (nearP b), bP true]) _ (by kernel_rfl) (allOb_cons h2 (allOb_cons h1 (allOb_cons (by exact (e4 h0)) (allOb_cons (by exact (e3 h0)) (allOb_cons (by exact (e2 h0)) (allOb_cons (by exact (e1 h0)) (allOb_cons h0 (allOb_cons (by exact e0) allOb_nil)))))))))))
def enA (L : Lib Try.prog) (ps : List P2) (p : P2) : PVal :=
  (bif eqB p (pAt ps 0) then bP true else bP (eqB p (pAt ps (Int.toNat (IntKind.i64.wrap ((↑(List.length ps) : Int) - 1))))))
theorem enA_calls (L : Lib Try.prog) (ps : List P2) (p : P2) (b0 : (0 : Int) ≤ 0 ∧ (0 : Int) < (↑(List.length ps) : Int)) (b1 : (eqB p (pAt ps 0)) = false → (0 : Int) ≤ IntKind.i64.wrap ((↑(List.length ps) : Int) - 1) ∧ (IntKind.i64.wrap ((↑(List.length ps) : Int) - 1) : Int) < (↑(List.length ps) : Int)) : CallsP Try.prog 71 [slP ps, ptP p] (enA L ps p) := by
  have key := fun (bs : List Bool) (r : PVal) (ob : List Prop) (h : callP (cf L) (evalF (cf L) 201) 201 [(9999, 0, Hint.idx)] 71 [slP ps, ptP p] bs [] (none) = .ok (r, ob)) (hp : allOb ob) => callP_ok (cf_ok L) h hp
  unfold enA
  exact bif_case (P := fun r => CallsP Try.prog 71 [slP ps, ptP p] r)
    (fun h0 => key [true] (bP true) _ (by kernel_rfl) (allOb_cons h0 (allOb_cons (part_pt b0) (allOb_cons (idx_ok b0) allOb_nil))))
    (fun h0 => key [false] (bP (eqB p (pAt ps (Int.toNat (IntKind.i64.wrap ((↑(List.length ps) : Int) - 1)))))) _ (by kernel_rfl) (allOb_cons (part_pt (b1 h0)) (allOb_cons (idx_ok (b1 h0)) (allOb_cons h0 (allOb_cons (part_pt b0) (allOb_cons (idx_ok b0) allOb_nil))))))
def enB (L : Lib Try.prog) (ps : List P2) (p : P2) : PVal :=
  (bif eqB (pAt ps 0) p then bP true else bP (eqB (pAt ps (Int.toNat (IntKind.i64.wrap ((↑(List.length ps) : Int) - 1)))) p))
theorem enB_calls (L : Lib Try.prog) (ps : List P2) (p : P2) (b0 : (0 : Int) ≤ 0 ∧ (0 : Int) < (↑(List.length ps) : Int)) (b1 : (eqB (pAt ps 0) p) = false → (0 : Int) ≤ IntKind.i64.wrap ((↑(List.length ps) : Int) - 1) ∧ (IntKind.i64.wrap ((↑(List.length ps) : Int) - 1) : Int) < (↑(List.length ps) : Int)) : CallsP Try.prog 73 [slP ps, ptP p] (enB L ps p) := by
  have key := fun (bs : List Bool) (r : PVal) (ob : List Prop) (h : callP (cf L) (evalF (cf L) 201) 201 [(9999, 0, Hint.idx)] 73 [slP ps, ptP p] bs [] (none) = .ok (r, ob)) (hp : allOb ob) => callP_ok (cf_ok L) h hp
  unfold enB
  exact bif_case (P := fun r => CallsP Try.prog 73 [slP ps, ptP p] r)
    (fun h0 => key [true] (bP true) _ (by kernel_rfl) (allOb_cons h0 (allOb_cons (part_pt b0) (allOb_cons (idx_ok b0) allOb_nil))))
    (fun h0 => key [false] (bP (eqB (pAt ps (Int.toNat (IntKind.i64.wrap ((↑(List.length ps) : Int) - 1)))) p)) _ (by kernel_rfl) (allOb_cons (part_pt (b1 h0)) (allOb_cons (idx_ok (b1 h0)) (allOb_cons h0 (allOb_cons (part_pt b0) (allOb_cons (idx_ok b0) allOb_nil))))))
def ap2 (L : Lib Try.prog) (a : List P2) (b : List P2) (i : Int) (k : Int) (v : Int) (s : P2) (ea : Bool) (eb : Bool) (o : Bool) : AExit × List AVal × List AObj :=
  (bif decide (IntKind.i64.wrap (k + 1) < (↑(List.length b) : Int)) then (bif v == 0 then (AExit.normal, (([slA a, slA b] ++ jk 9 ++ [bA true, iA i, iA (IntKind.i64.wrap (k + 1))] ++ jk 96), [])) else (bif v == 1 then (bif ea then (bif eb then (AExit.normal, (([slA a, slA b] ++ jk 9 ++ [bA true, iA i, iA (IntKind.i64.wrap (k + 1))] ++ jk 96), [])) else (AExit.exit 0, ((jk 11 ++ [bA false] ++ jk 98), []))) else (AExit.exit 0, ((jk 11 ++ [bA false] ++ jk 98), []))) else (AExit.exit 0, ((jk 11 ++ [bA false] ++ jk 98), [])))) else (AExit.exit 2, (([slA a, slA b] ++ jk 9 ++ [bA true, iA i, iA k] ++ jk 39 ++ [bA false] ++ jk 56), [])))
theorem ap2_eq (L : Lib Try.prog) (a : List P2) (b : List P2) (i : Int) (k : Int) (v : Int) (s : P2) (ea : Bool) (eb : Bool) (o : Bool) (b0 : (decide (IntKind.i64.wrap (k + 1) < (↑(List.length b) : Int))) = true → (0 : Int) ≤ i ∧ (i : Int) < (↑(List.length a) : Int)) (b1 : (decide (IntKind.i64.wrap (k + 1) < (↑(List.length b) : Int))) = true → (0 : Int) ≤ IntKind.i64.wrap (i + 1) ∧ (IntKind.i64.wrap (i + 1) : Int) < (↑(List.length a) : Int)) (b2 : (decide (IntKind.i64.wrap (k + 1) < (↑(List.length b) : Int))) = true → (0 : Int) ≤ k ∧ (k : Int) < (↑(List.length b) : Int)) (b3 : (decide (IntKind.i64.wrap (k + 1) < (↑(List.length b) : Int))) = true → (0 : Int) ≤ IntKind.i64.wrap (k + 1) ∧ (IntKind.i64.wrap (k + 1) : Int) < (↑(List.length b) : Int)) (e0 : (decide (IntKind.i64.wrap (k + 1) < (↑(List.length b) : Int))) = true → pureCall (cf L) (evalF (cf L) 201) 18 [ptP (pAt a (Int.toNat i)), ptP (pAt a (Int.toNat (IntKind.i64.wrap (i + 1)))), ptP (pAt b (Int.toNat k)), ptP (pAt b (Int.toNat (IntKind.i64.wrap (k + 1))))] = some (iP v)) (e1 : (decide (IntKind.i64.wrap (k + 1) < (↑(List.length b) : Int))) = true → (v == 0) = false → (v == 1) = true → pureCall (cf L) (evalF (cf L) 201) 70 [ptP (pAt a (Int.toNat i)), ptP (pAt a (Int.toNat (IntKind.i64.wrap (i + 1)))), ptP (pAt b (Int.toNat k)), ptP (pAt b (Int.toNat (IntKind.i64.wrap (k + 1))))] = some (PVal.tup [ptP s, bP o])) (e2 : (decide (IntKind.i64.wrap (k + 1) < (↑(List.length b) : Int))) = true → (v == 0) = false → (v == 1) = true → pureCall (cf L) (evalF (cf L) 201) 71 [slP a, ptP s] = some (bP ea)) (e3 : (decide (IntKind.i64.wrap (k + 1) < (↑(List.length b) : Int))) = true → (v == 0) = false → (v == 1) = true → (ea) = true → pureCall (cf L) (evalF (cf L) 201) 71 [slP b, ptP s] = some (bP eb)) : roundC 0 (evalC (cf L) (evalF (cf L) 201) (Option.getD (List.lookup 45 lives) []) 0 0 201 (loopAt Try.f45 1)) (apU a b i k) ([]) = some (ap2 L a b i k v s ea eb o) := by
  have key := fun (bs : List Bool) (r : AExit × List AVal × List AObj) (ob : List Prop) (h : roundP (cf L) (evalF (cf L) 201) (Option.getD (List.lookup 45 lives) []) 0 0 201 [(9999, 0, Hint.idx), (12, 18, Hint.pcall (iP v)), (15, 18, Hint.pcall (PVal.tup [ptP s, bP o])), (16, 2, Hint.pcall (bP ea)), (16, 6, Hint.pcall (bP eb))] (loopAt Try.f45 1) (apU a b i k) ([]) bs [] = .ok (r.1, r.2.1, r.2.2, ob)) (hp : allOb ob) => roundP_ok h hp
  unfold ap2
  exact bif_case (P := fun r => roundC 0 (evalC (cf L) (evalF (cf L) 201) (Option.getD (List.lookup 45 lives) []) 0 0 201 (loopAt Try.f45 1)) (apU a b i k) ([]) = some r)
    (fun h0 => bif_case (P := fun r => roundC 0 (evalC (cf L) (evalF (cf L) 201) (Option.getD (List.lookup 45 lives) []) 0 0 201 (loopAt Try.f45 1)) (apU a b i k) ([]) = some r)
     (fun h1 => key [true, true] ((AExit.normal, (([slA a, slA b] ++ jk 9 ++ [bA true, iA i, iA (IntKind.i64.wrap (k + 1))] ++ jk 96), []))) _ (by kernel_rfl) (allOb_cons (show Plain (List.replicate 19 AObj.free) from by simp only [Plain, List.all_append, List.all_cons, List.all_nil, plainO, upL_flatPP, flatP_plain, Nat.zero_mul, List.drop_zero] <;> rfl) (allOb_cons h1 (allOb_cons (by exact (e0 h0)) (allOb_cons (part_pt (b3 h0)) (allOb_cons (idx_ok (b3 h0)) (allOb_cons (part_pt (b2 h0)) (allOb_cons (idx_ok (b2 h0)) (allOb_cons (part_pt (b1 h0)) (allOb_cons (idx_ok (b1 h0)) (allOb_cons (part_pt (b0 h0)) (allOb_cons (idx_ok (b0 h0)) (allOb_cons h0 allOb_nil)))))))))))))
     (fun h1 => bif_case (P := fun r => roundC 0 (evalC (cf L) (evalF (cf L) 201) (Option.getD (List.lookup 45 lives) []) 0 0 201 (loopAt Try.f45 1)) (apU a b i k) ([]) = some r)
      (fun h2 => bif_case (P := fun r => roundC 0 (evalC (cf L) (evalF (cf L) 201) (Option.getD (List.lookup 45 lives) []) 0 0 201 (loopAt Try.f45 1)) (apU a b i k) ([]) = some r)
       (fun h3 => bif_case (P := fun r => roundC 0 (evalC (cf L) (evalF (cf L) 201) (Option.getD (List.lookup 45 lives) []) 0 0 201 (loopAt Try.f45 1)) (apU a b i k) ([]) = some r)
        (fun h4 => key [true, false, true, true, true] ((AExit.normal, (([slA a, slA b] ++ jk 9 ++ [bA true, iA i, iA (IntKind.i64.wrap (k + 1))] ++ jk 96), []))) _ (by kernel_rfl) (allOb_cons (show Plain (List.replicate 41 AObj.free ++ [AObj.box [iA (Prod.fst s), iA (Prod.snd s)], AObj.free, AObj.free]) from by simp only [Plain, List.all_append, List.all_cons, List.all_nil, plainO, upL_flatPP, flatP_plain, Nat.zero_mul, List.drop_zero] <;> rfl) (allOb_cons h4 (allOb_cons (by exact (e3 h0 h1 h2 h3)) (allOb_cons h3 (allOb_cons (by exact (e2 h0 h1 h2)) (allOb_cons (by exact (e1 h0 h1 h2)) (allOb_cons (part_pt (b3 h0)) (allOb_cons (idx_ok (b3 h0)) (allOb_cons (part_pt (b2 h0)) (allOb_cons (idx_ok (b2 h0)) (allOb_cons (part_pt (b1 h0)) (allOb_cons (idx_ok (b1 h0)) (allOb_cons (part_pt (b0 h0)) (allOb_cons (idx_ok (b0 h0)) (allOb_cons h2 (allOb_cons h1 (allOb_cons (by exact (e0 h0)) (allOb_cons (part_pt (b3 h0)) (allOb_cons (idx_ok (b3 h0)) (allOb_cons (part_pt (b2 h0)) (allOb_cons (idx_ok (b2 h0)) (allOb_cons (part_pt (b1 h0)) (allOb_cons (idx_ok (b1 h0)) (allOb_cons (part_pt (b0 h0)) (allOb_cons (idx_ok (b0 h0)) (allOb_cons h0 allOb_nil)))))))))))))))))))))))))))
        (fun h4 => key [true, false, true, true, false] ((AExit.exit 0, ((jk 11 ++ [bA false] ++ jk 98), []))) _ (by kernel_rfl) (allOb_cons (show Plain (List.replicate 41 AObj.free ++ [AObj.box [iA (Prod.fst s), iA (Prod.snd s)], AObj.free, AObj.free]) from by simp only [Plain, List.all_append, List.all_cons, List.all_nil, plainO, upL_flatPP, flatP_plain, Nat.zero_mul, List.drop_zero] <;> rfl) (allOb_cons h4 (allOb_cons (by exact (e3 h0 h1 h2 h3)) (allOb_cons h3 (allOb_cons (by exact (e2 h0 h1 h2)) (allOb_cons (by exact (e1 h0 h1 h2)) (allOb_cons (part_pt (b3 h0)) (allOb_cons (idx_ok (b3 h0)) (allOb_cons (part_pt (b2 h0)) (allOb_cons (idx_ok (b2 h0)) (allOb_cons (part_pt (b1 h0)) (allOb_cons (idx_ok (b1 h0)) (allOb_cons (part_pt (b0 h0)) (allOb_cons (idx_ok (b0 h0)) (allOb_cons h2 (allOb_cons h1 (allOb_cons (by exact (e0 h0)) (allOb_cons (part_pt (b3 h0)) (allOb_cons (idx_ok (b3 h0)) (allOb_cons (part_pt (b2 h0)) (allOb_cons (idx_ok (b2 h0)) (allOb_cons (part_pt (b1 h0)) (allOb_cons (idx_ok (b1 h0)) (allOb_cons (part_pt (b0 h0)) (allOb_cons (idx_ok (b0 h0)) (allOb_cons h0 allOb_nil))))))))))))))))))))))))))))
       (fun h3 => key [true, false, true, false, false] ((AExit.exit 0, ((jk 11 ++ [bA false] ++ jk 98), []))) _ (by kernel_rfl) (allOb_cons (show Plain (List.replicate 41 AObj.free ++ [AObj.box [iA (Prod.fst s), iA (Prod.snd s)], AObj.free, AObj.free]) from by simp only [Plain, List.all_append, List.all_cons, List.all_nil, plainO, upL_flatPP, flatP_plain, Nat.zero_mul, List.drop_zero] <;> rfl) (allOb_cons lit_f (allOb_cons h3 (allOb_cons (by exact (e2 h0 h1 h2)) (allOb_cons (by exact (e1 h0 h1 h2)) (allOb_cons (part_pt (b3 h0)) (allOb_cons (idx_ok (b3 h0)) (allOb_cons (part_pt (b2 h0)) (allOb_cons (idx_ok (b2 h0)) (allOb_cons (part_pt (b1 h0)) (allOb_cons (idx_ok (b1 h0)) (allOb_cons (part_pt (b0 h0)) (allOb_cons (idx_ok (b0 h0)) (allOb_cons h2 (allOb_cons h1 (allOb_cons (by exact (e0 h0)) (allOb_cons (part_pt (b3 h0)) (allOb_cons (idx_ok (b3 h0)) (allOb_cons (part_pt (b2 h0)) (allOb_cons (idx_ok (b2 h0)) (allOb_cons (part_pt (b1 h0)) (allOb_cons (idx_ok (b1 h0)) (allOb_cons (part_pt (b0 h0)) (allOb_cons (idx_ok (b0 h0)) (allOb_cons h0 allOb_nil)))))))))))))))))))))))))))
      (fun h2 => key [true, false, false] ((AExit.exit 0, ((jk 11 ++ [bA false] ++ jk 98), []))) _ (by kernel_rfl) (allOb_cons (show Plain (List.replicate 19 AObj.free) from by simp only [Plain, List.all_append, List.all_cons, List.all_nil, plainO, upL_flatPP, flatP_plain, Nat.zero_mul, List.drop_zero] <;> rfl) (allOb_cons h2 (allOb_cons h1 (allOb_cons (by exact (e0 h0)) (allOb_cons (part_pt (b3 h0)) (allOb_cons (idx_ok (b3 h0)) (allOb_cons (part_pt (b2 h0)) (allOb_cons (idx_ok (b2 h0)) (allOb_cons (part_pt (b1 h0)) (allOb_cons (idx_ok (b1 h0)) (allOb_cons (part_pt (b0 h0)) (allOb_cons (idx_ok (b0 h0)) (allOb_cons h0 allOb_nil))))))))))))))))
    (fun h0 => key [false] ((AExit.exit 2, (([slA a, slA b] ++ jk 9 ++ [bA true, iA i, iA k] ++ jk 39 ++ [bA false] ++ jk 56), []))) _ (by kernel_rfl) (allOb_cons (show Plain [] from by simp only [Plain, List.all_append, List.all_cons, List.all_nil, plainO, upL_flatPP, flatP_plain, Nat.zero_mul, List.drop_zero] <;> rfl) (allOb_cons h0 allOb_nil)))
def ap1 (L : Lib Try.prog) (a : List P2) (b : List P2) (i : Int) (k : Int) : AExit × List AVal × List AObj :=
  (bif decide (IntKind.i64.wrap (i + 1) < (↑(List.length a) : Int)) then (AExit.normal, (([slA a, slA b] ++ jk 9 ++ [bA true, iA (IntKind.i64.wrap (i + 1))] ++ jk 97), [])) else (AExit.exit 0, (([slA a, slA b] ++ jk 9 ++ [bA true, iA i] ++ jk 33 ++ [bA false] ++ jk 63), [])))
theorem ap1_eq (L : Lib Try.prog) (a : List P2) (b : List P2) (i : Int) (k : Int) (e0 : (decide (IntKind.i64.wrap (i + 1) < (↑(List.length a) : Int))) = true → iterC 0 (evalC (cf L) (evalF (cf L) 201) ((lives.lookup 45).getD []) 0 0 201 (loopAt Try.f45 1)) 201 ([AVal.list (List.length a) (flatPP a), AVal.list (List.length b) (flatPP b)] ++ jk 9 ++ [bA true, iA i, iA 0] ++ jk 96) [] = some (AExit.exit 2, (([AVal.list (List.length a) (flatPP a), AVal.list (List.length b) (flatPP b)] ++ jk 9 ++ [bA true, iA i, iA k] ++ jk 39 ++ [bA false] ++ jk 56), []))) : roundC 0 (evalC (cf L) (evalF (cf L) 201) (Option.getD (List.lookup 45 lives) []) 0 0 201 (loopAt Try.f45 0)) (apT a b i) ([]) = some (ap1 L a b i k) := by
  have key := fun (bs : List Bool) (r : AExit × List AVal × List AObj) (ob : List Prop) (h : roundP (cf L) (evalF (cf L) 201) (Option.getD (List.lookup 45 lives) []) 0 0 201 [(9999, 0, Hint.idx)] (loopAt Try.f45 0) (apT a b i) ([]) bs [(AExit.exit 2, apV a b i k, [])] = .ok (r.1, r.2.1, r.2.2, ob)) (hp : allOb ob) => roundP_ok h hp
  unfold ap1
  exact bif_case (P := fun r => roundC 0 (evalC (cf L) (evalF (cf L) 201) (Option.getD (List.lookup 45 lives) []) 0 0 201 (loopAt Try.f45 0)) (apT a b i) ([]) = some r)
    (fun h0 => key [true] ((AExit.normal, (([slA a, slA b] ++ jk 9 ++ [bA true, iA (IntKind.i64.wrap (i + 1))] ++ jk 97), []))) _ (by kernel_rfl) (allOb_cons (show Plain [] from by simp only [Plain, List.all_append, List.all_cons, List.all_nil, plainO, upL_flatPP, flatP_plain, Nat.zero_mul, List.drop_zero] <;> rfl) (allOb_cons (by exact (e0 h0)) (allOb_cons h0 allOb_nil))))
    (fun h0 => key [false] ((AExit.exit 0, (([slA a, slA b] ++ jk 9 ++ [bA true, iA i] ++ jk 33 ++ [bA false] ++ jk 63), []))) _ (by kernel_rfl) (allOb_cons (show Plain [] from by simp only [Plain, List.all_append, List.all_cons, List.all_nil, plainO, upL_flatPP, flatP_plain, Nat.zero_mul, List.drop_zero] <;> rfl) (allOb_cons h0 allOb_nil)))
def ap1x (L : Lib Try.prog) (a : List P2) (b : List P2) (i : Int) : AExit × List AVal × List AObj :=
  (bif decide (IntKind.i64.wrap (i + 1) < (↑(List.length a) : Int)) then (AExit.exit 0, ((jk 11 ++ [bA false] ++ jk 98), [])) else (AExit.exit 0, (([slA a, slA b] ++ jk 9 ++ [bA true, iA i] ++ jk 33 ++ [bA false] ++ jk 63), [])))
theorem ap1x_eq (L : Lib Try.prog) (a : List P2) (b : List P2) (i : Int) (e0 : (decide (IntKind.i64.wrap (i + 1) < (↑(List.length a) : Int))) = true → iterC 0 (evalC (cf L) (evalF (cf L) 201) ((lives.lookup 45).getD []) 0 0 201 (loopAt Try.f45 1)) 201 ([AVal.list (List.length a) (flatPP a), AVal.list (List.length b) (flatPP b)] ++ jk 9 ++ [bA true, iA i, iA 0] ++ jk 96) [] = some (AExit.exit 0, ((jk 11 ++ [bA false] ++ jk 98), []))) : roundC 0 (evalC (cf L) (evalF (cf L) 201) (Option.getD (List.lookup 45 lives) []) 0 0 201 (loopAt Try.f45 0)) (apT a b i) ([]) = some (ap1x L a b i) := by
  have key := fun (bs : List Bool) (r : AExit × List AVal × List AObj) (ob : List Prop) (h : roundP (cf L) (evalF (cf L) 201) (Option.getD (List.lookup 45 lives) []) 0 0 201 [(9999, 0, Hint.idx)] (loopAt Try.f45 0) (apT a b i) ([]) bs [(AExit.exit 0, apX, [])] = .ok (r.1, r.2.1, r.2.2, ob)) (hp : allOb ob) => roundP_ok h hp
  unfold ap1x
  exact bif_case (P := fun r => roundC 0 (evalC (cf L) (evalF (cf L) 201) (Option.getD (List.lookup 45 lives) []) 0 0 201 (loopAt Try.f45 0)) (apT a b i) ([]) = some r)
    (fun h0 => key [true] ((AExit.exit 0, ((jk 11 ++ [bA false] ++ jk 98), []))) _ (by kernel_rfl) (allOb_cons (show Plain [] from by simp only [Plain, List.all_append, List.all_cons, List.all_nil, plainO, upL_flatPP, flatP_plain, Nat.zero_mul, List.drop_zero] <;> rfl) (allOb_cons (by exact (e0 h0)) (allOb_cons h0 allOb_nil))))
    (fun h0 => key [false] ((AExit.exit 0, (([slA a, slA b] ++ jk 9 ++ [bA true, iA i] ++ jk 33 ++ [bA false] ++ jk 63), []))) _ (by kernel_rfl) (allOb_cons (show Plain [] from by simp only [Plain, List.all_append, List.all_cons, List.all_nil, plainO, upL_flatPP, flatP_plain, Nat.zero_mul, List.drop_zero] <;> rfl) (allOb_cons h0 allOb_nil)))
def apA (L : Lib Try.prog) (a : List P2) (b : List P2) (la : P2) (ha : P2) (lb : P2) (hb : P2) (m : Bool) : PVal :=
  bP true
theorem apA_calls (L : Lib Try.prog) (a : List P2) (b : List P2) (la : P2) (ha : P2) (lb : P2) (hb : P2) (m : Bool) (p2 : (!m) = true) (e0 : pureCall (cf L) (evalF (cf L) 201) 68 [slP a] = some (PVal.tup [ptP la, ptP ha, bP true])) (e1 : pureCall (cf L) (evalF (cf L) 201) 68 [slP b] = some (PVal.tup [ptP lb, ptP hb, bP true])) (e2 : pureCall (cf L) (evalF (cf L) 201) 69 [ptP la, ptP ha, ptP lb, ptP hb] = some (bP m)) : CallsP Try.prog 45 [slP a, slP b] (apA L a b la ha lb hb m) := by
  have key := fun (bs : List Bool) (r : PVal) (ob : List Prop) (h : callP (cf L) (evalF (cf L) 201) 201 [(9999, 0, Hint.idx), (1, 1, Hint.pcall (PVal.tup [ptP la, ptP ha, bP true])), (2, 1, Hint.pcall (PVal.tup [ptP lb, ptP hb, bP true])), (3, 11, Hint.pcall (bP m))] 45 [slP a, slP b] bs [] (none) = .ok (r, ob)) (hp : allOb ob) => callP_ok (cf_ok L) h hp
  unfold apA
  exact key [false, false, true] (bP true) _ (by kernel_rfl) (allOb_cons p2 (allOb_cons (by exact e2) (allOb_cons lit_f (allOb_cons lit_f (allOb_cons (by exact e1) (allOb_cons (by exact e0) allOb_nil))))))
def apB (L : Lib Try.prog) (a : List P2) (b : List P2) (i : Int) (la : P2) (ha : P2) (lb : P2) (hb : P2) (m : Bool) : PVal :=
  bP true
theorem apB_calls (L : Lib Try.prog) (a : List P2) (b : List P2) (i : Int) (la : P2) (ha : P2) (lb : P2) (hb : P2) (m : Bool) (p2 : (!m) = false) (e0 : pureCall (cf L) (evalF (cf L) 201) 68 [slP a] = some (PVal.tup [ptP la, ptP ha, bP true])) (e1 : pureCall (cf L) (evalF (cf L) 201) 68 [slP b] = some (PVal.tup [ptP lb, ptP hb, bP true])) (e2 : pureCall (cf L) (evalF (cf L) 201) 69 [ptP la, ptP ha, ptP lb, ptP hb] = some (bP m)) (e3 : iterC 0 (evalC (cf L) (evalF (cf L) 201) ((lives.lookup 45).getD []) 0 0 201 (loopAt Try.f45 0)) 201 ([AVal.list (List.length a) (flatPP a), AVal.list (List.length b) (flatPP b)] ++ jk 9 ++ [bA true, iA 0] ++ jk 97) ([AObj.box [iA (Prod.fst la), iA (Prod.snd la)], AObj.box [iA (Prod.fst ha), iA (Prod.snd ha)], AObj.box [iA (Prod.fst lb), iA (Prod.snd lb)], AObj.box [iA (Prod.fst hb), iA (Prod.snd hb)]]) = some (AExit.exit 0, (([AVal.list (List.length a) (flatPP a), AVal.list (List.length b) (flatPP b)] ++ jk 9 ++ [bA true, iA i] ++ jk 33 ++ [bA false] ++ jk 63), []))) : CallsP Try.prog 45 [slP a, slP b] (apB L a b i la ha lb hb m) := by
  have key := fun (bs : List Bool) (r : PVal) (ob : List Prop) (h : callP (cf L) (evalF (cf L) 201) 201 [(9999, 0, Hint.idx), (1, 1, Hint.pcall (PVal.tup [ptP la, ptP ha, bP true])), (2, 1, Hint.pcall (PVal.tup [ptP lb, ptP hb, bP true])), (3, 11, Hint.pcall (bP m))] 45 [slP a, slP b] bs [(AExit.exit 0, apE a b i, [])] (none) = .ok (r, ob)) (hp : allOb ob) => callP_ok (cf_ok L) h hp
  unfold apB
  exact key [false, false, false] (bP true) _ (by kernel_rfl) (allOb_cons (by exact e3) (allOb_cons p2 (allOb_cons (by exact e2) (allOb_cons lit_f (allOb_cons lit_f (allOb_cons (by exact e1) (allOb_cons (by exact e0) allOb_nil)))))))
def apC (L : Lib Try.prog) (a : List P2) (b : List P2) (la : P2) (ha : P2) (lb : P2) (hb : P2) (m : Bool) : PVal :=
  bP false
theorem apC_calls (L : Lib Try.prog) (a : List P2) (b : List P2) (la : P2) (ha : P2) (lb : P2) (hb : P2) (m : Bool) (p2 : (!m) = false) (e0 : pureCall (cf L) (evalF (cf L) 201) 68 [slP a] = some (PVal.tup [ptP la, ptP ha, bP true])) (e1 : pureCall (cf L) (evalF (cf L) 201) 68 [slP b] = some (PVal.tup [ptP lb, ptP hb, bP true])) (e2 : pureCall (cf L) (evalF (cf L) 201) 69 [ptP la, ptP ha, ptP lb, ptP hb] = some (bP m)) (e3 : iterC 0 (evalC (cf L) (evalF (cf L) 201) ((lives.lookup 45).getD []) 0 0 201 (loopAt Try.f45 0)) 201 ([AVal.list (List.length a) (flatPP a), AVal.list (List.length b) (flatPP b)] ++ jk 9 ++ [bA true, iA 0] ++ jk 97) ([AObj.box [iA (Prod.fst la), iA (Prod.snd la)], AObj.box [iA (Prod.fst ha), iA (Prod.snd ha)], AObj.box [iA (Prod.fst lb), iA (Prod.snd lb)], AObj.box [iA (Prod.fst hb), iA (Prod.snd hb)]]) = some (AExit.exit 0, ((jk 11 ++ [bA false] ++ jk 98), []))) : CallsP Try.prog 45 [slP a, slP b] (apC L a b la ha lb hb m) := by
  have key := fun (bs : List Bool) (r : PVal) (ob : List Prop) (h : callP (cf L) (evalF (cf L) 201) 201 [(9999, 0, Hint.idx), (1, 1, Hint.pcall (PVal.tup [ptP la, ptP ha, bP true])), (2, 1, Hint.pcall (PVal.tup [ptP lb, ptP hb, bP true])), (3, 11, Hint.pcall (bP m))] 45 [slP a, slP b] bs [(AExit.exit 0, apX, [])] (none) = .ok (r, ob)) (hp : allOb ob) => callP_ok (cf_ok L) h hp
  unfold apC
  exact key [false, false, false] (bP false) _ (by kernel_rfl) (allOb_cons (by exact e3) (allOb_cons p2 (allOb_cons (by exact e2) (allOb_cons lit_f (allOb_cons lit_f (allOb_cons (by exact e1) (allOb_cons (by exact e0) allOb_nil)))))))
def ac2 (L : Lib Try.prog) (a : List P2) (b : List P2) (i : Int) (k : Int) (v : Int) (s : P2) (ea : Bool) (eb : Bool) (o : Bool) : AExit × List AVal × List AObj :=
  (bif decide (IntKind.i64.wrap (k + 1) < (↑(List.length b) : Int)) then (bif v == 0 then (AExit.normal, (([slA a, slA b, AVal.junk, AVal.junk, AVal.junk, iA i, iA (IntKind.i64.wrap (k + 1))] ++ jk 71), [])) else (bif v == 1 then (bif !ea then (AExit.ret, ((jk 4 ++ [bA false] ++ jk 73), [])) else (bif !eb then (AExit.ret, ((jk 4 ++ [bA false] ++ jk 73), [])) else (AExit.normal, (([slA a, slA b, AVal.junk, AVal.junk, AVal.junk, iA i, iA (IntKind.i64.wrap (k + 1))] ++ jk 71), [])))) else (AExit.ret, ((jk 4 ++ [bA false] ++ jk 73), [])))) else (AExit.exit 2, (([slA a, slA b, AVal.junk, AVal.junk, AVal.junk, iA i, iA k] ++ jk 13 ++ [bA false] ++ jk 57), [])))
theorem ac2_eq (L : Lib Try.prog) (a : List P2) (b : List P2) (i : Int) (k : Int) (v : Int) (s : P2) (ea : Bool) (eb : Bool) (o : Bool) (b0 : (decide (IntKind.i64.wrap (k + 1) < (↑(List.length b) : Int))) = true → (0 : Int) ≤ i ∧ (i : Int) < (↑(List.length a) : Int)) (b1 : (decide (IntKind.i64.wrap (k + 1) < (↑(List.length b) : Int))) = true → (0 : Int) ≤ IntKind.i64.wrap (i + 1) ∧ (IntKind.i64.wrap (i + 1) : Int) < (↑(List.length a) : Int)) (b2 : (decide (IntKind.i64.wrap (k + 1) < (↑(List.length b) : Int))) = true → (0 : Int) ≤ k ∧ (k : Int) < (↑(List.length b) : Int)) (b3 : (decide (IntKind.i64.wrap (k + 1) < (↑(List.length b) : Int))) = true → (0 : Int) ≤ IntKind.i64.wrap (k + 1) ∧ (IntKind.i64.wrap (k + 1) : Int) < (↑(List.length b) : Int)) (e0 : (decide (IntKind.i64.wrap (k + 1) < (↑(List.length b) : Int))) = true → pureCall (cf L) (evalF (cf L) 201) 64 [ptP (pAt a (Int.toNat i)), ptP (pAt a (Int.toNat (IntKind.i64.wrap (i + 1)))), ptP (pAt b (Int.toNat k)), ptP (pAt b (Int.toNat (IntKind.i64.wrap (k + 1))))] = some (iP v)) (e1 : (decide (IntKind.i64.wrap (k + 1) < (↑(List.length b) : Int))) = true → (v == 0) = false → (v == 1) = true → pureCall (cf L) (evalF (cf L) 201) 72 [ptP (pAt a (Int.toNat i)), ptP (pAt a (Int.toNat (IntKind.i64.wrap (i + 1)))), ptP (pAt b (Int.toNat k)), ptP (pAt b (Int.toNat (IntKind.i64.wrap (k + 1))))] = some (PVal.tup [ptP s, bP o])) (e2 : (decide (IntKind.i64.wrap (k + 1) < (↑(List.length b) : Int))) = true → (v == 0) = false → (v == 1) = true → pureCall (cf L) (evalF (cf L) 201) 73 [slP a, ptP s] = some (bP ea)) (e3 : (decide (IntKind.i64.wrap (k + 1) < (↑(List.length b) : Int))) = true → (v == 0) = false → (v == 1) = true → (!ea) = false → pureCall (cf L) (evalF (cf L) 201) 73 [slP b, ptP s] = some (bP eb)) : roundC 0 (evalC (cf L) (evalF (cf L) 201) (Option.getD (List.lookup 46 lives) []) 0 0 201 (loopAt Try.f46 1)) (acU a b i k) ([]) = some (ac2 L a b i k v s ea eb o) := by
  have key := fun (bs : List Bool) (r : AExit × List AVal × List AObj) (ob : List Prop) (h : roundP (cf L) (evalF (cf L) 201) (Option.getD (List.lookup 46 lives) []) 0 0 201 [(9999, 0, Hint.idx), (7, 18, Hint.pcall (iP v)), (11, 18, Hint.pcall (PVal.tup [ptP s, bP o])), (12, 2, Hint.pcall (bP ea)), (12, 7, Hint.pcall (bP eb))] (loopAt Try.f46 1) (acU a b i k) ([]) bs [] = .ok (r.1, r.2.1, r.2.2, ob)) (hp : allOb ob) => roundP_ok h hp
  unfold ac2
  exact bif_case (P := fun r => roundC 0 (evalC (cf L) (evalF (cf L) 201) (Option.getD (List.lookup 46 lives) []) 0 0 201 (loopAt Try.f46 1)) (acU a b i k) ([]) = some r)
    (fun h0 => bif_case (P := fun r => roundC 0 (evalC (cf L) (evalF (cf L) 201) (Option.getD (List.lookup 46 lives) []) 0 0 201 (loopAt Try.f46 1)) (acU a b i k) ([]) = some r)
     (fun h1 => key [true, true] ((AExit.normal, (([slA a, slA b, AVal.junk, AVal.junk, AVal.junk, iA i, iA (IntKind.i64.wrap (k + 1))] ++ jk 71), []))) _ (by kernel_rfl) (allOb_cons (show Plain (List.replicate 19 AObj.free) from by simp only [Plain, List.all_append, List.all_cons, List.all_nil, plainO, upL_flatPP, flatP_plain, Nat.zero_mul, List.drop_zero] <;> rfl) (allOb_cons h1 (allOb_cons (by exact (e0 h0)) (allOb_cons (part_pt (b3 h0)) (allOb_cons (idx_ok (b3 h0)) (allOb_cons (part_pt (b2 h0)) (allOb_cons (idx_ok (b2 h0)) (allOb_cons (part_pt (b1 h0)) (allOb_cons (idx_ok (b1 h0)) (allOb_cons (part_pt (b0 h0)) (allOb_cons (idx_ok (b0 h0)) (allOb_cons h0 allOb_nil)))))))))))))
     (fun h1 => bif_case (P := fun r => roundC 0 (evalC (cf L) (evalF (cf L) 201) (Option.getD (List.lookup 46 lives) []) 0 0 201 (loopAt Try.f46 1)) (acU a b i k) ([]) = some r)
      (fun h2 => bif_case (P := fun r => roundC 0 (evalC (cf L) (evalF (cf L) 201) (Option.getD (List.lookup 46 lives) []) 0 0 201 (loopAt Try.f46 1)) (acU a b i k) ([]) = some r)
       (fun h3 => key [true, false, true, true, true] ((AExit.ret, ((jk 4 ++ [bA false] ++ jk 73), []))) _ (by kernel_rfl) (allOb_cons (show Plain (List.replicate 41 AObj.free ++ [AObj.box [iA (Prod.fst s), iA (Prod.snd s)], AObj.free, AObj.free]) from by simp only [Plain, List.all_append, List.all_cons, List.all_nil, plainO, upL_flatPP, flatP_plain, Nat.zero_mul, List.drop_zero] <;> rfl) (allOb_cons lit_t (allOb_cons h3 (allOb_cons (by exact (e2 h0 h1 h2)) (allOb_cons (by exact (e1 h0 h1 h2)) (allOb_cons (part_pt (b3 h0)) (allOb_cons (idx_ok (b3 h0)) (allOb_cons (part_pt (b2 h0)) (allOb_cons (idx_ok (b2 h0)) (allOb_cons (part_pt (b1 h0)) (allOb_cons (idx_ok (b1 h0)) (allOb_cons (part_pt (b0 h0)) (allOb_cons (idx_ok (b0 h0)) (allOb_cons h2 (allOb_cons h1 (allOb_cons (by exact (e0 h0)) (allOb_cons (part_pt (b3 h0)) (allOb_cons (idx_ok (b3 h0)) (allOb_cons (part_pt (b2 h0)) (allOb_cons (idx_ok (b2 h0)) (allOb_cons (part_pt (b1 h0)) (allOb_cons (idx_ok (b1 h0)) (allOb_cons (part_pt (b0 h0)) (allOb_cons (idx_ok (b0 h0)) (allOb_cons h0 allOb_nil))))))))))))))))))))))))))
       (fun h3 => bif_case (P := fun r => roundC 0 (evalC (cf L) (evalF (cf L) 201) (Option.getD (List.lookup 46 lives) []) 0 0 201 (loopAt Try.f46 1)) (acU a b i k) ([]) = some r)
        (fun h4 => key [true, false, true, false, true] ((AExit.ret, ((jk 4 ++ [bA false] ++ jk 73), []))) _ (by kernel_rfl) (allOb_cons (show Plain (List.replicate 41 AObj.free ++ [AObj.box [iA (Prod.fst s), iA (Prod.snd s)], AObj.free, AObj.free]) from by simp only [Plain, List.all_append, List.all_cons, List.all_nil, plainO, upL_flatPP, flatP_plain, Nat.zero_mul, List.drop_zero] <;> rfl) (allOb_cons h4 (allOb_cons (by exact (e3 h0 h1 h2 h3)) (allOb_cons h3 (allOb_cons (by exact (e2 h0 h1 h2)) (allOb_cons (by exact (e1 h0 h1 h2)) (allOb_cons (part_pt (b3 h0)) (allOb_cons (idx_ok (b3 h0)) (allOb_cons (part_pt (b2 h0)) (allOb_cons (idx_ok (b2 h0)) (allOb_cons (part_pt (b1 h0)) (allOb_cons (idx_ok (b1 h0)) (allOb_cons (part_pt (b0 h0)) (allOb_cons (idx_ok (b0 h0)) (allOb_cons h2 (allOb_cons h1 (allOb_cons (by exact (e0 h0)) (allOb_cons (part_pt (b3 h0)) (allOb_cons (idx_ok (b3 h0)) (allOb_cons (part_pt (b2 h0)) (allOb_cons (idx_ok (b2 h0)) (allOb_cons (part_pt (b1 h0)) (allOb_cons (idx_ok (b1 h0)) (allOb_cons (part_pt (b0 h0)) (allOb_cons (idx_ok (b0 h0)) (allOb_cons h0 allOb_nil)))))))))))))))))))))))))))
        (fun h4 => key [true, false, true, false, false] ((AExit.normal, (([slA a, slA b, AVal.junk, AVal.junk, AVal.junk, iA i, iA (IntKind.i64.wrap (k + 1))] ++ jk 71), []))) _ (by kernel_rfl) (allOb_cons (show Plain (List.replicate 41 AObj.free ++ [AObj.box [iA (Prod.fst s), iA (Prod.snd s)], AObj.free, AObj.free]) from by simp only [Plain, List.all_append, List.all_cons, List.all_nil, plainO, upL_flatPP, flatP_plain, Nat.zero_mul, List.drop_zero] <;> rfl) (allOb_cons h4 (allOb_cons (by exact (e3 h0 h1 h2 h3)) (allOb_cons h3 (allOb_cons (by exact (e2 h0 h1 h2)) (allOb_cons (by exact (e1 h0 h1 h2)) (allOb_cons (part_pt (b3 h0)) (allOb_cons (idx_ok (b3 h0)) (allOb_cons (part_pt (b2 h0)) (allOb_cons (idx_ok (b2 h0)) (allOb_cons (part_pt (b1 h0)) (allOb_cons (idx_ok (b1 h0)) (allOb_cons (part_pt (b0 h0)) (allOb_cons (idx_ok (b0 h0)) (allOb_cons h2 (allOb_cons h1 (allOb_cons (by exact (e0 h0)) (allOb_cons (part_pt (b3 h0)) (allOb_cons (idx_ok (b3 h0)) (allOb_cons (part_pt (b2 h0)) (allOb_cons (idx_ok (b2 h0)) (allOb_cons (part_pt (b1 h0)) (allOb_cons (idx_ok (b1 h0)) (allOb_cons (part_pt (b0 h0)) (allOb_cons (idx_ok (b0 h0)) (allOb_cons h0 allOb_nil)))))))))))))))))))))))))))))
      (fun h2 => key [true, false, false] ((AExit.ret, ((jk 4 ++ [bA false] ++ jk 73), []))) _ (by kernel_rfl) (allOb_cons (show Plain (List.replicate 19 AObj.free) from by simp only [Plain, List.all_append, List.all_cons, List.all_nil, plainO, upL_flatPP, flatP_plain, Nat.zero_mul, List.drop_zero] <;> rfl) (allOb_cons h2 (allOb_cons h1 (allOb_cons (by exact (e0 h0)) (allOb_cons (part_pt (b3 h0)) (allOb_cons (idx_ok (b3 h0)) (allOb_cons (part_pt (b2 h0)) (allOb_cons (idx_ok (b2 h0)) (allOb_cons (part_pt (b1 h0)) (allOb_cons (idx_ok (b1 h0)) (allOb_cons (part_pt (b0 h0)) (allOb_cons (idx_ok (b0 h0)) (allOb_cons h0 allOb_nil))))))))))))))))
    (fun h0 => key [false] ((AExit.exit 2, (([slA a, slA b, AVal.junk, AVal.junk, AVal.junk, iA i, iA k] ++ jk 13 ++ [bA false] ++ jk 57), []))) _ (by kernel_rfl) (allOb_cons (show Plain [] from by simp only [Plain, List.all_append, List.all_cons, List.all_nil, plainO, upL_flatPP, flatP_plain, Nat.zero_mul, List.drop_zero] <;> rfl) (allOb_cons h0 allOb_nil)))
def ac1 (L : Lib Try.prog) (a : List P2) (b : List P2) (i : Int) (k : Int) : AExit × List AVal × List AObj :=
  (bif decide (IntKind.i64.wrap (i + 1) < (↑(List.length a) : Int)) then (AExit.normal, (([slA a, slA b, AVal.junk, AVal.junk, AVal.junk, iA (IntKind.i64.wrap (i + 1))] ++ jk 72), [])) else (AExit.exit 0, (([slA a, slA b, AVal.junk, AVal.junk, AVal.junk, iA i] ++ jk 7 ++ [bA false] ++ jk 64), [])))
theorem ac1_eq (L : Lib Try.prog) (a : List P2) (b : List P2) (i : Int) (k : Int) (e0 : (decide (IntKind.i64.wrap (i + 1) < (↑(List.length a) : Int))) = true → iterC 0 (evalC (cf L) (evalF (cf L) 201) ((lives.lookup 46).getD []) 0 0 201 (loopAt Try.f46 1)) 201 ([AVal.list (List.length a) (flatPP a), AVal.list (List.length b) (flatPP b), AVal.junk, AVal.junk, AVal.junk, iA i, iA 0] ++ jk 71) [] = some (AExit.exit 2, (([AVal.list (List.length a) (flatPP a), AVal.list (List.length b) (flatPP b), AVal.junk, AVal.junk, AVal.junk, iA i, iA k] ++ jk 13 ++ [bA false] ++ jk 57), []))) : roundC 0 (evalC (cf L) (evalF (cf L) 201) (Option.getD (List.lookup 46 lives) []) 0 0 201 (loopAt Try.f46 0)) (acT a b i) ([]) = some (ac1 L a b i k) := by
  have key := fun (bs : List Bool) (r : AExit × List AVal × List AObj) (ob : List Prop) (h : roundP (cf L) (evalF (cf L) 201) (Option.getD (List.lookup 46 lives) []) 0 0 201 [(9999, 0, Hint.idx)] (loopAt Try.f46 0) (acT a b i) ([]) bs [(AExit.exit 2, acV a b i k, [])] = .ok (r.1, r.2.1, r.2.2, ob)) (hp : allOb ob) => roundP_ok h hp
  unfold ac1
  exact bif_case (P := fun r => roundC 0 (evalC (cf L) (evalF (cf L) 201) (Option.getD (List.lookup 46 lives) []) 0 0 201 (loopAt Try.f46 0)) (acT a b i) ([]) = some r)
    (fun h0 => key [true] ((AExit.normal, (([slA a, slA b, AVal.junk, AVal.junk, AVal.junk, iA (IntKind.i64.wrap (i + 1))] ++ jk 72), []))) _ (by kernel_rfl) (allOb_cons (show Plain [] from by simp only [Plain, List.all_append, List.all_cons, List.all_nil, plainO, upL_flatPP, flatP_plain, Nat.zero_mul, List.drop_zero] <;> rfl) (allOb_cons (by exact (e0 h0)) (allOb_cons h0 allOb_nil))))
    (fun h0 => key [false] ((AExit.exit 0, (([slA a, slA b, AVal.junk, AVal.junk, AVal.junk, iA i] ++ jk 7 ++ [bA false] ++ jk 64), []))) _ (by kernel_rfl) (allOb_cons (show Plain [] from by simp only [Plain, List.all_append, List.all_cons, List.all_nil, plainO, upL_flatPP, flatP_plain, Nat.zero_mul, List.drop_zero] <;> rfl) (allOb_cons h0 allOb_nil)))
def ac1x (L : Lib Try.prog) (a : List P2) (b : List P2) (i : Int) : AExit × List AVal × List AObj :=
  (bif decide (IntKind.i64.wrap (i + 1) < (↑(List.length a) : Int)) then (AExit.ret, ((jk 4 ++ [bA false] ++ jk 73), [])) else (AExit.exit 0, (([slA a, slA b, AVal.junk, AVal.junk, AVal.junk, iA i] ++ jk 7 ++ [bA false] ++ jk 64), [])))
theorem ac1x_eq (L : Lib Try.prog) (a : List P2) (b : List P2) (i : Int) (e0 : (decide (IntKind.i64.wrap (i + 1) < (↑(List.length a) : Int))) = true → iterC 0 (evalC (cf L) (evalF (cf L) 201) ((lives.lookup 46).getD []) 0 0 201 (loopAt Try.f46 1)) 201 ([AVal.list (List.length a) (flatPP a), AVal.list (List.length b) (flatPP b), AVal.junk, AVal.junk, AVal.junk, iA i, iA 0] ++ jk 71) [] = some (AExit.ret, ((jk 4 ++ [bA false] ++ jk 73), []))) : roundC 0 (evalC (cf L) (evalF (cf L) 201) (Option.getD (List.lookup 46 lives) []) 0 0 201 (loopAt Try.f46 0)) (acT a b i) ([]) = some (ac1x L a b i) := by
  have key := fun (bs : List Bool) (r : AExit × List AVal × List AObj) (ob : List Prop) (h : roundP (cf L) (evalF (cf L) 201) (Option.getD (List.lookup 46 lives) []) 0 0 201 [(9999, 0, Hint.idx)] (loopAt Try.f46 0) (acT a b i) ([]) bs [(AExit.ret, acX, [])] = .ok (r.1, r.2.1, r.2.2, ob)) (hp : allOb ob) => roundP_ok h hp
  unfold ac1x
  exact bif_case (P := fun r => roundC 0 (evalC (cf L) (evalF (cf L) 201) (Option.getD (List.lookup 46 lives) []) 0 0 201 (loopAt Try.f46 0)) (acT a b i) ([]) = some r)
    (fun h0 => key [true] ((AExit.ret, ((jk 4 ++ [bA false] ++ jk 73), []))) _ (by kernel_rfl) (allOb_cons (show Plain [] from by simp only [Plain, List.all_append, List.all_cons, List.all_nil, plainO, upL_flatPP, flatP_plain, Nat.zero_mul, List.drop_zero] <;> rfl) (allOb_cons (by exact (e0 h0)) (allOb_cons h0 allOb_nil))))
    (fun h0 => key [false] ((AExit.exit 0, (([slA a, slA b, AVal.junk, AVal.junk, AVal.junk, iA i] ++ jk 7 ++ [bA false] ++ jk 64), []))) _ (by kernel_rfl) (allOb_cons (show Plain [] from by simp only [Plain, List.all_append, List.all_cons, List.all_nil, plainO, upL_flatPP, flatP_plain, Nat.zero_mul, List.drop_zero] <;> rfl) (allOb_cons h0 allOb_nil)))
def acA (L : Lib Try.prog) (a : List P2) (b : List P2) (i : Int) : PVal :=
  bP true
theorem acA_calls (L : Lib Try.prog) (a : List P2) (b : List P2) (i : Int) (e0 : iterC 0 (evalC (cf L) (evalF (cf L) 201) ((lives.lookup 46).getD []) 0 0 201 (loopAt Try.f46 0)) 201 ([AVal.list (List.length a) (flatPP a), AVal.list (List.length b) (flatPP b), AVal.junk, AVal.junk, AVal.junk, iA 0] ++ jk 72) [] = some (AExit.exit 0, (([AVal.list (List.length a) (flatPP a), AVal.list (List.length b) (flatPP b), AVal.junk, AVal.junk, AVal.junk, iA i] ++ jk 7 ++ [bA false] ++ jk 64), []))) : CallsP Try.prog 46 [slP a, slP b] (acA L a b i) := by
  have key := fun (bs : List Bool) (r : PVal) (ob : List Prop) (h : callP (cf L) (evalF (cf L) 201) 201 [(9999, 0, Hint.idx)] 46 [slP a, slP b] bs [(AExit.exit 0, acE a b i, [])] (none) = .ok (r, ob)) (hp : allOb ob) => callP_ok (cf_ok L) h hp
  unfold acA
  exact key [] (bP true) _ (by kernel_rfl) (allOb_cons (by exact e0) allOb_nil)
def acB (L : Lib Try.prog) (a : List P2) (b : List P2) : PVal :=
  bP false
theorem acB_calls (L : Lib Try.prog) (a : List P2) (b : List P2) (e0 : iterC 0 (evalC (cf L) (evalF (cf L) 201) ((lives.lookup 46).getD []) 0 0 201 (loopAt Try.f46 0)) 201 ([AVal.list (List.length a) (flatPP a), AVal.list (List.length b) (flatPP b), AVal.junk, AVal.junk, AVal.junk, iA 0] ++ jk 72) [] = some (AExit.ret, ((jk 4 ++ [bA false] ++ jk 73), []))) : CallsP Try.prog 46 [slP a, slP b] (acB L a b) := by
  have key := fun (bs : List Bool) (r : PVal) (ob : List Prop) (h : callP (cf L) (evalF (cf L) 201) 201 [(9999, 0, Hint.idx)] 46 [slP a, slP b] bs [(AExit.ret, acX, [])] (none) = .ok (r, ob)) (hp : allOb ob) => callP_ok (cf_ok L) h hp
  unfold acB
  exact key [] (bP false) _ (by kernel_rfl) (allOb_cons (by exact e0) allOb_nil)
end Go.Proofs.Ytmopbegmdegooaa
/- pt.Box, pt.Meet, seg.Shared, line.end, line.Apart, and the document's: what they answer. -/
namespace Go.Proofs.Ytmopbegmdegooaa
open Go Vm M
set_option linter.unusedVariables false
set_option linter.unusedSimpArgs false
theorem near_gT (a : P2) {ev : Ev} : pureCall (cf LT5) ev 56 [ptP a] = some (ptP (nearP a)) := pure_given (g := g1 fun p => ptP (nearP p)) (by kernel_rfl) rfl
theorem clean_gT (a : P2) {ev : Ev} : pureCall (cf LT5) ev 50 [ptP a] = some (ptP (nearP a)) := pure_given (g := g1 fun p => ptP (nearP p)) (by kernel_rfl) rfl
theorem rel_gT (a b c d : P2) {ev : Ev} : pureCall (cf LT5) ev 18 [ptP a, ptP b, ptP c, ptP d] = some (iP (relate a b c d)) := pure_given (g := g4 fun a b c d => iP (relate a b c d)) (by kernel_rfl) rfl
theorem rel9_gT (a b c d : P2) {ev : Ev} : pureCall (cf LT5) ev 64 [ptP a, ptP b, ptP c, ptP d] = some (iP (relate a b c d)) := pure_given (g := g4 fun a b c d => iP (relate a b c d)) (by kernel_rfl) rfl
/-! pt.Box -/
theorem ite_min (q l : Int) : (if q < l then q else l) = min l q := by split <;> omega
theorem ite_max (q h : Int) : (if q > h then q else h) = max h q := by split <;> omega
noncomputable abbrev bodyBx : List AVal → List AObj → Res := evalC (cf LT5) (evalF (cf LT5) 201) ((lives.lookup 68).getD []) 0 0 201 (loopAt Try.f68 0)
theorem bx_step (ps : List P2) {k : Nat} (hk : k < ps.length) (h200 : ps.length ≤ 200) : roundC 0 bodyBx (bxT ps k) (bxS (boxK ps k).1 (boxK ps k).2) = some (.normal, bxT ps (k + 1 : Nat), bxS (boxK ps (k + 1)).1 (boxK ps (k + 1)).2) := by
  have h := bxR_eq LT5 ps k (boxK ps k).1 (boxK ps k).2 (nearP (pAt ps k)) (fun _ => ⟨by omega, by omega⟩) (fun _ => by rw [Int.toNat_natCast]; exact near_gT _)
  rw [show bodyBx = _ from rfl]
  rw [h]
  unfold bxR
  rw [decide_eq_true (by omega : (k : Int) < (ps.length : Int)), wrS (by omega)]
  cases k with
  | zero =>
    have e : ∀ x : Int, (if x < x then x else x) = x := fun x => by split <;> rfl
    have e2 : ∀ x : Int, (if x > x then x else x) = x := fun x => by split <;> rfl
    simp only [e, e2]
    rfl
  | succ k =>
    rw [beq_eq_false_iff_ne.2 (by omega : ((k + 1 : Nat) : Int) ≠ 0)]
    simp only [ite_min, ite_max]
    rfl
theorem box_calls (ps : List P2) (h200 : ps.length ≤ 200) : CallsP Try.prog 68 [slP ps] (.tup [ptP (boxK ps ps.length).1, ptP (boxK ps ps.length).2, bP (decide ((ps.length : Int) > 0))]) := by
  have hend : roundC 0 bodyBx (bxT ps ps.length) (bxS (boxK ps ps.length).1 (boxK ps ps.length).2) = some (.exit 0, bxE ps ps.length, bxS (boxK ps ps.length).1 (boxK ps ps.length).2) := by
    have hf : decide ((ps.length : Int) < (ps.length : Int)) = false := decide_eq_false (by omega)
    have h := bxR_eq LT5 ps ps.length (boxK ps ps.length).1 (boxK ps ps.length).2 (0, 0) (fun h => by rw [hf] at h; cases h) (fun h => by rw [hf] at h; cases h)
    rw [show bodyBx = _ from rfl]
    rw [h]
    unfold bxR
    rw [hf]
    rfl
  have hl := At.upto (base := 0) (body := bodyBx) (T := fun k => bxT ps k) (S := fun k => bxS (boxK ps k).1 (boxK ps k).2) (n := ps.length) (m := 1) (fun k hk => bx_step ps hk h200) (At.leave hend (by simp)) ps.length 0 (by omega)
  exact bxA_calls LT5 ps ps.length (boxK ps ps.length).1 (boxK ps ps.length).2 (At.use (at_more hl (m := 201) (by omega)) (by rfl) (by kernel_rfl))
/-! pt.Meet -/
noncomputable abbrev bodyMo : List AVal → List AObj → Res := evalC (cf LT5) (evalF (cf LT5) 201) ((lives.lookup 69).getD []) 0 0 201 (loopAt Try.f69 0)
noncomputable abbrev bodyMi : List AVal → List AObj → Res := evalC (cf LT5) (evalF (cf LT5) 201) ((lives.lookup 69).getD []) 0 0 201 (loopAt Try.f69 1)
theorem gt_le (x y : Int) : decide (x > y) = !decide (x ≤ y) := by
  by_cases h : x ≤ y
  · rw [decide_eq_true h, decide_eq_false (by omega)]; rfl
  · rw [decide_eq_false h, decide_eq_true (by omega)]; rfl
section
variable (A C B D X : P2) (i : Int)
theorem mi0_is : mi0 LT5 A C B D X i = bif leP X B then (.normal, mtU A C B D i 1, mtS B D (fr14 X)) else (.exit 0, mtX, []) := by
  unfold mi0 leP
  rw [gt_le, gt_le, show IntKind.i64.wrap (0 + 1) = 1 from IntWalk.i64_in _ (by omega)]
  cases decide (X.1 ≤ B.1) <;> cases decide (X.2 ≤ B.2) <;> rfl
theorem mi1_is : mi1 LT5 A C B D X i = bif leP X D then (.normal, mtU A C B D i 2, mtS B D (fr14 X)) else (.exit 0, mtX, []) := by
  unfold mi1 leP
  rw [gt_le, gt_le, show IntKind.i64.wrap (1 + 1) = 2 from IntWalk.i64_in _ (by omega)]
  cases decide (X.1 ≤ D.1) <;> cases decide (X.2 ≤ D.2) <;> rfl
theorem mi_loop : At 0 bodyMi 3 (mtU A C B D i 0) (mtS B D (fr14 X)) (some (bif leP X B && leP X D then (.exit 2, mtV A C B D i 2, mtS B D (fr14 X)) else (.exit 0, mtX, []))) := by
  have s0 : roundC 0 bodyMi (mtU A C B D i 0) (mtS B D (fr14 X)) = some (mi0 LT5 A C B D X i) := mi0_eq LT5 A C B D X i
  have s1 : roundC 0 bodyMi (mtU A C B D i 1) (mtS B D (fr14 X)) = some (mi1 LT5 A C B D X i) := mi1_eq LT5 A C B D X i
  have s2 : roundC 0 bodyMi (mtU A C B D i 2) (mtS B D (fr14 X)) = some (.exit 2, mtV A C B D i 2, mtS B D (fr14 X)) := mi2_eq LT5 A C B D X i
  rw [mi0_is] at s0
  rw [mi1_is] at s1
  cases h0 : leP X B with
  | false =>
    rw [h0] at s0
    exact at_more (n := 1) (At.leave s0 (by simp)) (by omega)
  | true =>
    rw [h0] at s0
    cases h1 : leP X D with
    | false =>
      rw [h1] at s1
      exact at_more (n := 2) (At.step s0 (At.leave s1 (by simp))) (by omega)
    | true =>
      rw [h1] at s1
      exact At.step s0 (At.step s1 (At.leave s2 (by simp)))
end
theorem mt_plain (B D : P2) (X : P2) : (mtS B D (fr14 X)).all plainO = true := by rfl
theorem mo_loop (A C B D : P2) : At 0 bodyMo 3 (mtT A C 0) (mtS B D fr15) (some (bif leP A B && leP A D && (leP C B && leP C D) then (.exit 0, mtE A C 2, mtS B D fr15) else (.exit 0, mtX, []))) := by
  have i0 := mi_loop A C B D A 0
  have i1 := mi_loop A C B D C 1
  have s2 : roundC 0 bodyMo (mtT A C 2) (mtS B D fr15) = some (.exit 0, mtE A C 2, mtS B D fr15) := mo2_eq LT5 A C B D
  cases h0 : leP A B && leP A D with
  | false =>
    rw [h0] at i0
    have s0 : roundC 0 bodyMo (mtT A C 0) (mtS B D fr15) = some (.exit 0, mtX, []) := mo0x_eq LT5 A C B D (At.use (at_more i0 (m := 201) (by omega)) (by rfl) (by kernel_rfl))
    exact at_more (n := 1) (At.leave s0 (by simp)) (by omega)
  | true =>
    rw [h0] at i0
    have s0 : roundC 0 bodyMo (mtT A C 0) (mtS B D fr15) = some (.normal, mtT A C 1, mtS B D fr15) := by
      have := mo0_eq LT5 A C B D (At.use (at_more i0 (m := 201) (by omega)) (by rfl) (by kernel_rfl))
      have e : mo0 LT5 A C B D = (.normal, mtT A C (IntKind.i64.wrap (0 + 1)), mtS B D fr15) := by kernel_rfl
      rw [e, show IntKind.i64.wrap (0 + 1) = 1 from IntWalk.i64_in _ (by omega)] at this
      exact this
    cases h1 : leP C B && leP C D with
    | false =>
      rw [h1] at i1
      have s1 : roundC 0 bodyMo (mtT A C 1) (mtS B D fr15) = some (.exit 0, mtX, []) := mo1x_eq LT5 A C B D (At.use (at_more i1 (m := 201) (by omega)) (by rfl) (by kernel_rfl))
      exact at_more (n := 2) (At.step s0 (At.leave s1 (by simp))) (by omega)
    | true =>
      rw [h1] at i1
      have s1 : roundC 0 bodyMo (mtT A C 1) (mtS B D fr15) = some (.normal, mtT A C 2, mtS B D fr15) := by
        have := mo1_eq LT5 A C B D (At.use (at_more i1 (m := 201) (by omega)) (by rfl) (by kernel_rfl))
        have e : mo1 LT5 A C B D = (.normal, mtT A C (IntKind.i64.wrap (1 + 1)), mtS B D fr15) := by kernel_rfl
        rw [e, show IntKind.i64.wrap (1 + 1) = 2 from IntWalk.i64_in _ (by omega)] at this
        exact this
      exact At.step s0 (At.step s1 (At.leave s2 (by simp)))
theorem meet_calls (a b c d : P2) : CallsP Try.prog 69 [ptP a, ptP b, ptP c, ptP d] (bP (meetB a b c d)) := by
  have hl := mo_loop (nearP a) (nearP c) (nearP b) (nearP d)
  unfold meetB
  cases h : leP (nearP a) (nearP b) && leP (nearP a) (nearP d) && (leP (nearP c) (nearP b) && leP (nearP c) (nearP d)) with
  | true =>
    rw [h] at hl
    exact mtA_calls LT5 a b c d (near_gT a) (near_gT c) (near_gT b) (near_gT d) (At.use (at_more hl (m := 201) (by omega)) (by rfl) (by kernel_rfl))
  | false =>
    rw [h] at hl
    exact mtB_calls LT5 a b c d (near_gT a) (near_gT c) (near_gT b) (near_gT d) (At.use (at_more hl (m := 201) (by omega)) (by rfl) (by kernel_rfl))
/-! seg.Shared, line.end -/
def sharedV (a b c d : P2) : PVal := .tup [ptP (sharedP a b c d).1, bP (sharedP a b c d).2]
theorem shared_calls (a b c d : P2) : CallsP Try.prog 70 [ptP a, ptP b, ptP c, ptP d] (sharedV a b c d) := by
  have key := shA_calls LT5 a b c d (relate a b c d) (rel_gT a b c d) (fun _ => near_gT a) (fun _ => near_gT b) (fun _ => near_gT c) (fun _ _ => near_gT d)
  have e : shA LT5 a b c d (relate a b c d) = sharedV a b c d := by
    unfold shA sharedV sharedP
    cases relate a b c d != 1 <;> cases eqB (nearP a) (nearP c) <;> cases eqB (nearP a) (nearP d) <;> rfl
  rw [e] at key
  exact key
theorem shared9_calls (a b c d : P2) : CallsP Try.prog 72 [ptP a, ptP b, ptP c, ptP d] (sharedV a b c d) := by
  have key := shB_calls LT5 a b c d (relate a b c d) (rel9_gT a b c d) (fun _ => clean_gT a) (fun _ => clean_gT b) (fun _ => clean_gT c) (fun _ => clean_gT d)
  have e : shB LT5 a b c d (relate a b c d) = sharedV a b c d := by
    unfold shB sharedV sharedP
    cases relate a b c d != 1 <;> cases eqB (nearP a) (nearP c) <;> cases eqB (nearP a) (nearP d) <;> rfl
  rw [e] at key
  exact key
theorem end_calls (ps : List P2) (p : P2) (h1 : 1 ≤ ps.length) (h200 : ps.length ≤ 200) : CallsP Try.prog 71 [slP ps, ptP p] (bP (endL ps p)) := by
  have hw : IntKind.i64.wrap ((ps.length : Int) - 1) = ((ps.length - 1 : Nat) : Int) := by rw [IntWalk.i64_in _ (by omega)]; omega
  have key := enA_calls LT5 ps p ⟨by omega, by omega⟩ (fun _ => ⟨by rw [hw]; omega, by rw [hw]; omega⟩)
  have e : enA LT5 ps p = bP (endL ps p) := by
    unfold enA endL
    rw [hw, Int.toNat_natCast]
    cases eqB p (pAt ps 0) <;> rfl
  rw [e] at key
  exact key
theorem end12_calls (ps : List P2) (p : P2) (h1 : 1 ≤ ps.length) (h200 : ps.length ≤ 200) : CallsP Try.prog 73 [slP ps, ptP p] (bP (endL ps p)) := by
  have hw : IntKind.i64.wrap ((ps.length : Int) - 1) = ((ps.length - 1 : Nat) : Int) := by rw [IntWalk.i64_in _ (by omega)]; omega
  have key := enB_calls LT5 ps p ⟨by omega, by omega⟩ (fun _ => ⟨by rw [hw]; omega, by rw [hw]; omega⟩)
  have e : enB LT5 ps p = bP (endL ps p) := by
    unfold enB endL
    rw [hw, Int.toNat_natCast, eqB_comm (pAt ps 0), eqB_comm (pAt ps (ps.length - 1))]
    cases eqB p (pAt ps 0) <;> rfl
  rw [e] at key
  exact key
def fEnd (ps : List P2) (p : P2) : Option PVal := if 1 ≤ ps.length ∧ ps.length ≤ 200 then some (bP (endL ps p)) else none
theorem fEnd_of {ps : List P2} (p : P2) (h1 : 1 ≤ ps.length) (h2 : ps.length ≤ 200) : fEnd ps p = some (bP (endL ps p)) := if_pos ⟨h1, h2⟩
theorem fEnd_some {ps : List P2} {p : P2} {r : PVal} (h : fEnd ps p = some r) : (1 ≤ ps.length ∧ ps.length ≤ 200) ∧ r = bP (endL ps p) := by
  unfold fEnd at h
  by_cases hl : 1 ≤ ps.length ∧ ps.length ≤ 200
  · rw [if_pos hl, Option.some.injEq] at h
    exact ⟨hl, h.symm⟩
  · rw [if_neg hl] at h
    cases h
noncomputable def LP1 : Lib Try.prog := LT5.add 68 (gSo fun ps => lim ps (.tup [ptP (boxK ps ps.length).1, ptP (boxK ps ps.length).2, bP (decide ((ps.length : Int) > 0))])) (Vm.enters_of named_prog Try.func68 (by kernel_rfl)) (gSo_spec fun ps r h => by obtain ⟨h1, rfl⟩ := lim_some h; exact box_calls ps h1)
noncomputable def LP2 : Lib Try.prog := LP1.add 69 (g4 fun a b c d => bP (meetB a b c d)) (Vm.enters_of named_prog Try.func69 (by kernel_rfl)) (g4_spec meet_calls)
noncomputable def LP3 : Lib Try.prog := LP2.add 70 (g4 sharedV) (Vm.enters_of named_prog Try.func70 (by kernel_rfl)) (g4_spec shared_calls)
noncomputable def LP4 : Lib Try.prog := LP3.add 72 (g4 sharedV) (Vm.enters_of named_prog Try.func72 (by kernel_rfl)) (g4_spec shared9_calls)
noncomputable def LP5 : Lib Try.prog := LP4.add 71 (gSPo fEnd) (Vm.enters_of named_prog Try.func71 (by kernel_rfl)) (gSPo_spec fun ps p r h => by obtain ⟨h1, rfl⟩ := fEnd_some h; exact end_calls ps p h1.1 h1.2)
noncomputable def LP6 : Lib Try.prog := LP5.add 73 (gSPo fEnd) (Vm.enters_of named_prog Try.func73 (by kernel_rfl)) (gSPo_spec fun ps p r h => by obtain ⟨h1, rfl⟩ := fEnd_some h; exact end12_calls ps p h1.1 h1.2)
end Go.Proofs.Ytmopbegmdegooaa
/- line.Apart, and the document's: what they answer. -/
namespace Go.Proofs.Ytmopbegmdegooaa
open Go Vm M
set_option linter.unusedVariables false
set_option linter.unusedSimpArgs false

/-! line.Apart -/
noncomputable abbrev bodyAp : List AVal → List AObj → Res := evalC (cf LP6) (evalF (cf LP6) 201) ((lives.lookup 45).getD []) 0 0 201 (loopAt Try.f45 0)
noncomputable abbrev bodyAq : List AVal → List AObj → Res := evalC (cf LP6) (evalF (cf LP6) 201) ((lives.lookup 45).getD []) 0 0 201 (loopAt Try.f45 1)
theorem apl_in (a b : List P2) (ha : 1 ≤ a.length) (hb : 1 ≤ b.length) (ha2 : a.length ≤ 200) (hb2 : b.length ≤ 200) {i k : Nat} (hi : i < a.length - 1) (hk : k < b.length - 1) : roundC 0 bodyAq (apU a b i k) [] = some (bif !goodP a b i k then (.exit 0, apX, []) else (.normal, apU a b i (k + 1 : Nat), [])) := by
  have h := ap2_eq LP6 a b i k (relate (pAt a i) (pAt a (i + 1)) (pAt b k) (pAt b (k + 1))) (sharedP (pAt a i) (pAt a (i + 1)) (pAt b k) (pAt b (k + 1))).1 (endL a (sharedP (pAt a i) (pAt a (i + 1)) (pAt b k) (pAt b (k + 1))).1) (endL b (sharedP (pAt a i) (pAt a (i + 1)) (pAt b k) (pAt b (k + 1))).1) (sharedP (pAt a i) (pAt a (i + 1)) (pAt b k) (pAt b (k + 1))).2
    (fun _ => ⟨by omega, by omega⟩) (fun _ => ⟨by rw [wrS (by omega)]; omega, by rw [wrS (by omega)]; omega⟩) (fun _ => ⟨by omega, by omega⟩) (fun _ => ⟨by rw [wrS (by omega)]; omega, by rw [wrS (by omega)]; omega⟩)
    (fun _ => by rw [wrS (by omega), wrS (by omega)]; simp only [Int.toNat_natCast]; exact pure_given (g := g4 fun a b c d => iP (relate a b c d)) (by kernel_rfl) rfl)
    (fun _ _ _ => by rw [wrS (by omega), wrS (by omega)]; simp only [Int.toNat_natCast]; exact pure_given (g := g4 sharedV) (by kernel_rfl) rfl)
    (fun _ _ _ => pure_given (g := gSPo fEnd) (by kernel_rfl) (by rw [gSPo_slP]; exact fEnd_of _ ha ha2))
    (fun _ _ _ _ => pure_given (g := gSPo fEnd) (by kernel_rfl) (by rw [gSPo_slP]; exact fEnd_of _ hb hb2))
  rw [show bodyAq = _ from rfl]
  rw [h]
  unfold ap2 goodP goodV
  rw [wrS (by omega), decide_eq_true (by omega : ((k + 1 : Nat) : Int) < (b.length : Int))]
  generalize relate (pAt a i) (pAt a (i + 1)) (pAt b k) (pAt b (k + 1)) = v
  generalize (sharedP (pAt a i) (pAt a (i + 1)) (pAt b k) (pAt b (k + 1))).1 = s
  cases v == 0 <;> cases v == 1 <;> cases endL a s <;> cases endL b s <;> rfl
theorem apl_inEnd (a b : List P2) (ha : 1 ≤ a.length) (hb : 1 ≤ b.length) (ha2 : a.length ≤ 200) (hb2 : b.length ≤ 200) (i : Nat) : roundC 0 bodyAq (apU a b i (b.length - 1 : Nat)) [] = some (.exit 2, apV a b i (b.length - 1 : Nat), []) := by
  have hf : decide (IntKind.i64.wrap (((b.length - 1 : Nat) : Int) + 1) < (b.length : Int)) = false := by rw [wrS (by omega)]; exact decide_eq_false (by omega)
  have h := ap2_eq LP6 a b i (b.length - 1 : Nat) 0 (0, 0) true true true (fun h => by rw [hf] at h; cases h) (fun h => by rw [hf] at h; cases h) (fun h => by rw [hf] at h; cases h) (fun h => by rw [hf] at h; cases h) (fun h => by rw [hf] at h; cases h) (fun h => by rw [hf] at h; cases h) (fun h => by rw [hf] at h; cases h) (fun h => by rw [hf] at h; cases h)
  rw [show bodyAq = _ from rfl]
  rw [h]
  unfold ap2
  rw [hf]
  rfl
theorem apl_inLoop (a b : List P2) (ha : 1 ≤ a.length) (hb : 1 ≤ b.length) (ha2 : a.length ≤ 200) (hb2 : b.length ≤ 200) {i : Nat} (hi : i < a.length - 1) : At 0 bodyAq (b.length - 1 + 1) (apU a b i (0 : Nat)) [] (some (match firstAt (fun k => !goodP a b i k) (b.length - 1) 0 with | some _ => (.exit 0, apX, []) | none => (.exit 2, apV a b i (b.length - 1 : Nat), []))) := by
  refine At.search (T := fun k => apU a b i k) (S := fun _ => []) (n := b.length - 1) (c := fun k => !goodP a b i k) (X := fun _ => (.exit 0, apX, [])) (E := (.exit 2, apV a b i (b.length - 1 : Nat), [])) ?_ ?_ ?_ (b.length - 1) 0 (by omega)
  · intro k hk hc
    rw [apl_in a b ha hb ha2 hb2 hi hk, hc]
    rfl
  · intro k hk hc
    exact ⟨by rw [apl_in a b ha hb ha2 hb2 hi hk, hc]; rfl, by simp⟩
  · exact ⟨apl_inEnd a b ha hb ha2 hb2 i, by simp⟩
theorem apl_out (a b : List P2) (ha : 1 ≤ a.length) (hb : 1 ≤ b.length) (ha2 : a.length ≤ 200) (hb2 : b.length ≤ 200) {i : Nat} (hi : i < a.length - 1) : roundC 0 bodyAp (apT a b i) [] = some (bif badRow a b i then (.exit 0, apX, []) else (.normal, apT a b (i + 1 : Nat), [])) := by
  have hin := apl_inLoop a b ha hb ha2 hb2 hi
  have hd : decide (IntKind.i64.wrap ((i : Int) + 1) < (a.length : Int)) = true := by rw [wrS (by omega)]; exact decide_eq_true (by omega)
  unfold badRow
  cases hf : firstAt (fun k => !goodP a b i k) (b.length - 1) 0 with
  | some j =>
    rw [hf] at hin
    have h := ap1x_eq LP6 a b i (fun _ => At.use (at_more hin (m := 201) (by omega)) (by rfl) (by kernel_rfl))
    rw [show bodyAp = _ from rfl]
    rw [h]
    unfold ap1x
    rw [hd]
    rfl
  | none =>
    rw [hf] at hin
    have h := ap1_eq LP6 a b i (b.length - 1 : Nat) (fun _ => At.use (at_more hin (m := 201) (by omega)) (by rfl) (by kernel_rfl))
    rw [show bodyAp = _ from rfl]
    rw [h]
    unfold ap1
    rw [hd, wrS (by omega)]
    rfl
theorem apl_outLoop (a b : List P2) (ha : 1 ≤ a.length) (hb : 1 ≤ b.length) (ha2 : a.length ≤ 200) (hb2 : b.length ≤ 200) : At 0 bodyAp (a.length - 1 + 1) (apT a b (0 : Nat)) [] (some (match firstAt (badRow a b) (a.length - 1) 0 with | some _ => (.exit 0, apX, []) | none => (.exit 0, apE a b (a.length - 1 : Nat), []))) := by
  refine At.search (T := fun i => apT a b i) (S := fun _ => []) (n := a.length - 1) (c := badRow a b) (X := fun _ => (.exit 0, apX, [])) (E := (.exit 0, apE a b (a.length - 1 : Nat), [])) ?_ ?_ ?_ (a.length - 1) 0 (by omega)
  · intro k hk hc
    rw [apl_out a b ha hb ha2 hb2 hk, hc]
    rfl
  · intro k hk hc
    exact ⟨by rw [apl_out a b ha hb ha2 hb2 hk, hc]; rfl, by simp⟩
  · refine ⟨?_, by simp⟩
    have hf : decide (IntKind.i64.wrap (((a.length - 1 : Nat) : Int) + 1) < (a.length : Int)) = false := by rw [wrS (by omega)]; exact decide_eq_false (by omega)
    have h := ap1_eq LP6 a b (a.length - 1 : Nat) 0 (fun h => by rw [hf] at h; cases h)
    rw [show bodyAp = _ from rfl]
    rw [h]
    unfold ap1
    rw [hf]
    rfl

/-! terrierref12.Apart -/
noncomputable abbrev bodyAc : List AVal → List AObj → Res := evalC (cf LP6) (evalF (cf LP6) 201) ((lives.lookup 46).getD []) 0 0 201 (loopAt Try.f46 0)
noncomputable abbrev bodyAd : List AVal → List AObj → Res := evalC (cf LP6) (evalF (cf LP6) 201) ((lives.lookup 46).getD []) 0 0 201 (loopAt Try.f46 1)
theorem acl_in (a b : List P2) (ha : 1 ≤ a.length) (hb : 1 ≤ b.length) (ha2 : a.length ≤ 200) (hb2 : b.length ≤ 200) {i k : Nat} (hi : i < a.length - 1) (hk : k < b.length - 1) : roundC 0 bodyAd (acU a b i k) [] = some (bif !goodP a b i k then (.ret, acX, []) else (.normal, acU a b i (k + 1 : Nat), [])) := by
  have h := ac2_eq LP6 a b i k (relate (pAt a i) (pAt a (i + 1)) (pAt b k) (pAt b (k + 1))) (sharedP (pAt a i) (pAt a (i + 1)) (pAt b k) (pAt b (k + 1))).1 (endL a (sharedP (pAt a i) (pAt a (i + 1)) (pAt b k) (pAt b (k + 1))).1) (endL b (sharedP (pAt a i) (pAt a (i + 1)) (pAt b k) (pAt b (k + 1))).1) (sharedP (pAt a i) (pAt a (i + 1)) (pAt b k) (pAt b (k + 1))).2
    (fun _ => ⟨by omega, by omega⟩) (fun _ => ⟨by rw [wrS (by omega)]; omega, by rw [wrS (by omega)]; omega⟩) (fun _ => ⟨by omega, by omega⟩) (fun _ => ⟨by rw [wrS (by omega)]; omega, by rw [wrS (by omega)]; omega⟩)
    (fun _ => by rw [wrS (by omega), wrS (by omega)]; simp only [Int.toNat_natCast]; exact pure_given (g := g4 fun a b c d => iP (relate a b c d)) (by kernel_rfl) rfl)
    (fun _ _ _ => by rw [wrS (by omega), wrS (by omega)]; simp only [Int.toNat_natCast]; exact pure_given (g := g4 sharedV) (by kernel_rfl) rfl)
    (fun _ _ _ => pure_given (g := gSPo fEnd) (by kernel_rfl) (by rw [gSPo_slP]; exact fEnd_of _ ha ha2))
    (fun _ _ _ _ => pure_given (g := gSPo fEnd) (by kernel_rfl) (by rw [gSPo_slP]; exact fEnd_of _ hb hb2))
  rw [show bodyAd = _ from rfl]
  rw [h]
  unfold ac2 goodP goodV
  rw [wrS (by omega), decide_eq_true (by omega : ((k + 1 : Nat) : Int) < (b.length : Int))]
  generalize relate (pAt a i) (pAt a (i + 1)) (pAt b k) (pAt b (k + 1)) = v
  generalize (sharedP (pAt a i) (pAt a (i + 1)) (pAt b k) (pAt b (k + 1))).1 = s
  cases v == 0 <;> cases v == 1 <;> cases endL a s <;> cases endL b s <;> rfl
theorem acl_inEnd (a b : List P2) (ha : 1 ≤ a.length) (hb : 1 ≤ b.length) (ha2 : a.length ≤ 200) (hb2 : b.length ≤ 200) (i : Nat) : roundC 0 bodyAd (acU a b i (b.length - 1 : Nat)) [] = some (.exit 2, acV a b i (b.length - 1 : Nat), []) := by
  have hf : decide (IntKind.i64.wrap (((b.length - 1 : Nat) : Int) + 1) < (b.length : Int)) = false := by rw [wrS (by omega)]; exact decide_eq_false (by omega)
  have h := ac2_eq LP6 a b i (b.length - 1 : Nat) 0 (0, 0) true true true (fun h => by rw [hf] at h; cases h) (fun h => by rw [hf] at h; cases h) (fun h => by rw [hf] at h; cases h) (fun h => by rw [hf] at h; cases h) (fun h => by rw [hf] at h; cases h) (fun h => by rw [hf] at h; cases h) (fun h => by rw [hf] at h; cases h) (fun h => by rw [hf] at h; cases h)
  rw [show bodyAd = _ from rfl]
  rw [h]
  unfold ac2
  rw [hf]
  rfl
theorem acl_inLoop (a b : List P2) (ha : 1 ≤ a.length) (hb : 1 ≤ b.length) (ha2 : a.length ≤ 200) (hb2 : b.length ≤ 200) {i : Nat} (hi : i < a.length - 1) : At 0 bodyAd (b.length - 1 + 1) (acU a b i (0 : Nat)) [] (some (match firstAt (fun k => !goodP a b i k) (b.length - 1) 0 with | some _ => (.ret, acX, []) | none => (.exit 2, acV a b i (b.length - 1 : Nat), []))) := by
  refine At.search (T := fun k => acU a b i k) (S := fun _ => []) (n := b.length - 1) (c := fun k => !goodP a b i k) (X := fun _ => (.ret, acX, [])) (E := (.exit 2, acV a b i (b.length - 1 : Nat), [])) ?_ ?_ ?_ (b.length - 1) 0 (by omega)
  · intro k hk hc
    rw [acl_in a b ha hb ha2 hb2 hi hk, hc]
    rfl
  · intro k hk hc
    exact ⟨by rw [acl_in a b ha hb ha2 hb2 hi hk, hc]; rfl, by simp⟩
  · exact ⟨acl_inEnd a b ha hb ha2 hb2 i, by simp⟩
theorem acl_out (a b : List P2) (ha : 1 ≤ a.length) (hb : 1 ≤ b.length) (ha2 : a.length ≤ 200) (hb2 : b.length ≤ 200) {i : Nat} (hi : i < a.length - 1) : roundC 0 bodyAc (acT a b i) [] = some (bif badRow a b i then (.ret, acX, []) else (.normal, acT a b (i + 1 : Nat), [])) := by
  have hin := acl_inLoop a b ha hb ha2 hb2 hi
  have hd : decide (IntKind.i64.wrap ((i : Int) + 1) < (a.length : Int)) = true := by rw [wrS (by omega)]; exact decide_eq_true (by omega)
  unfold badRow
  cases hf : firstAt (fun k => !goodP a b i k) (b.length - 1) 0 with
  | some j =>
    rw [hf] at hin
    have h := ac1x_eq LP6 a b i (fun _ => At.use (at_more hin (m := 201) (by omega)) (by rfl) (by kernel_rfl))
    rw [show bodyAc = _ from rfl]
    rw [h]
    unfold ac1x
    rw [hd]
    rfl
  | none =>
    rw [hf] at hin
    have h := ac1_eq LP6 a b i (b.length - 1 : Nat) (fun _ => At.use (at_more hin (m := 201) (by omega)) (by rfl) (by kernel_rfl))
    rw [show bodyAc = _ from rfl]
    rw [h]
    unfold ac1
    rw [hd, wrS (by omega)]
    rfl
theorem acl_outLoop (a b : List P2) (ha : 1 ≤ a.length) (hb : 1 ≤ b.length) (ha2 : a.length ≤ 200) (hb2 : b.length ≤ 200) : At 0 bodyAc (a.length - 1 + 1) (acT a b (0 : Nat)) [] (some (match firstAt (badRow a b) (a.length - 1) 0 with | some _ => (.ret, acX, []) | none => (.exit 0, acE a b (a.length - 1 : Nat), []))) := by
  refine At.search (T := fun i => acT a b i) (S := fun _ => []) (n := a.length - 1) (c := badRow a b) (X := fun _ => (.ret, acX, [])) (E := (.exit 0, acE a b (a.length - 1 : Nat), [])) ?_ ?_ ?_ (a.length - 1) 0 (by omega)
  · intro k hk hc
    rw [acl_out a b ha hb ha2 hb2 hk, hc]
    rfl
  · intro k hk hc
    exact ⟨by rw [acl_out a b ha hb ha2 hb2 hk, hc]; rfl, by simp⟩
  · refine ⟨?_, by simp⟩
    have hf : decide (IntKind.i64.wrap (((a.length - 1 : Nat) : Int) + 1) < (a.length : Int)) = false := by rw [wrS (by omega)]; exact decide_eq_false (by omega)
    have h := ac1_eq LP6 a b (a.length - 1 : Nat) 0 (fun h => by rw [hf] at h; cases h)
    rw [show bodyAc = _ from rfl]
    rw [h]
    unfold ac1
    rw [hf]
    rfl

theorem box_gP (ps : List P2) (h1 : 1 ≤ ps.length) (h200 : ps.length ≤ 200) {ev : Ev} : pureCall (cf LP6) ev 68 [slP ps] = some (.tup [ptP (boxK ps ps.length).1, ptP (boxK ps ps.length).2, bP true]) := by
  have := pure_given (c := cf LP6) (ev := ev) (F := 68) (ps := [slP ps]) (g := gSo fun ps => lim ps (.tup [ptP (boxK ps ps.length).1, ptP (boxK ps ps.length).2, bP (decide ((ps.length : Int) > 0))])) (by kernel_rfl) (by rw [gSo_slP, lim_of h200])
  rw [decide_eq_true (by omega : (ps.length : Int) > 0)] at this
  exact this
theorem apart_calls (a b : List P2) (ha : 1 ≤ a.length) (hb : 1 ≤ b.length) (ha2 : a.length ≤ 200) (hb2 : b.length ≤ 200) : CallsP Try.prog 45 [slP a, slP b] (bP (apartB a b)) := by
  have gm : ∀ {ev : Ev}, pureCall (cf LP6) ev 69 [ptP (boxK a a.length).1, ptP (boxK a a.length).2, ptP (boxK b b.length).1, ptP (boxK b b.length).2] = some (bP (meetB (boxK a a.length).1 (boxK a a.length).2 (boxK b b.length).1 (boxK b b.length).2)) := pure_given (g := g4 fun a b c d => bP (meetB a b c d)) (by kernel_rfl) rfl
  cases hm : meetB (boxK a a.length).1 (boxK a a.length).2 (boxK b b.length).1 (boxK b b.length).2 with
  | false =>
    rw [apart_box hm]
    exact apA_calls LP6 a b (boxK a a.length).1 (boxK a a.length).2 (boxK b b.length).1 (boxK b b.length).2 _ (by rw [hm]; rfl) (box_gP a ha ha2) (box_gP b hb hb2) gm
  | true =>
    have hl := apl_outLoop a b ha hb ha2 hb2
    unfold apartB
    cases hf : firstAt (badRow a b) (a.length - 1) 0 with
    | some j =>
      rw [hf] at hl
      exact apC_calls LP6 a b (boxK a a.length).1 (boxK a a.length).2 (boxK b b.length).1 (boxK b b.length).2 _ (by rw [hm]; rfl) (box_gP a ha ha2) (box_gP b hb hb2) gm (At.use (at_more hl (m := 201) (by omega)) (by rfl) (by kernel_rfl))
    | none =>
      rw [hf] at hl
      exact apB_calls LP6 a b (a.length - 1 : Nat) (boxK a a.length).1 (boxK a a.length).2 (boxK b b.length).1 (boxK b b.length).2 _ (by rw [hm]; rfl) (box_gP a ha ha2) (box_gP b hb hb2) gm (At.use (at_more hl (m := 201) (by omega)) (by rfl) (by kernel_rfl))
theorem apart12_calls (a b : List P2) (ha : 1 ≤ a.length) (hb : 1 ≤ b.length) (ha2 : a.length ≤ 200) (hb2 : b.length ≤ 200) : CallsP Try.prog 46 [slP a, slP b] (bP (apartB a b)) := by
  have hl := acl_outLoop a b ha hb ha2 hb2
  unfold apartB
  cases hf : firstAt (badRow a b) (a.length - 1) 0 with
  | some j =>
    rw [hf] at hl
    exact acB_calls LP6 a b (At.use (at_more hl (m := 201) (by omega)) (by rfl) (by kernel_rfl))
  | none =>
    rw [hf] at hl
    exact acA_calls LP6 a b (a.length - 1 : Nat) (At.use (at_more hl (m := 201) (by omega)) (by rfl) (by kernel_rfl))
def fApart (a b : List P2) : Option PVal := if (1 ≤ a.length ∧ a.length ≤ 200) ∧ (1 ≤ b.length ∧ b.length ≤ 200) then some (bP (apartB a b)) else none
theorem fApart_some {a b : List P2} {r : PVal} (h : fApart a b = some r) : ((1 ≤ a.length ∧ a.length ≤ 200) ∧ (1 ≤ b.length ∧ b.length ≤ 200)) ∧ r = bP (apartB a b) := by
  unfold fApart at h
  by_cases hl : (1 ≤ a.length ∧ a.length ≤ 200) ∧ (1 ≤ b.length ∧ b.length ≤ 200)
  · rw [if_pos hl, Option.some.injEq] at h
    exact ⟨hl, h.symm⟩
  · rw [if_neg hl] at h
    cases h
noncomputable def LP7 : Lib Try.prog := LP6.add 45 (gSSo fApart) (Vm.enters_of named_prog Try.func45 (by kernel_rfl)) (gSSo_spec fun a b r h => by obtain ⟨h1, rfl⟩ := fApart_some h; exact apart_calls a b h1.1.1 h1.2.1 h1.1.2 h1.2.2)
noncomputable def LP8 : Lib Try.prog := LP7.add 46 (gSSo fApart) (Vm.enters_of named_prog Try.func46 (by kernel_rfl)) (gSSo_spec fun a b r h => by obtain ⟨h1, rfl⟩ := fApart_some h; exact apart12_calls a b h1.1.1 h1.2.1 h1.1.2 h1.2.2)
end Go.Proofs.Ytmopbegmdegooaa
/- LineApart: its paths. -/
namespace Go.Proofs.Ytmopbegmdegooaa
open Go Vm M
set_option linter.unusedVariables false
set_option linter.unusedSimpArgs false
def laA (L : Lib Try.prog) (a : List P2) (b : List P2) (ar : List P2) (ka : Bool) (kb : Bool) (k : Bool) : PVal :=
  (bif !ka then PVal.v (Value.bool true) else (bif !kb then PVal.v (Value.bool true) else PVal.v (Value.bool true)))
theorem laA_calls (L : Lib Try.prog) (a : List P2) (b : List P2) (ar : List P2) (ka : Bool) (kb : Bool) (k : Bool) (p4 : (k == k) = true) (p3 : (k == k) = true) (p2 : (k == k) = true) (e0 : pureCall (cf L) (evalF (cf L) 201) 24 [slP a] = some (PVal.v (Value.bool ka))) (e1 : pureCall (cf L) (evalF (cf L) 201) 32 [] = some (PVal.v (Value.bool true))) (e2 : (!ka) = false → pureCall (cf L) (evalF (cf L) 201) 24 [slP b] = some (PVal.v (Value.bool kb))) (e3 : (!ka) = false → (!kb) = false → pureCall (cf L) (evalF (cf L) 201) 45 [slP a, slP b] = some (PVal.v (Value.bool k))) (e4 : (!ka) = false → (!kb) = false → pureCall (cf L) (evalF (cf L) 201) 46 [slP a, slP b] = some (PVal.v (Value.bool k))) (e5 : (!ka) = false → (!kb) = false → pureCall (cf L) (evalF (cf L) 201) 45 [slP b, slP a] = some (PVal.v (Value.bool k))) (e6 : (!ka) = false → (!kb) = false → pureCall (cf L) (evalF (cf L) 201) 42 [slP a] = some (slP ar)) (e7 : (!ka) = false → (!kb) = false → pureCall (cf L) (evalF (cf L) 201) 45 [slP ar, slP b] = some (PVal.v (Value.bool k))) : CallsP Try.prog 17 [slP a, slP b] (laA L a b ar ka kb k) := by
  have key := fun (bs : List Bool) (r : PVal) (ob : List Prop) (h : callP (cf L) (evalF (cf L) 201) 201 [(1, 1, Hint.pcall (bP ka)), (1, 5, Hint.pcall (bP kb)), (2, 0, Hint.pcall (bP true)), (3, 2, Hint.pcall (bP k)), (4, 3, Hint.pcall (bP k)), (4, 8, Hint.pcall (bP k)), (4, 14, Hint.pcall (slP ar)), (4, 16, Hint.pcall (bP k)), (4, 21, Hint.pcall (bP true))] 17 [slP a, slP b] bs [] (none) = .ok (r, ob)) (hp : allOb ob) => callP_ok (cf_ok L) h hp
  unfold laA
  exact bif_case (P := fun r => CallsP Try.prog 17 [slP a, slP b] r)
    (fun h0 => key [true, true] (PVal.v (Value.bool true)) _ (by kernel_rfl) (allOb_cons (by exact e1) (allOb_cons lit_t (allOb_cons h0 (allOb_cons (by exact e0) allOb_nil)))))
    (fun h0 => bif_case (P := fun r => CallsP Try.prog 17 [slP a, slP b] r)
     (fun h1 => key [false, true] (PVal.v (Value.bool true)) _ (by kernel_rfl) (allOb_cons (by exact e1) (allOb_cons h1 (allOb_cons (by exact (e2 h0)) (allOb_cons h0 (allOb_cons (by exact e0) allOb_nil))))))
     (fun h1 => key [false, false, true, true, true] (PVal.v (Value.bool true)) _ (by kernel_rfl) (allOb_cons (by exact e1) (allOb_cons p4 (allOb_cons (by exact (e7 h0 h1)) (allOb_cons (by exact (e6 h0 h1)) (allOb_cons p4 (allOb_cons (by exact (e5 h0 h1)) (allOb_cons p4 (allOb_cons (by exact (e4 h0 h1)) (allOb_cons (by exact (e3 h0 h1)) (allOb_cons h1 (allOb_cons (by exact (e2 h0)) (allOb_cons h0 (allOb_cons (by exact e0) allOb_nil)))))))))))))))
end Go.Proofs.Ytmopbegmdegooaa
/- The law LineApart: what its code answers is true. -/
namespace Go.Proofs.Ytmopbegmdegooaa
open Go Vm M
set_option linter.unusedVariables false
set_option linter.unusedSimpArgs false
section
variable {ev : Ev} {a b : List P2}
theorem p_ok12 : pureCall (cf LP8) ev 24 [slP a] = some (bP (okB a)) := pure_given (g := gSo fun ps => some (bP (okB ps))) (by kernel_rfl) (by rw [gSo_slP])
theorem p_awake : pureCall (cf LP8) ev 32 [] = some (bP true) := pure_given (g := fun ps => match ps with | [] => some (bP true) | _ => none) (by kernel_rfl) rfl
theorem p_rev12 (h : a.length ≤ 200) : pureCall (cf LP8) ev 42 [slP a] = some (slP a.reverse) := pure_given (g := gSo fun ps => lim ps (slP ps.reverse)) (by kernel_rfl) (by rw [gSo_slP, lim_of h])
theorem fApart_of (h1 : 1 ≤ a.length) (h2 : a.length ≤ 200) (h3 : 1 ≤ b.length) (h4 : b.length ≤ 200) : fApart a b = some (bP (apartB a b)) := if_pos ⟨⟨h1, h2⟩, h3, h4⟩
theorem p_apart (h1 : 1 ≤ a.length) (h2 : a.length ≤ 200) (h3 : 1 ≤ b.length) (h4 : b.length ≤ 200) : pureCall (cf LP8) ev 45 [slP a, slP b] = some (bP (apartB a b)) := pure_given (g := gSSo fApart) (by kernel_rfl) (by rw [gSSo_slP]; exact fApart_of h1 h2 h3 h4)
theorem p_apart12 (h1 : 1 ≤ a.length) (h2 : a.length ≤ 200) (h3 : 1 ≤ b.length) (h4 : b.length ≤ 200) : pureCall (cf LP8) ev 46 [slP a, slP b] = some (bP (apartB a b)) := pure_given (g := gSSo fApart) (by kernel_rfl) (by rw [gSSo_slP]; exact fApart_of h1 h2 h3 h4)
end
theorem lineApart_calls (a b : List P2) : CallsP Try.prog 17 [slP a, slP b] (bP true) := by
  have hs : ∀ {P : Prop}, (1 ≤ a.length → a.length ≤ 200 → 1 ≤ b.length → b.length ≤ 200 → P) → (!okB a) = false → (!okB b) = false → P := fun f h1 h2 => by
    rw [Bool.not_eq_false'] at h1 h2
    obtain ⟨a1, a2, _, _⟩ := okB_parts h1
    obtain ⟨b1, b2, _, _⟩ := okB_parts h2
    exact f (by omega) (by omega) (by omega) (by omega)
  have key := laA_calls LP8 a b a.reverse (okB a) (okB b) (apartB a b) (by cases apartB a b <;> rfl) (by cases apartB a b <;> rfl) (by cases apartB a b <;> rfl) p_ok12 p_awake (fun _ => p_ok12)
    (hs fun h1 h2 h3 h4 => p_apart h1 h2 h3 h4) (hs fun h1 h2 h3 h4 => p_apart12 h1 h2 h3 h4) (hs fun h1 h2 h3 h4 => by rw [← apart_comm]; exact p_apart h3 h4 h1 h2)
    (hs fun h1 h2 h3 h4 => p_rev12 h2) (hs fun h1 h2 h3 h4 => by rw [← apart_rev]; exact p_apart (by rw [List.length_reverse]; exact h1) (by rw [List.length_reverse]; exact h2) h3 h4)
  have e : laA LP8 a b a.reverse (okB a) (okB b) (apartB a b) = bP true := by
    unfold laA
    cases okB a <;> cases okB b <;> rfl
  rw [e] at key
  exact key
end Go.Proofs.Ytmopbegmdegooaa
/- LineApart: the row. Proved: whatever the input, the law answers true and leaves its arguments as they were. -/
namespace Go.Proofs.Ytmopbegmdegooaa
open Go Vm M Go.ChangeShapes Go.WideShapes Go.ChangeAt Go.RowKit
set_option linter.unusedVariables false
set_option maxRecDepth 100000 in
theorem lineApart_lifted (os : Os) (started : os.Started) (H : Type) (enc : TypeId × Value → H) :
    ReturnsInHanded {} Try.checked os 17 .any (Rows.lineApartSpec.pre6 enc Try.prog Try.f17 Rows.lineApartRow.domain false) (Rows.lineApartSpec.post enc Try.prog Try.f17 false true false false) := by
  refine returnsInHanded_of_change_sized (C := Try.checked) own started (by kernel_rfl) Try.func17
    (ChangeSpec.witness6 (enc := enc) (C := Try.checked) false ⟨#[], #[.slice none 0 0, .slice none 0 0], []⟩ 8 (by kernel_rfl) (by kernel_rfl) (by kernel_rfl) (by kernel_rfl)) ?_
  intro W base args ds gs before hval0 hW hcnd hsz0 _
  have hval : ∀ (j : Nat) t v, Try.f17.params[j]? = some t → args[j]? = some v → Value.okWide Try.prog W .any base t v := hval0
  have hW' := hW
  obtain ⟨p, q, hA0, hV, rfl, hfz, hnd⟩ := hW
  have hA : DataW.TrodAll enc Try.prog W 0 (fun _ => true) true Try.f17.params.toList args.toList ds p := hA0
  rw [Try.params17] at hA hval
  obtain ⟨v0, vs0, d0, ds0, p0, q0, hargs, rfl, rfl, h0, r0⟩ := trodAll_cons hA
  obtain ⟨v1, vs1, d1, ds1, p1, q1, rfl, rfl, rfl, h1, r1⟩ := trodAll_cons r0
  obtain ⟨rfl, rfl, rfl⟩ := trodAll_nil r1
  obtain rfl : args = #[v0, v1] := by cases args; simp_all
  obtain ⟨rfl, rfl⟩ := trodVars_none hV
  have lt : ∀ {t : TypeId} {v : Value} {d : DataW H} {ps : List MemPlace}, DataW.Trod enc Try.prog W 0 (fun _ => true) true t v d ps → ∀ x ∈ ps, x.block < W.heap.size := fun h => by obtain ⟨m, hm⟩ := h; exact DataW.trod_lt m _ _ _ hm
  obtain ⟨a0, hr0⟩ := open_sl (hval 0 24 v0 rfl rfl) h0
  obtain ⟨a1, hr1⟩ := open_sl (hval 1 24 v1 rfl rfl) h1
  refine (callsS (lineApart_calls a0 a1) (w := W) (vs := #[v0, v1]) rfl (Rps_cons rfl hr0 (Rps_cons rfl hr1 Rps_nil)) (u := .bool true) (fun L x h => Rp_bool h)).mono fun e W' ⟨he, bel⟩ => ?_
  subst he
  exact ⟨_, rfl, _, _, _, [], _, [], hW', trodAll_mk1 (shut_bool Try.underlying4 _), (trodAll_cons_mk (Below.trod laidOut (by kernel_rfl) (of_decide_eq_true (by kernel_rfl)) h0 bel (lt h0)) (trodAll_cons_mk (Below.trod laidOut (by kernel_rfl) (of_decide_eq_true (by kernel_rfl)) h1 bel (lt h1)) trodAll_mk0)), rfl, bel.frame _, fun h => by cases h⟩
theorem lineApart_over : Rows.lineApartRow.holds Try.pinned (OpenSpec.ofChange Rows.lineApartSpec) :=
  OpenClaim.holds_of_wide 17 Try.f17 rfl rfl rfl rfl rfl rfl rfl ⟨rfl, rfl, rfl, rfl, rfl⟩ rfl rfl rfl rfl rfl (by kernel_rfl) Try.func17 (by kernel_rfl)
    (of_decide_eq_true (by kernel_rfl)) (by unfold Func.isWrapper; first | (rw [if_pos (by decide +kernel)]; kernel_rfl) | (rw [if_neg (by decide +kernel)]; exact ⟨rfl, rfl⟩))
    (fun os started H enc _ => lineApart_lifted os started H enc)
theorem lineApart_holds : Rows.LineApartSaid := lineApart_over
#print axioms lineApart_holds
end Go.Proofs.Ytmopbegmdegooaa
