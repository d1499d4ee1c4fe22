/- LineCuts: the row. Proved: whatever the input, the law answers true and leaves its arguments as they were. -/
import Derived.Test.YtmopbegmdegooaaBnLine8
import Derived.Deep.SlicePairs
import Derived.Test.YtmopbegmdegooaaRows
import Derived.ProofKit
import Derived.OpenShut
import Derived.ChangeOld
import Derived.SizedLaws
import Derived.Carry
import Derived.Lib.SmallJoins
import Derived.RowKit3
import Derived.WideLaws
import Derived.Laws.Rows
/- Arguments that are points, numbers, and slices of points: what the form hands a law, as the abstract machine's values. -/
namespace Go.Proofs.Ytmopbegmdegooaa
open Go Vm M Go.Deep Go.ChangeShapes Go.WideShapes Go.ChangeAt Go.RowKit
set_option linter.unusedVariables false
theorem own : ownKnob Try.prog.godebug = none := by kernel_rfl
theorem laidOut : laidOutB Try.prog = true := by kernel_rfl
section
variable {H : Type} {enc : TypeId × Value → H} {w : World} {base : Nat} {spare : Nat → Bool} {held : Bool}
theorem open_pt {r : Reach} {b0 : Nat} {v : Value} {d : DataW H} {ps : List MemPlace} (hval : Value.okWide Try.prog w r b0 23 v) (h : DataW.Trod enc Try.prog w base spare held 23 v d ps) : ∃ p : P2, v = ptV p := by
  obtain ⟨v0, v1, y0, y1, n, rfl, _, _, h0, h1⟩ := Go.Joins.open_agg2 Try.underlying23 (by kernel_rfl) (by kernel_rfl) hval h
  obtain ⟨x, hx, _, _⟩ := DataW.trod_int Try.underlying2 h0
  obtain ⟨y, hy, _, _⟩ := DataW.trod_int Try.underlying2 h1
  cases hx
  cases hy
  exact ⟨(x, y), rfl⟩
end
/-- A call by values, from no memory of the call's own. -/
theorem CallsP.calls {f : FuncId} {ps : List PVal} {r : PVal} (h : CallsP Try.prog f ps r) {vs : Array Value} {w : World} (hs : vs.size = ps.length) (hr : Rps (fun _ _ => False) ps (fun i y => vs[i]? = some y) 0) {u : Value} (hu : ∀ L x, Rp L r x → x = u) :
    Calls Try.prog f vs w fun e w' => e = .returned u ∧ Below w.heap.size w w' := by
  refine (h (fun _ _ => False) w vs (fun _ _ h => h.elim) hs (Rps_mono (fun _ _ h => h.elim) _ _ _ _ (fun _ _ h => h) hr)).mono ?_
  rintro e w' ⟨v, ok', rfl, hb, _, _, _, hv⟩
  exact ⟨by rw [hu _ _ hv], hb⟩
theorem Rp_pt (L : Addr → Value → Prop) (p : P2) : Rp L (ptP p) (ptV p) := by
  simp only [ptP, ptV, Rp]
  exact ⟨_, rfl, rfl, by simp [Rps, Rp]⟩
theorem Rp_int (L : Addr → Value → Prop) (n : Int) : Rp L (iP n) (.int .i64 n) := by simp [iP, Rp]
theorem Rp_bool {L : Addr → Value → Prop} {b : Bool} {x : Value} (h : Rp L (bP b) x) : x = .bool b := by simpa [bP, Rp] using h
theorem Rps_cons {L : Addr → Value → Prop} {x : PVal} {xs : List PVal} {f : Nat → Value → Prop} {i : Nat} {y : Value} (hy : f i y) (hr : Rp L x y) (h : Rps L xs f (i + 1)) : Rps L (x :: xs) f i := by
  simp only [Rps]
  exact ⟨⟨y, hy, hr⟩, h⟩
theorem Rps_nil {L : Addr → Value → Prop} {f : Nat → Value → Prop} {i : Nat} : Rps L [] f i := by simp [Rps]
theorem list_of {len : Nat} {R : Nat → P2 → Prop} (h : ∀ i, i < len → ∃ p, R i p) : ∃ ps : List P2, ps.length = len ∧ ∀ i p, ps[i]? = some p → R i p := by
  induction len with
  | zero => exact ⟨[], rfl, fun i p hp => by simp at hp⟩
  | succ n ih =>
    obtain ⟨ps, hl, hR⟩ := ih fun i hi => h i (by omega)
    obtain ⟨p, hp⟩ := h n (by omega)
    refine ⟨ps ++ [p], by simp [hl], fun i q hq => ?_⟩
    by_cases hi : i < n
    · rw [List.getElem?_append_left (by omega)] at hq
      exact hR i q hq
    · have := (List.getElem?_eq_some_iff.1 hq).1
      simp only [List.length_append, List.length_singleton] at this
      have e : i = n := by omega
      subst e
      rw [List.getElem?_append_right (by omega), hl, Nat.sub_self] at hq
      simp only [List.getElem?_cons_zero, Option.some.injEq] at hq
      exact hq ▸ hp
theorem rps_flat {L : Addr → Value → Prop} {A : Option Addr} : ∀ (ps : List P2) (k : Nat), (∀ i p, ps[i]? = some p → ∃ a, A = some a ∧ L (a.add (k + i * 2)) (.int .i64 p.1) ∧ L (a.add (k + i * 2 + 1)) (.int .i64 p.2)) → Rps L (flatPP ps) (fun i y => ∃ a, A = some a ∧ L (a.add i) y) k
  | [], k, _ => by simp [flatPP, Rps]
  | p :: ps, k, h => by
    obtain ⟨a, ha, h1, h2⟩ := h 0 p rfl
    simp only [flatPP, Rps, Rp]
    refine ⟨⟨_, ⟨a, ha, by simpa using h1⟩, rfl⟩, ⟨_, ⟨a, ha, by simpa using h2⟩, rfl⟩, rps_flat ps (k + 1 + 1) fun i q hq => ?_⟩
    obtain ⟨b, hb, h3, h4⟩ := h (i + 1) q (by simpa using hq)
    refine ⟨b, hb, ?_, ?_⟩
    · rw [show k + 1 + 1 + i * 2 = k + (i + 1) * 2 by omega]; exact h3
    · rw [show k + 1 + 1 + i * 2 + 1 = k + (i + 1) * 2 + 1 by omega]; exact h4
theorem cell_lt {w : World} {a : Addr} {v : Value} (h : w.cell? a = some v) : a.block < w.heap.size := by
  unfold World.cell? at h
  split at h
  · rename_i hb
    exact (Array.getElem?_eq_some_iff.1 hb).1
  · cases h
section
variable {H : Type} {enc : TypeId × Value → H} {W : World}
theorem open_sl {b0 : Nat} {v : Value} {d : DataW H} {pl : List MemPlace} (hval : Value.okWide Try.prog W .any b0 24 v) (h : DataW.Trod enc Try.prog W 0 (fun _ => true) true 24 v d pl) : ∃ ps : List P2, Rp (sees (fun b _ => b < W.heap.size) W) (slP ps) v := by
  obtain ⟨A, len, cap, rfl⟩ := okWide_slice Try.underlying24 hval
  obtain ⟨fuel, hf⟩ := h
  rcases open_slice_pairs Try.underlying24 Try.underlying23 (by kernel_rfl) rfl rfl (by kernel_rfl) (by kernel_rfl) hf with ⟨hcs, _⟩ | ⟨a, len', cap', m, n, V0, V1, D0, D1, P0, P1, hcs, _, hl, _, hm, _, hall⟩
  · simp [Value.cells] at hcs
    obtain ⟨rfl, rfl, rfl⟩ := hcs
    refine ⟨[], ?_⟩
    simp only [slP, flatPP, Rp, Rps]
    exact ⟨none, 0, rfl, Nat.le_refl _, trivial⟩
  · simp [Value.cells] at hcs
    obtain ⟨rfl, rfl, rfl⟩ := hcs
    simp only [if_true] at hm
    subst hm
    obtain ⟨ps, hps, hR⟩ := list_of (len := len) (R := fun i p => W.cell? (a.add (i * 2)) = some (.int .i64 p.1) ∧ W.cell? (a.add (i * 2 + 1)) = some (.int .i64 p.2)) fun i hi => by
      obtain ⟨c0, c1, t0, t1⟩ := hall i (by omega)
      obtain ⟨x, hx, _, _⟩ := DataW.trod_int Try.underlying2 t0
      obtain ⟨y, hy, _, _⟩ := DataW.trod_int Try.underlying2 t1
      simp only [List.cons.injEq, and_true] at hx hy
      exact ⟨(x, y), by rw [c0, hx], by rw [c1, hy]⟩
    refine ⟨ps, ?_⟩
    simp only [slP, Rp]
    refine ⟨some a, m, by rw [hps], by rw [hps]; exact hl, rps_flat ps 0 fun i p hp => ?_⟩
    obtain ⟨h0, h1⟩ := hR i p hp
    rw [Nat.zero_add]
    exact ⟨a, rfl, ⟨cell_lt h0, h0⟩, cell_lt h1, h1⟩
end
/-- A call by values, of memory that lay there. -/
theorem callsS {f : FuncId} {ps : List PVal} {r : PVal} (h : CallsP Try.prog f ps r) {vs : Array Value} {w : World} (hs : vs.size = ps.length) (hr : Rps (sees (fun b _ => b < w.heap.size) w) ps (fun i y => vs[i]? = some y) 0) {u : Value} (hu : ∀ L x, Rp L r x → x = u) :
    Calls Try.prog f vs w fun e w' => e = .returned u ∧ Below w.heap.size w w' := by
  refine (h (fun b _ => b < w.heap.size) w vs (fun _ _ h => h) hs hr).mono ?_
  rintro e w' ⟨v, ok', rfl, hb, _, _, _, hv⟩
  exact ⟨by rw [hu _ _ hv], hb⟩
end Go.Proofs.Ytmopbegmdegooaa
/- A line parted at its own points, from behind: what the parts are. -/
namespace Go.Proofs.Ytmopbegmdegooaa
open Go Vm M
set_option linter.unusedVariables false
set_option linter.unusedSimpArgs false
theorem pAt_take' {ps : List P2} {k m : Nat} (h : k < m) : pAt (ps.take m) k = pAt ps k := pAt_take h
theorem okB_parts {ps : List P2} (h : okB ps = true) : 2 ≤ ps.length ∧ ps.length ≤ 64 ∧ (∀ i, i < ps.length → okP (pAt ps i) = true) ∧ simpleB ps = true := by
  unfold okB at h
  simp only [Bool.and_eq_true, decide_eq_true_eq, Bool.not_eq_true'] at h
  obtain ⟨⟨⟨h2, h64⟩, hn⟩, hs⟩ := h
  refine ⟨h2, h64, fun i hi => ?_, hs⟩
  cases ho : okP (pAt ps i) with
  | true => rfl
  | false => rw [nok_iff.2 ⟨i, hi, ho⟩] at hn; cases hn
theorem okP_id {p : P2} (h : okP p = true) : nearP p = p := by
  unfold okP at h
  simp only [Bool.and_eq_true, decide_eq_true_eq] at h
  exact nearP_id ⟨⟨h.1.1.1, h.1.1.2⟩, h.1.2, h.2⟩
/-- The first segment that has a point of a simple line that is not its first or last one is the one that ends there. -/
theorem at_own {ps : List P2} (h : okB ps = true) {k : Nat} (h1 : 1 ≤ k) (hk : k < ps.length - 1) : atO ps (pAt ps k) = some (k - 1) := by
  obtain ⟨h2, h64, ho, hs⟩ := okB_parts h
  obtain ⟨j, hj, hjk⟩ := at_self h2 (show k < ps.length by omega)
  rw [hj]
  by_cases he : j = k - 1
  · rw [he]
  · exfalso
    have hjl : j < k - 1 := by omega
    have hf := firstAt_some (show firstAt (atB ps (pAt ps k)) (ps.length - 1) 0 = some j from hj)
    have hon := hf.2.2.1
    unfold atB at hon
    have ids : ∀ i, i < ps.length → nearP (pAt ps i) = pAt ps i := fun i hi => okP_id (ho i hi)
    rw [simple_iff] at hs
    have hr := (hs j (by omega)).2 (k - 1) (by omega) (by omega)
    rw [show k - 1 + 1 = k by omega] at hr
    have hne := (hs (k - 1) (by omega)).1
    rw [show k - 1 + 1 = k by omega] at hne
    -- the point is on both
    have c1 : comB (nearP (pAt ps j)) (nearP (pAt ps (j + 1))) (nearP (pAt ps (k - 1))) (nearP (pAt ps k)) (nearP (pAt ps k)) = true := by
      unfold comB
      rw [ids j (by omega), ids (j + 1) (by omega), ids (k - 1) (by omega), ids k (by omega)]
      rw [hon, on_self2]
      rfl
    have m1 : nearP (pAt ps k) ∈ [nearP (pAt ps j), nearP (pAt ps (j + 1)), nearP (pAt ps (k - 1)), nearP (pAt ps k)] := by simp
    unfold wantI at hr
    by_cases hadj : k - 1 = j + 1
    · rw [beq_iff_eq.2 hadj, Bool.true_or] at hr
      have c2 : comB (nearP (pAt ps j)) (nearP (pAt ps (j + 1))) (nearP (pAt ps (k - 1))) (nearP (pAt ps k)) (nearP (pAt ps (k - 1))) = true := by
        unfold comB
        rw [ids j (by omega), ids (j + 1) (by omega), ids (k - 1) (by omega), ids k (by omega)]
        rw [← hadj, on_self2, on_self1]
        rfl
      have m2 : nearP (pAt ps (k - 1)) ∈ [nearP (pAt ps j), nearP (pAt ps (j + 1)), nearP (pAt ps (k - 1)), nearP (pAt ps k)] := by simp
      have := relate_one_com hr _ m2 _ m1 c2 c1
      rw [ids (k - 1) (by omega), ids k (by omega)] at this
      rw [this, eqB_iff.2 rfl] at hne
      cases hne
    · rw [beq_eq_false_iff_ne.2 hadj, beq_eq_false_iff_ne.2 (by omega : k - 1 ≠ ps.length - 2), Bool.false_and, Bool.and_false, Bool.or_false] at hr
      rw [relate_zero_com hr _ m1] at c1
      cases c1
theorem atO_take {ps : List P2} {p : P2} {m k : Nat} (hm : m ≤ ps.length) (hk : k + 1 < m) (h : atO ps p = some k) : atO (ps.take m) p = some k := by
  have hf := firstAt_some (show firstAt (atB ps p) (ps.length - 1) 0 = some k from h)
  have hl : (ps.take m).length = m := by rw [List.length_take]; omega
  refine firstAt_eq_some (c := atB (ps.take m) p) (d := (ps.take m).length - 1) (Nat.zero_le _) (by rw [hl]; omega) ?_ fun i _ hi => ?_
  · have := hf.2.2.1
    unfold atB at this ⊢
    rw [pAt_take (by omega), pAt_take (by omega)]
    exact this
  · have := hf.2.2.2 i (Nat.zero_le _) hi
    unfold atB at this ⊢
    rw [pAt_take (by omega), pAt_take (by omega)]
    exact this
theorem drop_take_two {ps : List P2} {k : Nat} (h : k + 1 < ps.length) : (ps.take (k + 2)).drop k = [pAt ps k, pAt ps (k + 1)] := by
  rw [List.drop_take, show k + 2 - k = 2 by omega, List.drop_eq_getElem_cons (by omega : k < ps.length), List.drop_eq_getElem_cons h, pAt_getElem (by omega : k < ps.length), pAt_getElem h]
  rfl
theorem take_snoc_pAt {ps : List P2} {k : Nat} (h : k < ps.length) : ps.take (k + 1) = ps.take k ++ [pAt ps k] := by
  rw [List.take_add_one, List.getElem?_eq_getElem h, pAt_getElem h]
  rfl
theorem split_own {ps : List P2} (h : okB ps = true) {k : Nat} (h1 : 1 ≤ k) (hk : k < ps.length - 1) : splitO (ps.take (k + 2)) (pAt ps k) = some (ps.take (k + 1), [pAt ps k, pAt ps (k + 1)]) := by
  obtain ⟨h2, h64, ho, hs⟩ := okB_parts h
  have ha := at_own h h1 hk
  have hl : (ps.take (k + 2)).length = k + 2 := by rw [List.length_take]; omega
  have hst := atO_take (m := k + 2) (by omega) (by omega) ha
  have hsi := simple_iff.1 hs
  have n1 : eqB (pAt ps (k - 1)) (pAt ps k) = false := by
    have := (hsi (k - 1) (by omega)).1
    rw [show k - 1 + 1 = k by omega] at this
    exact this
  have n2 : eqB (pAt ps (k + 1)) (pAt ps k) = false := by rw [eqB_comm]; exact (hsi k hk).1
  have n0 : eqB (pAt ps 0) (pAt ps k) = false := ne_first hs (by omega) hk
  unfold splitO
  rw [hst]
  simp only
  rw [hl, ho k (by omega), pAt_take (by omega), pAt_take (by omega), pAt_take (by omega), show k - 1 + 1 = k by omega, pAt_take (by omega), show k + 2 - 1 = k + 1 by omega, n0, n2, n1, eqB_iff.2 rfl]
  simp only [Bool.not_true, Bool.or_false, cond_false, cond_true, Option.some.injEq, Prod.mk.injEq]
  exact ⟨by rw [List.take_take, Nat.min_eq_left (by omega), ← take_snoc_pAt (by omega)], drop_take_two (by omega)⟩
end Go.Proofs.Ytmopbegmdegooaa
/- slices.Grow, Concat, Clip; line.Join: their rounds, their calls. -/
namespace Go.Proofs.Ytmopbegmdegooaa
open Go Vm M
set_option linter.unusedVariables false
set_option linter.unusedSimpArgs false
def LL (a b : List P2) : PVal := .list 2 [slP a, slP b]
def modeG : FuncId → Nat := fun f => bif Nat.beq f 83 then 2 else 0
noncomputable def cfG (L : Lib Try.prog) : Cfg := cfgOf lives modeG L
theorem cfG_ok (L : Lib Try.prog) : CfgOk (cfG L) := cfgOf_ok lives modeG L
theorem cf_ok' (L : Lib Try.prog) : CfgOk (cf L) := cf_ok L
def zsL (s : Int) : List AVal := (List.replicate s.toNat [iA 0, iA 0]).flatten
def cnT (a b : List P2) (s i : Int) : List AVal := [AVal.list 2 [slP a, slP b], .junk, .junk, iA s] ++ jk 5 ++ [AVal.list 2 [slP a, slP b], iA 2, iA i] ++ jk 24
def cnE (a b : List P2) (s i : Int) : List AVal := [AVal.list 2 [slP a, slP b], .junk, .junk, iA s] ++ jk 5 ++ [AVal.list 2 [slP a, slP b], iA 2, iA i, bA false] ++ jk 23
def cmT (a b : List P2) (x : AVal) (i : Int) : List AVal := jk 6 ++ [x] ++ jk 18 ++ [AVal.list 2 [slP a, slP b], iA 2, iA i] ++ jk 8
def cmE (a b : List P2) (x : AVal) (i : Int) : List AVal := jk 6 ++ [x] ++ jk 18 ++ [AVal.list 2 [slP a, slP b], iA 2, iA i, bA false] ++ jk 7
def gw (L : Lib Try.prog) (s : Int) : AVal × List AObj :=
  (AVal.row 0 0 2 0 0, ([AObj.row 2 0 none (List.flatten (List.replicate (Int.toNat (IntKind.wrap IntKind.i64 (s - IntKind.wrap IntKind.i64 ((↑0 : Int) - (↑0 : Int))))) (List.map AVal.v (Array.toList (Value.cells (Value.agg #[Value.int IntKind.i64 0, Value.int IntKind.i64 0]))))))]))
theorem gw_eq (L : Lib Try.prog) (s : Int) (p1 : (decide (IntKind.wrap IntKind.i64 (s - IntKind.wrap IntKind.i64 ((↑0 : Int) - (↑0 : Int))) > 0)) = true) (p0 : (decide (s < 0)) = false) (e0 : 0 < IntKind.wrap IntKind.i64 (s - IntKind.wrap IntKind.i64 ((↑0 : Int) - (↑0 : Int))) ∧ IntKind.wrap IntKind.i64 (s - IntKind.wrap IntKind.i64 ((↑0 : Int) - (↑0 : Int))) * (↑16 : Int) ≤ 140737488355328 ∧ IntKind.wrap IntKind.i64 (s - IntKind.wrap IntKind.i64 ((↑0 : Int) - (↑0 : Int))) ≤ 9223372036854775807) : evalF (cfG L) (201 + 1) (0) 83 ([AVal.v (Value.slice none 0 0), iA s]) ([]) = some (gw L s) := by
  have key := fun (bs : List Bool) (r : AVal × List AObj) (ob : List Prop) (h : funP (cfG L) (evalF (cfG L) 201) 201 [(9999, 0, Hint.idx), (5, 5, Hint.appZ)] 83 (0) ([AVal.v (Value.slice none 0 0), iA s]) ([]) bs [] = .ok (r.1, r.2, ob)) (hp : allOb ob) => funP_ok h hp
  unfold gw
  exact key [false, true] ((AVal.row 0 0 2 0 0, ([AObj.row 2 0 none (List.flatten (List.replicate (Int.toNat (IntKind.wrap IntKind.i64 (s - IntKind.wrap IntKind.i64 ((↑0 : Int) - (↑0 : Int))))) (List.map AVal.v (Array.toList (Value.cells (Value.agg #[Value.int IntKind.i64 0, Value.int IntKind.i64 0]))))))]))) _ (by kernel_rfl) (allOb_cons (by exact e0) (allOb_cons p1 (allOb_cons p0 allOb_nil)))
def cn0 (L : Lib Try.prog) (a : List P2) (b : List P2) (s : Int) : AExit × List AVal × List AObj :=
  (AExit.normal, (([AVal.list 2 [slP a, slP b], AVal.junk, AVal.junk, AVal.v (Value.int IntKind.i64 (IntKind.wrap IntKind.i64 (s + (↑(lenAt (upL (List.drop (0 * 1) [slP a, slP b]))) : Int))))] ++ jk 5 ++ [AVal.list 2 [slP a, slP b], AVal.v (Value.int IntKind.i64 2), AVal.v (Value.int IntKind.i64 (IntKind.wrap IntKind.i64 (0 + 1)))] ++ jk 24), []))
theorem cn0_eq (L : Lib Try.prog) (a : List P2) (b : List P2) (s : Int) (p1 : (decide (IntKind.wrap IntKind.i64 (s + (↑(lenAt (upL (List.drop (0 * 1) [slP a, slP b]))) : Int)) < 0)) = false) : roundC 0 (evalC (cfG L) (evalF (cfG L) 202) (Option.getD (List.lookup 66 lives) []) 0 0 202 (loopAt Try.f66 0)) (cnT a b s 0) ([]) = some (cn0 L a b s) := by
  have key := fun (bs : List Bool) (r : AExit × List AVal × List AObj) (ob : List Prop) (h : roundP (cfG L) (evalF (cfG L) 202) (Option.getD (List.lookup 66 lives) []) 0 0 202 [(9999, 0, Hint.idx)] (loopAt Try.f66 0) (cnT a b s 0) ([]) bs [] = .ok (r.1, r.2.1, r.2.2, ob)) (hp : allOb ob) => roundP_ok h hp
  unfold cn0
  exact key [true, false] ((AExit.normal, (([AVal.list 2 [slP a, slP b], AVal.junk, AVal.junk, AVal.v (Value.int IntKind.i64 (IntKind.wrap IntKind.i64 (s + (↑(lenAt (upL (List.drop (0 * 1) [slP a, slP b]))) : Int))))] ++ jk 5 ++ [AVal.list 2 [slP a, slP b], AVal.v (Value.int IntKind.i64 2), AVal.v (Value.int IntKind.i64 (IntKind.wrap IntKind.i64 (0 + 1)))] ++ jk 24), []))) _ (by kernel_rfl) (allOb_cons (show Plain [] from by simp only [Plain, List.all_append, List.all_cons, List.all_nil, plainO, upL_flatPP, flatP_plain, Nat.zero_mul, List.drop_zero] <;> rfl) (allOb_cons p1 (allOb_cons (show partA (Cfg.P (cfG L)) 24 (upL (List.drop (0 * 1) [slP a, slP b])) 0 = some (AVal.list (lenAt (upL (List.drop (0 * 1) [slP a, slP b]))) (cellsAt (upL (List.drop (0 * 1) [slP a, slP b])))) from by kernel_rfl) (allOb_cons (show (0 : Int) ≤ 0 ∧ (0 : Int) < (↑2 : Int) ∧ 0 < 1 ∧ 2 = 2 from by decide) (allOb_cons lit_t allOb_nil)))))
def cn1 (L : Lib Try.prog) (a : List P2) (b : List P2) (s : Int) : AExit × List AVal × List AObj :=
  (AExit.normal, (([AVal.list 2 [slP a, slP b], AVal.junk, AVal.junk, AVal.v (Value.int IntKind.i64 (IntKind.wrap IntKind.i64 (s + (↑(lenAt (upL (List.drop (1 * 1) [slP a, slP b]))) : Int))))] ++ jk 5 ++ [AVal.list 2 [slP a, slP b], AVal.v (Value.int IntKind.i64 2), AVal.v (Value.int IntKind.i64 (IntKind.wrap IntKind.i64 (1 + 1)))] ++ jk 24), []))
theorem cn1_eq (L : Lib Try.prog) (a : List P2) (b : List P2) (s : Int) (p1 : (decide (IntKind.wrap IntKind.i64 (s + (↑(lenAt (upL (List.drop (1 * 1) [slP a, slP b]))) : Int)) < 0)) = false) : roundC 0 (evalC (cfG L) (evalF (cfG L) 202) (Option.getD (List.lookup 66 lives) []) 0 0 202 (loopAt Try.f66 0)) (cnT a b s 1) ([]) = some (cn1 L a b s) := by
  have key := fun (bs : List Bool) (r : AExit × List AVal × List AObj) (ob : List Prop) (h : roundP (cfG L) (evalF (cfG L) 202) (Option.getD (List.lookup 66 lives) []) 0 0 202 [(9999, 0, Hint.idx)] (loopAt Try.f66 0) (cnT a b s 1) ([]) bs [] = .ok (r.1, r.2.1, r.2.2, ob)) (hp : allOb ob) => roundP_ok h hp
  unfold cn1
  exact key [true, false] ((AExit.normal, (([AVal.list 2 [slP a, slP b], AVal.junk, AVal.junk, AVal.v (Value.int IntKind.i64 (IntKind.wrap IntKind.i64 (s + (↑(lenAt (upL (List.drop (1 * 1) [slP a, slP b]))) : Int))))] ++ jk 5 ++ [AVal.list 2 [slP a, slP b], AVal.v (Value.int IntKind.i64 2), AVal.v (Value.int IntKind.i64 (IntKind.wrap IntKind.i64 (1 + 1)))] ++ jk 24), []))) _ (by kernel_rfl) (allOb_cons (show Plain [] from by simp only [Plain, List.all_append, List.all_cons, List.all_nil, plainO, upL_flatPP, flatP_plain, Nat.zero_mul, List.drop_zero] <;> rfl) (allOb_cons p1 (allOb_cons (show partA (Cfg.P (cfG L)) 24 (upL (List.drop (1 * 1) [slP a, slP b])) 0 = some (AVal.list (lenAt (upL (List.drop (1 * 1) [slP a, slP b]))) (cellsAt (upL (List.drop (1 * 1) [slP a, slP b])))) from by kernel_rfl) (allOb_cons (show (0 : Int) ≤ 1 ∧ (1 : Int) < (↑2 : Int) ∧ 0 < 1 ∧ 2 = 2 from by decide) (allOb_cons lit_t allOb_nil)))))
def cn2 (L : Lib Try.prog) (a : List P2) (b : List P2) (s : Int) : AExit × List AVal × List AObj :=
  (AExit.exit 0, (([AVal.list 2 [slP a, slP b], AVal.junk, AVal.junk, AVal.v (Value.int IntKind.i64 s)] ++ jk 5 ++ [AVal.list 2 [slP a, slP b], AVal.v (Value.int IntKind.i64 2), AVal.v (Value.int IntKind.i64 2), AVal.v (Value.bool false)] ++ jk 23), []))
theorem cn2_eq (L : Lib Try.prog) (a : List P2) (b : List P2) (s : Int) : roundC 0 (evalC (cfG L) (evalF (cfG L) 202) (Option.getD (List.lookup 66 lives) []) 0 0 202 (loopAt Try.f66 0)) (cnT a b s 2) ([]) = some (cn2 L a b s) := by
  have key := fun (bs : List Bool) (r : AExit × List AVal × List AObj) (ob : List Prop) (h : roundP (cfG L) (evalF (cfG L) 202) (Option.getD (List.lookup 66 lives) []) 0 0 202 [(9999, 0, Hint.idx)] (loopAt Try.f66 0) (cnT a b s 2) ([]) bs [] = .ok (r.1, r.2.1, r.2.2, ob)) (hp : allOb ob) => roundP_ok h hp
  unfold cn2
  exact key [false] ((AExit.exit 0, (([AVal.list 2 [slP a, slP b], AVal.junk, AVal.junk, AVal.v (Value.int IntKind.i64 s)] ++ jk 5 ++ [AVal.list 2 [slP a, slP b], AVal.v (Value.int IntKind.i64 2), AVal.v (Value.int IntKind.i64 2), AVal.v (Value.bool false)] ++ jk 23), []))) _ (by kernel_rfl) (allOb_cons (show Plain [] from by simp only [Plain, List.all_append, List.all_cons, List.all_nil, plainO, upL_flatPP, flatP_plain, Nat.zero_mul, List.drop_zero] <;> rfl) (allOb_cons lit_f allOb_nil))
def cm0 (L : Lib Try.prog) (a : List P2) (b : List P2) (zs : List AVal) : AExit × List AVal × List AObj :=
  (AExit.normal, ((jk 6 ++ [AVal.row 0 0 2 0 (0 + List.length a)] ++ jk 18 ++ [AVal.list 2 [slP a, slP b], AVal.v (Value.int IntKind.i64 2), AVal.v (Value.int IntKind.i64 (IntKind.wrap IntKind.i64 (0 + 1)))] ++ jk 8), ([AObj.row 2 0 none (upL (flatPP a))])))
theorem cm0_eq (L : Lib Try.prog) (a : List P2) (b : List P2) (zs : List AVal) (e0 : 0 = 0 ∧ (0 + List.length a) * 16 ≤ 140737488355328 ∧ 0 + List.length a ≤ 9223372036854775807) (e1 : Ones (upL (flatPP a))) (e2 : 0 < List.length a) (e3 : List.length (flatPP a) = List.length a * 2) (e4 : 0 ≠ List.length zs) : roundC 0 (evalC (cfG L) (evalF (cfG L) 202) (Option.getD (List.lookup 66 lives) []) 0 0 202 (loopAt Try.f66 1)) (cmT a b (AVal.row 0 0 2 0 0) 0) ([AObj.row 2 0 none zs]) = some (cm0 L a b zs) := by
  have key := fun (bs : List Bool) (r : AExit × List AVal × List AObj) (ob : List Prop) (h : roundP (cfG L) (evalF (cfG L) 202) (Option.getD (List.lookup 66 lives) []) 0 0 202 [(9999, 0, Hint.idx), (13, 2, Hint.appS)] (loopAt Try.f66 1) (cmT a b (AVal.row 0 0 2 0 0) 0) ([AObj.row 2 0 none zs]) bs [] = .ok (r.1, r.2.1, r.2.2, ob)) (hp : allOb ob) => roundP_ok h hp
  unfold cm0
  exact key [true] ((AExit.normal, ((jk 6 ++ [AVal.row 0 0 2 0 (0 + List.length a)] ++ jk 18 ++ [AVal.list 2 [slP a, slP b], AVal.v (Value.int IntKind.i64 2), AVal.v (Value.int IntKind.i64 (IntKind.wrap IntKind.i64 (0 + 1)))] ++ jk 8), ([AObj.row 2 0 none (upL (flatPP a))])))) _ (by kernel_rfl) (allOb_cons (show Plain ([AObj.row 2 1 none (upL (flatPP a))]) from by simp only [Plain, List.all_append, List.all_cons, List.all_nil, plainO, upL_flatPP, flatP_plain, Nat.zero_mul, List.drop_zero] <;> rfl) (allOb_cons (by exact e4) (allOb_cons (by exact e3) (allOb_cons (by exact e2) (allOb_cons (by exact e1) (allOb_cons (by exact e0) (allOb_cons (show partA (Cfg.P (cfG L)) 24 (upL (List.drop (0 * 1) [slP a, slP b])) 0 = some (AVal.list (lenAt (upL (List.drop (0 * 1) [slP a, slP b]))) (cellsAt (upL (List.drop (0 * 1) [slP a, slP b])))) from by kernel_rfl) (allOb_cons (show (0 : Int) ≤ 0 ∧ (0 : Int) < (↑2 : Int) ∧ 0 < 1 ∧ 2 = 2 from by decide) (allOb_cons lit_t allOb_nil)))))))))
def cm1 (L : Lib Try.prog) (a : List P2) (b : List P2) (c : List P2) : AExit × List AVal × List AObj :=
  (AExit.normal, ((jk 6 ++ [AVal.row 0 0 2 0 (List.length a + List.length b)] ++ jk 18 ++ [AVal.list 2 [slP a, slP b], AVal.v (Value.int IntKind.i64 2), AVal.v (Value.int IntKind.i64 (IntKind.wrap IntKind.i64 (1 + 1)))] ++ jk 8), ([AObj.row 2 0 none (upL (flatPP c))])))
theorem cm1_eq (L : Lib Try.prog) (a : List P2) (b : List P2) (c : List P2) (e0 : (0 + List.length a) * 2 = List.length (upL (flatPP a)) ∧ (List.length a + List.length b) * 16 ≤ 140737488355328 ∧ List.length a + List.length b ≤ 9223372036854775807) (e1 : Ones (upL (flatPP b))) (e2 : 0 < List.length b) (e3 : List.length (flatPP b) = List.length b * 2) (e4 : upL (flatPP a) ++ upL (flatPP b) = upL (flatPP c)) : roundC 0 (evalC (cfG L) (evalF (cfG L) 202) (Option.getD (List.lookup 66 lives) []) 0 0 202 (loopAt Try.f66 1)) (cmT a b (AVal.row 0 0 2 0 (List.length a)) 1) ([AObj.row 2 0 none (upL (flatPP a))]) = some (cm1 L a b c) := by
  have key := fun (bs : List Bool) (r : AExit × List AVal × List AObj) (ob : List Prop) (h : roundP (cfG L) (evalF (cfG L) 202) (Option.getD (List.lookup 66 lives) []) 0 0 202 [(9999, 0, Hint.idx), (13, 2, Hint.appY (upL (flatPP c)))] (loopAt Try.f66 1) (cmT a b (AVal.row 0 0 2 0 (List.length a)) 1) ([AObj.row 2 0 none (upL (flatPP a))]) bs [] = .ok (r.1, r.2.1, r.2.2, ob)) (hp : allOb ob) => roundP_ok h hp
  unfold cm1
  exact key [true] ((AExit.normal, ((jk 6 ++ [AVal.row 0 0 2 0 (List.length a + List.length b)] ++ jk 18 ++ [AVal.list 2 [slP a, slP b], AVal.v (Value.int IntKind.i64 2), AVal.v (Value.int IntKind.i64 (IntKind.wrap IntKind.i64 (1 + 1)))] ++ jk 8), ([AObj.row 2 0 none (upL (flatPP c))])))) _ (by kernel_rfl) (allOb_cons (show Plain ([AObj.row 2 1 none (upL (flatPP c))]) from by simp only [Plain, List.all_append, List.all_cons, List.all_nil, plainO, upL_flatPP, flatP_plain, Nat.zero_mul, List.drop_zero] <;> rfl) (allOb_cons (by exact e4) (allOb_cons (by exact e3) (allOb_cons (by exact e2) (allOb_cons (by exact e1) (allOb_cons (by exact e0) (allOb_cons (show partA (Cfg.P (cfG L)) 24 (upL (List.drop (1 * 1) [slP a, slP b])) 0 = some (AVal.list (lenAt (upL (List.drop (1 * 1) [slP a, slP b]))) (cellsAt (upL (List.drop (1 * 1) [slP a, slP b])))) from by kernel_rfl) (allOb_cons (show (0 : Int) ≤ 1 ∧ (1 : Int) < (↑2 : Int) ∧ 0 < 1 ∧ 2 = 2 from by decide) (allOb_cons lit_t allOb_nil)))))))))
def cm2 (L : Lib Try.prog) (a : List P2) (b : List P2) (c : List P2) (m : Nat) : AExit × List AVal × List AObj :=
  (AExit.exit 2, ((jk 6 ++ [AVal.row 0 0 2 0 m] ++ jk 18 ++ [AVal.list 2 [slP a, slP b], AVal.v (Value.int IntKind.i64 2), AVal.v (Value.int IntKind.i64 2), AVal.v (Value.bool false)] ++ jk 7), ([AObj.row 2 0 none (upL (flatPP c))])))
theorem cm2_eq (L : Lib Try.prog) (a : List P2) (b : List P2) (c : List P2) (m : Nat) : roundC 0 (evalC (cfG L) (evalF (cfG L) 202) (Option.getD (List.lookup 66 lives) []) 0 0 202 (loopAt Try.f66 1)) (cmT a b (AVal.row 0 0 2 0 m) 2) ([AObj.row 2 0 none (upL (flatPP c))]) = some (cm2 L a b c m) := by
  have key := fun (bs : List Bool) (r : AExit × List AVal × List AObj) (ob : List Prop) (h : roundP (cfG L) (evalF (cfG L) 202) (Option.getD (List.lookup 66 lives) []) 0 0 202 [(9999, 0, Hint.idx)] (loopAt Try.f66 1) (cmT a b (AVal.row 0 0 2 0 m) 2) ([AObj.row 2 0 none (upL (flatPP c))]) bs [] = .ok (r.1, r.2.1, r.2.2, ob)) (hp : allOb ob) => roundP_ok h hp
  unfold cm2
  exact key [false] ((AExit.exit 2, ((jk 6 ++ [AVal.row 0 0 2 0 m] ++ jk 18 ++ [AVal.list 2 [slP a, slP b], AVal.v (Value.int IntKind.i64 2), AVal.v (Value.int IntKind.i64 2), AVal.v (Value.bool false)] ++ jk 7), ([AObj.row 2 0 none (upL (flatPP c))])))) _ (by kernel_rfl) (allOb_cons (show Plain ([AObj.row 2 0 none (upL (flatPP c))]) from by simp only [Plain, List.all_append, List.all_cons, List.all_nil, plainO, upL_flatPP, flatP_plain, Nat.zero_mul, List.drop_zero] <;> rfl) (allOb_cons lit_f allOb_nil))
def cnAl (L : Lib Try.prog) (a : List P2) (b : List P2) (c : List P2) (zs : List AVal) (s : Int) (m : Nat) : PVal :=
  slP c
theorem cnAl_calls (L : Lib Try.prog) (a : List P2) (b : List P2) (c : List P2) (zs : List AVal) (s : Int) (m : Nat) (e0 : iterC 0 (evalC (cfG L) (evalF (cfG L) 202) ((lives.lookup 66).getD []) 0 0 202 (loopAt Try.f66 0)) 202 ([AVal.list 2 [PVal.list (List.length a) (flatPP a), PVal.list (List.length b) (flatPP b)], AVal.junk, AVal.junk, AVal.v (Value.int IntKind.i64 0)] ++ jk 5 ++ [AVal.list 2 [PVal.list (List.length a) (flatPP a), PVal.list (List.length b) (flatPP b)], AVal.v (Value.int IntKind.i64 (↑2 : Int)), AVal.v (Value.int IntKind.i64 0)] ++ jk 24) [] = some (AExit.exit 0, (([AVal.list 2 [PVal.list (List.length a) (flatPP a), PVal.list (List.length b) (flatPP b)], AVal.junk, AVal.junk, AVal.v (Value.int IntKind.i64 s)] ++ jk 5 ++ [AVal.list 2 [PVal.list (List.length a) (flatPP a), PVal.list (List.length b) (flatPP b)], AVal.v (Value.int IntKind.i64 2), AVal.v (Value.int IntKind.i64 2), AVal.v (Value.bool false)] ++ jk 23), []))) (e1 : callA (cfG L) (evalF (cfG L) 202) 0 83 [AVal.v (Value.slice none 0 0), AVal.v (Value.int IntKind.i64 s)] [] = some (AVal.row 0 0 2 0 0, [AObj.row 2 0 none zs])) (e2 : iterC 0 (evalC (cfG L) (evalF (cfG L) 202) ((lives.lookup 66).getD []) 0 0 202 (loopAt Try.f66 1)) 202 (jk 6 ++ [AVal.row 0 0 2 0 0] ++ jk 18 ++ [AVal.list 2 [PVal.list (List.length a) (flatPP a), PVal.list (List.length b) (flatPP b)], AVal.v (Value.int IntKind.i64 (↑2 : Int)), AVal.v (Value.int IntKind.i64 0)] ++ jk 8) ([AObj.row 2 0 none zs]) = some (AExit.exit 2, ((jk 6 ++ [AVal.row 0 0 2 0 m] ++ jk 18 ++ [AVal.list 2 [PVal.list (List.length a) (flatPP a), PVal.list (List.length b) (flatPP b)], AVal.v (Value.int IntKind.i64 2), AVal.v (Value.int IntKind.i64 2), AVal.v (Value.bool false)] ++ jk 7), ([AObj.row 2 0 none (upL (flatPP c))])))) (e3 : peek (Vm.mark 0 deep [AObj.row 2 0 none (upL (flatPP c))] (AVal.row 0 0 2 0 m)) deep (AVal.row 0 0 2 0 m) = some (slP c)) : CallsP Try.prog 66 [LL a b] (cnAl L a b c zs s m) := by
  have key := fun (bs : List Bool) (r : PVal) (ob : List Prop) (h : callP (cfG L) (evalF (cfG L) 202) 202 [(9999, 0, Hint.idx), (9, 1, Hint.call (AVal.row 0 0 2 0 0) [AObj.row 2 0 none zs])] 66 [LL a b] bs [(AExit.exit 0, cnE a b s 2, []), (AExit.exit 2, cmE a b (AVal.row 0 0 2 0 m) 2, [AObj.row 2 0 none (upL (flatPP c))])] (some (slP c)) = .ok (r, ob)) (hp : allOb ob) => callP_ok (cfG_ok L) h hp
  unfold cnAl
  exact key [] (slP c) _ (by kernel_rfl) (allOb_cons (by exact e3) (allOb_cons (by exact e2) (allOb_cons (by exact e1) (allOb_cons (by exact e0) allOb_nil))))
def jnT (L : Lib Try.prog) (a : List P2) (b : List P2) (c : List P2) : PVal :=
  slP c
theorem jnT_calls (L : Lib Try.prog) (a : List P2) (b : List P2) (c : List P2) (p2 : (eqB (pAt a (Int.toNat (IntKind.wrap IntKind.i64 ((↑(List.length a) : Int) - 1)))) (pAt b 0)) = true) (p1 : (decide ((↑(List.length b) : Int) > 0)) = true) (p0 : (decide ((↑(List.length a) : Int) > 0)) = true) (b0 : (0 : Int) ≤ IntKind.wrap IntKind.i64 ((↑(List.length a) : Int) - 1) ∧ (IntKind.wrap IntKind.i64 ((↑(List.length a) : Int) - 1) : Int) < (↑(List.length a) : Int)) (b1 : (0 : Int) ≤ 0 ∧ (0 : Int) < (↑(List.length b) : Int)) (e0 : boundsA (List.length b) (some (AVal.v (Value.int IntKind.i64 1))) none none = some (1, List.length b, none)) (e1 : pureCall (cf L) (evalF (cf L) 203) 66 [PVal.list 2 [slP a, PVal.list (List.length b - 1) (cutA (flatPP b) 2 1 (List.length b))]] = some (slP c)) (e2 : pureCall (cf L) (evalF (cf L) 203) 59 [slP c] = some (slP c)) : CallsP Try.prog 41 [slP a, slP b] (jnT L a b c) := by
  have key := fun (bs : List Bool) (r : PVal) (ob : List Prop) (h : callP (cf L) (evalF (cf L) 203) 203 [(9999, 0, Hint.idx), (2, 1, Hint.cut), (3, 3, Hint.pcall (slP c)), (3, 4, Hint.pcall (slP c))] 41 [slP a, slP b] bs [] (none) = .ok (r, ob)) (hp : allOb ob) => callP_ok (cf_ok L) h hp
  unfold jnT
  exact key [true, true, true] (slP c) _ (by kernel_rfl) (allOb_cons (by exact e2) (allOb_cons (by exact e1) (allOb_cons (by exact e0) (allOb_cons p2 (allOb_cons (show partA (Cfg.P (cf L)) 23 (upL (List.drop (0 * 2) (flatPP b))) 0 = some (AVal.agg ([AVal.v (Value.int IntKind.i64 (Prod.fst (pAt b 0)))] ++ ([AVal.v (Value.int IntKind.i64 (Prod.snd (pAt b 0)))] ++ []))) from by first | exact part_pt b1 | exact part_x b1 | exact part_y b1 | exact partQ_pt b1 | exact partQ_x b1 | exact partQ_y b1 | exact part_pt b0 | exact part_x b0 | exact part_y b0 | exact partQ_pt b0 | exact partQ_x b0 | exact partQ_y b0) (allOb_cons (idx_ok b1) (allOb_cons (show partA (Cfg.P (cf L)) 23 (upL (List.drop (Int.toNat (IntKind.wrap IntKind.i64 ((↑(List.length a) : Int) - 1)) * 2) (flatPP a))) 0 = some (AVal.agg ([AVal.v (Value.int IntKind.i64 (Prod.fst (pAt a (Int.toNat (IntKind.wrap IntKind.i64 ((↑(List.length a) : Int) - 1))))))] ++ ([AVal.v (Value.int IntKind.i64 (Prod.snd (pAt a (Int.toNat (IntKind.wrap IntKind.i64 ((↑(List.length a) : Int) - 1))))))] ++ []))) from by first | exact part_pt b0 | exact part_x b0 | exact part_y b0 | exact partQ_pt b0 | exact partQ_x b0 | exact partQ_y b0) (allOb_cons (idx_ok b0) (allOb_cons p1 (allOb_cons p0 allOb_nil))))))))))
def jnF (L : Lib Try.prog) (a : List P2) (b : List P2) (c : List P2) : PVal :=
  slP c
theorem jnF_calls (L : Lib Try.prog) (a : List P2) (b : List P2) (c : List P2) (p2 : (eqB (pAt a (Int.toNat (IntKind.wrap IntKind.i64 ((↑(List.length a) : Int) - 1)))) (pAt b 0)) = false) (p1 : (decide ((↑(List.length b) : Int) > 0)) = true) (p0 : (decide ((↑(List.length a) : Int) > 0)) = true) (b0 : (0 : Int) ≤ IntKind.wrap IntKind.i64 ((↑(List.length a) : Int) - 1) ∧ (IntKind.wrap IntKind.i64 ((↑(List.length a) : Int) - 1) : Int) < (↑(List.length a) : Int)) (b1 : (0 : Int) ≤ 0 ∧ (0 : Int) < (↑(List.length b) : Int)) (e0 : pureCall (cf L) (evalF (cf L) 203) 66 [PVal.list 2 [slP a, slP b]] = some (slP c)) (e1 : pureCall (cf L) (evalF (cf L) 203) 59 [slP c] = some (slP c)) : CallsP Try.prog 41 [slP a, slP b] (jnF L a b c) := by
  have key := fun (bs : List Bool) (r : PVal) (ob : List Prop) (h : callP (cf L) (evalF (cf L) 203) 203 [(9999, 0, Hint.idx), (2, 1, Hint.cut), (3, 3, Hint.pcall (slP c)), (3, 4, Hint.pcall (slP c))] 41 [slP a, slP b] bs [] (none) = .ok (r, ob)) (hp : allOb ob) => callP_ok (cf_ok L) h hp
  unfold jnF
  exact key [true, true, false] (slP c) _ (by kernel_rfl) (allOb_cons (by exact e1) (allOb_cons (by exact e0) (allOb_cons p2 (allOb_cons (show partA (Cfg.P (cf L)) 23 (upL (List.drop (0 * 2) (flatPP b))) 0 = some (AVal.agg ([AVal.v (Value.int IntKind.i64 (Prod.fst (pAt b 0)))] ++ ([AVal.v (Value.int IntKind.i64 (Prod.snd (pAt b 0)))] ++ []))) from by first | exact part_pt b1 | exact part_x b1 | exact part_y b1 | exact partQ_pt b1 | exact partQ_x b1 | exact partQ_y b1 | exact part_pt b0 | exact part_x b0 | exact part_y b0 | exact partQ_pt b0 | exact partQ_x b0 | exact partQ_y b0) (allOb_cons (idx_ok b1) (allOb_cons (show partA (Cfg.P (cf L)) 23 (upL (List.drop (Int.toNat (IntKind.wrap IntKind.i64 ((↑(List.length a) : Int) - 1)) * 2) (flatPP a))) 0 = some (AVal.agg ([AVal.v (Value.int IntKind.i64 (Prod.fst (pAt a (Int.toNat (IntKind.wrap IntKind.i64 ((↑(List.length a) : Int) - 1))))))] ++ ([AVal.v (Value.int IntKind.i64 (Prod.snd (pAt a (Int.toNat (IntKind.wrap IntKind.i64 ((↑(List.length a) : Int) - 1))))))] ++ []))) from by first | exact part_pt b0 | exact part_x b0 | exact part_y b0 | exact partQ_pt b0 | exact partQ_x b0 | exact partQ_y b0) (allOb_cons (idx_ok b0) (allOb_cons p1 (allOb_cons p0 allOb_nil)))))))))
def jnG (L : Lib Try.prog) (a : List P2) (b : List P2) (c : List P2) : PVal :=
  slP c
theorem jnG_calls (L : Lib Try.prog) (a : List P2) (b : List P2) (c : List P2) (p1 : (decide ((↑(List.length b) : Int) > 0)) = false) (p0 : (decide ((↑(List.length a) : Int) > 0)) = true) (e0 : pureCall (cf L) (evalF (cf L) 203) 66 [PVal.list 2 [slP a, slP b]] = some (slP c)) (e1 : pureCall (cf L) (evalF (cf L) 203) 59 [slP c] = some (slP c)) : CallsP Try.prog 41 [slP a, slP b] (jnG L a b c) := by
  have key := fun (bs : List Bool) (r : PVal) (ob : List Prop) (h : callP (cf L) (evalF (cf L) 203) 203 [(9999, 0, Hint.idx), (2, 1, Hint.cut), (3, 3, Hint.pcall (slP c)), (3, 4, Hint.pcall (slP c))] 41 [slP a, slP b] bs [] (none) = .ok (r, ob)) (hp : allOb ob) => callP_ok (cf_ok L) h hp
  unfold jnG
  exact key [true, false, false] (slP c) _ (by kernel_rfl) (allOb_cons (by exact e1) (allOb_cons (by exact e0) (allOb_cons lit_f (allOb_cons p1 (allOb_cons p0 allOb_nil)))))
def jnH (L : Lib Try.prog) (a : List P2) (b : List P2) (c : List P2) : PVal :=
  slP c
theorem jnH_calls (L : Lib Try.prog) (a : List P2) (b : List P2) (c : List P2) (p0 : (decide ((↑(List.length a) : Int) > 0)) = false) (e0 : pureCall (cf L) (evalF (cf L) 203) 66 [PVal.list 2 [slP a, slP b]] = some (slP c)) (e1 : pureCall (cf L) (evalF (cf L) 203) 59 [slP c] = some (slP c)) : CallsP Try.prog 41 [slP a, slP b] (jnH L a b c) := by
  have key := fun (bs : List Bool) (r : PVal) (ob : List Prop) (h : callP (cf L) (evalF (cf L) 203) 203 [(9999, 0, Hint.idx), (2, 1, Hint.cut), (3, 3, Hint.pcall (slP c)), (3, 4, Hint.pcall (slP c))] 41 [slP a, slP b] bs [] (none) = .ok (r, ob)) (hp : allOb ob) => callP_ok (cf_ok L) h hp
  unfold jnH
  exact key [false, false, false] (slP c) _ (by kernel_rfl) (allOb_cons (by exact e1) (allOb_cons (by exact e0) (allOb_cons lit_f (allOb_cons lit_f (allOb_cons p0 allOb_nil)))))
end Go.Proofs.Ytmopbegmdegooaa
/- slices.Concat: the rounds where a slice is empty; slices.Clip. -/
namespace Go.Proofs.Ytmopbegmdegooaa
open Go Vm M
set_option linter.unusedVariables false
set_option linter.unusedSimpArgs false
def cm0n (L : Lib Try.prog) (b : List P2) (zs : List P2) : AExit × List AVal × List AObj :=
  (AExit.normal, ((jk 6 ++ [AVal.row 0 0 2 0 0] ++ jk 18 ++ [AVal.list 2 [PVal.list 0 [], slP b], AVal.v (Value.int IntKind.i64 2), AVal.v (Value.int IntKind.i64 (IntKind.wrap IntKind.i64 (0 + 1)))] ++ jk 8), ([AObj.row 2 0 none (upL (flatPP zs))])))
theorem cm0n_eq (L : Lib Try.prog) (b : List P2) (zs : List P2) : roundC 0 (evalC (cfG L) (evalF (cfG L) 202) (Option.getD (List.lookup 66 lives) []) 0 0 202 (loopAt Try.f66 1)) (cmT [] b (AVal.row 0 0 2 0 0) 0) ([AObj.row 2 0 none (upL (flatPP zs))]) = some (cm0n L b zs) := by
  have key := fun (bs : List Bool) (r : AExit × List AVal × List AObj) (ob : List Prop) (h : roundP (cfG L) (evalF (cfG L) 202) (Option.getD (List.lookup 66 lives) []) 0 0 202 [(9999, 0, Hint.idx)] (loopAt Try.f66 1) (cmT [] b (AVal.row 0 0 2 0 0) 0) ([AObj.row 2 0 none (upL (flatPP zs))]) bs [] = .ok (r.1, r.2.1, r.2.2, ob)) (hp : allOb ob) => roundP_ok h hp
  unfold cm0n
  exact key [true] ((AExit.normal, ((jk 6 ++ [AVal.row 0 0 2 0 0] ++ jk 18 ++ [AVal.list 2 [PVal.list 0 [], slP b], AVal.v (Value.int IntKind.i64 2), AVal.v (Value.int IntKind.i64 (IntKind.wrap IntKind.i64 (0 + 1)))] ++ jk 8), ([AObj.row 2 0 none (upL (flatPP zs))])))) _ (by kernel_rfl) (allOb_cons (show Plain ([AObj.row 2 0 none (upL (flatPP zs))]) from by simp only [Plain, List.all_append, List.all_cons, List.all_nil, plainO, upL_flatPP, flatP_plain, Nat.zero_mul, List.drop_zero] <;> rfl) (allOb_cons (show partA (Cfg.P (cfG L)) 24 (upL (List.drop (0 * 1) [slP [], slP b])) 0 = some (AVal.list (lenAt (upL (List.drop (0 * 1) [slP [], slP b]))) (cellsAt (upL (List.drop (0 * 1) [slP [], slP b])))) from by kernel_rfl) (allOb_cons (show (0 : Int) ≤ 0 ∧ (0 : Int) < (↑2 : Int) ∧ 0 < 1 ∧ 2 = 2 from by decide) (allOb_cons lit_t allOb_nil))))
def cm1s (L : Lib Try.prog) (b : List P2) (zs : List AVal) : AExit × List AVal × List AObj :=
  (AExit.normal, ((jk 6 ++ [AVal.row 0 0 2 0 (0 + List.length b)] ++ jk 18 ++ [AVal.list 2 [PVal.list 0 [], slP b], AVal.v (Value.int IntKind.i64 2), AVal.v (Value.int IntKind.i64 (IntKind.wrap IntKind.i64 (1 + 1)))] ++ jk 8), ([AObj.row 2 0 none (upL (flatPP b))])))
theorem cm1s_eq (L : Lib Try.prog) (b : List P2) (zs : List AVal) (e0 : 0 = 0 ∧ (0 + List.length b) * 16 ≤ 140737488355328 ∧ 0 + List.length b ≤ 9223372036854775807) (e1 : Ones (upL (flatPP b))) (e2 : 0 < List.length b) (e3 : List.length (flatPP b) = List.length b * 2) (e4 : 0 ≠ List.length zs) : roundC 0 (evalC (cfG L) (evalF (cfG L) 202) (Option.getD (List.lookup 66 lives) []) 0 0 202 (loopAt Try.f66 1)) (cmT [] b (AVal.row 0 0 2 0 0) 1) ([AObj.row 2 0 none zs]) = some (cm1s L b zs) := by
  have key := fun (bs : List Bool) (r : AExit × List AVal × List AObj) (ob : List Prop) (h : roundP (cfG L) (evalF (cfG L) 202) (Option.getD (List.lookup 66 lives) []) 0 0 202 [(9999, 0, Hint.idx), (13, 2, Hint.appS)] (loopAt Try.f66 1) (cmT [] b (AVal.row 0 0 2 0 0) 1) ([AObj.row 2 0 none zs]) bs [] = .ok (r.1, r.2.1, r.2.2, ob)) (hp : allOb ob) => roundP_ok h hp
  unfold cm1s
  exact key [true] ((AExit.normal, ((jk 6 ++ [AVal.row 0 0 2 0 (0 + List.length b)] ++ jk 18 ++ [AVal.list 2 [PVal.list 0 [], slP b], AVal.v (Value.int IntKind.i64 2), AVal.v (Value.int IntKind.i64 (IntKind.wrap IntKind.i64 (1 + 1)))] ++ jk 8), ([AObj.row 2 0 none (upL (flatPP b))])))) _ (by kernel_rfl) (allOb_cons (show Plain ([AObj.row 2 1 none (upL (flatPP b))]) from by simp only [Plain, List.all_append, List.all_cons, List.all_nil, plainO, upL_flatPP, flatP_plain, Nat.zero_mul, List.drop_zero] <;> rfl) (allOb_cons (by exact e4) (allOb_cons (by exact e3) (allOb_cons (by exact e2) (allOb_cons (by exact e1) (allOb_cons (by exact e0) (allOb_cons (show partA (Cfg.P (cfG L)) 24 (upL (List.drop (1 * 1) [slP [], slP b])) 0 = some (AVal.list (lenAt (upL (List.drop (1 * 1) [slP [], slP b]))) (cellsAt (upL (List.drop (1 * 1) [slP [], slP b])))) from by kernel_rfl) (allOb_cons (show (0 : Int) ≤ 1 ∧ (1 : Int) < (↑2 : Int) ∧ 0 < 1 ∧ 2 = 2 from by decide) (allOb_cons lit_t allOb_nil)))))))))
def cm1n (L : Lib Try.prog) (a : List P2) (c : List P2) (m : Nat) : AExit × List AVal × List AObj :=
  (AExit.normal, ((jk 6 ++ [AVal.row 0 0 2 0 m] ++ jk 18 ++ [AVal.list 2 [slP a, PVal.list 0 []], AVal.v (Value.int IntKind.i64 2), AVal.v (Value.int IntKind.i64 (IntKind.wrap IntKind.i64 (1 + 1)))] ++ jk 8), ([AObj.row 2 0 none (upL (flatPP c))])))
theorem cm1n_eq (L : Lib Try.prog) (a : List P2) (c : List P2) (m : Nat) : roundC 0 (evalC (cfG L) (evalF (cfG L) 202) (Option.getD (List.lookup 66 lives) []) 0 0 202 (loopAt Try.f66 1)) (cmT a [] (AVal.row 0 0 2 0 m) 1) ([AObj.row 2 0 none (upL (flatPP c))]) = some (cm1n L a c m) := by
  have key := fun (bs : List Bool) (r : AExit × List AVal × List AObj) (ob : List Prop) (h : roundP (cfG L) (evalF (cfG L) 202) (Option.getD (List.lookup 66 lives) []) 0 0 202 [(9999, 0, Hint.idx)] (loopAt Try.f66 1) (cmT a [] (AVal.row 0 0 2 0 m) 1) ([AObj.row 2 0 none (upL (flatPP c))]) bs [] = .ok (r.1, r.2.1, r.2.2, ob)) (hp : allOb ob) => roundP_ok h hp
  unfold cm1n
  exact key [true] ((AExit.normal, ((jk 6 ++ [AVal.row 0 0 2 0 m] ++ jk 18 ++ [AVal.list 2 [slP a, PVal.list 0 []], AVal.v (Value.int IntKind.i64 2), AVal.v (Value.int IntKind.i64 (IntKind.wrap IntKind.i64 (1 + 1)))] ++ jk 8), ([AObj.row 2 0 none (upL (flatPP c))])))) _ (by kernel_rfl) (allOb_cons (show Plain ([AObj.row 2 0 none (upL (flatPP c))]) from by simp only [Plain, List.all_append, List.all_cons, List.all_nil, plainO, upL_flatPP, flatP_plain, Nat.zero_mul, List.drop_zero] <;> rfl) (allOb_cons (show partA (Cfg.P (cfG L)) 24 (upL (List.drop (1 * 1) [slP a, slP []])) 0 = some (AVal.list (lenAt (upL (List.drop (1 * 1) [slP a, slP []]))) (cellsAt (upL (List.drop (1 * 1) [slP a, slP []])))) from by kernel_rfl) (allOb_cons (show (0 : Int) ≤ 1 ∧ (1 : Int) < (↑2 : Int) ∧ 0 < 1 ∧ 2 = 2 from by decide) (allOb_cons lit_t allOb_nil))))
def cmN0 (L : Lib Try.prog) : AExit × List AVal × List AObj :=
  (AExit.normal, ((jk 6 ++ [AVal.v (Value.slice none 0 0)] ++ jk 18 ++ [AVal.list 2 [PVal.list 0 [], PVal.list 0 []], AVal.v (Value.int IntKind.i64 2), AVal.v (Value.int IntKind.i64 (IntKind.wrap IntKind.i64 (0 + 1)))] ++ jk 8), []))
theorem cmN0_eq (L : Lib Try.prog) : roundC 0 (evalC (cfG L) (evalF (cfG L) 202) (Option.getD (List.lookup 66 lives) []) 0 0 202 (loopAt Try.f66 1)) (cmT [] [] (AVal.v (Value.slice none 0 0)) 0) ([]) = some (cmN0 L) := by
  have key := fun (bs : List Bool) (r : AExit × List AVal × List AObj) (ob : List Prop) (h : roundP (cfG L) (evalF (cfG L) 202) (Option.getD (List.lookup 66 lives) []) 0 0 202 [(9999, 0, Hint.idx)] (loopAt Try.f66 1) (cmT [] [] (AVal.v (Value.slice none 0 0)) 0) ([]) bs [] = .ok (r.1, r.2.1, r.2.2, ob)) (hp : allOb ob) => roundP_ok h hp
  unfold cmN0
  exact key [true] ((AExit.normal, ((jk 6 ++ [AVal.v (Value.slice none 0 0)] ++ jk 18 ++ [AVal.list 2 [PVal.list 0 [], PVal.list 0 []], AVal.v (Value.int IntKind.i64 2), AVal.v (Value.int IntKind.i64 (IntKind.wrap IntKind.i64 (0 + 1)))] ++ jk 8), []))) _ (by kernel_rfl) (allOb_cons (show Plain [] from by simp only [Plain, List.all_append, List.all_cons, List.all_nil, plainO, upL_flatPP, flatP_plain, Nat.zero_mul, List.drop_zero] <;> rfl) (allOb_cons (show partA (Cfg.P (cfG L)) 24 (upL (List.drop (0 * 1) [slP [], slP []])) 0 = some (AVal.list (lenAt (upL (List.drop (0 * 1) [slP [], slP []]))) (cellsAt (upL (List.drop (0 * 1) [slP [], slP []])))) from by kernel_rfl) (allOb_cons (show (0 : Int) ≤ 0 ∧ (0 : Int) < (↑2 : Int) ∧ 0 < 1 ∧ 2 = 2 from by decide) (allOb_cons lit_t allOb_nil))))
def cmN1 (L : Lib Try.prog) : AExit × List AVal × List AObj :=
  (AExit.normal, ((jk 6 ++ [AVal.v (Value.slice none 0 0)] ++ jk 18 ++ [AVal.list 2 [PVal.list 0 [], PVal.list 0 []], AVal.v (Value.int IntKind.i64 2), AVal.v (Value.int IntKind.i64 (IntKind.wrap IntKind.i64 (1 + 1)))] ++ jk 8), []))
theorem cmN1_eq (L : Lib Try.prog) : roundC 0 (evalC (cfG L) (evalF (cfG L) 202) (Option.getD (List.lookup 66 lives) []) 0 0 202 (loopAt Try.f66 1)) (cmT [] [] (AVal.v (Value.slice none 0 0)) 1) ([]) = some (cmN1 L) := by
  have key := fun (bs : List Bool) (r : AExit × List AVal × List AObj) (ob : List Prop) (h : roundP (cfG L) (evalF (cfG L) 202) (Option.getD (List.lookup 66 lives) []) 0 0 202 [(9999, 0, Hint.idx)] (loopAt Try.f66 1) (cmT [] [] (AVal.v (Value.slice none 0 0)) 1) ([]) bs [] = .ok (r.1, r.2.1, r.2.2, ob)) (hp : allOb ob) => roundP_ok h hp
  unfold cmN1
  exact key [true] ((AExit.normal, ((jk 6 ++ [AVal.v (Value.slice none 0 0)] ++ jk 18 ++ [AVal.list 2 [PVal.list 0 [], PVal.list 0 []], AVal.v (Value.int IntKind.i64 2), AVal.v (Value.int IntKind.i64 (IntKind.wrap IntKind.i64 (1 + 1)))] ++ jk 8), []))) _ (by kernel_rfl) (allOb_cons (show Plain [] from by simp only [Plain, List.all_append, List.all_cons, List.all_nil, plainO, upL_flatPP, flatP_plain, Nat.zero_mul, List.drop_zero] <;> rfl) (allOb_cons (show partA (Cfg.P (cfG L)) 24 (upL (List.drop (1 * 1) [slP [], slP []])) 0 = some (AVal.list (lenAt (upL (List.drop (1 * 1) [slP [], slP []]))) (cellsAt (upL (List.drop (1 * 1) [slP [], slP []])))) from by kernel_rfl) (allOb_cons (show (0 : Int) ≤ 1 ∧ (1 : Int) < (↑2 : Int) ∧ 0 < 1 ∧ 2 = 2 from by decide) (allOb_cons lit_t allOb_nil))))
def cmN2 (L : Lib Try.prog) : AExit × List AVal × List AObj :=
  (AExit.exit 2, ((jk 6 ++ [AVal.v (Value.slice none 0 0)] ++ jk 18 ++ [AVal.list 2 [PVal.list 0 [], PVal.list 0 []], AVal.v (Value.int IntKind.i64 2), AVal.v (Value.int IntKind.i64 2), AVal.v (Value.bool false)] ++ jk 7), []))
theorem cmN2_eq (L : Lib Try.prog) : roundC 0 (evalC (cfG L) (evalF (cfG L) 202) (Option.getD (List.lookup 66 lives) []) 0 0 202 (loopAt Try.f66 1)) (cmT [] [] (AVal.v (Value.slice none 0 0)) 2) ([]) = some (cmN2 L) := by
  have key := fun (bs : List Bool) (r : AExit × List AVal × List AObj) (ob : List Prop) (h : roundP (cfG L) (evalF (cfG L) 202) (Option.getD (List.lookup 66 lives) []) 0 0 202 [(9999, 0, Hint.idx)] (loopAt Try.f66 1) (cmT [] [] (AVal.v (Value.slice none 0 0)) 2) ([]) bs [] = .ok (r.1, r.2.1, r.2.2, ob)) (hp : allOb ob) => roundP_ok h hp
  unfold cmN2
  exact key [false] ((AExit.exit 2, ((jk 6 ++ [AVal.v (Value.slice none 0 0)] ++ jk 18 ++ [AVal.list 2 [PVal.list 0 [], PVal.list 0 []], AVal.v (Value.int IntKind.i64 2), AVal.v (Value.int IntKind.i64 2), AVal.v (Value.bool false)] ++ jk 7), []))) _ (by kernel_rfl) (allOb_cons (show Plain [] from by simp only [Plain, List.all_append, List.all_cons, List.all_nil, plainO, upL_flatPP, flatP_plain, Nat.zero_mul, List.drop_zero] <;> rfl) (allOb_cons lit_f allOb_nil))
def gw0 (L : Lib Try.prog) : AVal × List AObj :=
  (AVal.v (Value.slice none 0 0), [])
theorem gw0_eq (L : Lib Try.prog) : evalF (cfG L) (201 + 1) (0) 83 ([AVal.v (Value.slice none 0 0), iA 0]) ([]) = some (gw0 L) := by
  have key := fun (bs : List Bool) (r : AVal × List AObj) (ob : List Prop) (h : funP (cfG L) (evalF (cfG L) 201) 201 [(9999, 0, Hint.idx)] 83 (0) ([AVal.v (Value.slice none 0 0), iA 0]) ([]) bs [] = .ok (r.1, r.2, ob)) (hp : allOb ob) => funP_ok h hp
  unfold gw0
  exact key [false, false] ((AVal.v (Value.slice none 0 0), [])) _ (by kernel_rfl) (allOb_cons lit_f (allOb_cons lit_f allOb_nil))
def cnN (L : Lib Try.prog) : PVal :=
  PVal.v (Value.slice none 0 0)
theorem cnN_calls (L : Lib Try.prog) (e0 : iterC 0 (evalC (cfG L) (evalF (cfG L) 202) ((lives.lookup 66).getD []) 0 0 202 (loopAt Try.f66 0)) 202 ([AVal.list 2 [PVal.list 0 [], PVal.list 0 []], AVal.junk, AVal.junk, AVal.v (Value.int IntKind.i64 0)] ++ jk 5 ++ [AVal.list 2 [PVal.list 0 [], PVal.list 0 []], AVal.v (Value.int IntKind.i64 (↑2 : Int)), AVal.v (Value.int IntKind.i64 0)] ++ jk 24) [] = some (AExit.exit 0, (([AVal.list 2 [PVal.list 0 [], PVal.list 0 []], AVal.junk, AVal.junk, AVal.v (Value.int IntKind.i64 0)] ++ jk 5 ++ [AVal.list 2 [PVal.list 0 [], PVal.list 0 []], AVal.v (Value.int IntKind.i64 2), AVal.v (Value.int IntKind.i64 2), AVal.v (Value.bool false)] ++ jk 23), []))) (e1 : callA (cfG L) (evalF (cfG L) 202) 0 83 [AVal.v (Value.slice none 0 0), AVal.v (Value.int IntKind.i64 0)] [] = some (AVal.v (Value.slice none 0 0), [])) (e2 : iterC 0 (evalC (cfG L) (evalF (cfG L) 202) ((lives.lookup 66).getD []) 0 0 202 (loopAt Try.f66 1)) 202 (jk 6 ++ [AVal.v (Value.slice none 0 0)] ++ jk 18 ++ [AVal.list 2 [PVal.list 0 [], PVal.list 0 []], AVal.v (Value.int IntKind.i64 (↑2 : Int)), AVal.v (Value.int IntKind.i64 0)] ++ jk 8) [] = some (AExit.exit 2, ((jk 6 ++ [AVal.v (Value.slice none 0 0)] ++ jk 18 ++ [AVal.list 2 [PVal.list 0 [], PVal.list 0 []], AVal.v (Value.int IntKind.i64 2), AVal.v (Value.int IntKind.i64 2), AVal.v (Value.bool false)] ++ jk 7), []))) : CallsP Try.prog 66 [LL [] []] (cnN L) := by
  have key := fun (bs : List Bool) (r : PVal) (ob : List Prop) (h : callP (cfG L) (evalF (cfG L) 202) 202 [(9999, 0, Hint.idx), (9, 1, Hint.call (AVal.v (Value.slice none 0 0)) [])] 66 [LL [] []] bs [(AExit.exit 0, cnE [] [] 0 2, []), (AExit.exit 2, cmE [] [] (AVal.v (Value.slice none 0 0)) 2, [])] (none) = .ok (r, ob)) (hp : allOb ob) => callP_ok (cfG_ok L) h hp
  unfold cnN
  exact key [] (PVal.v (Value.slice none 0 0)) _ (by kernel_rfl) (allOb_cons (by exact e2) (allOb_cons (by exact e1) (allOb_cons (by exact e0) allOb_nil)))
end Go.Proofs.Ytmopbegmdegooaa
/- slices.Concat, Clip, line.Join: what they answer. -/
namespace Go.Proofs.Ytmopbegmdegooaa
open Go Vm M
set_option linter.unusedVariables false
set_option linter.unusedSimpArgs false
def zP (s : Nat) : List P2 := List.replicate s (0, 0)
theorem zs_flat : ∀ s : Nat, (List.replicate s (List.map AVal.v (Array.toList (Value.cells (Value.agg #[Value.int IntKind.i64 0, Value.int IntKind.i64 0]))))).flatten = upL (flatPP (zP s))
  | 0 => rfl
  | s + 1 => by
    have := zs_flat s
    unfold zP at this ⊢
    rw [List.replicate_succ, List.replicate_succ, List.flatten_cons, this]
    rfl
theorem grow_call {L : Lib Try.prog} {s : Nat} (h1 : 1 ≤ s) (h : s ≤ 1000) : callA (cfG L) (evalF (cfG L) 202) 0 83 [.v (.slice none 0 0), .v (.int .i64 s)] [] = some (.row 0 0 2 0 0, [.row 2 0 none (upL (flatPP (zP s)))]) := by
  have e0 : IntKind.i64.wrap ((0 : Int) - 0) = 0 := IntWalk.i64_in _ (by omega)
  have e1 : IntKind.i64.wrap ((s : Int) - IntKind.i64.wrap ((0 : Int) - 0)) = (s : Int) := by rw [e0, IntWalk.i64_in _ (by omega), Int.sub_zero]
  have h2 := gw_eq L s (decide_eq_true (by rw [e1]; omega)) (decide_eq_false (by omega)) (by rw [e1]; exact ⟨by omega, by omega, by omega⟩)
  unfold gw at h2
  rw [e1, Int.toNat_natCast, zs_flat] at h2
  have e : callA (cfG L) (evalF (cfG L) 202) 0 83 [.v (.slice none 0 0), .v (.int .i64 s)] [] = evalF (cfG L) 202 0 83 [.v (.slice none 0 0), .v (.int .i64 s)] [] := by kernel_rfl
  rw [e]
  exact h2
section
variable (L : Lib Try.prog) (a b : List P2) (ha : a.length ≤ 200) (hb : b.length ≤ 200)
noncomputable abbrev bodyC0 : List AVal → List AObj → Res := evalC (cfG L) (evalF (cfG L) 202) ((lives.lookup 66).getD []) 0 0 202 (loopAt Try.f66 0)
noncomputable abbrev bodyC1 : List AVal → List AObj → Res := evalC (cfG L) (evalF (cfG L) 202) ((lives.lookup 66).getD []) 0 0 202 (loopAt Try.f66 1)
include ha hb in
theorem cc_size : At 0 (bodyC0 L) 3 (cnT a b 0 0) [] (some (.exit 0, cnE a b ((a ++ b).length : Nat) 2, [])) := by
  have w0 : IntKind.i64.wrap ((0 : Int) + ((a.length : Nat) : Int)) = (a.length : Int) := by rw [IntWalk.i64_in _ (by omega)]; omega
  have w1 : IntKind.i64.wrap ((a.length : Int) + ((b.length : Nat) : Int)) = ((a ++ b).length : Nat) := by rw [IntWalk.i64_in _ (by omega), List.length_append]; omega
  have s0 : roundC 0 (bodyC0 L) (cnT a b 0 0) [] = some (.normal, cnT a b a.length 1, []) := by
    rw [show bodyC0 L = _ from rfl]
    rw [cn0_eq L a b 0 (decide_eq_false (by show ¬ IntKind.i64.wrap ((0 : Int) + ((a.length : Nat) : Int)) < 0; rw [w0]; omega))]
    have e : cn0 L a b 0 = (.normal, cnT a b (IntKind.i64.wrap ((0 : Int) + ((a.length : Nat) : Int))) 1, []) := by kernel_rfl
    rw [e, w0]
  have s1 : roundC 0 (bodyC0 L) (cnT a b a.length 1) [] = some (.normal, cnT a b ((a ++ b).length : Nat) 2, []) := by
    rw [show bodyC0 L = _ from rfl]
    rw [cn1_eq L a b a.length (decide_eq_false (by show ¬ IntKind.i64.wrap ((a.length : Int) + ((b.length : Nat) : Int)) < 0; rw [w1]; omega))]
    have e : cn1 L a b a.length = (.normal, cnT a b (IntKind.i64.wrap ((a.length : Int) + ((b.length : Nat) : Int))) 2, []) := by kernel_rfl
    rw [e, w1]
  exact At.step s0 (At.step s1 (At.leave (cn2_eq L a b ((a ++ b).length : Nat)) (by simp)))
include ha hb in
theorem cc_fill (h : 1 ≤ (a ++ b).length) : At 0 (bodyC1 L) 3 (cmT a b (.row 0 0 2 0 0) 0) [.row 2 0 none (upL (flatPP (zP (a ++ b).length)))] (some (.exit 2, cmE a b (.row 0 0 2 0 (a ++ b).length) 2, [.row 2 0 none (upL (flatPP (a ++ b)))])) := by
  have hz : 0 ≠ (upL (flatPP (zP (a ++ b).length))).length := by rw [upL_flatPP, flatP_length]; unfold zP; rw [List.length_replicate]; omega
  have hend : ∀ m : Nat, m = (a ++ b).length → At 0 (bodyC1 L) 1 (cmT a b (.row 0 0 2 0 m) 2) [.row 2 0 none (upL (flatPP (a ++ b)))] (some (.exit 2, cmE a b (.row 0 0 2 0 (a ++ b).length) 2, [.row 2 0 none (upL (flatPP (a ++ b)))])) := fun m hm => by
    subst hm
    exact At.leave (cm2_eq L a b (a ++ b) (a ++ b).length) (by simp)
  cases a with
  | nil =>
    simp only [List.nil_append] at h hz hend ⊢
    have s0 : roundC 0 (bodyC1 L) (cmT [] b (.row 0 0 2 0 0) 0) [.row 2 0 none (upL (flatPP (zP b.length)))] = some (.normal, cmT [] b (.row 0 0 2 0 0) 1, [.row 2 0 none (upL (flatPP (zP b.length)))]) := cm0n_eq L b (zP b.length)
    have s1 : roundC 0 (bodyC1 L) (cmT [] b (.row 0 0 2 0 0) 1) [.row 2 0 none (upL (flatPP (zP b.length)))] = some (.normal, cmT [] b (.row 0 0 2 0 b.length) 2, [.row 2 0 none (upL (flatPP b))]) := by
      rw [show bodyC1 L = _ from rfl]
      rw [cm1s_eq L b (upL (flatPP (zP b.length))) ⟨rfl, by omega, by omega⟩ (by rw [upL_flatPP]; exact onesP _) (by omega) (flatPP_length _) hz]
      unfold cm1s
      rw [Nat.zero_add]
      rfl
    exact At.step s0 (At.step s1 (hend _ rfl))
  | cons p ps =>
    have s0 : roundC 0 (bodyC1 L) (cmT (p :: ps) b (.row 0 0 2 0 0) 0) [.row 2 0 none (upL (flatPP (zP (p :: ps ++ b).length)))] = some (.normal, cmT (p :: ps) b (.row 0 0 2 0 (p :: ps).length) 1, [.row 2 0 none (upL (flatPP (p :: ps)))]) := by
      rw [show bodyC1 L = _ from rfl]
      rw [cm0_eq L (p :: ps) b (upL (flatPP (zP (p :: ps ++ b).length))) ⟨rfl, by omega, by omega⟩ (by rw [upL_flatPP]; exact onesP _) (by simp) (flatPP_length _) hz]
      unfold cm0
      rw [Nat.zero_add]
      rfl
    cases b with
    | nil =>
      simp only [List.append_nil] at hend s0 ⊢
      have s1 : roundC 0 (bodyC1 L) (cmT (p :: ps) [] (.row 0 0 2 0 (p :: ps).length) 1) [.row 2 0 none (upL (flatPP (p :: ps)))] = some (.normal, cmT (p :: ps) [] (.row 0 0 2 0 (p :: ps).length) 2, [.row 2 0 none (upL (flatPP (p :: ps)))]) := cm1n_eq L (p :: ps) (p :: ps) (p :: ps).length
      exact At.step s0 (At.step s1 (hend _ rfl))
    | cons q qs =>
      have s1 : roundC 0 (bodyC1 L) (cmT (p :: ps) (q :: qs) (.row 0 0 2 0 (p :: ps).length) 1) [.row 2 0 none (upL (flatPP (p :: ps)))] = some (.normal, cmT (p :: ps) (q :: qs) (.row 0 0 2 0 ((p :: ps).length + (q :: qs).length)) 2, [.row 2 0 none (upL (flatPP (p :: ps ++ q :: qs)))]) := by
        rw [show bodyC1 L = _ from rfl]
        rw [cm1_eq L (p :: ps) (q :: qs) (p :: ps ++ q :: qs) ⟨by rw [upL_flatPP, flatP_length]; omega, by omega, by omega⟩ (by rw [upL_flatPP]; exact onesP _) (by simp) (flatPP_length _) (by rw [upL_flatPP, upL_flatPP, upL_flatPP, flatP_append])]
        rfl
      exact At.step s0 (At.step s1 (hend _ (by rw [List.length_append])))
end
theorem concat_nil : CallsP Try.prog 66 [LL [] []] (slP []) := by
  have l0 := At.use (at_more (cc_size LA8 [] [] (by simp) (by simp)) (m := 202) (by omega)) (by rfl) (T := cnT [] [] 0 0) (S := []) (by kernel_rfl)
  have g : callA (cfG LA8) (evalF (cfG LA8) 202) 0 83 [.v (.slice none 0 0), .v (.int .i64 0)] [] = some (.v (.slice none 0 0), []) := by
    have e : callA (cfG LA8) (evalF (cfG LA8) 202) 0 83 [.v (.slice none 0 0), .v (.int .i64 0)] [] = evalF (cfG LA8) 202 0 83 [.v (.slice none 0 0), .v (.int .i64 0)] [] := by kernel_rfl
    rw [e]
    exact gw0_eq LA8
  have l1 : At 0 (bodyC1 LA8) 3 (cmT [] [] (.v (.slice none 0 0)) 0) [] (some (.exit 2, cmE [] [] (.v (.slice none 0 0)) 2, [])) := At.step (cmN0_eq LA8) (At.step (cmN1_eq LA8) (At.leave (cmN2_eq LA8) (by simp)))
  exact callsP_wkR (cnN_calls LA8 l0 g (At.use (at_more l1 (m := 202) (by omega)) (by rfl) (by kernel_rfl))) (unSl_wk rfl)
theorem concat_calls (a b : List P2) (ha : a.length ≤ 200) (hb : b.length ≤ 200) : CallsP Try.prog 66 [LL a b] (slP (a ++ b)) := by
  by_cases h : 1 ≤ (a ++ b).length
  · have hz : ([.row 2 0 none (upL (flatPP (zP (a ++ b).length)))] : List AObj).all plainO = true := by
      simp only [List.all_cons, List.all_nil, plainO, upL_flatPP, flatP_plain]
      rfl
    have l0 := At.use (at_more (cc_size LA8 a b ha hb) (m := 202) (by omega)) (by rfl) (T := cnT a b 0 0) (S := []) (by kernel_rfl)
    have l1 := At.use (at_more (cc_fill LA8 a b ha hb h) (m := 202) (by omega)) hz (T := cmT a b (.row 0 0 2 0 0) 0) (S := [.row 2 0 none (upL (flatPP (zP (a ++ b).length)))]) (by kernel_rfl)
    refine cnAl_calls LA8 a b (a ++ b) (upL (flatPP (zP (a ++ b).length))) ((a ++ b).length : Nat) (a ++ b).length l0 (grow_call h (by rw [List.length_append]; omega)) l1 ?_
    have hS : ([.row 2 0 none (upL (flatPP (a ++ b)))] : List AObj)[0]? = some (.row 2 0 none (flatP (a ++ b))) := by rw [upL_flatPP]; rfl
    rw [show deep = 5 + 1 from rfl, mark_row (n := 5) hS]
    exact peek_rowE (n := 4) (by rw [upL_flatPP]; rfl)
  · have h0 : (a ++ b).length = 0 := by omega
    rw [List.length_append] at h0
    obtain rfl : a = [] := List.eq_nil_of_length_eq_zero (by omega)
    obtain rfl : b = [] := List.eq_nil_of_length_eq_zero (by omega)
    exact concat_nil
end Go.Proofs.Ytmopbegmdegooaa
/- line.Join: what it answers. -/
namespace Go.Proofs.Ytmopbegmdegooaa
open Go Vm M
set_option linter.unusedVariables false
set_option linter.unusedSimpArgs false
theorem clipV_calls (c : List P2) : CallsP Try.prog 59 [slP c] (slP c) := by
  cases c with
  | nil => exact callsP_wkR (callP_ok (cf_ok LR4) (k := 2) (hs := []) (f := 59) (ps := [slP []]) (bs := []) (ls := []) (out := none) (r := .clip) (ob := []) (by kernel_rfl) allOb_nil) Wk_clip
  | cons q qs =>
    have h := callP_ok (cf_ok LR4) (k := 2) (hs := [(1, 5, .cut)]) (f := 59) (ps := [slP (q :: qs)]) (bs := []) (ls := []) (out := none) (r := .list ((((q :: qs).length : Nat) : Int).toNat - 0) (cutA (flatPP (q :: qs)) 2 0 (((q :: qs).length : Nat) : Int).toNat))
      (ob := [∃ m, boundsA (q :: qs).length none (some (iA ((q :: qs).length : Int))) (some (iA ((q :: qs).length : Int))) = some (0, (((q :: qs).length : Nat) : Int).toNat, some m) ∧ m ≠ 0]) (by kernel_rfl) (allOb_cons ⟨(q :: qs).length, boundsA_clip _, by simp⟩ allOb_nil)
    rw [Int.toNat_natCast, cutP_flat, List.drop_zero, Nat.sub_zero, List.take_length] at h
    exact h
/-- A slice of points, just so. -/
def unL2 : PVal → Option (List P2)
  | .list n xs => match unFlat xs with
    | some ps => if ps.length = n then some ps else none
    | none => none
  | _ => none
theorem unL2_eq {x : PVal} {ps : List P2} (h : unL2 x = some ps) : x = slP ps := by
  unfold unL2 at h
  split at h
  · split at h
    · rename_i qs hq
      split at h
      · rename_i hl
        simp only [Option.some.injEq] at h
        subst h
        unfold slP
        rw [hl, unFlat_some hq]
      · cases h
    · cases h
  · cases h
theorem unL2_slP (ps : List P2) : unL2 (slP ps) = some ps := by simp [unL2, slP, unFlat_flat]
def gCat : List PVal → Option PVal
  | [.list 2 [x, y]] => match unL2 x, unL2 y with
    | some a, some b => if a.length ≤ 200 ∧ b.length ≤ 200 then some (slP (a ++ b)) else none
    | _, _ => none
  | _ => none
theorem gCat_spec : ∀ ps r, gCat ps = some r → CallsP Try.prog 66 ps r := by
  intro ps r h
  unfold gCat at h
  split at h
  · split at h
    · rename_i a b ha hb
      split at h
      · rename_i hl
        simp only [Option.some.injEq] at h
        subst h
        rw [unL2_eq ha, unL2_eq hb]
        exact concat_calls a b hl.1 hl.2
      · cases h
    · cases h
  · cases h
theorem gCat_of {a b : List P2} (ha : a.length ≤ 200) (hb : b.length ≤ 200) : gCat [.list 2 [slP a, slP b]] = some (slP (a ++ b)) := by
  unfold gCat
  simp only [unL2_slP]
  exact if_pos ⟨ha, hb⟩
noncomputable def LJ1 : Lib Try.prog := LR4.add 59 (fun ps => match ps with | [x] => (unSl x).map slP | _ => none) (Vm.enters_of named_prog Try.func59 (by kernel_rfl)) (fun ps r h => by
  split at h
  · rename_i x
    cases hx : unSl x with
    | none => rw [hx] at h; cases h
    | some c =>
      rw [hx] at h
      simp only [Option.map_some, Option.some.injEq] at h
      subst h
      exact callsP_weak (clipV_calls c) ⟨unSl_wk hx, trivial⟩
  · cases h)
noncomputable def LJ2 : Lib Try.prog := LJ1.add 66 gCat (Vm.enters_of named_prog Try.func66 (by kernel_rfl)) gCat_spec
/-- One line behind another. -/
def joinP (a b : List P2) : List P2 := bif decide (0 < a.length) && decide (0 < b.length) && eqB (pAt a (a.length - 1)) (pAt b 0) then a ++ b.drop 1 else a ++ b
theorem clip_j {ev : Ev} (c : List P2) : pureCall (cf LJ2) ev 59 [slP c] = some (slP c) := pure_given (g := fun ps => match ps with | [x] => (unSl x).map slP | _ => none) (by kernel_rfl) (by simp only [unSl_slP]; rfl)
theorem cat_j {ev : Ev} {a b : List P2} (ha : a.length ≤ 200) (hb : b.length ≤ 200) : pureCall (cf LJ2) ev 66 [.list 2 [slP a, slP b]] = some (slP (a ++ b)) := pure_given (g := gCat) (by kernel_rfl) (gCat_of ha hb)
theorem join_calls (a b : List P2) (ha : a.length ≤ 200) (hb : b.length ≤ 200) : CallsP Try.prog 41 [slP a, slP b] (slP (joinP a b)) := by
  unfold joinP
  by_cases h1 : 0 < a.length
  · have d1 : decide ((a.length : Int) > 0) = true := decide_eq_true (by omega)
    have hw : IntKind.i64.wrap ((a.length : Int) - 1) = ((a.length - 1 : Nat) : Int) := by rw [IntWalk.i64_in _ (by omega)]; omega
    by_cases h2 : 0 < b.length
    · have d2 : decide ((b.length : Int) > 0) = true := decide_eq_true (by omega)
      rw [decide_eq_true h1, decide_eq_true h2, Bool.true_and, Bool.true_and]
      cases he : eqB (pAt a (a.length - 1)) (pAt b 0) with
      | true =>
        refine jnT_calls LJ2 a b (a ++ b.drop 1) (by rw [hw, Int.toNat_natCast]; exact he) d2 d1 ⟨by rw [hw]; omega, by rw [hw]; omega⟩ ⟨by omega, by omega⟩ (by rw [show (1 : Int) = ((1 : Nat) : Int) from rfl]; exact boundsA_lo (by omega)) ?_ (clip_j _)
        rw [cutP_flat, List.take_of_length_le (by rw [List.length_drop]; omega)]
        have := @cat_j (evalF (cf LJ2) 203) a (b.drop 1) ha (by rw [List.length_drop]; omega)
        rw [show slP (b.drop 1) = .list (b.drop 1).length (flatPP (b.drop 1)) from rfl, List.length_drop] at this
        exact this
      | false =>
        exact jnF_calls LJ2 a b (a ++ b) (by rw [hw, Int.toNat_natCast]; exact he) d2 d1 ⟨by rw [hw]; omega, by rw [hw]; omega⟩ ⟨by omega, by omega⟩ (cat_j ha hb) (clip_j _)
    · rw [decide_eq_false h2, Bool.and_false, Bool.false_and]
      exact jnG_calls LJ2 a b (a ++ b) (decide_eq_false (by omega)) d1 (cat_j ha hb) (clip_j _)
  · rw [decide_eq_false h1, Bool.false_and, Bool.false_and]
    exact jnH_calls LJ2 a b (a ++ b) (decide_eq_false (by omega)) (cat_j ha hb) (clip_j _)
noncomputable def LJ3 : Lib Try.prog := LJ2.add 41 (gSSo fun a b => if a.length ≤ 200 ∧ b.length ≤ 200 then some (slP (joinP a b)) else none) (Vm.enters_of named_prog Try.func41 (by kernel_rfl)) (gSSo_spec fun a b r h => by
  by_cases hl : a.length ≤ 200 ∧ b.length ≤ 200
  · rw [if_pos hl, Option.some.injEq] at h
    subst h
    exact join_calls a b hl.1 hl.2
  · rw [if_neg hl] at h
    cases h)
noncomputable def LJ4 : Lib Try.prog := LJ3.add 31 (gSSo fSame) (Vm.enters_of named_prog Try.func31 (by kernel_rfl)) (gSSo_spec fSame_ok)
end Go.Proofs.Ytmopbegmdegooaa
/- LineCuts: its rounds, its paths. -/
namespace Go.Proofs.Ytmopbegmdegooaa
open Go Vm M
set_option linter.unusedVariables false
set_option linter.unusedSimpArgs false
def ctT (ls : List P2) (r p : AVal) (k : Int) : List AVal := [slA ls, .junk, .junk, r, p, iA k] ++ jk 61
def ctS (ls : List P2) : List AObj := [.row 2 0 none (upL (flatPP ls))]
def ctF (ls : List P2) : List AObj → List AObj := fun S => S.set 0 (.row 2 0 (some (upL (flatPP ls)).length) (upL (flatPP ls)))
def wsA (ws : List (List P2)) : List AVal := ws.map slA
theorem wsA_plain (ws : List (List P2)) : (wsA ws).all plainV = true := by
  unfold wsA
  rw [List.all_map, List.all_eq_true]
  exact fun x _ => rfl
def ctP (ws : List (List P2)) : List AObj := [.free, .free, .row 1 0 none (wsA ws)]
def ctE (ls : List P2) (r p : AVal) (k : Int) : List AVal := [slA ls, .junk, .junk, r, p, iA k] ++ jk 15 ++ [bA false] ++ jk 45
def ctU (ls : List P2) (r p : AVal) (i : Int) : List AVal := [slA ls, .junk, .junk, r, p] ++ jk 4 ++ [iA i] ++ jk 57
def ctV (ls : List P2) (r p : AVal) (i : Int) : List AVal := [slA ls, .junk, .junk, r, p] ++ jk 4 ++ [iA i] ++ jk 42 ++ [bA false] ++ jk 14
def ct1 (L : Lib Try.prog) (ls : List P2) (a : List P2) (b : List P2) (k : Int) : AExit × List AVal × List AObj :=
  (bif decide (k ≥ 1) then (AExit.normal, (([slA ls, AVal.junk, AVal.junk, slA a, AVal.row 2 0 1 0 1, AVal.v (Value.int IntKind.i64 (IntKind.wrap IntKind.i64 (k - 1)))] ++ jk 61), ([AObj.free, AObj.free, AObj.row 1 0 none [slA b]]))) else (AExit.exit 0, (([slA ls, AVal.junk, AVal.junk, AVal.row 0 0 2 0 (List.length ls), AVal.v (Value.slice none 0 0), AVal.v (Value.int IntKind.i64 k)] ++ jk 15 ++ [AVal.v (Value.bool false)] ++ jk 45), ([AObj.row 2 0 none (upL (flatPP ls))]))))
theorem ct1_eq (L : Lib Try.prog) (ls : List P2) (a : List P2) (b : List P2) (k : Int) (p2 : ((↑(List.length a) : Int) != IntKind.wrap IntKind.i64 (k + 1)) = false) (b0 : (decide (k ≥ 1)) = true → (0 : Int) ≤ k ∧ (k : Int) < (↑(List.length ls) : Int)) (e0 : (decide (k ≥ 1)) = true → pureCall (cf L) (evalF (cf L) 201) 40 [slP ls, ptP (pAt ls (Int.toNat k))] = some (PVal.tup [slP a, slP b, PVal.v (Value.bool true)])) (e1 : (decide (k ≥ 1)) = true → mapO (peek [AObj.row 2 0 (some (List.length (upL (flatPP ls)))) (upL (flatPP ls))] deep) [AVal.row 0 0 2 0 (List.length ls), ptA (pAt ls (Int.toNat k))] = some [slP ls, ptP (pAt ls (Int.toNat k))]) (e2 : (decide (k ≥ 1)) = true → List.foldl (Vm.mark 0 deep) [AObj.row 2 0 none (upL (flatPP ls))] [AVal.row 0 0 2 0 (List.length ls), ptA (pAt ls (Int.toNat k))] = [AObj.row 2 0 (some (List.length (upL (flatPP ls)))) (upL (flatPP ls))]) (e3 : (decide (k ≥ 1)) = true → Ones [slA b]) : roundC 0 (evalC (cf L) (evalF (cf L) 201) (Option.getD (List.lookup 14 lives) []) 0 0 201 (loopAt Try.f14 0)) (ctT ls (AVal.row 0 0 2 0 (List.length ls)) (AVal.v (Value.slice none 0 0)) k) (ctS ls) = some (ct1 L ls a b k) := by
  have key := fun (bs : List Bool) (r : AExit × List AVal × List AObj) (ob : List Prop) (h : roundP (cf L) (evalF (cf L) 201) (Option.getD (List.lookup 14 lives) []) 0 0 201 [(9999, 0, Hint.idx), (8, 5, Hint.pcallV [slP ls, ptP (pAt ls (Int.toNat k))] (PVal.tup [slP a, slP b, bP true]) (ctF ls)), (11, 3, Hint.appX)] (loopAt Try.f14 0) (ctT ls (AVal.row 0 0 2 0 (List.length ls)) (AVal.v (Value.slice none 0 0)) k) (ctS ls) bs [] = .ok (r.1, r.2.1, r.2.2, ob)) (hp : allOb ob) => roundP_ok h hp
  unfold ct1
  exact bif_case (P := fun r => roundC 0 (evalC (cf L) (evalF (cf L) 201) (Option.getD (List.lookup 14 lives) []) 0 0 201 (loopAt Try.f14 0)) (ctT ls (AVal.row 0 0 2 0 (List.length ls)) (AVal.v (Value.slice none 0 0)) k) (ctS ls) = some r)
    (fun h0 => key [true, false, false] ((AExit.normal, (([slA ls, AVal.junk, AVal.junk, slA a, AVal.row 2 0 1 0 1, AVal.v (Value.int IntKind.i64 (IntKind.wrap IntKind.i64 (k - 1)))] ++ jk 61), ([AObj.free, AObj.free, AObj.row 1 0 none [slA b]])))) _ (by kernel_rfl) (allOb_cons (show Plain ([AObj.row 2 0 (some (List.length (upL (flatPP ls)))) (upL (flatPP ls)), AObj.row 1 0 none [slA b], AObj.row 1 0 none [slA b]]) from by simp only [Plain, List.all_append, List.all_cons, List.all_nil, plainO, upL_flatPP, flatP_plain, Nat.zero_mul, List.drop_zero] <;> rfl) (allOb_cons (show 1 ≤ 1 from by decide) (allOb_cons (show 0 < 1 from by decide) (allOb_cons (by exact (e3 h0)) (allOb_cons (show 24 ≤ 140737488355328 ∧ 1 ≤ 9223372036854775807 from by decide) (allOb_cons p2 (allOb_cons lit_f (allOb_cons (by exact (e2 h0)) (allOb_cons (by exact (e1 h0)) (allOb_cons (by exact (e0 h0)) (allOb_cons (show partA (Cfg.P (cf L)) 23 (upL (List.drop (Int.toNat k * 2) (flatPP ls))) 0 = some (AVal.agg ([AVal.v (Value.int IntKind.i64 (Prod.fst (pAt ls (Int.toNat k))))] ++ ([AVal.v (Value.int IntKind.i64 (Prod.snd (pAt ls (Int.toNat k))))] ++ []))) from by first | exact part_pt (b0 h0) | exact part_x (b0 h0) | exact part_y (b0 h0) | exact partQ_pt (b0 h0) | exact partQ_x (b0 h0) | exact partQ_y (b0 h0)) (allOb_cons (idx_ok (b0 h0)) (allOb_cons h0 allOb_nil))))))))))))))
    (fun h0 => key [false] ((AExit.exit 0, (([slA ls, AVal.junk, AVal.junk, AVal.row 0 0 2 0 (List.length ls), AVal.v (Value.slice none 0 0), AVal.v (Value.int IntKind.i64 k)] ++ jk 15 ++ [AVal.v (Value.bool false)] ++ jk 45), ([AObj.row 2 0 none (upL (flatPP ls))])))) _ (by kernel_rfl) (allOb_cons (show Plain ([AObj.row 2 0 none (upL (flatPP ls))]) from by simp only [Plain, List.all_append, List.all_cons, List.all_nil, plainO, upL_flatPP, flatP_plain, Nat.zero_mul, List.drop_zero] <;> rfl) (allOb_cons h0 allOb_nil)))
def ct2 (L : Lib Try.prog) (ls : List P2) (rs : List P2) (a : List P2) (b : List P2) (ws : List (List P2)) (us : List (List P2)) (k : Int) : AExit × List AVal × List AObj :=
  (bif decide (k ≥ 1) then (AExit.normal, (([slA ls, AVal.junk, AVal.junk, slA a, AVal.row 2 0 1 0 (List.length ws + 1), AVal.v (Value.int IntKind.i64 (IntKind.wrap IntKind.i64 (k - 1)))] ++ jk 61), ([AObj.free, AObj.free, AObj.row 1 0 none (wsA us)]))) else (AExit.exit 0, (([slA ls, AVal.junk, AVal.junk, slA rs, AVal.row 2 0 1 0 (List.length ws), AVal.v (Value.int IntKind.i64 k)] ++ jk 15 ++ [AVal.v (Value.bool false)] ++ jk 45), ([AObj.free, AObj.free, AObj.row 1 0 none (wsA ws)]))))
theorem ct2_eq (L : Lib Try.prog) (ls : List P2) (rs : List P2) (a : List P2) (b : List P2) (ws : List (List P2)) (us : List (List P2)) (k : Int) (p2 : ((↑(List.length a) : Int) != IntKind.wrap IntKind.i64 (k + 1)) = false) (b0 : (decide (k ≥ 1)) = true → (0 : Int) ≤ k ∧ (k : Int) < (↑(List.length ls) : Int)) (e0 : (decide (k ≥ 1)) = true → pureCall (cf L) (evalF (cf L) 201) 40 [slP rs, ptP (pAt ls (Int.toNat k))] = some (PVal.tup [slP a, slP b, PVal.v (Value.bool true)])) (e1 : (decide (k ≥ 1)) = true → (0 + List.length ws) * 1 = List.length (wsA ws) ∧ (List.length ws + 1) * 24 ≤ 140737488355328 ∧ List.length ws + 1 ≤ 9223372036854775807) (e2 : (decide (k ≥ 1)) = true → Ones [slA b]) (e3 : (decide (k ≥ 1)) = true → wsA ws ++ [slA b] = wsA us) : roundC 0 (evalC (cf L) (evalF (cf L) 201) (Option.getD (List.lookup 14 lives) []) 0 0 201 (loopAt Try.f14 0)) (ctT ls (slA rs) (AVal.row 2 0 1 0 (List.length ws)) k) (ctP ws) = some (ct2 L ls rs a b ws us k) := by
  have key := fun (bs : List Bool) (r : AExit × List AVal × List AObj) (ob : List Prop) (h : roundP (cf L) (evalF (cf L) 201) (Option.getD (List.lookup 14 lives) []) 0 0 201 [(9999, 0, Hint.idx), (8, 5, Hint.pcall (PVal.tup [slP a, slP b, bP true])), (11, 3, Hint.appY (wsA us))] (loopAt Try.f14 0) (ctT ls (slA rs) (AVal.row 2 0 1 0 (List.length ws)) k) (ctP ws) bs [] = .ok (r.1, r.2.1, r.2.2, ob)) (hp : allOb ob) => roundP_ok h hp
  unfold ct2
  exact bif_case (P := fun r => roundC 0 (evalC (cf L) (evalF (cf L) 201) (Option.getD (List.lookup 14 lives) []) 0 0 201 (loopAt Try.f14 0)) (ctT ls (slA rs) (AVal.row 2 0 1 0 (List.length ws)) k) (ctP ws) = some r)
    (fun h0 => key [true, false, false] ((AExit.normal, (([slA ls, AVal.junk, AVal.junk, slA a, AVal.row 2 0 1 0 (List.length ws + 1), AVal.v (Value.int IntKind.i64 (IntKind.wrap IntKind.i64 (k - 1)))] ++ jk 61), ([AObj.free, AObj.free, AObj.row 1 0 none (wsA us)])))) _ (by kernel_rfl) (allOb_cons (show Plain ([AObj.row 1 0 none [slA b], AObj.free, AObj.row 1 1 none (wsA us)]) from by simp only [Plain, List.all_append, List.all_cons, List.all_nil, plainO, wsA_plain, upL_flatPP, flatP_plain, Nat.zero_mul, List.drop_zero] <;> rfl) (allOb_cons (by exact (e3 h0)) (allOb_cons (show 1 ≤ 1 from by decide) (allOb_cons (show 0 < 1 from by decide) (allOb_cons (by exact (e2 h0)) (allOb_cons (by exact (e1 h0)) (allOb_cons p2 (allOb_cons lit_f (allOb_cons (by exact (e0 h0)) (allOb_cons (show partA (Cfg.P (cf L)) 23 (upL (List.drop (Int.toNat k * 2) (flatPP ls))) 0 = some (AVal.agg ([AVal.v (Value.int IntKind.i64 (Prod.fst (pAt ls (Int.toNat k))))] ++ ([AVal.v (Value.int IntKind.i64 (Prod.snd (pAt ls (Int.toNat k))))] ++ []))) from by first | exact part_pt (b0 h0) | exact part_x (b0 h0) | exact part_y (b0 h0) | exact partQ_pt (b0 h0) | exact partQ_x (b0 h0) | exact partQ_y (b0 h0)) (allOb_cons (idx_ok (b0 h0)) (allOb_cons h0 allOb_nil)))))))))))))
    (fun h0 => key [false] ((AExit.exit 0, (([slA ls, AVal.junk, AVal.junk, slA rs, AVal.row 2 0 1 0 (List.length ws), AVal.v (Value.int IntKind.i64 k)] ++ jk 15 ++ [AVal.v (Value.bool false)] ++ jk 45), ([AObj.free, AObj.free, AObj.row 1 0 none (wsA ws)])))) _ (by kernel_rfl) (allOb_cons (show Plain ([AObj.free, AObj.free, AObj.row 1 0 none (wsA ws)]) from by simp only [Plain, List.all_append, List.all_cons, List.all_nil, plainO, wsA_plain, upL_flatPP, flatP_plain, Nat.zero_mul, List.drop_zero] <;> rfl) (allOb_cons h0 allOb_nil)))
def ct3 (L : Lib Try.prog) (ls : List P2) (rs : List P2) (rt : List P2) (w : List P2) (ws : List (List P2)) (i : Int) : AExit × List AVal × List AObj :=
  (bif decide (i ≥ 0) then (AExit.normal, (([slA ls, AVal.junk, AVal.junk, slA rt, AVal.row 2 0 1 0 (List.length ws)] ++ jk 4 ++ [AVal.v (Value.int IntKind.i64 (IntKind.wrap IntKind.i64 (i - 1)))] ++ jk 57), ([AObj.free, AObj.free, AObj.row 1 0 none (wsA ws)]))) else (AExit.exit 2, (([slA ls, AVal.junk, AVal.junk, slA rs, AVal.row 2 0 1 0 (List.length ws)] ++ jk 4 ++ [AVal.v (Value.int IntKind.i64 i)] ++ jk 42 ++ [AVal.v (Value.bool false)] ++ jk 14), ([AObj.free, AObj.free, AObj.row 1 0 none (wsA ws)]))))
theorem ct3_eq (L : Lib Try.prog) (ls : List P2) (rs : List P2) (rt : List P2) (w : List P2) (ws : List (List P2)) (i : Int) (b0 : (decide (i ≥ 0)) = true → (0 : Int) ≤ i ∧ (i : Int) < (↑(List.length ws) : Int)) (e0 : (decide (i ≥ 0)) = true → partA (Cfg.P (cf L)) 24 (wsA ws) ((0 + Int.toNat i) * 1) = some (slA w)) (e1 : (decide (i ≥ 0)) = true → pureCall (cf L) (evalF (cf L) 201) 41 [slP rs, slP w] = some (slP rt)) : roundC 0 (evalC (cf L) (evalF (cf L) 201) (Option.getD (List.lookup 14 lives) []) 0 0 201 (loopAt Try.f14 1)) (ctU ls (slA rs) (AVal.row 2 0 1 0 (List.length ws)) i) (ctP ws) = some (ct3 L ls rs rt w ws i) := by
  have key := fun (bs : List Bool) (r : AExit × List AVal × List AObj) (ob : List Prop) (h : roundP (cf L) (evalF (cf L) 201) (Option.getD (List.lookup 14 lives) []) 0 0 201 [(9999, 0, Hint.idx), (16, 4, Hint.load (slA w)), (16, 5, Hint.pcall (slP rt))] (loopAt Try.f14 1) (ctU ls (slA rs) (AVal.row 2 0 1 0 (List.length ws)) i) (ctP ws) bs [] = .ok (r.1, r.2.1, r.2.2, ob)) (hp : allOb ob) => roundP_ok h hp
  unfold ct3
  exact bif_case (P := fun r => roundC 0 (evalC (cf L) (evalF (cf L) 201) (Option.getD (List.lookup 14 lives) []) 0 0 201 (loopAt Try.f14 1)) (ctU ls (slA rs) (AVal.row 2 0 1 0 (List.length ws)) i) (ctP ws) = some r)
    (fun h0 => key [true] ((AExit.normal, (([slA ls, AVal.junk, AVal.junk, slA rt, AVal.row 2 0 1 0 (List.length ws)] ++ jk 4 ++ [AVal.v (Value.int IntKind.i64 (IntKind.wrap IntKind.i64 (i - 1)))] ++ jk 57), ([AObj.free, AObj.free, AObj.row 1 0 none (wsA ws)])))) _ (by kernel_rfl) (allOb_cons (show Plain ([AObj.free, AObj.free, AObj.row 1 0 none (wsA ws)]) from by simp only [Plain, List.all_append, List.all_cons, List.all_nil, plainO, wsA_plain, upL_flatPP, flatP_plain, Nat.zero_mul, List.drop_zero] <;> rfl) (allOb_cons (by exact (e1 h0)) (allOb_cons (by exact (e0 h0)) (allOb_cons (b0 h0) (allOb_cons h0 allOb_nil))))))
    (fun h0 => key [false] ((AExit.exit 2, (([slA ls, AVal.junk, AVal.junk, slA rs, AVal.row 2 0 1 0 (List.length ws)] ++ jk 4 ++ [AVal.v (Value.int IntKind.i64 i)] ++ jk 42 ++ [AVal.v (Value.bool false)] ++ jk 14), ([AObj.free, AObj.free, AObj.row 1 0 none (wsA ws)])))) _ (by kernel_rfl) (allOb_cons (show Plain ([AObj.free, AObj.free, AObj.row 1 0 none (wsA ws)]) from by simp only [Plain, List.all_append, List.all_cons, List.all_nil, plainO, wsA_plain, upL_flatPP, flatP_plain, Nat.zero_mul, List.drop_zero] <;> rfl) (allOb_cons h0 allOb_nil)))
def ctA0 (L : Lib Try.prog) (ls : List P2) : PVal :=
  PVal.v (Value.bool true)
theorem ctA0_calls (L : Lib Try.prog) (ls : List P2) (p0 : (true) = true) (e0 : pureCall (cf L) (evalF (cf L) 201) 24 [slP ls] = some (PVal.v (Value.bool false))) (e1 : pureCall (cf L) (evalF (cf L) 201) 32 [] = some (PVal.v (Value.bool true))) : CallsP Try.prog 14 [slP ls] (ctA0 L ls) := by
  have key := fun (bs : List Bool) (r : PVal) (ob : List Prop) (h : callP (cf L) (evalF (cf L) 201) 201 [(9999, 0, Hint.idx), (1, 1, Hint.pcall (bP false)), (2, 0, Hint.pcall (bP true))] 14 [slP ls] bs [] (none) = .ok (r, ob)) (hp : allOb ob) => callP_ok (cf_ok L) h hp
  unfold ctA0
  exact key [true] (PVal.v (Value.bool true)) _ (by kernel_rfl) (allOb_cons (by exact e1) (allOb_cons lit_t (allOb_cons (by exact e0) allOb_nil)))
def ctA1 (L : Lib Try.prog) (ls : List P2) (rs : List P2) (rt : List P2) (ws : List (List P2)) : PVal :=
  PVal.v (Value.bool true)
theorem ctA1_calls (L : Lib Try.prog) (ls : List P2) (rs : List P2) (rt : List P2) (ws : List (List P2)) (p1 : (true) = true) (p0 : (false) = false) (e0 : pureCall (cf L) (evalF (cf L) 201) 24 [slP ls] = some (PVal.v (Value.bool true))) (e1 : 0 = 0 ∧ (0 + List.length ls) * 16 ≤ 140737488355328 ∧ 0 + List.length ls ≤ 9223372036854775807) (e2 : Ones (upL (flatPP ls))) (e3 : 0 < List.length ls) (e4 : List.length (flatPP ls) = List.length ls * 2) (e5 : iterC 0 (evalC (cf L) (evalF (cf L) 201) ((lives.lookup 14).getD []) 0 0 201 (loopAt Try.f14 0)) 201 ([AVal.list (List.length ls) (flatPP ls), AVal.junk, AVal.junk, AVal.row 0 1 2 0 (0 + List.length ls), AVal.v (Value.slice none 0 0), AVal.v (Value.int IntKind.i64 (IntKind.wrap IntKind.i64 ((↑(List.length ls) : Int) - 2)))] ++ jk 61) ([AObj.row 2 1 none (upL (flatPP ls))]) = some (AExit.exit 0, (([AVal.list (List.length ls) (flatPP ls), AVal.junk, AVal.junk, AVal.list (List.length rs) (flatPP rs), AVal.row 2 0 1 0 (List.length ws), AVal.v (Value.int IntKind.i64 0)] ++ jk 15 ++ [AVal.v (Value.bool false)] ++ jk 45), ([AObj.free, AObj.free, AObj.row 1 0 none (wsA ws)])))) (e6 : iterC 0 (evalC (cf L) (evalF (cf L) 201) ((lives.lookup 14).getD []) 0 0 201 (loopAt Try.f14 1)) 201 ([AVal.list (List.length ls) (flatPP ls), AVal.junk, AVal.junk, AVal.list (List.length rs) (flatPP rs), AVal.row 2 0 1 0 (List.length ws)] ++ jk 4 ++ [AVal.v (Value.int IntKind.i64 (IntKind.wrap IntKind.i64 ((↑(List.length ws) : Int) - 1)))] ++ jk 57) ([AObj.free, AObj.free, AObj.row 1 0 none (wsA ws)]) = some (AExit.exit 2, (([AVal.list (List.length ls) (flatPP ls), AVal.junk, AVal.junk, AVal.list (List.length rt) (flatPP rt), AVal.row 2 0 1 0 (List.length ws)] ++ jk 4 ++ [AVal.v (Value.int IntKind.i64 (-1))] ++ jk 42 ++ [AVal.v (Value.bool false)] ++ jk 14), ([AObj.free, AObj.free, AObj.row 1 0 none (wsA ws)])))) (e7 : pureCall (cf L) (evalF (cf L) 201) 31 [slP rt, slP ls] = some (PVal.v (Value.bool true))) (e8 : pureCall (cf L) (evalF (cf L) 201) 32 [] = some (PVal.v (Value.bool true))) : CallsP Try.prog 14 [slP ls] (ctA1 L ls rs rt ws) := by
  have key := fun (bs : List Bool) (r : PVal) (ob : List Prop) (h : callP (cf L) (evalF (cf L) 201) 201 [(9999, 0, Hint.idx), (1, 1, Hint.pcall (bP true)), (3, 2, Hint.appX), (17, 2, Hint.pcall (bP true)), (17, 4, Hint.pcall (bP true))] 14 [slP ls] bs [(AExit.exit 0, ctE ls (slA rs) (AVal.row 2 0 1 0 (List.length ws)) 0, ctP ws), (AExit.exit 2, ctV ls (slA rt) (AVal.row 2 0 1 0 (List.length ws)) (-1), ctP ws)] (none) = .ok (r, ob)) (hp : allOb ob) => callP_ok (cf_ok L) h hp
  unfold ctA1
  exact key [false, true] (PVal.v (Value.bool true)) _ (by kernel_rfl) (allOb_cons (by exact e8) (allOb_cons lit_t (allOb_cons (by exact e7) (allOb_cons (by exact e6) (allOb_cons (by exact e5) (allOb_cons (by exact e4) (allOb_cons (by exact e3) (allOb_cons (by exact e2) (allOb_cons (by exact e1) (allOb_cons lit_f (allOb_cons (by exact e0) allOb_nil)))))))))))
def ctA2 (L : Lib Try.prog) (ls : List P2) : PVal :=
  PVal.v (Value.bool true)
theorem ctA2_calls (L : Lib Try.prog) (ls : List P2) (p1 : (true) = true) (p0 : (false) = false) (e0 : pureCall (cf L) (evalF (cf L) 201) 24 [slP ls] = some (PVal.v (Value.bool true))) (e1 : 0 = 0 ∧ (0 + List.length ls) * 16 ≤ 140737488355328 ∧ 0 + List.length ls ≤ 9223372036854775807) (e2 : Ones (upL (flatPP ls))) (e3 : 0 < List.length ls) (e4 : List.length (flatPP ls) = List.length ls * 2) (e5 : iterC 0 (evalC (cf L) (evalF (cf L) 201) ((lives.lookup 14).getD []) 0 0 201 (loopAt Try.f14 0)) 201 ([AVal.list (List.length ls) (flatPP ls), AVal.junk, AVal.junk, AVal.row 0 1 2 0 (0 + List.length ls), AVal.v (Value.slice none 0 0), AVal.v (Value.int IntKind.i64 (IntKind.wrap IntKind.i64 ((↑(List.length ls) : Int) - 2)))] ++ jk 61) ([AObj.row 2 1 none (upL (flatPP ls))]) = some (AExit.exit 0, (([AVal.list (List.length ls) (flatPP ls), AVal.junk, AVal.junk, AVal.row 0 0 2 0 (List.length ls), AVal.v (Value.slice none 0 0), AVal.v (Value.int IntKind.i64 0)] ++ jk 15 ++ [AVal.v (Value.bool false)] ++ jk 45), ([AObj.row 2 0 none (upL (flatPP ls))])))) (e6 : iterC 0 (evalC (cf L) (evalF (cf L) 201) ((lives.lookup 14).getD []) 0 0 201 (loopAt Try.f14 1)) 201 ([AVal.list (List.length ls) (flatPP ls), AVal.junk, AVal.junk, AVal.row 0 0 2 0 (List.length ls), AVal.v (Value.slice none 0 0)] ++ jk 4 ++ [AVal.v (Value.int IntKind.i64 (IntKind.wrap IntKind.i64 ((↑0 : Int) - 1)))] ++ jk 57) ([AObj.row 2 0 none (upL (flatPP ls))]) = some (AExit.exit 2, (([AVal.list (List.length ls) (flatPP ls), AVal.junk, AVal.junk, AVal.row 0 0 2 0 (List.length ls), AVal.v (Value.slice none 0 0)] ++ jk 4 ++ [AVal.v (Value.int IntKind.i64 (-1))] ++ jk 42 ++ [AVal.v (Value.bool false)] ++ jk 14), ([AObj.row 2 0 none (upL (flatPP ls))])))) (e7 : pureCall (cf L) (evalF (cf L) 201) 31 [slP ls, slP ls] = some (PVal.v (Value.bool true))) (e8 : mapO (peek [AObj.row 2 0 (some (List.length (upL (flatPP ls)))) (upL (flatPP ls))] deep) [AVal.row 0 0 2 0 (List.length ls), slA ls] = some [slP ls, slP ls]) (e9 : List.foldl (Vm.mark 0 deep) [AObj.row 2 0 none (upL (flatPP ls))] [AVal.row 0 0 2 0 (List.length ls), slA ls] = [AObj.row 2 0 (some (List.length (upL (flatPP ls)))) (upL (flatPP ls))]) (e10 : pureCall (cf L) (evalF (cf L) 201) 32 [] = some (PVal.v (Value.bool true))) : CallsP Try.prog 14 [slP ls] (ctA2 L ls) := by
  have key := fun (bs : List Bool) (r : PVal) (ob : List Prop) (h : callP (cf L) (evalF (cf L) 201) 201 [(9999, 0, Hint.idx), (1, 1, Hint.pcall (bP true)), (3, 2, Hint.appX), (17, 2, Hint.pcallV [slP ls, slP ls] (bP true) (ctF ls)), (17, 4, Hint.pcall (bP true))] 14 [slP ls] bs [(AExit.exit 0, ctE ls (AVal.row 0 0 2 0 (List.length ls)) (AVal.v (Value.slice none 0 0)) 0, ctS ls), (AExit.exit 2, ctV ls (AVal.row 0 0 2 0 (List.length ls)) (AVal.v (Value.slice none 0 0)) (-1), ctS ls)] (none) = .ok (r, ob)) (hp : allOb ob) => callP_ok (cf_ok L) h hp
  unfold ctA2
  exact key [false, true] (PVal.v (Value.bool true)) _ (by kernel_rfl) (allOb_cons (by exact e10) (allOb_cons lit_t (allOb_cons (by exact e9) (allOb_cons (by exact e8) (allOb_cons (by exact e7) (allOb_cons (by exact e6) (allOb_cons (by exact e5) (allOb_cons (by exact e4) (allOb_cons (by exact e3) (allOb_cons (by exact e2) (allOb_cons (by exact e1) (allOb_cons lit_f (allOb_cons (by exact e0) allOb_nil)))))))))))))
def ct4 (L : Lib Try.prog) (ls : List P2) : AExit × List AVal × List AObj :=
  (AExit.exit 2, (([slA ls, AVal.junk, AVal.junk, AVal.row 0 0 2 0 (List.length ls), AVal.v (Value.slice none 0 0)] ++ jk 4 ++ [AVal.v (Value.int IntKind.i64 (-1))] ++ jk 42 ++ [AVal.v (Value.bool false)] ++ jk 14), ([AObj.row 2 0 none (upL (flatPP ls))])))
theorem ct4_eq (L : Lib Try.prog) (ls : List P2) : roundC 0 (evalC (cf L) (evalF (cf L) 201) (Option.getD (List.lookup 14 lives) []) 0 0 201 (loopAt Try.f14 1)) (ctU ls (AVal.row 0 0 2 0 (List.length ls)) (AVal.v (Value.slice none 0 0)) (-1)) (ctS ls) = some (ct4 L ls) := by
  have key := fun (bs : List Bool) (r : AExit × List AVal × List AObj) (ob : List Prop) (h : roundP (cf L) (evalF (cf L) 201) (Option.getD (List.lookup 14 lives) []) 0 0 201 [(9999, 0, Hint.idx)] (loopAt Try.f14 1) (ctU ls (AVal.row 0 0 2 0 (List.length ls)) (AVal.v (Value.slice none 0 0)) (-1)) (ctS ls) bs [] = .ok (r.1, r.2.1, r.2.2, ob)) (hp : allOb ob) => roundP_ok h hp
  unfold ct4
  exact key [false] ((AExit.exit 2, (([slA ls, AVal.junk, AVal.junk, AVal.row 0 0 2 0 (List.length ls), AVal.v (Value.slice none 0 0)] ++ jk 4 ++ [AVal.v (Value.int IntKind.i64 (-1))] ++ jk 42 ++ [AVal.v (Value.bool false)] ++ jk 14), ([AObj.row 2 0 none (upL (flatPP ls))])))) _ (by kernel_rfl) (allOb_cons (show Plain ([AObj.row 2 0 none (upL (flatPP ls))]) from by simp only [Plain, List.all_append, List.all_cons, List.all_nil, plainO, upL_flatPP, flatP_plain, Nat.zero_mul, List.drop_zero] <;> rfl) (allOb_cons lit_f allOb_nil))
end Go.Proofs.Ytmopbegmdegooaa
/- The law LineCuts: what its code answers is true. -/
namespace Go.Proofs.Ytmopbegmdegooaa
open Go Vm M
set_option linter.unusedVariables false
set_option linter.unusedSimpArgs false
section
variable {ev : Ev} {ps : List P2}
theorem j_ok12 : pureCall (cf LJ4) ev 24 [slP ps] = some (bP (okB ps)) := pure_given (g := gSo fun ps => some (bP (okB ps))) (by kernel_rfl) (by rw [gSo_slP])
theorem j_awake : pureCall (cf LJ4) ev 32 [] = some (bP true) := pure_given (g := fun ps => match ps with | [] => some (bP true) | _ => none) (by kernel_rfl) rfl
theorem j_split (p : P2) (h : ps.length ≤ 200) : pureCall (cf LJ4) ev 40 [slP ps, ptP p] = some (splitP ps p) := pure_given (g := gSPo fun ps p => lim ps (splitP ps p)) (by kernel_rfl) (by rw [gSPo_slP, lim_of h])
theorem j_same {qs : List P2} (h : ps.length ≤ 200) : pureCall (cf LJ4) ev 31 [slP ps, slP qs] = some (bP (decide (ps = qs))) := pure_given (g := gSSo fSame) (by kernel_rfl) (by rw [gSSo_slP]; exact if_pos h)
theorem j_join {qs : List P2} (h : ps.length ≤ 200) (h2 : qs.length ≤ 200) : pureCall (cf LJ4) ev 41 [slP ps, slP qs] = some (slP (joinP ps qs)) := pure_given (g := gSSo fun a b => if a.length ≤ 200 ∧ b.length ≤ 200 then some (slP (joinP a b)) else none) (by kernel_rfl) (by rw [gSSo_slP]; exact if_pos ⟨h, h2⟩)
end
theorem row_peek1 {S : List AObj} {o e n : Nat} {ps : List P2} (h : S[o]? = some (.row 2 e (some (upL (flatPP ps)).length) (upL (flatPP ps)))) (hn : n = ps.length) : peek S deep (.row o e 2 0 n) = some (slP ps) := by
  subst hn
  rw [upL_flatPP] at h
  exact peek_rowE (n := 4) h
theorem row_peek2 {S : List AObj} {o e n : Nat} {ps : List P2} {x : AVal} {y : PVal} (h : S[o]? = some (.row 2 e (some (upL (flatPP ps)).length) (upL (flatPP ps)))) (hn : n = ps.length) (hx : peek S deep x = some y) : mapO (peek S deep) [.row o e 2 0 n, x] = some [slP ps, y] := by
  simp only [mapO, row_peek1 h hn, hx]
theorem row_mark2 {S : List AObj} {o e e' n : Nat} {fz : Option Nat} {ps : List P2} {x : AVal} (h : S[o]? = some (.row 2 e fz (upL (flatPP ps)))) (hx : ∀ S, Vm.mark 0 deep S x = S) : List.foldl (Vm.mark 0 deep) S [.row o e' 2 0 n, x] = S.set o (.row 2 e (some (upL (flatPP ps)).length) (upL (flatPP ps))) := by
  have := row_mark (e' := e') (n := n) h
  rw [List.foldl_cons, List.foldl_nil] at this
  rw [List.foldl_cons, List.foldl_cons, List.foldl_nil, this, hx]
/-- The parts, from behind. -/
def ptW (ls : List P2) (t : Nat) : List P2 := [pAt ls (ls.length - 2 - t), pAt ls (ls.length - 1 - t)]
def wsN (ls : List P2) (m : Nat) : List (List P2) := (List.range m).map (ptW ls)
theorem wsN_length (ls : List P2) (m : Nat) : (wsN ls m).length = m := by simp [wsN]
theorem wsN_succ (ls : List P2) (m : Nat) : wsN ls (m + 1) = wsN ls m ++ [ptW ls m] := by simp [wsN, List.range_succ]
noncomputable abbrev bodyCt : List AVal → List AObj → Res := evalC (cf LJ4) (evalF (cf LJ4) 201) ((lives.lookup 14).getD []) 0 0 201 (loopAt Try.f14 0)
noncomputable abbrev bodyCu : List AVal → List AObj → Res := evalC (cf LJ4) (evalF (cf LJ4) 201) ((lives.lookup 14).getD []) 0 0 201 (loopAt Try.f14 1)
section
variable (ls : List P2) (hok : okB ls = true)
include hok
theorem ct_first (h3 : 3 ≤ ls.length) : roundC 0 bodyCt (ctT ls (.row 0 0 2 0 ls.length) (.v (.slice none 0 0)) (ls.length - 2 : Nat)) (ctS ls) = some (.normal, ctT ls (slA (ls.take (ls.length - 1))) (.row 2 0 1 0 (wsN ls 1).length) ((ls.length - 2 - 1 : Nat) : Int), ctP (wsN ls 1)) := by
  obtain ⟨h2, h64, _, _⟩ := okB_parts hok
  have hsp := split_own hok (k := ls.length - 2) (by omega) (by omega)
  rw [show ls.length - 2 + 2 = ls.length by omega, List.take_length, show ls.length - 2 + 1 = ls.length - 1 by omega] at hsp
  have hP : splitP ls (pAt ls (ls.length - 2)) = .tup [slP (ls.take (ls.length - 1)), slP [pAt ls (ls.length - 2), pAt ls (ls.length - 1)], bP true] := by unfold splitP; rw [hsp]
  have hl : (ls.take (ls.length - 1)).length = ls.length - 1 := by rw [List.length_take]; omega
  have h := ct1_eq LJ4 ls (ls.take (ls.length - 1)) [pAt ls (ls.length - 2), pAt ls (ls.length - 1)] (ls.length - 2 : Nat) (by
      rw [hl, wrS (by omega), show ls.length - 2 + 1 = ls.length - 1 by omega]
      exact bne_self_eq_false _) (fun _ => ⟨by omega, by omega⟩) (fun _ => by rw [Int.toNat_natCast]; have := @j_split (evalF (cf LJ4) 201) ls (pAt ls (ls.length - 2)) (by omega); rw [hP] at this; exact this)
    (fun _ => row_peek2 rfl rfl rfl) (fun _ => row_mark2 (fz := none) rfl fun S => rfl) (fun _ => by rfl)
  rw [show bodyCt = _ from rfl]
  rw [h]
  unfold ct1
  have hw : IntKind.i64.wrap (((ls.length - 2 : Nat) : Int) - 1) = ((ls.length - 2 - 1 : Nat) : Int) := by rw [IntWalk.i64_in _ (by omega)]; omega
  rw [decide_eq_true (by omega : ((ls.length - 2 : Nat) : Int) ≥ 1), hw]
  rfl
theorem ct_next {m : Nat} (hm1 : 1 ≤ m) (hm : m < ls.length - 2) : roundC 0 bodyCt (ctT ls (slA (ls.take (ls.length - m))) (.row 2 0 1 0 (wsN ls m).length) ((ls.length - 2 - m : Nat) : Int)) (ctP (wsN ls m)) = some (.normal, ctT ls (slA (ls.take (ls.length - (m + 1)))) (.row 2 0 1 0 (wsN ls (m + 1)).length) ((ls.length - 2 - (m + 1) : Nat) : Int), ctP (wsN ls (m + 1))) := by
  obtain ⟨h2, h64, _, _⟩ := okB_parts hok
  have hsp := split_own hok (k := ls.length - 2 - m) (by omega) (by omega)
  rw [show ls.length - 2 - m + 2 = ls.length - m by omega, show ls.length - 2 - m + 1 = ls.length - (m + 1) by omega] at hsp
  have hP : splitP (ls.take (ls.length - m)) (pAt ls (ls.length - 2 - m)) = .tup [slP (ls.take (ls.length - (m + 1))), slP (ptW ls m), bP true] := by
    unfold splitP ptW
    rw [hsp, show ls.length - 1 - m = ls.length - (m + 1) by omega]
  have hl : (ls.take (ls.length - (m + 1))).length = ls.length - (m + 1) := by rw [List.length_take]; omega
  have hl0 : (ls.take (ls.length - m)).length = ls.length - m := by rw [List.length_take]; omega
  have h := ct2_eq LJ4 ls (ls.take (ls.length - m)) (ls.take (ls.length - (m + 1))) (ptW ls m) (wsN ls m) (wsN ls (m + 1)) ((ls.length - 2 - m : Nat) : Int) (by
      rw [hl, wrS (by omega), show ls.length - 2 - m + 1 = ls.length - (m + 1) by omega]
      exact bne_self_eq_false _) (fun _ => ⟨by omega, by omega⟩) (fun _ => by rw [Int.toNat_natCast]; have := @j_split (evalF (cf LJ4) 201) (ls.take (ls.length - m)) (pAt ls (ls.length - 2 - m)) (by omega); rw [hP] at this; exact this)
    (fun _ => ⟨by unfold wsA; rw [List.length_map]; omega, by rw [wsN_length]; omega, by rw [wsN_length]; omega⟩) (fun _ => by rfl) (fun _ => by rw [wsN_succ]; unfold wsA; rw [List.map_append]; rfl)
  rw [show bodyCt = _ from rfl]
  rw [h]
  unfold ct2
  have hw : IntKind.i64.wrap (((ls.length - 2 - m : Nat) : Int) - 1) = ((ls.length - 2 - (m + 1) : Nat) : Int) := by rw [IntWalk.i64_in _ (by omega)]; omega
  rw [decide_eq_true (by omega : ((ls.length - 2 - m : Nat) : Int) ≥ 1), hw, wsN_length, wsN_length]
  rfl
theorem ct_loop (h3 : 3 ≤ ls.length) : At 0 bodyCt (ls.length - 2 + 1) (ctT ls (.row 0 0 2 0 ls.length) (.v (.slice none 0 0)) (ls.length - 2 : Nat)) (ctS ls) (some (.exit 0, ctE ls (slA (ls.take 2)) (.row 2 0 1 0 (wsN ls (ls.length - 2)).length) 0, ctP (wsN ls (ls.length - 2)))) := by
  obtain ⟨h2, h64, _, _⟩ := okB_parts hok
  have hend : roundC 0 bodyCt (ctT ls (slA (ls.take (ls.length - (ls.length - 2)))) (.row 2 0 1 0 (wsN ls (ls.length - 2)).length) ((ls.length - 2 - (ls.length - 2) : Nat) : Int)) (ctP (wsN ls (ls.length - 2))) = some (.exit 0, ctE ls (slA (ls.take 2)) (.row 2 0 1 0 (wsN ls (ls.length - 2)).length) 0, ctP (wsN ls (ls.length - 2))) := by
    rw [show ls.length - (ls.length - 2) = 2 by omega, Nat.sub_self]
    have hf : decide (((0 : Nat) : Int) ≥ 1) = false := rfl
    have hl : (ls.take 1).length = 1 := by rw [List.length_take]; omega
    have h := ct2_eq LJ4 ls (ls.take 2) (ls.take 1) [] (wsN ls (ls.length - 2)) [] ((0 : Nat) : Int) (by rw [hl]; rfl) (fun h => by rw [hf] at h; cases h) (fun h => by rw [hf] at h; cases h) (fun h => by rw [hf] at h; cases h) (fun h => by rw [hf] at h; cases h) (fun h => by rw [hf] at h; cases h)
    rw [show bodyCt = _ from rfl]
    rw [h]
    unfold ct2
    rw [hf]
    rfl
  have hgen : ∀ (d m : Nat), 1 ≤ m → m + d = ls.length - 2 → At 0 bodyCt (d + 1) (ctT ls (slA (ls.take (ls.length - m))) (.row 2 0 1 0 (wsN ls m).length) ((ls.length - 2 - m : Nat) : Int)) (ctP (wsN ls m)) (some (.exit 0, ctE ls (slA (ls.take 2)) (.row 2 0 1 0 (wsN ls (ls.length - 2)).length) 0, ctP (wsN ls (ls.length - 2)))) := by
    intro d
    induction d with
    | zero =>
      intro m hm1 hm
      obtain rfl : m = ls.length - 2 := by omega
      exact At.leave hend (by simp)
    | succ d ih =>
      intro m hm1 hm
      exact At.step (ct_next ls hok hm1 (by omega)) (ih (m + 1) (by omega) (by omega))
  have := At.step (ct_first ls hok h3) (hgen (ls.length - 3) 1 (Nat.le_refl 1) (by omega))
  rw [show ls.length - 2 + 1 = (ls.length - 3 + 1) + 1 by omega]
  exact this
theorem cu_next {q : Nat} (hq : q < ls.length - 2) : roundC 0 bodyCu (ctU ls (slA (ls.take (q + 2))) (.row 2 0 1 0 (wsN ls (ls.length - 2)).length) ((ls.length : Int) - 3 - q)) (ctP (wsN ls (ls.length - 2))) = some (.normal, ctU ls (slA (ls.take (q + 1 + 2))) (.row 2 0 1 0 (wsN ls (ls.length - 2)).length) ((ls.length : Int) - 3 - (q + 1 : Nat)), ctP (wsN ls (ls.length - 2))) := by
  obtain ⟨h2, h64, _, _⟩ := okB_parts hok
  have hi : ((ls.length : Int) - 3 - q) = ((ls.length - 3 - q : Nat) : Int) := by omega
  have hl : (ls.take (q + 2)).length = q + 2 := by rw [List.length_take]; omega
  have hw0 : (wsN ls (ls.length - 2))[ls.length - 3 - q]? = some [pAt ls (q + 1), pAt ls (q + 2)] := by
    unfold wsN ptW
    rw [List.getElem?_map, List.getElem?_range (by omega)]
    simp only [Option.map_some]
    rw [show ls.length - 2 - (ls.length - 3 - q) = q + 1 by omega, show ls.length - 1 - (ls.length - 3 - q) = q + 2 by omega]
  have hj : joinP (ls.take (q + 2)) [pAt ls (q + 1), pAt ls (q + 2)] = ls.take (q + 1 + 2) := by
    unfold joinP
    rw [hl, decide_eq_true (by omega : 0 < q + 2), show q + 2 - 1 = q + 1 by omega, pAt_take (by omega)]
    have : pAt [pAt ls (q + 1), pAt ls (q + 2)] 0 = pAt ls (q + 1) := pAt_get rfl
    rw [this, eqB_iff.2 rfl]
    have hd : decide (0 < [pAt ls (q + 1), pAt ls (q + 2)].length) = true := rfl
    rw [hd]
    simp only [Bool.and_true, cond_true]
    rw [show q + 1 + 2 = (q + 2) + 1 by omega, take_snoc_pAt (k := q + 2) (by omega)]
    rfl
  have h := ct3_eq LJ4 ls (ls.take (q + 2)) (ls.take (q + 1 + 2)) [pAt ls (q + 1), pAt ls (q + 2)] (wsN ls (ls.length - 2)) ((ls.length : Int) - 3 - q) (fun _ => ⟨by omega, by rw [wsN_length]; omega⟩)
    (fun _ => by
      rw [hi, Int.toNat_natCast, Nat.mul_one, Nat.zero_add]
      have e : (wsA (wsN ls (ls.length - 2)))[ls.length - 3 - q]? = some (slA [pAt ls (q + 1), pAt ls (q + 2)]) := by
        unfold wsA
        rw [List.getElem?_map, hw0]
        rfl
      unfold partA
      exact e)
    (fun _ => by rw [← hj]; exact j_join (by omega) (by simp))
  rw [show bodyCu = _ from rfl]
  rw [h]
  unfold ct3
  rw [decide_eq_true (by omega : ((ls.length : Int) - 3 - q) ≥ 0), IntWalk.i64_in _ (by omega), show (ls.length : Int) - 3 - q - 1 = (ls.length : Int) - 3 - (q + 1 : Nat) by omega]
  rfl
theorem cu_loop (h3 : 3 ≤ ls.length) : At 0 bodyCu (ls.length - 2 + 1) (ctU ls (slA (ls.take 2)) (.row 2 0 1 0 (wsN ls (ls.length - 2)).length) ((ls.length : Int) - 3 - (0 : Nat))) (ctP (wsN ls (ls.length - 2))) (some (.exit 2, ctV ls (slA ls) (.row 2 0 1 0 (wsN ls (ls.length - 2)).length) (-1), ctP (wsN ls (ls.length - 2)))) := by
  obtain ⟨h2, h64, _, _⟩ := okB_parts hok
  refine At.upto (base := 0) (body := bodyCu) (T := fun q => ctU ls (slA (ls.take (q + 2))) (.row 2 0 1 0 (wsN ls (ls.length - 2)).length) ((ls.length : Int) - 3 - (q : Nat))) (S := fun _ => ctP (wsN ls (ls.length - 2))) (n := ls.length - 2) (m := 1)
    (fun q hq => cu_next ls hok hq) (At.leave ?_ (by simp)) (ls.length - 2) 0 (by omega)
  show roundC 0 bodyCu (ctU ls (slA (ls.take (ls.length - 2 + 2))) (.row 2 0 1 0 (wsN ls (ls.length - 2)).length) ((ls.length : Int) - 3 - (ls.length - 2 : Nat))) (ctP (wsN ls (ls.length - 2))) = _
  rw [show ls.length - 2 + 2 = ls.length by omega, List.take_length, show (ls.length : Int) - 3 - (ls.length - 2 : Nat) = -1 by omega]
  have hf : decide ((-1 : Int) ≥ 0) = false := rfl
  have h := ct3_eq LJ4 ls ls [] [] (wsN ls (ls.length - 2)) (-1) (fun h => by rw [hf] at h; cases h) (fun h => by rw [hf] at h; cases h) (fun h => by rw [hf] at h; cases h)
  rw [show bodyCu = _ from rfl]
  rw [h]
  unfold ct3
  rw [hf]
  rfl
end
theorem lineCuts_calls (ls : List P2) : CallsP Try.prog 14 [slP ls] (bP true) := by
  cases hok : okB ls with
  | false => exact ctA0_calls LJ4 ls rfl (by rw [← hok]; exact j_ok12) j_awake
  | true =>
    obtain ⟨h2, h64, _, _⟩ := okB_parts hok
    have hpl : (ctS ls).all plainO = true := by
      unfold ctS
      simp only [List.all_cons, List.all_nil, plainO, upL_flatPP, flatP_plain]
      rfl
    have hw : IntKind.i64.wrap ((ls.length : Int) - 2) = ((ls.length - 2 : Nat) : Int) := by rw [IntWalk.i64_in _ (by omega)]; omega
    have hO : Ones (upL (flatPP ls)) := by rw [upL_flatPP]; exact onesP _
    by_cases h3 : 3 ≤ ls.length
    · have l0 := At.use (at_more (ct_loop ls hok h3) (m := 201) (by omega)) hpl (T := ctT ls (.row 0 1 2 0 (0 + ls.length)) (.v (.slice none 0 0)) (ls.length - 2 : Nat)) (S := [.row 2 1 none (upL (flatPP ls))]) (by rw [Nat.zero_add]; kernel_rfl)
      have hp2 : (ctP (wsN ls (ls.length - 2))).all plainO = true := by
        unfold ctP
        simp only [List.all_cons, List.all_nil, plainO, wsA_plain]
        rfl
      have hi : IntKind.i64.wrap (((wsN ls (ls.length - 2)).length : Int) - 1) = (ls.length : Int) - 3 - (0 : Nat) := by rw [wsN_length, IntWalk.i64_in _ (by omega)]; omega
      have l1 := At.use (at_more (cu_loop ls hok h3) (m := 201) (by omega)) hp2 (T := ctU ls (slA (ls.take 2)) (.row 2 0 1 0 (wsN ls (ls.length - 2)).length) (IntKind.i64.wrap (((wsN ls (ls.length - 2)).length : Int) - 1))) (S := ctP (wsN ls (ls.length - 2))) (by rw [hi]; kernel_rfl)
      exact ctA1_calls LJ4 ls (ls.take 2) ls (wsN ls (ls.length - 2)) rfl rfl (by rw [← hok]; exact j_ok12) ⟨rfl, by omega, by omega⟩ hO (by omega) (flatPP_length _) (by rw [hw]; exact l0) l1
        (by have := @j_same (evalF (cf LJ4) 201) ls ls (by omega); rw [decide_eq_true rfl] at this; exact this) j_awake
    · have h22 : ls.length = 2 := by omega
      have l0 : At 0 bodyCt 1 (ctT ls (.row 0 0 2 0 ls.length) (.v (.slice none 0 0)) (0 : Nat)) (ctS ls) (some (.exit 0, ctE ls (.row 0 0 2 0 ls.length) (.v (.slice none 0 0)) 0, ctS ls)) := by
        have hf : decide (((0 : Nat) : Int) ≥ 1) = false := rfl
        have h := ct1_eq LJ4 ls (ls.take 1) [] ((0 : Nat) : Int) (by rw [List.length_take, h22]; rfl) (fun h => by rw [hf] at h; cases h) (fun h => by rw [hf] at h; cases h) (fun h => by rw [hf] at h; cases h) (fun h => by rw [hf] at h; cases h) (fun h => by rw [hf] at h; cases h)
        refine At.leave ?_ (by simp)
        rw [show bodyCt = _ from rfl]
        rw [h]
        unfold ct1
        rw [hf]
        rfl
      have l0' := At.use (at_more l0 (m := 201) (by omega)) hpl (T := ctT ls (.row 0 1 2 0 (0 + ls.length)) (.v (.slice none 0 0)) (0 : Nat)) (S := [.row 2 1 none (upL (flatPP ls))]) (by rw [Nat.zero_add]; kernel_rfl)
      have l1 : At 0 bodyCu 1 (ctU ls (.row 0 0 2 0 ls.length) (.v (.slice none 0 0)) (-1)) (ctS ls) (some (.exit 2, ctV ls (.row 0 0 2 0 ls.length) (.v (.slice none 0 0)) (-1), ctS ls)) := At.leave (ct4_eq LJ4 ls) (by simp)
      have l1' := At.use (at_more l1 (m := 201) (by omega)) hpl (T := ctU ls (.row 0 0 2 0 ls.length) (.v (.slice none 0 0)) (-1)) (S := ctS ls) (by kernel_rfl)
      have hw0 : IntKind.i64.wrap ((ls.length : Int) - 2) = ((0 : Nat) : Int) := by rw [hw, h22]
      refine ctA2_calls LJ4 ls rfl rfl (by rw [← hok]; exact j_ok12) ⟨rfl, by omega, by omega⟩ hO (by omega) (flatPP_length _) (by rw [hw0]; exact l0') ?_
        (by have := @j_same (evalF (cf LJ4) 201) ls ls (by omega); rw [decide_eq_true rfl] at this; exact this) ?_ ?_ j_awake
      · have e : IntKind.i64.wrap ((0 : Int) - 1) = -1 := IntWalk.i64_in _ (by omega)
        rw [e]
        exact l1'
      · exact row_peek2 rfl rfl rfl
      · exact row_mark2 (fz := none) rfl fun S => rfl
end Go.Proofs.Ytmopbegmdegooaa
/- LineCuts: the row. Proved: whatever the input, the law answers true and leaves its arguments as they were. -/
namespace Go.Proofs.Ytmopbegmdegooaa
open Go Vm M Go.ChangeShapes Go.WideShapes Go.ChangeAt Go.RowKit
set_option linter.unusedVariables false
set_option maxRecDepth 100000 in
theorem lineCuts_lifted (os : Os) (started : os.Started) (H : Type) (enc : TypeId × Value → H) :
    ReturnsInHanded {} Try.checked os 14 .any (Rows.lineCutsSpec.pre6 enc Try.prog Try.f14 Rows.lineCutsRow.domain false) (Rows.lineCutsSpec.post enc Try.prog Try.f14 false true false false) := by
  refine returnsInHanded_of_change_sized (C := Try.checked) own started (by kernel_rfl) Try.func14
    (ChangeSpec.witness6 (enc := enc) (C := Try.checked) false ⟨#[], #[.slice none 0 0], []⟩ 8 (by kernel_rfl) (by kernel_rfl) (by kernel_rfl) (by kernel_rfl)) ?_
  intro W base args ds gs before hval0 hW hcnd hsz0 _
  have hval : ∀ (j : Nat) t v, Try.f14.params[j]? = some t → args[j]? = some v → Value.okWide Try.prog W .any base t v := hval0
  have hW' := hW
  obtain ⟨p, q, hA0, hV, rfl, hfz, hnd⟩ := hW
  have hA : DataW.TrodAll enc Try.prog W 0 (fun _ => true) true Try.f14.params.toList args.toList ds p := hA0
  rw [Try.params14] at hA hval
  obtain ⟨v0, vs0, d0, ds0, p0, q0, hargs, rfl, rfl, h0, r0⟩ := trodAll_cons hA
  obtain ⟨rfl, rfl, rfl⟩ := trodAll_nil r0
  obtain rfl : args = #[v0] := by cases args; simp_all
  obtain ⟨rfl, rfl⟩ := trodVars_none hV
  have lt : ∀ {t : TypeId} {v : Value} {d : DataW H} {ps : List MemPlace}, DataW.Trod enc Try.prog W 0 (fun _ => true) true t v d ps → ∀ x ∈ ps, x.block < W.heap.size := fun h => by obtain ⟨m, hm⟩ := h; exact DataW.trod_lt m _ _ _ hm
  obtain ⟨a0, hr0⟩ := open_sl (hval 0 24 v0 rfl rfl) h0
  refine (callsS (lineCuts_calls a0) (w := W) (vs := #[v0]) rfl (Rps_cons rfl hr0 Rps_nil) (u := .bool true) (fun L x h => Rp_bool h)).mono fun e W' ⟨he, bel⟩ => ?_
  subst he
  exact ⟨_, rfl, _, _, _, [], _, [], hW', trodAll_mk1 (shut_bool Try.underlying4 _), (trodAll_cons_mk (Below.trod laidOut (by kernel_rfl) (of_decide_eq_true (by kernel_rfl)) h0 bel (lt h0)) trodAll_mk0), rfl, bel.frame _, fun h => by cases h⟩
theorem lineCuts_over : Rows.lineCutsRow.holds Try.pinned (OpenSpec.ofChange Rows.lineCutsSpec) :=
  OpenClaim.holds_of_wide 14 Try.f14 rfl rfl rfl rfl rfl rfl rfl ⟨rfl, rfl, rfl, rfl, rfl⟩ rfl rfl rfl rfl rfl (by kernel_rfl) Try.func14 (by kernel_rfl)
    (of_decide_eq_true (by kernel_rfl)) (by unfold Func.isWrapper; first | (rw [if_pos (by decide +kernel)]; kernel_rfl) | (rw [if_neg (by decide +kernel)]; exact ⟨rfl, rfl⟩))
    (fun os started H enc _ => lineCuts_lifted os started H enc)
theorem lineCuts_holds : Rows.LineCutsSaid := lineCuts_over
#print axioms lineCuts_holds
end Go.Proofs.Ytmopbegmdegooaa
