/- LineRows: the row. Proved: whatever the input, the law answers true and leaves its arguments as they were. -/
import Derived.Test.YtmopbegmdegooaaBnLine9
import Derived.Deep.SlicePairs
import Derived.Test.YtmopbegmdegooaaRows
import Derived.ProofKit
import Derived.OpenShut
import Derived.ChangeOld
import Derived.SizedLaws
import Derived.Carry
import Derived.Lib.SmallJoins
import Derived.RowKit3
import Derived.WideLaws
import Derived.Laws.Rows
/- Arguments that are points, numbers, and slices of points: what the form hands a law, as the abstract machine's values. -/
namespace Go.Proofs.Ytmopbegmdegooaa
open Go Vm M Go.Deep Go.ChangeShapes Go.WideShapes Go.ChangeAt Go.RowKit
set_option linter.unusedVariables false
theorem own : ownKnob Try.prog.godebug = none := by kernel_rfl
theorem laidOut : laidOutB Try.prog = true := by kernel_rfl
section
variable {H : Type} {enc : TypeId × Value → H} {w : World} {base : Nat} {spare : Nat → Bool} {held : Bool}
theorem open_pt {r : Reach} {b0 : Nat} {v : Value} {d : DataW H} {ps : List MemPlace} (hval : Value.okWide Try.prog w r b0 23 v) (h : DataW.Trod enc Try.prog w base spare held 23 v d ps) : ∃ p : P2, v = ptV p := by
  obtain ⟨v0, v1, y0, y1, n, rfl, _, _, h0, h1⟩ := Go.Joins.open_agg2 Try.underlying23 (by kernel_rfl) (by kernel_rfl) hval h
  obtain ⟨x, hx, _, _⟩ := DataW.trod_int Try.underlying2 h0
  obtain ⟨y, hy, _, _⟩ := DataW.trod_int Try.underlying2 h1
  cases hx
  cases hy
  exact ⟨(x, y), rfl⟩
end
/-- A call by values, from no memory of the call's own. -/
theorem CallsP.calls {f : FuncId} {ps : List PVal} {r : PVal} (h : CallsP Try.prog f ps r) {vs : Array Value} {w : World} (hs : vs.size = ps.length) (hr : Rps (fun _ _ => False) ps (fun i y => vs[i]? = some y) 0) {u : Value} (hu : ∀ L x, Rp L r x → x = u) :
    Calls Try.prog f vs w fun e w' => e = .returned u ∧ Below w.heap.size w w' := by
  refine (h (fun _ _ => False) w vs (fun _ _ h => h.elim) hs (Rps_mono (fun _ _ h => h.elim) _ _ _ _ (fun _ _ h => h) hr)).mono ?_
  rintro e w' ⟨v, ok', rfl, hb, _, _, _, hv⟩
  exact ⟨by rw [hu _ _ hv], hb⟩
theorem Rp_pt (L : Addr → Value → Prop) (p : P2) : Rp L (ptP p) (ptV p) := by
  simp only [ptP, ptV, Rp]
  exact ⟨_, rfl, rfl, by simp [Rps, Rp]⟩
theorem Rp_int (L : Addr → Value → Prop) (n : Int) : Rp L (iP n) (.int .i64 n) := by simp [iP, Rp]
theorem Rp_bool {L : Addr → Value → Prop} {b : Bool} {x : Value} (h : Rp L (bP b) x) : x = .bool b := by simpa [bP, Rp] using h
theorem Rps_cons {L : Addr → Value → Prop} {x : PVal} {xs : List PVal} {f : Nat → Value → Prop} {i : Nat} {y : Value} (hy : f i y) (hr : Rp L x y) (h : Rps L xs f (i + 1)) : Rps L (x :: xs) f i := by
  simp only [Rps]
  exact ⟨⟨y, hy, hr⟩, h⟩
theorem Rps_nil {L : Addr → Value → Prop} {f : Nat → Value → Prop} {i : Nat} : Rps L [] f i := by simp [Rps]
theorem list_of {len : Nat} {R : Nat → P2 → Prop} (h : ∀ i, i < len → ∃ p, R i p) : ∃ ps : List P2, ps.length = len ∧ ∀ i p, ps[i]? = some p → R i p := by
  induction len with
  | zero => exact ⟨[], rfl, fun i p hp => by simp at hp⟩
  | succ n ih =>
    obtain ⟨ps, hl, hR⟩ := ih fun i hi => h i (by omega)
    obtain ⟨p, hp⟩ := h n (by omega)
    refine ⟨ps ++ [p], by simp [hl], fun i q hq => ?_⟩
    by_cases hi : i < n
    · rw [List.getElem?_append_left (by omega)] at hq
      exact hR i q hq
    · have := (List.getElem?_eq_some_iff.1 hq).1
      simp only [List.length_append, List.length_singleton] at this
      have e : i = n := by omega
      subst e
      rw [List.getElem?_append_right (by omega), hl, Nat.sub_self] at hq
      simp only [List.getElem?_cons_zero, Option.some.injEq] at hq
      exact hq ▸ hp
theorem rps_flat {L : Addr → Value → Prop} {A : Option Addr} : ∀ (ps : List P2) (k : Nat), (∀ i p, ps[i]? = some p → ∃ a, A = some a ∧ L (a.add (k + i * 2)) (.int .i64 p.1) ∧ L (a.add (k + i * 2 + 1)) (.int .i64 p.2)) → Rps L (flatPP ps) (fun i y => ∃ a, A = some a ∧ L (a.add i) y) k
  | [], k, _ => by simp [flatPP, Rps]
  | p :: ps, k, h => by
    obtain ⟨a, ha, h1, h2⟩ := h 0 p rfl
    simp only [flatPP, Rps, Rp]
    refine ⟨⟨_, ⟨a, ha, by simpa using h1⟩, rfl⟩, ⟨_, ⟨a, ha, by simpa using h2⟩, rfl⟩, rps_flat ps (k + 1 + 1) fun i q hq => ?_⟩
    obtain ⟨b, hb, h3, h4⟩ := h (i + 1) q (by simpa using hq)
    refine ⟨b, hb, ?_, ?_⟩
    · rw [show k + 1 + 1 + i * 2 = k + (i + 1) * 2 by omega]; exact h3
    · rw [show k + 1 + 1 + i * 2 + 1 = k + (i + 1) * 2 + 1 by omega]; exact h4
theorem cell_lt {w : World} {a : Addr} {v : Value} (h : w.cell? a = some v) : a.block < w.heap.size := by
  unfold World.cell? at h
  split at h
  · rename_i hb
    exact (Array.getElem?_eq_some_iff.1 hb).1
  · cases h
section
variable {H : Type} {enc : TypeId × Value → H} {W : World}
theorem open_sl {b0 : Nat} {v : Value} {d : DataW H} {pl : List MemPlace} (hval : Value.okWide Try.prog W .any b0 24 v) (h : DataW.Trod enc Try.prog W 0 (fun _ => true) true 24 v d pl) : ∃ ps : List P2, Rp (sees (fun b _ => b < W.heap.size) W) (slP ps) v := by
  obtain ⟨A, len, cap, rfl⟩ := okWide_slice Try.underlying24 hval
  obtain ⟨fuel, hf⟩ := h
  rcases open_slice_pairs Try.underlying24 Try.underlying23 (by kernel_rfl) rfl rfl (by kernel_rfl) (by kernel_rfl) hf with ⟨hcs, _⟩ | ⟨a, len', cap', m, n, V0, V1, D0, D1, P0, P1, hcs, _, hl, _, hm, _, hall⟩
  · simp [Value.cells] at hcs
    obtain ⟨rfl, rfl, rfl⟩ := hcs
    refine ⟨[], ?_⟩
    simp only [slP, flatPP, Rp, Rps]
    exact ⟨none, 0, rfl, Nat.le_refl _, trivial⟩
  · simp [Value.cells] at hcs
    obtain ⟨rfl, rfl, rfl⟩ := hcs
    simp only [if_true] at hm
    subst hm
    obtain ⟨ps, hps, hR⟩ := list_of (len := len) (R := fun i p => W.cell? (a.add (i * 2)) = some (.int .i64 p.1) ∧ W.cell? (a.add (i * 2 + 1)) = some (.int .i64 p.2)) fun i hi => by
      obtain ⟨c0, c1, t0, t1⟩ := hall i (by omega)
      obtain ⟨x, hx, _, _⟩ := DataW.trod_int Try.underlying2 t0
      obtain ⟨y, hy, _, _⟩ := DataW.trod_int Try.underlying2 t1
      simp only [List.cons.injEq, and_true] at hx hy
      exact ⟨(x, y), by rw [c0, hx], by rw [c1, hy]⟩
    refine ⟨ps, ?_⟩
    simp only [slP, Rp]
    refine ⟨some a, m, by rw [hps], by rw [hps]; exact hl, rps_flat ps 0 fun i p hp => ?_⟩
    obtain ⟨h0, h1⟩ := hR i p hp
    rw [Nat.zero_add]
    exact ⟨a, rfl, ⟨cell_lt h0, h0⟩, cell_lt h1, h1⟩
end
/-- A call by values, of memory that lay there. -/
theorem callsS {f : FuncId} {ps : List PVal} {r : PVal} (h : CallsP Try.prog f ps r) {vs : Array Value} {w : World} (hs : vs.size = ps.length) (hr : Rps (sees (fun b _ => b < w.heap.size) w) ps (fun i y => vs[i]? = some y) 0) {u : Value} (hu : ∀ L x, Rp L r x → x = u) :
    Calls Try.prog f vs w fun e w' => e = .returned u ∧ Below w.heap.size w w' := by
  refine (h (fun b _ => b < w.heap.size) w vs (fun _ _ h => h) hs hr).mono ?_
  rintro e w' ⟨v, ok', rfl, hb, _, _, _, hv⟩
  exact ⟨by rw [hu _ _ hv], hb⟩
end Go.Proofs.Ytmopbegmdegooaa
/- Rows of slices of points. -/
namespace Go.Proofs.Ytmopbegmdegooaa
open Go Vm M
set_option linter.unusedVariables false
set_option linter.unusedSimpArgs false
def wsA (ws : List (List P2)) : List AVal := ws.map slA
theorem wsA_plain (ws : List (List P2)) : (wsA ws).all plainV = true := by
  unfold wsA
  rw [List.all_map, List.all_eq_true]
  exact fun x _ => rfl
def ctP (ws : List (List P2)) : List AObj := [.free, .free, .row 1 0 none (wsA ws)]
end Go.Proofs.Ytmopbegmdegooaa
/- A line parted at its own points, from behind: what the parts are. -/
namespace Go.Proofs.Ytmopbegmdegooaa
open Go Vm M
set_option linter.unusedVariables false
set_option linter.unusedSimpArgs false
theorem pAt_take' {ps : List P2} {k m : Nat} (h : k < m) : pAt (ps.take m) k = pAt ps k := pAt_take h
theorem okB_parts {ps : List P2} (h : okB ps = true) : 2 ≤ ps.length ∧ ps.length ≤ 64 ∧ (∀ i, i < ps.length → okP (pAt ps i) = true) ∧ simpleB ps = true := by
  unfold okB at h
  simp only [Bool.and_eq_true, decide_eq_true_eq, Bool.not_eq_true'] at h
  obtain ⟨⟨⟨h2, h64⟩, hn⟩, hs⟩ := h
  refine ⟨h2, h64, fun i hi => ?_, hs⟩
  cases ho : okP (pAt ps i) with
  | true => rfl
  | false => rw [nok_iff.2 ⟨i, hi, ho⟩] at hn; cases hn
theorem okP_id {p : P2} (h : okP p = true) : nearP p = p := by
  unfold okP at h
  simp only [Bool.and_eq_true, decide_eq_true_eq] at h
  exact nearP_id ⟨⟨h.1.1.1, h.1.1.2⟩, h.1.2, h.2⟩
/-- The first segment that has a point of a simple line that is not its first or last one is the one that ends there. -/
theorem at_own {ps : List P2} (h : okB ps = true) {k : Nat} (h1 : 1 ≤ k) (hk : k < ps.length - 1) : atO ps (pAt ps k) = some (k - 1) := by
  obtain ⟨h2, h64, ho, hs⟩ := okB_parts h
  obtain ⟨j, hj, hjk⟩ := at_self h2 (show k < ps.length by omega)
  rw [hj]
  by_cases he : j = k - 1
  · rw [he]
  · exfalso
    have hjl : j < k - 1 := by omega
    have hf := firstAt_some (show firstAt (atB ps (pAt ps k)) (ps.length - 1) 0 = some j from hj)
    have hon := hf.2.2.1
    unfold atB at hon
    have ids : ∀ i, i < ps.length → nearP (pAt ps i) = pAt ps i := fun i hi => okP_id (ho i hi)
    rw [simple_iff] at hs
    have hr := (hs j (by omega)).2 (k - 1) (by omega) (by omega)
    rw [show k - 1 + 1 = k by omega] at hr
    have hne := (hs (k - 1) (by omega)).1
    rw [show k - 1 + 1 = k by omega] at hne
    -- the point is on both
    have c1 : comB (nearP (pAt ps j)) (nearP (pAt ps (j + 1))) (nearP (pAt ps (k - 1))) (nearP (pAt ps k)) (nearP (pAt ps k)) = true := by
      unfold comB
      rw [ids j (by omega), ids (j + 1) (by omega), ids (k - 1) (by omega), ids k (by omega)]
      rw [hon, on_self2]
      rfl
    have m1 : nearP (pAt ps k) ∈ [nearP (pAt ps j), nearP (pAt ps (j + 1)), nearP (pAt ps (k - 1)), nearP (pAt ps k)] := by simp
    unfold wantI at hr
    by_cases hadj : k - 1 = j + 1
    · rw [beq_iff_eq.2 hadj, Bool.true_or] at hr
      have c2 : comB (nearP (pAt ps j)) (nearP (pAt ps (j + 1))) (nearP (pAt ps (k - 1))) (nearP (pAt ps k)) (nearP (pAt ps (k - 1))) = true := by
        unfold comB
        rw [ids j (by omega), ids (j + 1) (by omega), ids (k - 1) (by omega), ids k (by omega)]
        rw [← hadj, on_self2, on_self1]
        rfl
      have m2 : nearP (pAt ps (k - 1)) ∈ [nearP (pAt ps j), nearP (pAt ps (j + 1)), nearP (pAt ps (k - 1)), nearP (pAt ps k)] := by simp
      have := relate_one_com hr _ m2 _ m1 c2 c1
      rw [ids (k - 1) (by omega), ids k (by omega)] at this
      rw [this, eqB_iff.2 rfl] at hne
      cases hne
    · rw [beq_eq_false_iff_ne.2 hadj, beq_eq_false_iff_ne.2 (by omega : k - 1 ≠ ps.length - 2), Bool.false_and, Bool.and_false, Bool.or_false] at hr
      rw [relate_zero_com hr _ m1] at c1
      cases c1
theorem atO_take {ps : List P2} {p : P2} {m k : Nat} (hm : m ≤ ps.length) (hk : k + 1 < m) (h : atO ps p = some k) : atO (ps.take m) p = some k := by
  have hf := firstAt_some (show firstAt (atB ps p) (ps.length - 1) 0 = some k from h)
  have hl : (ps.take m).length = m := by rw [List.length_take]; omega
  refine firstAt_eq_some (c := atB (ps.take m) p) (d := (ps.take m).length - 1) (Nat.zero_le _) (by rw [hl]; omega) ?_ fun i _ hi => ?_
  · have := hf.2.2.1
    unfold atB at this ⊢
    rw [pAt_take (by omega), pAt_take (by omega)]
    exact this
  · have := hf.2.2.2 i (Nat.zero_le _) hi
    unfold atB at this ⊢
    rw [pAt_take (by omega), pAt_take (by omega)]
    exact this
theorem drop_take_two {ps : List P2} {k : Nat} (h : k + 1 < ps.length) : (ps.take (k + 2)).drop k = [pAt ps k, pAt ps (k + 1)] := by
  rw [List.drop_take, show k + 2 - k = 2 by omega, List.drop_eq_getElem_cons (by omega : k < ps.length), List.drop_eq_getElem_cons h, pAt_getElem (by omega : k < ps.length), pAt_getElem h]
  rfl
theorem take_snoc_pAt {ps : List P2} {k : Nat} (h : k < ps.length) : ps.take (k + 1) = ps.take k ++ [pAt ps k] := by
  rw [List.take_add_one, List.getElem?_eq_getElem h, pAt_getElem h]
  rfl
theorem split_own {ps : List P2} (h : okB ps = true) {k : Nat} (h1 : 1 ≤ k) (hk : k < ps.length - 1) : splitO (ps.take (k + 2)) (pAt ps k) = some (ps.take (k + 1), [pAt ps k, pAt ps (k + 1)]) := by
  obtain ⟨h2, h64, ho, hs⟩ := okB_parts h
  have ha := at_own h h1 hk
  have hl : (ps.take (k + 2)).length = k + 2 := by rw [List.length_take]; omega
  have hst := atO_take (m := k + 2) (by omega) (by omega) ha
  have hsi := simple_iff.1 hs
  have n1 : eqB (pAt ps (k - 1)) (pAt ps k) = false := by
    have := (hsi (k - 1) (by omega)).1
    rw [show k - 1 + 1 = k by omega] at this
    exact this
  have n2 : eqB (pAt ps (k + 1)) (pAt ps k) = false := by rw [eqB_comm]; exact (hsi k hk).1
  have n0 : eqB (pAt ps 0) (pAt ps k) = false := ne_first hs (by omega) hk
  unfold splitO
  rw [hst]
  simp only
  rw [hl, ho k (by omega), pAt_take (by omega), pAt_take (by omega), pAt_take (by omega), show k - 1 + 1 = k by omega, pAt_take (by omega), show k + 2 - 1 = k + 1 by omega, n0, n2, n1, eqB_iff.2 rfl]
  simp only [Bool.not_true, Bool.or_false, cond_false, cond_true, Option.some.injEq, Prod.mk.injEq]
  exact ⟨by rw [List.take_take, Nat.min_eq_left (by omega), ← take_snoc_pAt (by omega)], drop_take_two (by omega)⟩
end Go.Proofs.Ytmopbegmdegooaa
/- Lines apart: what is the same of it whichever way they are told; where boxes do not meet nothing does. -/
namespace Go.Proofs.Ytmopbegmdegooaa
open Go Vm M
set_option linter.unusedVariables false
set_option linter.unusedSimpArgs false
/-- The end that two segments share, and whether they do. -/
def sharedP (a b c d : P2) : P2 × Bool := bif relate a b c d != 1 then ((0, 0), false) else (bif eqB (nearP a) (nearP c) || eqB (nearP a) (nearP d) then nearP a else nearP b, true)
def endL (ps : List P2) (p : P2) : Bool := eqB p (pAt ps 0) || eqB p (pAt ps (ps.length - 1))
def goodV (a b : List P2) (v : Int) (s : P2) : Bool := (v == 0) || ((v == 1) && (endL a s && endL b s))
/-- Whether a segment of the one and one of the other may be as they are. -/
def goodP (a b : List P2) (i k : Nat) : Bool := goodV a b (relate (pAt a i) (pAt a (i + 1)) (pAt b k) (pAt b (k + 1))) (sharedP (pAt a i) (pAt a (i + 1)) (pAt b k) (pAt b (k + 1))).1
def badRow (a b : List P2) (i : Nat) : Bool := (firstAt (fun k => !goodP a b i k) (b.length - 1) 0).isSome
def apartB (a b : List P2) : Bool := (firstAt (badRow a b) (a.length - 1) 0).isNone
theorem apart_iff {a b : List P2} : apartB a b = true ↔ ∀ i, i < a.length - 1 → ∀ k, k < b.length - 1 → goodP a b i k = true := by
  unfold apartB
  rw [Option.isNone_iff_eq_none]
  constructor
  · intro h i hi k hk
    have h1 := firstAt_none h i (by omega) (by omega)
    unfold badRow at h1
    cases hf : firstAt (fun k => !goodP a b i k) (b.length - 1) 0 with
    | some j => rw [hf] at h1; cases h1
    | none =>
      have h2 := firstAt_none hf k (by omega) (by omega)
      simpa using h2
  · intro h
    refine firstAt_eq_none fun i _ hi => ?_
    unfold badRow
    rw [firstAt_eq_none fun k _ hk => by rw [h i (by omega) k (by omega)]; rfl]
    rfl
/-- The shared end is an end of both, and the only one. -/
theorem shared_end {a b c d : P2} (h : relate a b c d = 1) : ((sharedP a b c d).1 = nearP a ∨ (sharedP a b c d).1 = nearP b) ∧ ((sharedP a b c d).1 = nearP c ∨ (sharedP a b c d).1 = nearP d) := by
  have hs : sharedP a b c d = (bif eqB (nearP a) (nearP c) || eqB (nearP a) (nearP d) then nearP a else nearP b, true) := by
    unfold sharedP
    rw [h]
    rfl
  rw [hs]
  -- one of the four is an end of both
  obtain ⟨h1, h2, h3, h4⟩ := ends_spec (nearP a) (nearP b) (nearP c) (nearP d) [nearP a, nearP b, nearP c, nearP d]
  have hb : (endsR a b c d).2.1 = 1 := by
    unfold relate at h
    split at h
    · omega
    · split at h
      · rename_i hb; exact hb
      · split at h
        · omega
        · split at h <;> omega
  unfold endsR at hb
  rw [h4] at hb
  have hx : ∃ x, endB (nearP a) (nearP b) (nearP c) (nearP d) x = true := by
    cases hf : (endsF (nearP a) (nearP b) (nearP c) (nearP d) [nearP a, nearP b, nearP c, nearP d] (0, 0, [])).2.2.filter (endB (nearP a) (nearP b) (nearP c) (nearP d)) with
    | nil => rw [hf] at hb; simp at hb
    | cons x l =>
      have : x ∈ (endsF (nearP a) (nearP b) (nearP c) (nearP d) [nearP a, nearP b, nearP c, nearP d] (0, 0, [])).2.2.filter (endB (nearP a) (nearP b) (nearP c) (nearP d)) := by rw [hf]; simp
      exact ⟨x, (List.mem_filter.1 this).2⟩
  obtain ⟨x, hx⟩ := hx
  unfold endB at hx
  simp only [Bool.and_eq_true, Bool.or_eq_true, eqB_iff] at hx
  cases he : eqB (nearP a) (nearP c) || eqB (nearP a) (nearP d) with
  | true =>
    rw [Bool.or_eq_true, eqB_iff, eqB_iff] at he
    exact ⟨.inl rfl, he⟩
  | false =>
    rw [Bool.or_eq_false_iff] at he
    refine ⟨.inr rfl, ?_⟩
    rcases hx.1 with h5 | h5
    · exfalso
      rcases hx.2 with h6 | h6
      · rw [← h5, ← h6, eqB_iff.2 rfl] at he; cases he.1
      · rw [← h5, ← h6, eqB_iff.2 rfl] at he; cases he.2
    · rw [← h5]; exact hx.2
theorem end_com {a b c d p : P2} (h1 : p = nearP a ∨ p = nearP b) (h2 : p = nearP c ∨ p = nearP d) : p ∈ [nearP a, nearP b, nearP c, nearP d] ∧ comB (nearP a) (nearP b) (nearP c) (nearP d) p = true := by
  constructor
  · rcases h1 with rfl | rfl <;> simp
  · unfold comB
    have o1 : M.on (nearP a) (nearP b) p = true := by
      rcases h1 with rfl | rfl
      · exact on_self1 _ _
      · exact on_self2 _ _
    have o2 : M.on (nearP c) (nearP d) p = true := by
      rcases h2 with rfl | rfl
      · exact on_self1 _ _
      · exact on_self2 _ _
    rw [o1, o2]
    rfl
theorem shared_uniq {a b c d p : P2} (h : relate a b c d = 1) (h1 : p = nearP a ∨ p = nearP b) (h2 : p = nearP c ∨ p = nearP d) : (sharedP a b c d).1 = p := by
  obtain ⟨k1, k2⟩ := shared_end h
  obtain ⟨m1, c1⟩ := end_com k1 k2
  obtain ⟨m2, c2⟩ := end_com h1 h2
  exact relate_one_com h _ m1 _ m2 c1 c2
theorem shared_comm {a b c d : P2} (h : relate a b c d = 1) : (sharedP c d a b).1 = (sharedP a b c d).1 := by
  have h' : relate c d a b = 1 := by rw [relate_comm]; exact h
  obtain ⟨k1, k2⟩ := shared_end h
  exact shared_uniq h' k2 k1
theorem shared_flip {a b c d : P2} (h : relate a b c d = 1) : (sharedP b a c d).1 = (sharedP a b c d).1 := by
  have h' : relate b a c d = 1 := by rw [relate_flip1]; exact h
  obtain ⟨k1, k2⟩ := shared_end h
  exact shared_uniq h' k1.symm k2
theorem goodV_eq {a b c d : List P2} {v : Int} {s t : P2} (he : v = 1 → (endL a s && endL b s) = (endL c t && endL d t)) : goodV a b v s = goodV c d v t := by
  unfold goodV
  by_cases h : v = 1
  · subst h
    rw [he rfl]
  · rw [beq_eq_false_iff_ne.2 h, Bool.false_and, Bool.false_and]
theorem good_comm (a b : List P2) (i k : Nat) : goodP b a k i = goodP a b i k := by
  unfold goodP
  rw [relate_comm (pAt a i) (pAt a (i + 1)) (pAt b k) (pAt b (k + 1))]
  exact goodV_eq fun h => by rw [shared_comm h, Bool.and_comm]
theorem endL_rev {a : List P2} (h : 1 ≤ a.length) (s : P2) : endL a.reverse s = endL a s := by
  unfold endL
  rw [List.length_reverse, pAt_rev (by omega), pAt_rev (by omega), show a.length - 1 - 0 = a.length - 1 by omega, show a.length - 1 - (a.length - 1) = 0 by omega, Bool.or_comm]
theorem good_rev {a b : List P2} {i : Nat} (k : Nat) (hi : i < a.length - 1) : goodP a.reverse b i k = goodP a b (a.length - 2 - i) k := by
  unfold goodP
  rw [pAt_rev (by omega), pAt_rev (by omega), show a.length - 1 - i = a.length - 2 - i + 1 by omega, show a.length - 1 - (i + 1) = a.length - 2 - i by omega, relate_flip1]
  exact goodV_eq fun h => by rw [shared_flip h, endL_rev (by omega)]
theorem apart_comm (a b : List P2) : apartB b a = apartB a b := by
  rw [Bool.eq_iff_iff, apart_iff, apart_iff]
  constructor
  · intro h i hi k hk
    rw [← good_comm]
    exact h k hk i hi
  · intro h k hk i hi
    rw [good_comm]
    exact h i hi k hk
theorem apart_rev (a b : List P2) : apartB a.reverse b = apartB a b := by
  rw [Bool.eq_iff_iff, apart_iff, apart_iff, List.length_reverse]
  constructor
  · intro h i hi k hk
    have := h (a.length - 2 - i) (by omega) k hk
    rw [good_rev k (by omega), show a.length - 2 - (a.length - 2 - i) = i by omega] at this
    exact this
  · intro h i hi k hk
    rw [good_rev k hi]
    exact h _ (by omega) k hk
/-! boxes -/
def minP (p q : P2) : P2 := (min p.1 q.1, min p.2 q.2)
def maxP (p q : P2) : P2 := (max p.1 q.1, max p.2 q.2)
/-- The box of the first k points. -/
def boxK (ps : List P2) : Nat → P2 × P2
  | 0 => ((0, 0), (0, 0))
  | 1 => (nearP (pAt ps 0), nearP (pAt ps 0))
  | k + 1 + 1 => (minP (boxK ps (k + 1)).1 (nearP (pAt ps (k + 1))), maxP (boxK ps (k + 1)).2 (nearP (pAt ps (k + 1))))
def leP (p q : P2) : Bool := decide (p.1 ≤ q.1) && decide (p.2 ≤ q.2)
def meetB (al ah bl bh : P2) : Bool := leP (nearP al) (nearP ah) && leP (nearP al) (nearP bh) && (leP (nearP bl) (nearP ah) && leP (nearP bl) (nearP bh))
theorem box_in (ps : List P2) : ∀ (k i : Nat), i < k → ((boxK ps k).1.1 ≤ (nearP (pAt ps i)).1 ∧ (boxK ps k).1.2 ≤ (nearP (pAt ps i)).2) ∧ ((nearP (pAt ps i)).1 ≤ (boxK ps k).2.1 ∧ (nearP (pAt ps i)).2 ≤ (boxK ps k).2.2)
  | 0, i, h => absurd h (by omega)
  | 1, i, h => by
    obtain rfl : i = 0 := by omega
    unfold boxK
    exact ⟨⟨Int.le_refl _, Int.le_refl _⟩, Int.le_refl _, Int.le_refl _⟩
  | k + 1 + 1, i, h => by
    unfold boxK minP maxP
    simp only
    by_cases hi : i = k + 1
    · subst hi
      exact ⟨⟨Int.min_le_right _ _, Int.min_le_right _ _⟩, Int.le_max_right _ _, Int.le_max_right _ _⟩
    · have := box_in ps (k + 1) i (by omega)
      exact ⟨⟨Int.le_trans (Int.min_le_left _ _) this.1.1, Int.le_trans (Int.min_le_left _ _) this.1.2⟩, Int.le_trans this.2.1 (Int.le_max_left _ _), Int.le_trans this.2.2 (Int.le_max_left _ _)⟩
theorem box_grid (ps : List P2) : ∀ k, 1 ≤ k → inG (boxK ps k).1 ∧ inG (boxK ps k).2
  | 0, h => absurd h (by omega)
  | 1, _ => ⟨nearP_in _, nearP_in _⟩
  | k + 1 + 1, _ => by
    obtain ⟨h1, h2⟩ := box_grid ps (k + 1) (by omega)
    have h3 := nearP_in (pAt ps (k + 1))
    unfold boxK minP maxP
    unfold inG at h1 h2 h3 ⊢
    simp only
    omega
theorem cross_core {α β γ δ a b c d : Int} (id1 : α * d + γ * b = β * c + δ * a) (id2 : α - β = δ - γ) (h1 : a < c) (h2 : a < d) (h3 : b < c) (h4 : b < d) (ha : 0 < α) (hb : β < 0) (hc : γ < 0) (hd : 0 < δ) : False := by
  obtain ⟨s, hs⟩ : ∃ s, s = min c d := ⟨_, rfl⟩
  have p1 := Int.mul_le_mul_of_nonneg_left (show s ≤ d by omega) (Int.le_of_lt ha)
  have p2 := Int.mul_le_mul_of_nonneg_left (show s ≤ c by omega) (show 0 ≤ -β by omega)
  have p3 := Int.mul_le_mul_of_nonneg_left (show a ≤ s - 1 by omega) (Int.le_of_lt hd)
  have p4 := Int.mul_le_mul_of_nonneg_left (show b ≤ s - 1 by omega) (show 0 ≤ -γ by omega)
  have e : α * s - β * s = δ * s - γ * s := by rw [← Int.sub_mul, ← Int.sub_mul, id2]
  rw [Int.neg_mul, Int.neg_mul] at p2 p4
  rw [Int.mul_sub, Int.mul_one] at p3 p4
  omega
theorem sgn_mul_neg {x y : Int} (h : sgn x * sgn y < 0) : (0 < x ∧ y < 0) ∨ (x < 0 ∧ 0 < y) := by
  unfold sgn at h
  by_cases h1 : x < 0
  · rw [if_pos h1] at h
    by_cases h2 : y < 0
    · rw [if_pos h2] at h; omega
    · rw [if_neg h2] at h
      by_cases h3 : 0 < y
      · exact .inr ⟨h1, h3⟩
      · rw [if_neg h3] at h; omega
  · rw [if_neg h1] at h
    by_cases h2 : 0 < x
    · rw [if_pos h2] at h
      by_cases h3 : y < 0
      · exact .inl ⟨h2, h3⟩
      · rw [if_neg h3] at h
        by_cases h4 : 0 < y
        · rw [if_pos h4] at h; omega
        · rw [if_neg h4] at h; omega
    · rw [if_neg h2, Int.zero_mul] at h; omega
/-- Two segments of which one is all to the one side of the other do not cross. -/
theorem side_core {a b c d : P2} {f : P2 → Int} (id1 : area a b c * f d + area c d a * f b = area a b d * f c + area c d b * f a) (h1 : f a < f c) (h2 : f a < f d) (h3 : f b < f c) (h4 : f b < f d) : ¬ (turnR a b c * turnR a b d < 0 ∧ turnR c d a * turnR c d b < 0) := by
  rintro ⟨k1, k2⟩
  have id2 : area a b c - area a b d = area c d b - area c d a := by unfold area; grind
  unfold turnR at k1 k2
  rcases sgn_mul_neg k1 with ⟨ha, hb⟩ | ⟨ha, hb⟩
  · rcases sgn_mul_neg k2 with ⟨hc, hd⟩ | ⟨hc, hd⟩
    · omega
    · exact cross_core id1 id2 h1 h2 h3 h4 ha hb hc hd
  · rcases sgn_mul_neg k2 with ⟨hc, hd⟩ | ⟨hc, hd⟩
    · exact cross_core (α := area a b d) (β := area a b c) (γ := area c d b) (δ := area c d a) (a := f b) (b := f a) (c := f d) (d := f c) (by omega) (by omega) h4 h3 h2 h1 hb ha hd hc
    · omega
theorem id_x (a b c d : P2) : area a b c * d.1 + area c d a * b.1 = area a b d * c.1 + area c d b * a.1 := by unfold area; grind
theorem id_y (a b c d : P2) : area a b c * d.2 + area c d a * b.2 = area a b d * c.2 + area c d b * a.2 := by unfold area; grind
/-- Where segments have anything in common there is no line between them that goes along the grid. -/
theorem relate_boxes {a b c d : P2} (h : relate a b c d ≠ 0) : ∀ f : P2 → Int, (f = Prod.fst ∨ f = Prod.snd) → ¬ (f (nearP a) < f (nearP c) ∧ f (nearP a) < f (nearP d) ∧ f (nearP b) < f (nearP c) ∧ f (nearP b) < f (nearP d)) := by
  intro f hf ⟨h1, h2, h3, h4⟩
  obtain ⟨k1, k2, k3, k4⟩ := ends_spec (nearP a) (nearP b) (nearP c) (nearP d) [nearP a, nearP b, nearP c, nearP d]
  -- no point is on both
  have hno : (endsF (nearP a) (nearP b) (nearP c) (nearP d) [nearP a, nearP b, nearP c, nearP d] (0, 0, [])).2.2 = [] := by
    cases he : (endsF (nearP a) (nearP b) (nearP c) (nearP d) [nearP a, nearP b, nearP c, nearP d] (0, 0, [])).2.2 with
    | nil => rfl
    | cons p l =>
      exfalso
      have hm := (k2 p).1 (by rw [he]; simp)
      have hc := hm.2
      unfold comB at hc
      rw [Bool.and_eq_true] at hc
      have hp : nearP p = p := by
        have := hm.1
        simp only [List.mem_cons, List.not_mem_nil, or_false] at this
        rcases this with rfl | rfl | rfl | rfl <;> exact nearP_nearP _
      have o1 := (on_iff (nearP_in a) (nearP_in b) (by rw [← hp]; exact nearP_in p)).1 hc.1
      have o2 := (on_iff (nearP_in c) (nearP_in d) (by rw [← hp]; exact nearP_in p)).1 hc.2
      rcases hf with rfl | rfl
      · omega
      · omega
  rw [hno] at k3 k4
  refine h ?_
  unfold relate endsR
  rw [k3, k4]
  rw [if_neg (by simp), if_neg (by simp), if_neg (by simp)]
  rw [if_neg]
  unfold turn
  rcases hf with rfl | rfl
  · exact side_core (id_x _ _ _ _) h1 h2 h3 h4
  · exact side_core (id_y _ _ _ _) h1 h2 h3 h4
theorem meet_of {a b : List P2} {i k : Nat} (hi : i < a.length - 1) (hk : k < b.length - 1) (h : relate (pAt a i) (pAt a (i + 1)) (pAt b k) (pAt b (k + 1)) ≠ 0) : meetB (boxK a a.length).1 (boxK a a.length).2 (boxK b b.length).1 (boxK b b.length).2 = true := by
  have ga := box_grid a a.length (by omega)
  have gb := box_grid b b.length (by omega)
  have a1 := box_in a a.length i (by omega)
  have a2 := box_in a a.length (i + 1) (by omega)
  have b1 := box_in b b.length k (by omega)
  have b2 := box_in b b.length (k + 1) (by omega)
  have h' : relate (pAt b k) (pAt b (k + 1)) (pAt a i) (pAt a (i + 1)) ≠ 0 := by rw [relate_comm]; exact h
  have x1 := relate_boxes h Prod.fst (.inl rfl)
  have y1 := relate_boxes h Prod.snd (.inr rfl)
  have x2 := relate_boxes h' Prod.fst (.inl rfl)
  have y2 := relate_boxes h' Prod.snd (.inr rfl)
  unfold meetB leP
  rw [nearP_id ga.1, nearP_id ga.2, nearP_id gb.1, nearP_id gb.2]
  simp only [Bool.and_eq_true, decide_eq_true_eq]
  omega
/-- Where the boxes do not meet lines are apart. -/
theorem apart_box {a b : List P2} (h : meetB (boxK a a.length).1 (boxK a a.length).2 (boxK b b.length).1 (boxK b b.length).2 = false) : apartB a b = true := by
  rw [apart_iff]
  intro i hi k hk
  by_cases hr : relate (pAt a i) (pAt a (i + 1)) (pAt b k) (pAt b (k + 1)) = 0
  · unfold goodP goodV
    rw [hr]
    rfl
  · rw [meet_of hi hk hr] at h
    cases h
end Go.Proofs.Ytmopbegmdegooaa
/- pt.Box, pt.Meet, seg.Shared, line.end, line.Apart, and the document's: their rounds, their calls. -/
namespace Go.Proofs.Ytmopbegmdegooaa
open Go Vm M
set_option linter.unusedVariables false
set_option linter.unusedSimpArgs false
def bxT (ps : List P2) (i : Int) : List AVal := [slA ps, AVal.junk, AVal.ptr 0 0 0, AVal.ptr 1 0 0, AVal.junk, AVal.junk, AVal.junk, slA ps, iA ps.length, iA i] ++ jk 38
def bxE (ps : List P2) (i : Int) : List AVal := [slA ps, AVal.junk, AVal.ptr 0 0 0, AVal.ptr 1 0 0, AVal.junk, AVal.junk, AVal.junk, slA ps, iA ps.length, iA i, bA false] ++ jk 37
def bxS (l h : P2) : List AObj := [.box (cellsP l), .box (cellsP h)]
def mtT (A C : P2) (i : Int) : List AVal := jk 10 ++ [AVal.ptr 15 0 0, bA true] ++ jk 14 ++ [AVal.agg (cellsP A ++ cellsP C), iA i] ++ jk 21
def mtS (B D : P2) (R : List AObj) : List AObj := R ++ [.box (cellsP B ++ cellsP D)]
def mtU (A C B D : P2) (i k : Int) : List AVal := jk 10 ++ [AVal.ptr 15 0 0, bA true, .junk, AVal.ptr 0 0 0] ++ jk 12 ++ [AVal.agg (cellsP A ++ cellsP C), iA i, .junk, .junk, AVal.agg (cellsP B ++ cellsP D), iA k] ++ jk 17
def mtV (A C B D : P2) (i k : Int) : List AVal := jk 10 ++ [AVal.ptr 15 0 0, bA true, .junk, AVal.ptr 0 0 0] ++ jk 12 ++ [AVal.agg (cellsP A ++ cellsP C), iA i, .junk, .junk, AVal.agg (cellsP B ++ cellsP D), iA k, bA false] ++ jk 16
def mtX : List AVal := jk 11 ++ [bA false] ++ jk 37
def mtE (A C : P2) (i : Int) : List AVal := jk 10 ++ [AVal.ptr 15 0 0, bA true] ++ jk 14 ++ [AVal.agg (cellsP A ++ cellsP C), iA i, bA false] ++ jk 20
def fr15 : List AObj := List.replicate 15 .free
def fr14 (X : P2) : List AObj := .box (cellsP X) :: List.replicate 14 .free
def apT (a b : List P2) (i : Int) : List AVal := [slA a, slA b] ++ jk 9 ++ [bA true, iA i] ++ jk 97
def apU (a b : List P2) (i k : Int) : List AVal := [slA a, slA b] ++ jk 9 ++ [bA true, iA i, iA k] ++ jk 96
def apV (a b : List P2) (i k : Int) : List AVal := [slA a, slA b] ++ jk 9 ++ [bA true, iA i, iA k] ++ jk 39 ++ [bA false] ++ jk 56
def apE (a b : List P2) (i : Int) : List AVal := [slA a, slA b] ++ jk 9 ++ [bA true, iA i] ++ jk 33 ++ [bA false] ++ jk 63
def apX : List AVal := jk 11 ++ [bA false] ++ jk 98
def acT (a b : List P2) (i : Int) : List AVal := [slA a, slA b] ++ jk 3 ++ [iA i] ++ jk 72
def acU (a b : List P2) (i k : Int) : List AVal := [slA a, slA b] ++ jk 3 ++ [iA i, iA k] ++ jk 71
def acV (a b : List P2) (i k : Int) : List AVal := [slA a, slA b] ++ jk 3 ++ [iA i, iA k] ++ jk 13 ++ [bA false] ++ jk 57
def acE (a b : List P2) (i : Int) : List AVal := [slA a, slA b] ++ jk 3 ++ [iA i] ++ jk 7 ++ [bA false] ++ jk 64
def acX : List AVal := jk 4 ++ [bA false] ++ jk 73
def bxR (L : Lib Try.prog) (ps : List P2) (i : Int) (l : P2) (h : P2) (q : P2) : AExit × List AVal × List AObj :=
  (bif decide (i < (↑(List.length ps) : Int)) then (bif i == 0 then (AExit.normal, (([slA ps, AVal.junk, AVal.ptr 0 0 0, AVal.ptr 1 0 0, AVal.junk, AVal.junk, AVal.junk, slA ps, iA (↑(List.length ps) : Int), iA (IntKind.i64.wrap (i + 1))] ++ jk 38), ([AObj.box [iA (if Prod.fst q < Prod.fst q then Prod.fst q else Prod.fst q), iA (if Prod.snd q < Prod.snd q then Prod.snd q else Prod.snd q)], AObj.box [iA (if Prod.fst q > Prod.fst q then Prod.fst q else Prod.fst q), iA (if Prod.snd q > Prod.snd q then Prod.snd q else Prod.snd q)]]))) else (AExit.normal, (([slA ps, AVal.junk, AVal.ptr 0 0 0, AVal.ptr 1 0 0, AVal.junk, AVal.junk, AVal.junk, slA ps, iA (↑(List.length ps) : Int), iA (IntKind.i64.wrap (i + 1))] ++ jk 38), ([AObj.box [iA (if Prod.fst q < Prod.fst l then Prod.fst q else Prod.fst l), iA (if Prod.snd q < Prod.snd l then Prod.snd q else Prod.snd l)], AObj.box [iA (if Prod.fst q > Prod.fst h then Prod.fst q else Prod.fst h), iA (if Prod.snd q > Prod.snd h then Prod.snd q else Prod.snd h)]])))) else (AExit.exit 0, (([slA ps, AVal.junk, AVal.ptr 0 0 0, AVal.ptr 1 0 0, AVal.junk, AVal.junk, AVal.junk, slA ps, iA (↑(List.length ps) : Int), iA i, bA false] ++ jk 37), ([AObj.box [iA (Prod.fst l), iA (Prod.snd l)], AObj.box [iA (Prod.fst h), iA (Prod.snd h)]]))))
theorem bxR_eq (L : Lib Try.prog) (ps : List P2) (i : Int) (l : P2) (h : P2) (q : P2) (b0 : (decide (i < (↑(List.length ps) : Int))) = true → (0 : Int) ≤ i ∧ (i : Int) < (↑(List.length ps) : Int)) (e0 : (decide (i < (↑(List.length ps) : Int))) = true → pureCall (cf L) (evalF (cf L) 201) 56 [ptP (pAt ps (Int.toNat i))] = some (ptP q)) : roundC 0 (evalC (cf L) (evalF (cf L) 201) (Option.getD (List.lookup 68 lives) []) 0 0 201 (loopAt Try.f68 0)) (bxT ps i) (bxS l h) = some (bxR L ps i l h q) := by
  have key := fun (bs : List Bool) (r : AExit × List AVal × List AObj) (ob : List Prop) (h : roundP (cf L) (evalF (cf L) 201) (Option.getD (List.lookup 68 lives) []) 0 0 201 [(9999, 0, Hint.idx), (4, 1, Hint.pcall (ptP q))] (loopAt Try.f68 0) (bxT ps i) (bxS l h) bs [] = .ok (r.1, r.2.1, r.2.2, ob)) (hp : allOb ob) => roundP_ok h hp
  unfold bxR
  exact bif_case (P := fun r => roundC 0 (evalC (cf L) (evalF (cf L) 201) (Option.getD (List.lookup 68 lives) []) 0 0 201 (loopAt Try.f68 0)) (bxT ps i) (bxS l h) = some r)
    (fun h0 => bif_case (P := fun r => roundC 0 (evalC (cf L) (evalF (cf L) 201) (Option.getD (List.lookup 68 lives) []) 0 0 201 (loopAt Try.f68 0)) (bxT ps i) (bxS l h) = some r)
     (fun h1 => key [true, true] ((AExit.normal, (([slA ps, AVal.junk, AVal.ptr 0 0 0, AVal.ptr 1 0 0, AVal.junk, AVal.junk, AVal.junk, slA ps, iA (↑(List.length ps) : Int), iA (IntKind.i64.wrap (i + 1))] ++ jk 38), ([AObj.box [iA (if Prod.fst q < Prod.fst q then Prod.fst q else Prod.fst q), iA (if Prod.snd q < Prod.snd q then Prod.snd q else Prod.snd q)], AObj.box [iA (if Prod.fst q > Prod.fst q then Prod.fst q else Prod.fst q), iA (if Prod.snd q > Prod.snd q then Prod.snd q else Prod.snd q)]])))) _ (by kernel_rfl) (allOb_cons (show Plain ([AObj.box [iA (if Prod.fst q < Prod.fst q then Prod.fst q else Prod.fst q), iA (if Prod.snd q < Prod.snd q then Prod.snd q else Prod.snd q)], AObj.box [iA (if Prod.fst q > Prod.fst q then Prod.fst q else Prod.fst q), iA (if Prod.snd q > Prod.snd q then Prod.snd q else Prod.snd q)], AObj.box [iA (Prod.fst q), iA (Prod.snd q)]] ++ List.replicate 4 AObj.free) from by simp only [Plain, List.all_append, List.all_cons, List.all_nil, plainO, upL_flatPP, flatP_plain, Nat.zero_mul, List.drop_zero] <;> rfl) (allOb_cons h1 (allOb_cons (by exact (e0 h0)) (allOb_cons (part_pt (b0 h0)) (allOb_cons (idx_ok (b0 h0)) (allOb_cons h0 allOb_nil)))))))
     (fun h1 => key [true, false] ((AExit.normal, (([slA ps, AVal.junk, AVal.ptr 0 0 0, AVal.ptr 1 0 0, AVal.junk, AVal.junk, AVal.junk, slA ps, iA (↑(List.length ps) : Int), iA (IntKind.i64.wrap (i + 1))] ++ jk 38), ([AObj.box [iA (if Prod.fst q < Prod.fst l then Prod.fst q else Prod.fst l), iA (if Prod.snd q < Prod.snd l then Prod.snd q else Prod.snd l)], AObj.box [iA (if Prod.fst q > Prod.fst h then Prod.fst q else Prod.fst h), iA (if Prod.snd q > Prod.snd h then Prod.snd q else Prod.snd h)]])))) _ (by kernel_rfl) (allOb_cons (show Plain ([AObj.box [iA (if Prod.fst q < Prod.fst l then Prod.fst q else Prod.fst l), iA (if Prod.snd q < Prod.snd l then Prod.snd q else Prod.snd l)], AObj.box [iA (if Prod.fst q > Prod.fst h then Prod.fst q else Prod.fst h), iA (if Prod.snd q > Prod.snd h then Prod.snd q else Prod.snd h)], AObj.box [iA (Prod.fst q), iA (Prod.snd q)]]) from by simp only [Plain, List.all_append, List.all_cons, List.all_nil, plainO, upL_flatPP, flatP_plain, Nat.zero_mul, List.drop_zero] <;> rfl) (allOb_cons h1 (allOb_cons (by exact (e0 h0)) (allOb_cons (part_pt (b0 h0)) (allOb_cons (idx_ok (b0 h0)) (allOb_cons h0 allOb_nil))))))))
    (fun h0 => key [false] ((AExit.exit 0, (([slA ps, AVal.junk, AVal.ptr 0 0 0, AVal.ptr 1 0 0, AVal.junk, AVal.junk, AVal.junk, slA ps, iA (↑(List.length ps) : Int), iA i, bA false] ++ jk 37), ([AObj.box [iA (Prod.fst l), iA (Prod.snd l)], AObj.box [iA (Prod.fst h), iA (Prod.snd h)]])))) _ (by kernel_rfl) (allOb_cons (show Plain ([AObj.box [iA (Prod.fst l), iA (Prod.snd l)], AObj.box [iA (Prod.fst h), iA (Prod.snd h)]]) from by simp only [Plain, List.all_append, List.all_cons, List.all_nil, plainO, upL_flatPP, flatP_plain, Nat.zero_mul, List.drop_zero] <;> rfl) (allOb_cons h0 allOb_nil)))
def bxA (L : Lib Try.prog) (ps : List P2) (i : Int) (l : P2) (h : P2) : PVal :=
  PVal.tup [ptP l, ptP h, bP (decide ((↑(List.length ps) : Int) > 0))]
theorem bxA_calls (L : Lib Try.prog) (ps : List P2) (i : Int) (l : P2) (h : P2) (e0 : iterC 0 (evalC (cf L) (evalF (cf L) 201) ((lives.lookup 68).getD []) 0 0 201 (loopAt Try.f68 0)) 201 ([AVal.list (List.length ps) (flatPP ps), AVal.junk, AVal.ptr 0 0 0, AVal.ptr 1 0 0, AVal.junk, AVal.junk, AVal.junk, AVal.list (List.length ps) (flatPP ps), iA (↑(List.length ps) : Int), iA 0] ++ jk 38) ([AObj.box [iA 0, iA 0], AObj.box [iA 0, iA 0]]) = some (AExit.exit 0, (([AVal.list (List.length ps) (flatPP ps), AVal.junk, AVal.ptr 0 0 0, AVal.ptr 1 0 0, AVal.junk, AVal.junk, AVal.junk, AVal.list (List.length ps) (flatPP ps), iA (↑(List.length ps) : Int), iA i, bA false] ++ jk 37), ([AObj.box [iA (Prod.fst l), iA (Prod.snd l)], AObj.box [iA (Prod.fst h), iA (Prod.snd h)]])))) : CallsP Try.prog 68 [slP ps] (bxA L ps i l h) := by
  have key := fun (bs : List Bool) (r : PVal) (ob : List Prop) (h : callP (cf L) (evalF (cf L) 201) 201 [(9999, 0, Hint.idx)] 68 [slP ps] bs [(AExit.exit 0, bxE ps i, bxS l h)] (none) = .ok (r, ob)) (hp : allOb ob) => callP_ok (cf_ok L) h hp
  unfold bxA
  exact key [] (PVal.tup [ptP l, ptP h, bP (decide ((↑(List.length ps) : Int) > 0))]) _ (by kernel_rfl) (allOb_cons (by exact e0) allOb_nil)
def mi0 (L : Lib Try.prog) (A : P2) (C : P2) (B : P2) (D : P2) (X : P2) (i : Int) : AExit × List AVal × List AObj :=
  (bif decide (Prod.fst X > Prod.fst B) then (AExit.exit 0, ((jk 11 ++ [bA false] ++ jk 37), [])) else (bif decide (Prod.snd X > Prod.snd B) then (AExit.exit 0, ((jk 11 ++ [bA false] ++ jk 37), [])) else (AExit.normal, ((jk 10 ++ [AVal.ptr 15 0 0, bA true, AVal.junk, AVal.ptr 0 0 0] ++ jk 12 ++ [AVal.agg [iA (Prod.fst A), iA (Prod.snd A), iA (Prod.fst C), iA (Prod.snd C)], iA i, AVal.junk, AVal.junk, AVal.agg [iA (Prod.fst B), iA (Prod.snd B), iA (Prod.fst D), iA (Prod.snd D)], iA (IntKind.i64.wrap (0 + 1))] ++ jk 17), ([AObj.box [iA (Prod.fst X), iA (Prod.snd X)]] ++ List.replicate 14 AObj.free ++ [AObj.box [iA (Prod.fst B), iA (Prod.snd B), iA (Prod.fst D), iA (Prod.snd D)]])))))
theorem mi0_eq (L : Lib Try.prog) (A : P2) (C : P2) (B : P2) (D : P2) (X : P2) (i : Int) : roundC 0 (evalC (cf L) (evalF (cf L) 201) (Option.getD (List.lookup 69 lives) []) 0 0 201 (loopAt Try.f69 1)) (mtU A C B D i 0) (mtS B D (fr14 X)) = some (mi0 L A C B D X i) := by
  have key := fun (bs : List Bool) (r : AExit × List AVal × List AObj) (ob : List Prop) (h : roundP (cf L) (evalF (cf L) 201) (Option.getD (List.lookup 69 lives) []) 0 0 201 [(9999, 0, Hint.idx)] (loopAt Try.f69 1) (mtU A C B D i 0) (mtS B D (fr14 X)) bs [] = .ok (r.1, r.2.1, r.2.2, ob)) (hp : allOb ob) => roundP_ok h hp
  unfold mi0
  exact bif_case (P := fun r => roundC 0 (evalC (cf L) (evalF (cf L) 201) (Option.getD (List.lookup 69 lives) []) 0 0 201 (loopAt Try.f69 1)) (mtU A C B D i 0) (mtS B D (fr14 X)) = some r)
    (fun h0 => key [true, true, true] ((AExit.exit 0, ((jk 11 ++ [bA false] ++ jk 37), []))) _ (by kernel_rfl) (allOb_cons (show Plain ([AObj.box [iA (Prod.fst X), iA (Prod.snd X)], AObj.box [iA (Prod.fst B), iA (Prod.snd B)]] ++ List.replicate 13 AObj.free ++ [AObj.box [iA (Prod.fst B), iA (Prod.snd B), iA (Prod.fst D), iA (Prod.snd D)]]) from by simp only [Plain, List.all_append, List.all_cons, List.all_nil, plainO, upL_flatPP, flatP_plain, Nat.zero_mul, List.drop_zero] <;> rfl) (allOb_cons lit_t (allOb_cons h0 (allOb_cons lit_t allOb_nil)))))
    (fun h0 => bif_case (P := fun r => roundC 0 (evalC (cf L) (evalF (cf L) 201) (Option.getD (List.lookup 69 lives) []) 0 0 201 (loopAt Try.f69 1)) (mtU A C B D i 0) (mtS B D (fr14 X)) = some r)
     (fun h1 => key [true, false, true] ((AExit.exit 0, ((jk 11 ++ [bA false] ++ jk 37), []))) _ (by kernel_rfl) (allOb_cons (show Plain ([AObj.box [iA (Prod.fst X), iA (Prod.snd X)], AObj.box [iA (Prod.fst B), iA (Prod.snd B)]] ++ List.replicate 13 AObj.free ++ [AObj.box [iA (Prod.fst B), iA (Prod.snd B), iA (Prod.fst D), iA (Prod.snd D)]]) from by simp only [Plain, List.all_append, List.all_cons, List.all_nil, plainO, upL_flatPP, flatP_plain, Nat.zero_mul, List.drop_zero] <;> rfl) (allOb_cons h1 (allOb_cons h0 (allOb_cons lit_t allOb_nil)))))
     (fun h1 => key [true, false, false] ((AExit.normal, ((jk 10 ++ [AVal.ptr 15 0 0, bA true, AVal.junk, AVal.ptr 0 0 0] ++ jk 12 ++ [AVal.agg [iA (Prod.fst A), iA (Prod.snd A), iA (Prod.fst C), iA (Prod.snd C)], iA i, AVal.junk, AVal.junk, AVal.agg [iA (Prod.fst B), iA (Prod.snd B), iA (Prod.fst D), iA (Prod.snd D)], iA (IntKind.i64.wrap (0 + 1))] ++ jk 17), ([AObj.box [iA (Prod.fst X), iA (Prod.snd X)]] ++ List.replicate 14 AObj.free ++ [AObj.box [iA (Prod.fst B), iA (Prod.snd B), iA (Prod.fst D), iA (Prod.snd D)]])))) _ (by kernel_rfl) (allOb_cons (show Plain ([AObj.box [iA (Prod.fst X), iA (Prod.snd X)], AObj.box [iA (Prod.fst B), iA (Prod.snd B)]] ++ List.replicate 13 AObj.free ++ [AObj.box [iA (Prod.fst B), iA (Prod.snd B), iA (Prod.fst D), iA (Prod.snd D)]]) from by simp only [Plain, List.all_append, List.all_cons, List.all_nil, plainO, upL_flatPP, flatP_plain, Nat.zero_mul, List.drop_zero] <;> rfl) (allOb_cons h1 (allOb_cons h0 (allOb_cons lit_t allOb_nil))))))
def mi1 (L : Lib Try.prog) (A : P2) (C : P2) (B : P2) (D : P2) (X : P2) (i : Int) : AExit × List AVal × List AObj :=
  (bif decide (Prod.fst X > Prod.fst D) then (AExit.exit 0, ((jk 11 ++ [bA false] ++ jk 37), [])) else (bif decide (Prod.snd X > Prod.snd D) then (AExit.exit 0, ((jk 11 ++ [bA false] ++ jk 37), [])) else (AExit.normal, ((jk 10 ++ [AVal.ptr 15 0 0, bA true, AVal.junk, AVal.ptr 0 0 0] ++ jk 12 ++ [AVal.agg [iA (Prod.fst A), iA (Prod.snd A), iA (Prod.fst C), iA (Prod.snd C)], iA i, AVal.junk, AVal.junk, AVal.agg [iA (Prod.fst B), iA (Prod.snd B), iA (Prod.fst D), iA (Prod.snd D)], iA (IntKind.i64.wrap (1 + 1))] ++ jk 17), ([AObj.box [iA (Prod.fst X), iA (Prod.snd X)]] ++ List.replicate 14 AObj.free ++ [AObj.box [iA (Prod.fst B), iA (Prod.snd B), iA (Prod.fst D), iA (Prod.snd D)]])))))
theorem mi1_eq (L : Lib Try.prog) (A : P2) (C : P2) (B : P2) (D : P2) (X : P2) (i : Int) : roundC 0 (evalC (cf L) (evalF (cf L) 201) (Option.getD (List.lookup 69 lives) []) 0 0 201 (loopAt Try.f69 1)) (mtU A C B D i 1) (mtS B D (fr14 X)) = some (mi1 L A C B D X i) := by
  have key := fun (bs : List Bool) (r : AExit × List AVal × List AObj) (ob : List Prop) (h : roundP (cf L) (evalF (cf L) 201) (Option.getD (List.lookup 69 lives) []) 0 0 201 [(9999, 0, Hint.idx)] (loopAt Try.f69 1) (mtU A C B D i 1) (mtS B D (fr14 X)) bs [] = .ok (r.1, r.2.1, r.2.2, ob)) (hp : allOb ob) => roundP_ok h hp
  unfold mi1
  exact bif_case (P := fun r => roundC 0 (evalC (cf L) (evalF (cf L) 201) (Option.getD (List.lookup 69 lives) []) 0 0 201 (loopAt Try.f69 1)) (mtU A C B D i 1) (mtS B D (fr14 X)) = some r)
    (fun h0 => key [true, true, true] ((AExit.exit 0, ((jk 11 ++ [bA false] ++ jk 37), []))) _ (by kernel_rfl) (allOb_cons (show Plain ([AObj.box [iA (Prod.fst X), iA (Prod.snd X)], AObj.box [iA (Prod.fst D), iA (Prod.snd D)]] ++ List.replicate 13 AObj.free ++ [AObj.box [iA (Prod.fst B), iA (Prod.snd B), iA (Prod.fst D), iA (Prod.snd D)]]) from by simp only [Plain, List.all_append, List.all_cons, List.all_nil, plainO, upL_flatPP, flatP_plain, Nat.zero_mul, List.drop_zero] <;> rfl) (allOb_cons lit_t (allOb_cons h0 (allOb_cons lit_t allOb_nil)))))
    (fun h0 => bif_case (P := fun r => roundC 0 (evalC (cf L) (evalF (cf L) 201) (Option.getD (List.lookup 69 lives) []) 0 0 201 (loopAt Try.f69 1)) (mtU A C B D i 1) (mtS B D (fr14 X)) = some r)
     (fun h1 => key [true, false, true] ((AExit.exit 0, ((jk 11 ++ [bA false] ++ jk 37), []))) _ (by kernel_rfl) (allOb_cons (show Plain ([AObj.box [iA (Prod.fst X), iA (Prod.snd X)], AObj.box [iA (Prod.fst D), iA (Prod.snd D)]] ++ List.replicate 13 AObj.free ++ [AObj.box [iA (Prod.fst B), iA (Prod.snd B), iA (Prod.fst D), iA (Prod.snd D)]]) from by simp only [Plain, List.all_append, List.all_cons, List.all_nil, plainO, upL_flatPP, flatP_plain, Nat.zero_mul, List.drop_zero] <;> rfl) (allOb_cons h1 (allOb_cons h0 (allOb_cons lit_t allOb_nil)))))
     (fun h1 => key [true, false, false] ((AExit.normal, ((jk 10 ++ [AVal.ptr 15 0 0, bA true, AVal.junk, AVal.ptr 0 0 0] ++ jk 12 ++ [AVal.agg [iA (Prod.fst A), iA (Prod.snd A), iA (Prod.fst C), iA (Prod.snd C)], iA i, AVal.junk, AVal.junk, AVal.agg [iA (Prod.fst B), iA (Prod.snd B), iA (Prod.fst D), iA (Prod.snd D)], iA (IntKind.i64.wrap (1 + 1))] ++ jk 17), ([AObj.box [iA (Prod.fst X), iA (Prod.snd X)]] ++ List.replicate 14 AObj.free ++ [AObj.box [iA (Prod.fst B), iA (Prod.snd B), iA (Prod.fst D), iA (Prod.snd D)]])))) _ (by kernel_rfl) (allOb_cons (show Plain ([AObj.box [iA (Prod.fst X), iA (Prod.snd X)], AObj.box [iA (Prod.fst D), iA (Prod.snd D)]] ++ List.replicate 13 AObj.free ++ [AObj.box [iA (Prod.fst B), iA (Prod.snd B), iA (Prod.fst D), iA (Prod.snd D)]]) from by simp only [Plain, List.all_append, List.all_cons, List.all_nil, plainO, upL_flatPP, flatP_plain, Nat.zero_mul, List.drop_zero] <;> rfl) (allOb_cons h1 (allOb_cons h0 (allOb_cons lit_t allOb_nil))))))
def mi2 (L : Lib Try.prog) (A : P2) (C : P2) (B : P2) (D : P2) (X : P2) (i : Int) : AExit × List AVal × List AObj :=
  (AExit.exit 2, ((jk 10 ++ [AVal.ptr 15 0 0, bA true, AVal.junk, AVal.ptr 0 0 0] ++ jk 12 ++ [AVal.agg [iA (Prod.fst A), iA (Prod.snd A), iA (Prod.fst C), iA (Prod.snd C)], iA i, AVal.junk, AVal.junk, AVal.agg [iA (Prod.fst B), iA (Prod.snd B), iA (Prod.fst D), iA (Prod.snd D)], iA 2, bA false] ++ jk 16), ([AObj.box [iA (Prod.fst X), iA (Prod.snd X)]] ++ List.replicate 14 AObj.free ++ [AObj.box [iA (Prod.fst B), iA (Prod.snd B), iA (Prod.fst D), iA (Prod.snd D)]])))
theorem mi2_eq (L : Lib Try.prog) (A : P2) (C : P2) (B : P2) (D : P2) (X : P2) (i : Int) : roundC 0 (evalC (cf L) (evalF (cf L) 201) (Option.getD (List.lookup 69 lives) []) 0 0 201 (loopAt Try.f69 1)) (mtU A C B D i 2) (mtS B D (fr14 X)) = some (mi2 L A C B D X i) := by
  have key := fun (bs : List Bool) (r : AExit × List AVal × List AObj) (ob : List Prop) (h : roundP (cf L) (evalF (cf L) 201) (Option.getD (List.lookup 69 lives) []) 0 0 201 [(9999, 0, Hint.idx)] (loopAt Try.f69 1) (mtU A C B D i 2) (mtS B D (fr14 X)) bs [] = .ok (r.1, r.2.1, r.2.2, ob)) (hp : allOb ob) => roundP_ok h hp
  unfold mi2
  exact key [false] ((AExit.exit 2, ((jk 10 ++ [AVal.ptr 15 0 0, bA true, AVal.junk, AVal.ptr 0 0 0] ++ jk 12 ++ [AVal.agg [iA (Prod.fst A), iA (Prod.snd A), iA (Prod.fst C), iA (Prod.snd C)], iA i, AVal.junk, AVal.junk, AVal.agg [iA (Prod.fst B), iA (Prod.snd B), iA (Prod.fst D), iA (Prod.snd D)], iA 2, bA false] ++ jk 16), ([AObj.box [iA (Prod.fst X), iA (Prod.snd X)]] ++ List.replicate 14 AObj.free ++ [AObj.box [iA (Prod.fst B), iA (Prod.snd B), iA (Prod.fst D), iA (Prod.snd D)]])))) _ (by kernel_rfl) (allOb_cons (show Plain ([AObj.box [iA (Prod.fst X), iA (Prod.snd X)]] ++ List.replicate 14 AObj.free ++ [AObj.box [iA (Prod.fst B), iA (Prod.snd B), iA (Prod.fst D), iA (Prod.snd D)]]) from by simp only [Plain, List.all_append, List.all_cons, List.all_nil, plainO, upL_flatPP, flatP_plain, Nat.zero_mul, List.drop_zero] <;> rfl) (allOb_cons lit_f allOb_nil))
def mo0 (L : Lib Try.prog) (A : P2) (C : P2) (B : P2) (D : P2) : AExit × List AVal × List AObj :=
  (AExit.normal, ((jk 10 ++ [AVal.ptr 15 0 0, bA true] ++ jk 14 ++ [AVal.agg [iA (Prod.fst A), iA (Prod.snd A), iA (Prod.fst C), iA (Prod.snd C)], iA (IntKind.i64.wrap (0 + 1))] ++ jk 21), (List.replicate 15 AObj.free ++ [AObj.box [iA (Prod.fst B), iA (Prod.snd B), iA (Prod.fst D), iA (Prod.snd D)]])))
theorem mo0_eq (L : Lib Try.prog) (A : P2) (C : P2) (B : P2) (D : P2) (e0 : iterC 0 (evalC (cf L) (evalF (cf L) 201) ((lives.lookup 69).getD []) 0 0 201 (loopAt Try.f69 1)) 201 (jk 10 ++ [AVal.ptr 15 0 0, bA true, AVal.junk, AVal.ptr 0 0 0] ++ jk 12 ++ [AVal.agg [iA (Prod.fst A), iA (Prod.snd A), iA (Prod.fst C), iA (Prod.snd C)], iA 0, AVal.junk, AVal.junk, AVal.agg [iA (Prod.fst B), iA (Prod.snd B), iA (Prod.fst D), iA (Prod.snd D)], iA 0] ++ jk 17) ([AObj.box [iA (Prod.fst A), iA (Prod.snd A)]] ++ List.replicate 14 AObj.free ++ [AObj.box [iA (Prod.fst B), iA (Prod.snd B), iA (Prod.fst D), iA (Prod.snd D)]]) = some (AExit.exit 2, ((jk 10 ++ [AVal.ptr 15 0 0, bA true, AVal.junk, AVal.ptr 0 0 0] ++ jk 12 ++ [AVal.agg [iA (Prod.fst A), iA (Prod.snd A), iA (Prod.fst C), iA (Prod.snd C)], iA 0, AVal.junk, AVal.junk, AVal.agg [iA (Prod.fst B), iA (Prod.snd B), iA (Prod.fst D), iA (Prod.snd D)], iA 2, bA false] ++ jk 16), ([AObj.box [iA (Prod.fst A), iA (Prod.snd A)]] ++ List.replicate 14 AObj.free ++ [AObj.box [iA (Prod.fst B), iA (Prod.snd B), iA (Prod.fst D), iA (Prod.snd D)]])))) : roundC 0 (evalC (cf L) (evalF (cf L) 201) (Option.getD (List.lookup 69 lives) []) 0 0 201 (loopAt Try.f69 0)) (mtT A C 0) (mtS B D fr15) = some (mo0 L A C B D) := by
  have key := fun (bs : List Bool) (r : AExit × List AVal × List AObj) (ob : List Prop) (h : roundP (cf L) (evalF (cf L) 201) (Option.getD (List.lookup 69 lives) []) 0 0 201 [(9999, 0, Hint.idx)] (loopAt Try.f69 0) (mtT A C 0) (mtS B D fr15) bs [(AExit.exit 2, mtV A C B D 0 2, mtS B D (fr14 A))] = .ok (r.1, r.2.1, r.2.2, ob)) (hp : allOb ob) => roundP_ok h hp
  unfold mo0
  exact key [true] ((AExit.normal, ((jk 10 ++ [AVal.ptr 15 0 0, bA true] ++ jk 14 ++ [AVal.agg [iA (Prod.fst A), iA (Prod.snd A), iA (Prod.fst C), iA (Prod.snd C)], iA (IntKind.i64.wrap (0 + 1))] ++ jk 21), (List.replicate 15 AObj.free ++ [AObj.box [iA (Prod.fst B), iA (Prod.snd B), iA (Prod.fst D), iA (Prod.snd D)]])))) _ (by kernel_rfl) (allOb_cons (show Plain ([AObj.box [iA (Prod.fst A), iA (Prod.snd A)]] ++ List.replicate 14 AObj.free ++ [AObj.box [iA (Prod.fst B), iA (Prod.snd B), iA (Prod.fst D), iA (Prod.snd D)]]) from by simp only [Plain, List.all_append, List.all_cons, List.all_nil, plainO, upL_flatPP, flatP_plain, Nat.zero_mul, List.drop_zero] <;> rfl) (allOb_cons (by exact e0) (allOb_cons lit_t allOb_nil)))
def mo0x (L : Lib Try.prog) (A : P2) (C : P2) (B : P2) (D : P2) : AExit × List AVal × List AObj :=
  (AExit.exit 0, ((jk 11 ++ [bA false] ++ jk 37), []))
theorem mo0x_eq (L : Lib Try.prog) (A : P2) (C : P2) (B : P2) (D : P2) (e0 : iterC 0 (evalC (cf L) (evalF (cf L) 201) ((lives.lookup 69).getD []) 0 0 201 (loopAt Try.f69 1)) 201 (jk 10 ++ [AVal.ptr 15 0 0, bA true, AVal.junk, AVal.ptr 0 0 0] ++ jk 12 ++ [AVal.agg [iA (Prod.fst A), iA (Prod.snd A), iA (Prod.fst C), iA (Prod.snd C)], iA 0, AVal.junk, AVal.junk, AVal.agg [iA (Prod.fst B), iA (Prod.snd B), iA (Prod.fst D), iA (Prod.snd D)], iA 0] ++ jk 17) ([AObj.box [iA (Prod.fst A), iA (Prod.snd A)]] ++ List.replicate 14 AObj.free ++ [AObj.box [iA (Prod.fst B), iA (Prod.snd B), iA (Prod.fst D), iA (Prod.snd D)]]) = some (AExit.exit 0, ((jk 11 ++ [bA false] ++ jk 37), []))) : roundC 0 (evalC (cf L) (evalF (cf L) 201) (Option.getD (List.lookup 69 lives) []) 0 0 201 (loopAt Try.f69 0)) (mtT A C 0) (mtS B D fr15) = some (mo0x L A C B D) := by
  have key := fun (bs : List Bool) (r : AExit × List AVal × List AObj) (ob : List Prop) (h : roundP (cf L) (evalF (cf L) 201) (Option.getD (List.lookup 69 lives) []) 0 0 201 [(9999, 0, Hint.idx)] (loopAt Try.f69 0) (mtT A C 0) (mtS B D fr15) bs [(AExit.exit 0, mtX, [])] = .ok (r.1, r.2.1, r.2.2, ob)) (hp : allOb ob) => roundP_ok h hp
  unfold mo0x
  exact key [true] ((AExit.exit 0, ((jk 11 ++ [bA false] ++ jk 37), []))) _ (by kernel_rfl) (allOb_cons (show Plain [] from by simp only [Plain, List.all_append, List.all_cons, List.all_nil, plainO, upL_flatPP, flatP_plain, Nat.zero_mul, List.drop_zero] <;> rfl) (allOb_cons (by exact e0) (allOb_cons lit_t allOb_nil)))
def mo1 (L : Lib Try.prog) (A : P2) (C : P2) (B : P2) (D : P2) : AExit × List AVal × List AObj :=
  (AExit.normal, ((jk 10 ++ [AVal.ptr 15 0 0, bA true] ++ jk 14 ++ [AVal.agg [iA (Prod.fst A), iA (Prod.snd A), iA (Prod.fst C), iA (Prod.snd C)], iA (IntKind.i64.wrap (1 + 1))] ++ jk 21), (List.replicate 15 AObj.free ++ [AObj.box [iA (Prod.fst B), iA (Prod.snd B), iA (Prod.fst D), iA (Prod.snd D)]])))
theorem mo1_eq (L : Lib Try.prog) (A : P2) (C : P2) (B : P2) (D : P2) (e0 : iterC 0 (evalC (cf L) (evalF (cf L) 201) ((lives.lookup 69).getD []) 0 0 201 (loopAt Try.f69 1)) 201 (jk 10 ++ [AVal.ptr 15 0 0, bA true, AVal.junk, AVal.ptr 0 0 0] ++ jk 12 ++ [AVal.agg [iA (Prod.fst A), iA (Prod.snd A), iA (Prod.fst C), iA (Prod.snd C)], iA 1, AVal.junk, AVal.junk, AVal.agg [iA (Prod.fst B), iA (Prod.snd B), iA (Prod.fst D), iA (Prod.snd D)], iA 0] ++ jk 17) ([AObj.box [iA (Prod.fst C), iA (Prod.snd C)]] ++ List.replicate 14 AObj.free ++ [AObj.box [iA (Prod.fst B), iA (Prod.snd B), iA (Prod.fst D), iA (Prod.snd D)]]) = some (AExit.exit 2, ((jk 10 ++ [AVal.ptr 15 0 0, bA true, AVal.junk, AVal.ptr 0 0 0] ++ jk 12 ++ [AVal.agg [iA (Prod.fst A), iA (Prod.snd A), iA (Prod.fst C), iA (Prod.snd C)], iA 1, AVal.junk, AVal.junk, AVal.agg [iA (Prod.fst B), iA (Prod.snd B), iA (Prod.fst D), iA (Prod.snd D)], iA 2, bA false] ++ jk 16), ([AObj.box [iA (Prod.fst C), iA (Prod.snd C)]] ++ List.replicate 14 AObj.free ++ [AObj.box [iA (Prod.fst B), iA (Prod.snd B), iA (Prod.fst D), iA (Prod.snd D)]])))) : roundC 0 (evalC (cf L) (evalF (cf L) 201) (Option.getD (List.lookup 69 lives) []) 0 0 201 (loopAt Try.f69 0)) (mtT A C 1) (mtS B D fr15) = some (mo1 L A C B D) := by
  have key := fun (bs : List Bool) (r : AExit × List AVal × List AObj) (ob : List Prop) (h : roundP (cf L) (evalF (cf L) 201) (Option.getD (List.lookup 69 lives) []) 0 0 201 [(9999, 0, Hint.idx)] (loopAt Try.f69 0) (mtT A C 1) (mtS B D fr15) bs [(AExit.exit 2, mtV A C B D 1 2, mtS B D (fr14 C))] = .ok (r.1, r.2.1, r.2.2, ob)) (hp : allOb ob) => roundP_ok h hp
  unfold mo1
  exact key [true] ((AExit.normal, ((jk 10 ++ [AVal.ptr 15 0 0, bA true] ++ jk 14 ++ [AVal.agg [iA (Prod.fst A), iA (Prod.snd A), iA (Prod.fst C), iA (Prod.snd C)], iA (IntKind.i64.wrap (1 + 1))] ++ jk 21), (List.replicate 15 AObj.free ++ [AObj.box [iA (Prod.fst B), iA (Prod.snd B), iA (Prod.fst D), iA (Prod.snd D)]])))) _ (by kernel_rfl) (allOb_cons (show Plain ([AObj.box [iA (Prod.fst C), iA (Prod.snd C)]] ++ List.replicate 14 AObj.free ++ [AObj.box [iA (Prod.fst B), iA (Prod.snd B), iA (Prod.fst D), iA (Prod.snd D)]]) from by simp only [Plain, List.all_append, List.all_cons, List.all_nil, plainO, upL_flatPP, flatP_plain, Nat.zero_mul, List.drop_zero] <;> rfl) (allOb_cons (by exact e0) (allOb_cons lit_t allOb_nil)))
def mo1x (L : Lib Try.prog) (A : P2) (C : P2) (B : P2) (D : P2) : AExit × List AVal × List AObj :=
  (AExit.exit 0, ((jk 11 ++ [bA false] ++ jk 37), []))
theorem mo1x_eq (L : Lib Try.prog) (A : P2) (C : P2) (B : P2) (D : P2) (e0 : iterC 0 (evalC (cf L) (evalF (cf L) 201) ((lives.lookup 69).getD []) 0 0 201 (loopAt Try.f69 1)) 201 (jk 10 ++ [AVal.ptr 15 0 0, bA true, AVal.junk, AVal.ptr 0 0 0] ++ jk 12 ++ [AVal.agg [iA (Prod.fst A), iA (Prod.snd A), iA (Prod.fst C), iA (Prod.snd C)], iA 1, AVal.junk, AVal.junk, AVal.agg [iA (Prod.fst B), iA (Prod.snd B), iA (Prod.fst D), iA (Prod.snd D)], iA 0] ++ jk 17) ([AObj.box [iA (Prod.fst C), iA (Prod.snd C)]] ++ List.replicate 14 AObj.free ++ [AObj.box [iA (Prod.fst B), iA (Prod.snd B), iA (Prod.fst D), iA (Prod.snd D)]]) = some (AExit.exit 0, ((jk 11 ++ [bA false] ++ jk 37), []))) : roundC 0 (evalC (cf L) (evalF (cf L) 201) (Option.getD (List.lookup 69 lives) []) 0 0 201 (loopAt Try.f69 0)) (mtT A C 1) (mtS B D fr15) = some (mo1x L A C B D) := by
  have key := fun (bs : List Bool) (r : AExit × List AVal × List AObj) (ob : List Prop) (h : roundP (cf L) (evalF (cf L) 201) (Option.getD (List.lookup 69 lives) []) 0 0 201 [(9999, 0, Hint.idx)] (loopAt Try.f69 0) (mtT A C 1) (mtS B D fr15) bs [(AExit.exit 0, mtX, [])] = .ok (r.1, r.2.1, r.2.2, ob)) (hp : allOb ob) => roundP_ok h hp
  unfold mo1x
  exact key [true] ((AExit.exit 0, ((jk 11 ++ [bA false] ++ jk 37), []))) _ (by kernel_rfl) (allOb_cons (show Plain [] from by simp only [Plain, List.all_append, List.all_cons, List.all_nil, plainO, upL_flatPP, flatP_plain, Nat.zero_mul, List.drop_zero] <;> rfl) (allOb_cons (by exact e0) (allOb_cons lit_t allOb_nil)))
def mo2 (L : Lib Try.prog) (A : P2) (C : P2) (B : P2) (D : P2) : AExit × List AVal × List AObj :=
  (AExit.exit 0, ((jk 10 ++ [AVal.ptr 15 0 0, bA true] ++ jk 14 ++ [AVal.agg [iA (Prod.fst A), iA (Prod.snd A), iA (Prod.fst C), iA (Prod.snd C)], iA 2, bA false] ++ jk 20), (List.replicate 15 AObj.free ++ [AObj.box [iA (Prod.fst B), iA (Prod.snd B), iA (Prod.fst D), iA (Prod.snd D)]])))
theorem mo2_eq (L : Lib Try.prog) (A : P2) (C : P2) (B : P2) (D : P2) : roundC 0 (evalC (cf L) (evalF (cf L) 201) (Option.getD (List.lookup 69 lives) []) 0 0 201 (loopAt Try.f69 0)) (mtT A C 2) (mtS B D fr15) = some (mo2 L A C B D) := by
  have key := fun (bs : List Bool) (r : AExit × List AVal × List AObj) (ob : List Prop) (h : roundP (cf L) (evalF (cf L) 201) (Option.getD (List.lookup 69 lives) []) 0 0 201 [(9999, 0, Hint.idx)] (loopAt Try.f69 0) (mtT A C 2) (mtS B D fr15) bs [] = .ok (r.1, r.2.1, r.2.2, ob)) (hp : allOb ob) => roundP_ok h hp
  unfold mo2
  exact key [false] ((AExit.exit 0, ((jk 10 ++ [AVal.ptr 15 0 0, bA true] ++ jk 14 ++ [AVal.agg [iA (Prod.fst A), iA (Prod.snd A), iA (Prod.fst C), iA (Prod.snd C)], iA 2, bA false] ++ jk 20), (List.replicate 15 AObj.free ++ [AObj.box [iA (Prod.fst B), iA (Prod.snd B), iA (Prod.fst D), iA (Prod.snd D)]])))) _ (by kernel_rfl) (allOb_cons (show Plain (List.replicate 15 AObj.free ++ [AObj.box [iA (Prod.fst B), iA (Prod.snd B), iA (Prod.fst D), iA (Prod.snd D)]]) from by simp only [Plain, List.all_append, List.all_cons, List.all_nil, plainO, upL_flatPP, flatP_plain, Nat.zero_mul, List.drop_zero] <;> rfl) (allOb_cons lit_f allOb_nil))
def mtA (L : Lib Try.prog) (a : P2) (b : P2) (c : P2) (d : P2) : PVal :=
  bP true
theorem mtA_calls (L : Lib Try.prog) (a : P2) (b : P2) (c : P2) (d : P2) (e0 : pureCall (cf L) (evalF (cf L) 201) 56 [ptP a] = some (ptP (nearP a))) (e1 : pureCall (cf L) (evalF (cf L) 201) 56 [ptP c] = some (ptP (nearP c))) (e2 : pureCall (cf L) (evalF (cf L) 201) 56 [ptP b] = some (ptP (nearP b))) (e3 : pureCall (cf L) (evalF (cf L) 201) 56 [ptP d] = some (ptP (nearP d))) (e4 : iterC 0 (evalC (cf L) (evalF (cf L) 201) ((lives.lookup 69).getD []) 0 0 201 (loopAt Try.f69 0)) 201 (jk 10 ++ [AVal.ptr 15 0 0, bA true] ++ jk 14 ++ [AVal.agg [iA (Prod.fst (nearP a)), iA (Prod.snd (nearP a)), iA (Prod.fst (nearP c)), iA (Prod.snd (nearP c))], iA 0] ++ jk 21) ([AObj.box [iA (Prod.fst a), iA (Prod.snd a)], AObj.box [iA (Prod.fst b), iA (Prod.snd b)], AObj.box [iA (Prod.fst c), iA (Prod.snd c)], AObj.box [iA (Prod.fst d), iA (Prod.snd d)]] ++ List.replicate 10 AObj.free ++ [AObj.box [iA (Prod.fst (nearP a)), iA (Prod.snd (nearP a)), iA (Prod.fst (nearP c)), iA (Prod.snd (nearP c))], AObj.box [iA (Prod.fst (nearP b)), iA (Prod.snd (nearP b)), iA (Prod.fst (nearP d)), iA (Prod.snd (nearP d))], AObj.free, AObj.free]) = some (AExit.exit 0, ((jk 10 ++ [AVal.ptr 15 0 0, bA true] ++ jk 14 ++ [AVal.agg [iA (Prod.fst (nearP a)), iA (Prod.snd (nearP a)), iA (Prod.fst (nearP c)), iA (Prod.snd (nearP c))], iA 2, bA false] ++ jk 20), (List.replicate 15 AObj.free ++ [AObj.box [iA (Prod.fst (nearP b)), iA (Prod.snd (nearP b)), iA (Prod.fst (nearP d)), iA (Prod.snd (nearP d))]])))) : CallsP Try.prog 69 [ptP a, ptP b, ptP c, ptP d] (mtA L a b c d) := by
  have key := fun (bs : List Bool) (r : PVal) (ob : List Prop) (h : callP (cf L) (evalF (cf L) 201) 201 [(9999, 0, Hint.idx), (1, 1, Hint.pcall (ptP (nearP a))), (1, 3, Hint.pcall (ptP (nearP c))), (1, 6, Hint.pcall (ptP (nearP b))), (1, 8, Hint.pcall (ptP (nearP d)))] 69 [ptP a, ptP b, ptP c, ptP d] bs [(AExit.exit 0, mtE (nearP a) (nearP c) 2, mtS (nearP b) (nearP d) fr15)] (none) = .ok (r, ob)) (hp : allOb ob) => callP_ok (cf_ok L) h hp
  unfold mtA
  exact key [] (bP true) _ (by kernel_rfl) (allOb_cons (by exact e4) (allOb_cons (by exact e3) (allOb_cons (by exact e2) (allOb_cons (by exact e1) (allOb_cons (by exact e0) allOb_nil)))))
def mtB (L : Lib Try.prog) (a : P2) (b : P2) (c : P2) (d : P2) : PVal :=
  bP false
theorem mtB_calls (L : Lib Try.prog) (a : P2) (b : P2) (c : P2) (d : P2) (e0 : pureCall (cf L) (evalF (cf L) 201) 56 [ptP a] = some (ptP (nearP a))) (e1 : pureCall (cf L) (evalF (cf L) 201) 56 [ptP c] = some (ptP (nearP c))) (e2 : pureCall (cf L) (evalF (cf L) 201) 56 [ptP b] = some (ptP (nearP b))) (e3 : pureCall (cf L) (evalF (cf L) 201) 56 [ptP d] = some (ptP (nearP d))) (e4 : iterC 0 (evalC (cf L) (evalF (cf L) 201) ((lives.lookup 69).getD []) 0 0 201 (loopAt Try.f69 0)) 201 (jk 10 ++ [AVal.ptr 15 0 0, bA true] ++ jk 14 ++ [AVal.agg [iA (Prod.fst (nearP a)), iA (Prod.snd (nearP a)), iA (Prod.fst (nearP c)), iA (Prod.snd (nearP c))], iA 0] ++ jk 21) ([AObj.box [iA (Prod.fst a), iA (Prod.snd a)], AObj.box [iA (Prod.fst b), iA (Prod.snd b)], AObj.box [iA (Prod.fst c), iA (Prod.snd c)], AObj.box [iA (Prod.fst d), iA (Prod.snd d)]] ++ List.replicate 10 AObj.free ++ [AObj.box [iA (Prod.fst (nearP a)), iA (Prod.snd (nearP a)), iA (Prod.fst (nearP c)), iA (Prod.snd (nearP c))], AObj.box [iA (Prod.fst (nearP b)), iA (Prod.snd (nearP b)), iA (Prod.fst (nearP d)), iA (Prod.snd (nearP d))], AObj.free, AObj.free]) = some (AExit.exit 0, ((jk 11 ++ [bA false] ++ jk 37), []))) : CallsP Try.prog 69 [ptP a, ptP b, ptP c, ptP d] (mtB L a b c d) := by
  have key := fun (bs : List Bool) (r : PVal) (ob : List Prop) (h : callP (cf L) (evalF (cf L) 201) 201 [(9999, 0, Hint.idx), (1, 1, Hint.pcall (ptP (nearP a))), (1, 3, Hint.pcall (ptP (nearP c))), (1, 6, Hint.pcall (ptP (nearP b))), (1, 8, Hint.pcall (ptP (nearP d)))] 69 [ptP a, ptP b, ptP c, ptP d] bs [(AExit.exit 0, mtX, [])] (none) = .ok (r, ob)) (hp : allOb ob) => callP_ok (cf_ok L) h hp
  unfold mtB
  exact key [] (bP false) _ (by kernel_rfl) (allOb_cons (by exact e4) (allOb_cons (by exact e3) (allOb_cons (by exact e2) (allOb_cons (by exact e1) (allOb_cons (by exact e0) allOb_nil)))))
def shA (L : Lib Try.prog) (a : P2) (b : P2) (c : P2) (d : P2) (v : Int) : PVal :=
  (bif v != 1 then PVal.tup [PVal.agg [iP 0, iP 0], bP false] else (bif eqB (nearP a) (nearP c) then PVal.tup [ptP (nearP a), bP true] else (bif eqB (nearP a) (nearP d) then PVal.tup [ptP (nearP a), bP true] else PVal.tup [ptP (nearP b), bP true])))
theorem shA_calls (L : Lib Try.prog) (a : P2) (b : P2) (c : P2) (d : P2) (v : Int) (e0 : pureCall (cf L) (evalF (cf L) 201) 18 [ptP a, ptP b, ptP c, ptP d] = some (iP v)) (e1 : (v != 1) = false → pureCall (cf L) (evalF (cf L) 201) 56 [ptP a] = some (ptP (nearP a))) (e2 : (v != 1) = false → pureCall (cf L) (evalF (cf L) 201) 56 [ptP b] = some (ptP (nearP b))) (e3 : (v != 1) = false → pureCall (cf L) (evalF (cf L) 201) 56 [ptP c] = some (ptP (nearP c))) (e4 : (v != 1) = false → (eqB (nearP a) (nearP c)) = false → pureCall (cf L) (evalF (cf L) 201) 56 [ptP d] = some (ptP (nearP d))) : CallsP Try.prog 70 [ptP a, ptP b, ptP c, ptP d] (shA L a b c d v) := by
  have key := fun (bs : List Bool) (r : PVal) (ob : List Prop) (h : callP (cf L) (evalF (cf L) 201) 201 [(9999, 0, Hint.idx), (1, 4, Hint.pcall (iP v)), (3, 1, Hint.pcall (ptP (nearP a))), (3, 3, Hint.pcall (ptP (nearP b))), (4, 2, Hint.pcall (ptP (nearP c))), (4, 7, Hint.pcall (ptP (nearP d)))] 70 [ptP a, ptP b, ptP c, ptP d] bs [] (none) = .ok (r, ob)) (hp : allOb ob) => callP_ok (cf_ok L) h hp
  unfold shA
  exact bif_case (P := fun r => CallsP Try.prog 70 [ptP a, ptP b, ptP c, ptP d] r)
    (fun h0 => key [true] (PVal.tup [PVal.agg [iP 0, iP 0], bP false]) _ (by kernel_rfl) (allOb_cons h0 (allOb_cons (by exact e0) allOb_nil)))
    (fun h0 => bif_case (P := fun r => CallsP Try.prog 70 [ptP a, ptP b, ptP c, ptP d] r)
     (fun h1 => key [false, true, true] (PVal.tup [ptP (nearP a), bP true]) _ (by kernel_rfl) (allOb_cons lit_t (allOb_cons h1 (allOb_cons (by exact (e3 h0)) (allOb_cons (by exact (e2 h0)) (allOb_cons (by exact (e1 h0)) (allOb_cons h0 (allOb_cons (by exact e0) allOb_nil))))))))
     (fun h1 => bif_case (P := fun r => CallsP Try.prog 70 [ptP a, ptP b, ptP c, ptP d] r)
      (fun h2 => key [false, false, true] (PVal.tup [ptP (nearP a), bP true]) _ (by kernel_rfl) (allOb_cons h2 (allOb_cons (by exact (e4 h0 h1)) (allOb_cons h1 (allOb_cons (by exact (e3 h0)) (allOb_cons (by exact (e2 h0)) (allOb_cons (by exact (e1 h0)) (allOb_cons h0 (allOb_cons (by exact e0) allOb_nil)))))))))
      (fun h2 => key [false, false, false] (PVal.tup [ptP (nearP b), bP true]) _ (by kernel_rfl) (allOb_cons h2 (allOb_cons (by exact (e4 h0 h1)) (allOb_cons h1 (allOb_cons (by exact (e3 h0)) (allOb_cons (by exact (e2 h0)) (allOb_cons (by exact (e1 h0)) (allOb_cons h0 (allOb_cons (by exact e0) allOb_nil)))))))))))
def shB (L : Lib Try.prog) (a : P2) (b : P2) (c : P2) (d : P2) (v : Int) : PVal :=
  (bif v != 1 then PVal.tup [PVal.agg [iP 0, iP 0], bP false] else (bif eqB (nearP a) (nearP c) then PVal.tup [ptP (nearP a), bP true] else (bif eqB (nearP a) (nearP d) then PVal.tup [ptP (nearP a), bP true] else PVal.tup [ptP (nearP b), bP true])))
theorem shB_calls (L : Lib Try.prog) (a : P2) (b : P2) (c : P2) (d : P2) (v : Int) (e0 : pureCall (cf L) (evalF (cf L) 201) 64 [ptP a, ptP b, ptP c, ptP d] = some (iP v)) (e1 : (v != 1) = false → pureCall (cf L) (evalF (cf L) 201) 50 [ptP a] = some (ptP (nearP a))) (e2 : (v != 1) = false → pureCall (cf L) (evalF (cf L) 201) 50 [ptP b] = some (ptP (nearP b))) (e3 : (v != 1) = false → pureCall (cf L) (evalF (cf L) 201) 50 [ptP c] = some (ptP (nearP c))) (e4 : (v != 1) = false → pureCall (cf L) (evalF (cf L) 201) 50 [ptP d] = some (ptP (nearP d))) : CallsP Try.prog 72 [ptP a, ptP b, ptP c, ptP d] (shB L a b c d v) := by
  have key := fun (bs : List Bool) (r : PVal) (ob : List Prop) (h : callP (cf L) (evalF (cf L) 201) 201 [(9999, 0, Hint.idx), (1, 4, Hint.pcall (iP v)), (3, 1, Hint.pcall (ptP (nearP a))), (3, 3, Hint.pcall (ptP (nearP b))), (3, 5, Hint.pcall (ptP (nearP c))), (3, 7, Hint.pcall (ptP (nearP d)))] 72 [ptP a, ptP b, ptP c, ptP d] bs [] (none) = .ok (r, ob)) (hp : allOb ob) => callP_ok (cf_ok L) h hp
  unfold shB
  exact bif_case (P := fun r => CallsP Try.prog 72 [ptP a, ptP b, ptP c, ptP d] r)
    (fun h0 => key [true] (PVal.tup [PVal.agg [iP 0, iP 0], bP false]) _ (by kernel_rfl) (allOb_cons h0 (allOb_cons (by exact e0) allOb_nil)))
    (fun h0 => bif_case (P := fun r => CallsP Try.prog 72 [ptP a, ptP b, ptP c, ptP d] r)
     (fun h1 => key [false, true, true] (PVal.tup [ptP (nearP a), bP true]) _ (by kernel_rfl) (allOb_cons lit_t (allOb_cons h1 (allOb_cons (by exact (e4 h0)) (allOb_cons (by exact (e3 h0)) (allOb_cons (by exact (e2 h0)) (allOb_cons (by exact (e1 h0)) (allOb_cons h0 (allOb_cons (by exact e0) allOb_nil)))))))))
     (fun h1 => bif_case (P := fun r => CallsP Try.prog 72 [ptP a, ptP b, ptP c, ptP d] r)
      (fun h2 => key [false, false, true] (PVal.tup [ptP (nearP a), bP true]) _ (by kernel_rfl) (allOb_cons h2 (allOb_cons h1 (allOb_cons (by exact (e4 h0)) (allOb_cons (by exact (e3 h0)) (allOb_cons (by exact (e2 h0)) (allOb_cons (by exact (e1 h0)) (allOb_cons h0 (allOb_cons (by exact e0) allOb_nil)))))))))
      (fun h2 => key [false, false, false] (PVal.tup [ptP (nearP b), bP true]) _ (by kernel_rfl) (allOb_cons h2 (allOb_cons h1 (allOb_cons (by exact (e4 h0)) (allOb_cons (by exact (e3 h0)) (allOb_cons (by exact (e2 h0)) (allOb_cons (by exact (e1 h0)) (allOb_cons h0 (allOb_cons (by exact e0) allOb_nil)))))))))))
def enA (L : Lib Try.prog) (ps : List P2) (p : P2) : PVal :=
  (bif eqB p (pAt ps 0) then bP true else bP (eqB p (pAt ps (Int.toNat (IntKind.i64.wrap ((↑(List.length ps) : Int) - 1))))))
theorem enA_calls (L : Lib Try.prog) (ps : List P2) (p : P2) (b0 : (0 : Int) ≤ 0 ∧ (0 : Int) < (↑(List.length ps) : Int)) (b1 : (eqB p (pAt ps 0)) = false → (0 : Int) ≤ IntKind.i64.wrap ((↑(List.length ps) : Int) - 1) ∧ (IntKind.i64.wrap ((↑(List.length ps) : Int) - 1) : Int) < (↑(List.length ps) : Int)) : CallsP Try.prog 71 [slP ps, ptP p] (enA L ps p) := by
  have key := fun (bs : List Bool) (r : PVal) (ob : List Prop) (h : callP (cf L) (evalF (cf L) 201) 201 [(9999, 0, Hint.idx)] 71 [slP ps, ptP p] bs [] (none) = .ok (r, ob)) (hp : allOb ob) => callP_ok (cf_ok L) h hp
  unfold enA
  exact bif_case (P := fun r => CallsP Try.prog 71 [slP ps, ptP p] r)
    (fun h0 => key [true] (bP true) _ (by kernel_rfl) (allOb_cons h0 (allOb_cons (part_pt b0) (allOb_cons (idx_ok b0) allOb_nil))))
    (fun h0 => key [false] (bP (eqB p (pAt ps (Int.toNat (IntKind.i64.wrap ((↑(List.length ps) : Int) - 1)))))) _ (by kernel_rfl) (allOb_cons (part_pt (b1 h0)) (allOb_cons (idx_ok (b1 h0)) (allOb_cons h0 (allOb_cons (part_pt b0) (allOb_cons (idx_ok b0) allOb_nil))))))
def enB (L : Lib Try.prog) (ps : List P2) (p : P2) : PVal :=
  (bif eqB (pAt ps 0) p then bP true else bP (eqB (pAt ps (Int.toNat (IntKind.i64.wrap ((↑(List.length ps) : Int) - 1)))) p))
theorem enB_calls (L : Lib Try.prog) (ps : List P2) (p : P2) (b0 : (0 : Int) ≤ 0 ∧ (0 : Int) < (↑(List.length ps) : Int)) (b1 : (eqB (pAt ps 0) p) = false → (0 : Int) ≤ IntKind.i64.wrap ((↑(List.length ps) : Int) - 1) ∧ (IntKind.i64.wrap ((↑(List.length ps) : Int) - 1) : Int) < (↑(List.length ps) : Int)) : CallsP Try.prog 73 [slP ps, ptP p] (enB L ps p) := by
  have key := fun (bs : List Bool) (r : PVal) (ob : List Prop) (h : callP (cf L) (evalF (cf L) 201) 201 [(9999, 0, Hint.idx)] 73 [slP ps, ptP p] bs [] (none) = .ok (r, ob)) (hp : allOb ob) => callP_ok (cf_ok L) h hp
  unfold enB
  exact bif_case (P := fun r => CallsP Try.prog 73 [slP ps, ptP p] r)
    (fun h0 => key [true] (bP true) _ (by kernel_rfl) (allOb_cons h0 (allOb_cons (part_pt b0) (allOb_cons (idx_ok b0) allOb_nil))))
    (fun h0 => key [false] (bP (eqB (pAt ps (Int.toNat (IntKind.i64.wrap ((↑(List.length ps) : Int) - 1)))) p)) _ (by kernel_rfl) (allOb_cons (part_pt (b1 h0)) (allOb_cons (idx_ok (b1 h0)) (allOb_cons h0 (allOb_cons (part_pt b0) (allOb_cons (idx_ok b0) allOb_nil))))))
def ap2 (L : Lib Try.prog) (a : List P2) (b : List P2) (i : Int) (k : Int) (v : Int) (s : P2) (ea : Bool) (eb : Bool) (o : Bool) : AExit × List AVal × List AObj :=
  (bif decide (IntKind.i64.wrap (k + 1) < (↑(List.length b) : Int)) then (bif v == 0 then (AExit.normal, (([slA a, slA b] ++ jk 9 ++ [bA true, iA i, iA (IntKind.i64.wrap (k + 1))] ++ jk 96), [])) else (bif v == 1 then (bif ea then (bif eb then (AExit.normal, (([slA a, slA b] ++ jk 9 ++ [bA true, iA i, iA (IntKind.i64.wrap (k + 1))] ++ jk 96), [])) else (AExit.exit 0, ((jk 11 ++ [bA false] ++ jk 98), []))) else (AExit.exit 0, ((jk 11 ++ [bA false] ++ jk 98), []))) else (AExit.exit 0, ((jk 11 ++ [bA false] ++ jk 98), [])))) else (AExit.exit 2, (([slA a, slA b] ++ jk 9 ++ [bA true, iA i, iA k] ++ jk 39 ++ [bA false] ++ jk 56), [])))
theorem ap2_eq (L : Lib Try.prog) (a : List P2) (b : List P2) (i : Int) (k : Int) (v : Int) (s : P2) (ea : Bool) (eb : Bool) (o : Bool) (b0 : (decide (IntKind.i64.wrap (k + 1) < (↑(List.length b) : Int))) = true → (0 : Int) ≤ i ∧ (i : Int) < (↑(List.length a) : Int)) (b1 : (decide (IntKind.i64.wrap (k + 1) < (↑(List.length b) : Int))) = true → (0 : Int) ≤ IntKind.i64.wrap (i + 1) ∧ (IntKind.i64.wrap (i + 1) : Int) < (↑(List.length a) : Int)) (b2 : (decide (IntKind.i64.wrap (k + 1) < (↑(List.length b) : Int))) = true → (0 : Int) ≤ k ∧ (k : Int) < (↑(List.length b) : Int)) (b3 : (decide (IntKind.i64.wrap (k + 1) < (↑(List.length b) : Int))) = true → (0 : Int) ≤ IntKind.i64.wrap (k + 1) ∧ (IntKind.i64.wrap (k + 1) : Int) < (↑(List.length b) : Int)) (e0 : (decide (IntKind.i64.wrap (k + 1) < (↑(List.length b) : Int))) = true → pureCall (cf L) (evalF (cf L) 201) 18 [ptP (pAt a (Int.toNat i)), ptP (pAt a (Int.toNat (IntKind.i64.wrap (i + 1)))), ptP (pAt b (Int.toNat k)), ptP (pAt b (Int.toNat (IntKind.i64.wrap (k + 1))))] = some (iP v)) (e1 : (decide (IntKind.i64.wrap (k + 1) < (↑(List.length b) : Int))) = true → (v == 0) = false → (v == 1) = true → pureCall (cf L) (evalF (cf L) 201) 70 [ptP (pAt a (Int.toNat i)), ptP (pAt a (Int.toNat (IntKind.i64.wrap (i + 1)))), ptP (pAt b (Int.toNat k)), ptP (pAt b (Int.toNat (IntKind.i64.wrap (k + 1))))] = some (PVal.tup [ptP s, bP o])) (e2 : (decide (IntKind.i64.wrap (k + 1) < (↑(List.length b) : Int))) = true → (v == 0) = false → (v == 1) = true → pureCall (cf L) (evalF (cf L) 201) 71 [slP a, ptP s] = some (bP ea)) (e3 : (decide (IntKind.i64.wrap (k + 1) < (↑(List.length b) : Int))) = true → (v == 0) = false → (v == 1) = true → (ea) = true → pureCall (cf L) (evalF (cf L) 201) 71 [slP b, ptP s] = some (bP eb)) : roundC 0 (evalC (cf L) (evalF (cf L) 201) (Option.getD (List.lookup 45 lives) []) 0 0 201 (loopAt Try.f45 1)) (apU a b i k) ([]) = some (ap2 L a b i k v s ea eb o) := by
  have key := fun (bs : List Bool) (r : AExit × List AVal × List AObj) (ob : List Prop) (h : roundP (cf L) (evalF (cf L) 201) (Option.getD (List.lookup 45 lives) []) 0 0 201 [(9999, 0, Hint.idx), (12, 18, Hint.pcall (iP v)), (15, 18, Hint.pcall (PVal.tup [ptP s, bP o])), (16, 2, Hint.pcall (bP ea)), (16, 6, Hint.pcall (bP eb))] (loopAt Try.f45 1) (apU a b i k) ([]) bs [] = .ok (r.1, r.2.1, r.2.2, ob)) (hp : allOb ob) => roundP_ok h hp
  unfold ap2
  exact bif_case (P := fun r => roundC 0 (evalC (cf L) (evalF (cf L) 201) (Option.getD (List.lookup 45 lives) []) 0 0 201 (loopAt Try.f45 1)) (apU a b i k) ([]) = some r)
    (fun h0 => bif_case (P := fun r => roundC 0 (evalC (cf L) (evalF (cf L) 201) (Option.getD (List.lookup 45 lives) []) 0 0 201 (loopAt Try.f45 1)) (apU a b i k) ([]) = some r)
     (fun h1 => key [true, true] ((AExit.normal, (([slA a, slA b] ++ jk 9 ++ [bA true, iA i, iA (IntKind.i64.wrap (k + 1))] ++ jk 96), []))) _ (by kernel_rfl) (allOb_cons (show Plain (List.replicate 19 AObj.free) from by simp only [Plain, List.all_append, List.all_cons, List.all_nil, plainO, upL_flatPP, flatP_plain, Nat.zero_mul, List.drop_zero] <;> rfl) (allOb_cons h1 (allOb_cons (by exact (e0 h0)) (allOb_cons (part_pt (b3 h0)) (allOb_cons (idx_ok (b3 h0)) (allOb_cons (part_pt (b2 h0)) (allOb_cons (idx_ok (b2 h0)) (allOb_cons (part_pt (b1 h0)) (allOb_cons (idx_ok (b1 h0)) (allOb_cons (part_pt (b0 h0)) (allOb_cons (idx_ok (b0 h0)) (allOb_cons h0 allOb_nil)))))))))))))
     (fun h1 => bif_case (P := fun r => roundC 0 (evalC (cf L) (evalF (cf L) 201) (Option.getD (List.lookup 45 lives) []) 0 0 201 (loopAt Try.f45 1)) (apU a b i k) ([]) = some r)
      (fun h2 => bif_case (P := fun r => roundC 0 (evalC (cf L) (evalF (cf L) 201) (Option.getD (List.lookup 45 lives) []) 0 0 201 (loopAt Try.f45 1)) (apU a b i k) ([]) = some r)
       (fun h3 => bif_case (P := fun r => roundC 0 (evalC (cf L) (evalF (cf L) 201) (Option.getD (List.lookup 45 lives) []) 0 0 201 (loopAt Try.f45 1)) (apU a b i k) ([]) = some r)
        (fun h4 => key [true, false, true, true, true] ((AExit.normal, (([slA a, slA b] ++ jk 9 ++ [bA true, iA i, iA (IntKind.i64.wrap (k + 1))] ++ jk 96), []))) _ (by kernel_rfl) (allOb_cons (show Plain (List.replicate 41 AObj.free ++ [AObj.box [iA (Prod.fst s), iA (Prod.snd s)], AObj.free, AObj.free]) from by simp only [Plain, List.all_append, List.all_cons, List.all_nil, plainO, upL_flatPP, flatP_plain, Nat.zero_mul, List.drop_zero] <;> rfl) (allOb_cons h4 (allOb_cons (by exact (e3 h0 h1 h2 h3)) (allOb_cons h3 (allOb_cons (by exact (e2 h0 h1 h2)) (allOb_cons (by exact (e1 h0 h1 h2)) (allOb_cons (part_pt (b3 h0)) (allOb_cons (idx_ok (b3 h0)) (allOb_cons (part_pt (b2 h0)) (allOb_cons (idx_ok (b2 h0)) (allOb_cons (part_pt (b1 h0)) (allOb_cons (idx_ok (b1 h0)) (allOb_cons (part_pt (b0 h0)) (allOb_cons (idx_ok (b0 h0)) (allOb_cons h2 (allOb_cons h1 (allOb_cons (by exact (e0 h0)) (allOb_cons (part_pt (b3 h0)) (allOb_cons (idx_ok (b3 h0)) (allOb_cons (part_pt (b2 h0)) (allOb_cons (idx_ok (b2 h0)) (allOb_cons (part_pt (b1 h0)) (allOb_cons (idx_ok (b1 h0)) (allOb_cons (part_pt (b0 h0)) (allOb_cons (idx_ok (b0 h0)) (allOb_cons h0 allOb_nil)))))))))))))))))))))))))))
        (fun h4 => key [true, false, true, true, false] ((AExit.exit 0, ((jk 11 ++ [bA false] ++ jk 98), []))) _ (by kernel_rfl) (allOb_cons (show Plain (List.replicate 41 AObj.free ++ [AObj.box [iA (Prod.fst s), iA (Prod.snd s)], AObj.free, AObj.free]) from by simp only [Plain, List.all_append, List.all_cons, List.all_nil, plainO, upL_flatPP, flatP_plain, Nat.zero_mul, List.drop_zero] <;> rfl) (allOb_cons h4 (allOb_cons (by exact (e3 h0 h1 h2 h3)) (allOb_cons h3 (allOb_cons (by exact (e2 h0 h1 h2)) (allOb_cons (by exact (e1 h0 h1 h2)) (allOb_cons (part_pt (b3 h0)) (allOb_cons (idx_ok (b3 h0)) (allOb_cons (part_pt (b2 h0)) (allOb_cons (idx_ok (b2 h0)) (allOb_cons (part_pt (b1 h0)) (allOb_cons (idx_ok (b1 h0)) (allOb_cons (part_pt (b0 h0)) (allOb_cons (idx_ok (b0 h0)) (allOb_cons h2 (allOb_cons h1 (allOb_cons (by exact (e0 h0)) (allOb_cons (part_pt (b3 h0)) (allOb_cons (idx_ok (b3 h0)) (allOb_cons (part_pt (b2 h0)) (allOb_cons (idx_ok (b2 h0)) (allOb_cons (part_pt (b1 h0)) (allOb_cons (idx_ok (b1 h0)) (allOb_cons (part_pt (b0 h0)) (allOb_cons (idx_ok (b0 h0)) (allOb_cons h0 allOb_nil))))))))))))))))))))))))))))
       (fun h3 => key [true, false, true, false, false] ((AExit.exit 0, ((jk 11 ++ [bA false] ++ jk 98), []))) _ (by kernel_rfl) (allOb_cons (show Plain (List.replicate 41 AObj.free ++ [AObj.box [iA (Prod.fst s), iA (Prod.snd s)], AObj.free, AObj.free]) from by simp only [Plain, List.all_append, List.all_cons, List.all_nil, plainO, upL_flatPP, flatP_plain, Nat.zero_mul, List.drop_zero] <;> rfl) (allOb_cons lit_f (allOb_cons h3 (allOb_cons (by exact (e2 h0 h1 h2)) (allOb_cons (by exact (e1 h0 h1 h2)) (allOb_cons (part_pt (b3 h0)) (allOb_cons (idx_ok (b3 h0)) (allOb_cons (part_pt (b2 h0)) (allOb_cons (idx_ok (b2 h0)) (allOb_cons (part_pt (b1 h0)) (allOb_cons (idx_ok (b1 h0)) (allOb_cons (part_pt (b0 h0)) (allOb_cons (idx_ok (b0 h0)) (allOb_cons h2 (allOb_cons h1 (allOb_cons (by exact (e0 h0)) (allOb_cons (part_pt (b3 h0)) (allOb_cons (idx_ok (b3 h0)) (allOb_cons (part_pt (b2 h0)) (allOb_cons (idx_ok (b2 h0)) (allOb_cons (part_pt (b1 h0)) (allOb_cons (idx_ok (b1 h0)) (allOb_cons (part_pt (b0 h0)) (allOb_cons (idx_ok (b0 h0)) (allOb_cons h0 allOb_nil)))))))))))))))))))))))))))
      (fun h2 => key [true, false, false] ((AExit.exit 0, ((jk 11 ++ [bA false] ++ jk 98), []))) _ (by kernel_rfl) (allOb_cons (show Plain (List.replicate 19 AObj.free) from by simp only [Plain, List.all_append, List.all_cons, List.all_nil, plainO, upL_flatPP, flatP_plain, Nat.zero_mul, List.drop_zero] <;> rfl) (allOb_cons h2 (allOb_cons h1 (allOb_cons (by exact (e0 h0)) (allOb_cons (part_pt (b3 h0)) (allOb_cons (idx_ok (b3 h0)) (allOb_cons (part_pt (b2 h0)) (allOb_cons (idx_ok (b2 h0)) (allOb_cons (part_pt (b1 h0)) (allOb_cons (idx_ok (b1 h0)) (allOb_cons (part_pt (b0 h0)) (allOb_cons (idx_ok (b0 h0)) (allOb_cons h0 allOb_nil))))))))))))))))
    (fun h0 => key [false] ((AExit.exit 2, (([slA a, slA b] ++ jk 9 ++ [bA true, iA i, iA k] ++ jk 39 ++ [bA false] ++ jk 56), []))) _ (by kernel_rfl) (allOb_cons (show Plain [] from by simp only [Plain, List.all_append, List.all_cons, List.all_nil, plainO, upL_flatPP, flatP_plain, Nat.zero_mul, List.drop_zero] <;> rfl) (allOb_cons h0 allOb_nil)))
def ap1 (L : Lib Try.prog) (a : List P2) (b : List P2) (i : Int) (k : Int) : AExit × List AVal × List AObj :=
  (bif decide (IntKind.i64.wrap (i + 1) < (↑(List.length a) : Int)) then (AExit.normal, (([slA a, slA b] ++ jk 9 ++ [bA true, iA (IntKind.i64.wrap (i + 1))] ++ jk 97), [])) else (AExit.exit 0, (([slA a, slA b] ++ jk 9 ++ [bA true, iA i] ++ jk 33 ++ [bA false] ++ jk 63), [])))
theorem ap1_eq (L : Lib Try.prog) (a : List P2) (b : List P2) (i : Int) (k : Int) (e0 : (decide (IntKind.i64.wrap (i + 1) < (↑(List.length a) : Int))) = true → iterC 0 (evalC (cf L) (evalF (cf L) 201) ((lives.lookup 45).getD []) 0 0 201 (loopAt Try.f45 1)) 201 ([AVal.list (List.length a) (flatPP a), AVal.list (List.length b) (flatPP b)] ++ jk 9 ++ [bA true, iA i, iA 0] ++ jk 96) [] = some (AExit.exit 2, (([AVal.list (List.length a) (flatPP a), AVal.list (List.length b) (flatPP b)] ++ jk 9 ++ [bA true, iA i, iA k] ++ jk 39 ++ [bA false] ++ jk 56), []))) : roundC 0 (evalC (cf L) (evalF (cf L) 201) (Option.getD (List.lookup 45 lives) []) 0 0 201 (loopAt Try.f45 0)) (apT a b i) ([]) = some (ap1 L a b i k) := by
  have key := fun (bs : List Bool) (r : AExit × List AVal × List AObj) (ob : List Prop) (h : roundP (cf L) (evalF (cf L) 201) (Option.getD (List.lookup 45 lives) []) 0 0 201 [(9999, 0, Hint.idx)] (loopAt Try.f45 0) (apT a b i) ([]) bs [(AExit.exit 2, apV a b i k, [])] = .ok (r.1, r.2.1, r.2.2, ob)) (hp : allOb ob) => roundP_ok h hp
  unfold ap1
  exact bif_case (P := fun r => roundC 0 (evalC (cf L) (evalF (cf L) 201) (Option.getD (List.lookup 45 lives) []) 0 0 201 (loopAt Try.f45 0)) (apT a b i) ([]) = some r)
    (fun h0 => key [true] ((AExit.normal, (([slA a, slA b] ++ jk 9 ++ [bA true, iA (IntKind.i64.wrap (i + 1))] ++ jk 97), []))) _ (by kernel_rfl) (allOb_cons (show Plain [] from by simp only [Plain, List.all_append, List.all_cons, List.all_nil, plainO, upL_flatPP, flatP_plain, Nat.zero_mul, List.drop_zero] <;> rfl) (allOb_cons (by exact (e0 h0)) (allOb_cons h0 allOb_nil))))
    (fun h0 => key [false] ((AExit.exit 0, (([slA a, slA b] ++ jk 9 ++ [bA true, iA i] ++ jk 33 ++ [bA false] ++ jk 63), []))) _ (by kernel_rfl) (allOb_cons (show Plain [] from by simp only [Plain, List.all_append, List.all_cons, List.all_nil, plainO, upL_flatPP, flatP_plain, Nat.zero_mul, List.drop_zero] <;> rfl) (allOb_cons h0 allOb_nil)))
def ap1x (L : Lib Try.prog) (a : List P2) (b : List P2) (i : Int) : AExit × List AVal × List AObj :=
  (bif decide (IntKind.i64.wrap (i + 1) < (↑(List.length a) : Int)) then (AExit.exit 0, ((jk 11 ++ [bA false] ++ jk 98), [])) else (AExit.exit 0, (([slA a, slA b] ++ jk 9 ++ [bA true, iA i] ++ jk 33 ++ [bA false] ++ jk 63), [])))
theorem ap1x_eq (L : Lib Try.prog) (a : List P2) (b : List P2) (i : Int) (e0 : (decide (IntKind.i64.wrap (i + 1) < (↑(List.length a) : Int))) = true → iterC 0 (evalC (cf L) (evalF (cf L) 201) ((lives.lookup 45).getD []) 0 0 201 (loopAt Try.f45 1)) 201 ([AVal.list (List.length a) (flatPP a), AVal.list (List.length b) (flatPP b)] ++ jk 9 ++ [bA true, iA i, iA 0] ++ jk 96) [] = some (AExit.exit 0, ((jk 11 ++ [bA false] ++ jk 98), []))) : roundC 0 (evalC (cf L) (evalF (cf L) 201) (Option.getD (List.lookup 45 lives) []) 0 0 201 (loopAt Try.f45 0)) (apT a b i) ([]) = some (ap1x L a b i) := by
  have key := fun (bs : List Bool) (r : AExit × List AVal × List AObj) (ob : List Prop) (h : roundP (cf L) (evalF (cf L) 201) (Option.getD (List.lookup 45 lives) []) 0 0 201 [(9999, 0, Hint.idx)] (loopAt Try.f45 0) (apT a b i) ([]) bs [(AExit.exit 0, apX, [])] = .ok (r.1, r.2.1, r.2.2, ob)) (hp : allOb ob) => roundP_ok h hp
  unfold ap1x
  exact bif_case (P := fun r => roundC 0 (evalC (cf L) (evalF (cf L) 201) (Option.getD (List.lookup 45 lives) []) 0 0 201 (loopAt Try.f45 0)) (apT a b i) ([]) = some r)
    (fun h0 => key [true] ((AExit.exit 0, ((jk 11 ++ [bA false] ++ jk 98), []))) _ (by kernel_rfl) (allOb_cons (show Plain [] from by simp only [Plain, List.all_append, List.all_cons, List.all_nil, plainO, upL_flatPP, flatP_plain, Nat.zero_mul, List.drop_zero] <;> rfl) (allOb_cons (by exact (e0 h0)) (allOb_cons h0 allOb_nil))))
    (fun h0 => key [false] ((AExit.exit 0, (([slA a, slA b] ++ jk 9 ++ [bA true, iA i] ++ jk 33 ++ [bA false] ++ jk 63), []))) _ (by kernel_rfl) (allOb_cons (show Plain [] from by simp only [Plain, List.all_append, List.all_cons, List.all_nil, plainO, upL_flatPP, flatP_plain, Nat.zero_mul, List.drop_zero] <;> rfl) (allOb_cons h0 allOb_nil)))
def apA (L : Lib Try.prog) (a : List P2) (b : List P2) (la : P2) (ha : P2) (lb : P2) (hb : P2) (m : Bool) : PVal :=
  bP true
theorem apA_calls (L : Lib Try.prog) (a : List P2) (b : List P2) (la : P2) (ha : P2) (lb : P2) (hb : P2) (m : Bool) (p2 : (!m) = true) (e0 : pureCall (cf L) (evalF (cf L) 201) 68 [slP a] = some (PVal.tup [ptP la, ptP ha, bP true])) (e1 : pureCall (cf L) (evalF (cf L) 201) 68 [slP b] = some (PVal.tup [ptP lb, ptP hb, bP true])) (e2 : pureCall (cf L) (evalF (cf L) 201) 69 [ptP la, ptP ha, ptP lb, ptP hb] = some (bP m)) : CallsP Try.prog 45 [slP a, slP b] (apA L a b la ha lb hb m) := by
  have key := fun (bs : List Bool) (r : PVal) (ob : List Prop) (h : callP (cf L) (evalF (cf L) 201) 201 [(9999, 0, Hint.idx), (1, 1, Hint.pcall (PVal.tup [ptP la, ptP ha, bP true])), (2, 1, Hint.pcall (PVal.tup [ptP lb, ptP hb, bP true])), (3, 11, Hint.pcall (bP m))] 45 [slP a, slP b] bs [] (none) = .ok (r, ob)) (hp : allOb ob) => callP_ok (cf_ok L) h hp
  unfold apA
  exact key [false, false, true] (bP true) _ (by kernel_rfl) (allOb_cons p2 (allOb_cons (by exact e2) (allOb_cons lit_f (allOb_cons lit_f (allOb_cons (by exact e1) (allOb_cons (by exact e0) allOb_nil))))))
def apB (L : Lib Try.prog) (a : List P2) (b : List P2) (i : Int) (la : P2) (ha : P2) (lb : P2) (hb : P2) (m : Bool) : PVal :=
  bP true
theorem apB_calls (L : Lib Try.prog) (a : List P2) (b : List P2) (i : Int) (la : P2) (ha : P2) (lb : P2) (hb : P2) (m : Bool) (p2 : (!m) = false) (e0 : pureCall (cf L) (evalF (cf L) 201) 68 [slP a] = some (PVal.tup [ptP la, ptP ha, bP true])) (e1 : pureCall (cf L) (evalF (cf L) 201) 68 [slP b] = some (PVal.tup [ptP lb, ptP hb, bP true])) (e2 : pureCall (cf L) (evalF (cf L) 201) 69 [ptP la, ptP ha, ptP lb, ptP hb] = some (bP m)) (e3 : iterC 0 (evalC (cf L) (evalF (cf L) 201) ((lives.lookup 45).getD []) 0 0 201 (loopAt Try.f45 0)) 201 ([AVal.list (List.length a) (flatPP a), AVal.list (List.length b) (flatPP b)] ++ jk 9 ++ [bA true, iA 0] ++ jk 97) ([AObj.box [iA (Prod.fst la), iA (Prod.snd la)], AObj.box [iA (Prod.fst ha), iA (Prod.snd ha)], AObj.box [iA (Prod.fst lb), iA (Prod.snd lb)], AObj.box [iA (Prod.fst hb), iA (Prod.snd hb)]]) = some (AExit.exit 0, (([AVal.list (List.length a) (flatPP a), AVal.list (List.length b) (flatPP b)] ++ jk 9 ++ [bA true, iA i] ++ jk 33 ++ [bA false] ++ jk 63), []))) : CallsP Try.prog 45 [slP a, slP b] (apB L a b i la ha lb hb m) := by
  have key := fun (bs : List Bool) (r : PVal) (ob : List Prop) (h : callP (cf L) (evalF (cf L) 201) 201 [(9999, 0, Hint.idx), (1, 1, Hint.pcall (PVal.tup [ptP la, ptP ha, bP true])), (2, 1, Hint.pcall (PVal.tup [ptP lb, ptP hb, bP true])), (3, 11, Hint.pcall (bP m))] 45 [slP a, slP b] bs [(AExit.exit 0, apE a b i, [])] (none) = .ok (r, ob)) (hp : allOb ob) => callP_ok (cf_ok L) h hp
  unfold apB
  exact key [false, false, false] (bP true) _ (by kernel_rfl) (allOb_cons (by exact e3) (allOb_cons p2 (allOb_cons (by exact e2) (allOb_cons lit_f (allOb_cons lit_f (allOb_cons (by exact e1) (allOb_cons (by exact e0) allOb_nil)))))))
def apC (L : Lib Try.prog) (a : List P2) (b : List P2) (la : P2) (ha : P2) (lb : P2) (hb : P2) (m : Bool) : PVal :=
  bP false
theorem apC_calls (L : Lib Try.prog) (a : List P2) (b : List P2) (la : P2) (ha : P2) (lb : P2) (hb : P2) (m : Bool) (p2 : (!m) = false) (e0 : pureCall (cf L) (evalF (cf L) 201) 68 [slP a] = some (PVal.tup [ptP la, ptP ha, bP true])) (e1 : pureCall (cf L) (evalF (cf L) 201) 68 [slP b] = some (PVal.tup [ptP lb, ptP hb, bP true])) (e2 : pureCall (cf L) (evalF (cf L) 201) 69 [ptP la, ptP ha, ptP lb, ptP hb] = some (bP m)) (e3 : iterC 0 (evalC (cf L) (evalF (cf L) 201) ((lives.lookup 45).getD []) 0 0 201 (loopAt Try.f45 0)) 201 ([AVal.list (List.length a) (flatPP a), AVal.list (List.length b) (flatPP b)] ++ jk 9 ++ [bA true, iA 0] ++ jk 97) ([AObj.box [iA (Prod.fst la), iA (Prod.snd la)], AObj.box [iA (Prod.fst ha), iA (Prod.snd ha)], AObj.box [iA (Prod.fst lb), iA (Prod.snd lb)], AObj.box [iA (Prod.fst hb), iA (Prod.snd hb)]]) = some (AExit.exit 0, ((jk 11 ++ [bA false] ++ jk 98), []))) : CallsP Try.prog 45 [slP a, slP b] (apC L a b la ha lb hb m) := by
  have key := fun (bs : List Bool) (r : PVal) (ob : List Prop) (h : callP (cf L) (evalF (cf L) 201) 201 [(9999, 0, Hint.idx), (1, 1, Hint.pcall (PVal.tup [ptP la, ptP ha, bP true])), (2, 1, Hint.pcall (PVal.tup [ptP lb, ptP hb, bP true])), (3, 11, Hint.pcall (bP m))] 45 [slP a, slP b] bs [(AExit.exit 0, apX, [])] (none) = .ok (r, ob)) (hp : allOb ob) => callP_ok (cf_ok L) h hp
  unfold apC
  exact key [false, false, false] (bP false) _ (by kernel_rfl) (allOb_cons (by exact e3) (allOb_cons p2 (allOb_cons (by exact e2) (allOb_cons lit_f (allOb_cons lit_f (allOb_cons (by exact e1) (allOb_cons (by exact e0) allOb_nil)))))))
def ac2 (L : Lib Try.prog) (a : List P2) (b : List P2) (i : Int) (k : Int) (v : Int) (s : P2) (ea : Bool) (eb : Bool) (o : Bool) : AExit × List AVal × List AObj :=
  (bif decide (IntKind.i64.wrap (k + 1) < (↑(List.length b) : Int)) then (bif v == 0 then (AExit.normal, (([slA a, slA b, AVal.junk, AVal.junk, AVal.junk, iA i, iA (IntKind.i64.wrap (k + 1))] ++ jk 71), [])) else (bif v == 1 then (bif !ea then (AExit.ret, ((jk 4 ++ [bA false] ++ jk 73), [])) else (bif !eb then (AExit.ret, ((jk 4 ++ [bA false] ++ jk 73), [])) else (AExit.normal, (([slA a, slA b, AVal.junk, AVal.junk, AVal.junk, iA i, iA (IntKind.i64.wrap (k + 1))] ++ jk 71), [])))) else (AExit.ret, ((jk 4 ++ [bA false] ++ jk 73), [])))) else (AExit.exit 2, (([slA a, slA b, AVal.junk, AVal.junk, AVal.junk, iA i, iA k] ++ jk 13 ++ [bA false] ++ jk 57), [])))
theorem ac2_eq (L : Lib Try.prog) (a : List P2) (b : List P2) (i : Int) (k : Int) (v : Int) (s : P2) (ea : Bool) (eb : Bool) (o : Bool) (b0 : (decide (IntKind.i64.wrap (k + 1) < (↑(List.length b) : Int))) = true → (0 : Int) ≤ i ∧ (i : Int) < (↑(List.length a) : Int)) (b1 : (decide (IntKind.i64.wrap (k + 1) < (↑(List.length b) : Int))) = true → (0 : Int) ≤ IntKind.i64.wrap (i + 1) ∧ (IntKind.i64.wrap (i + 1) : Int) < (↑(List.length a) : Int)) (b2 : (decide (IntKind.i64.wrap (k + 1) < (↑(List.length b) : Int))) = true → (0 : Int) ≤ k ∧ (k : Int) < (↑(List.length b) : Int)) (b3 : (decide (IntKind.i64.wrap (k + 1) < (↑(List.length b) : Int))) = true → (0 : Int) ≤ IntKind.i64.wrap (k + 1) ∧ (IntKind.i64.wrap (k + 1) : Int) < (↑(List.length b) : Int)) (e0 : (decide (IntKind.i64.wrap (k + 1) < (↑(List.length b) : Int))) = true → pureCall (cf L) (evalF (cf L) 201) 64 [ptP (pAt a (Int.toNat i)), ptP (pAt a (Int.toNat (IntKind.i64.wrap (i + 1)))), ptP (pAt b (Int.toNat k)), ptP (pAt b (Int.toNat (IntKind.i64.wrap (k + 1))))] = some (iP v)) (e1 : (decide (IntKind.i64.wrap (k + 1) < (↑(List.length b) : Int))) = true → (v == 0) = false → (v == 1) = true → pureCall (cf L) (evalF (cf L) 201) 72 [ptP (pAt a (Int.toNat i)), ptP (pAt a (Int.toNat (IntKind.i64.wrap (i + 1)))), ptP (pAt b (Int.toNat k)), ptP (pAt b (Int.toNat (IntKind.i64.wrap (k + 1))))] = some (PVal.tup [ptP s, bP o])) (e2 : (decide (IntKind.i64.wrap (k + 1) < (↑(List.length b) : Int))) = true → (v == 0) = false → (v == 1) = true → pureCall (cf L) (evalF (cf L) 201) 73 [slP a, ptP s] = some (bP ea)) (e3 : (decide (IntKind.i64.wrap (k + 1) < (↑(List.length b) : Int))) = true → (v == 0) = false → (v == 1) = true → (!ea) = false → pureCall (cf L) (evalF (cf L) 201) 73 [slP b, ptP s] = some (bP eb)) : roundC 0 (evalC (cf L) (evalF (cf L) 201) (Option.getD (List.lookup 46 lives) []) 0 0 201 (loopAt Try.f46 1)) (acU a b i k) ([]) = some (ac2 L a b i k v s ea eb o) := by
  have key := fun (bs : List Bool) (r : AExit × List AVal × List AObj) (ob : List Prop) (h : roundP (cf L) (evalF (cf L) 201) (Option.getD (List.lookup 46 lives) []) 0 0 201 [(9999, 0, Hint.idx), (7, 18, Hint.pcall (iP v)), (11, 18, Hint.pcall (PVal.tup [ptP s, bP o])), (12, 2, Hint.pcall (bP ea)), (12, 7, Hint.pcall (bP eb))] (loopAt Try.f46 1) (acU a b i k) ([]) bs [] = .ok (r.1, r.2.1, r.2.2, ob)) (hp : allOb ob) => roundP_ok h hp
  unfold ac2
  exact bif_case (P := fun r => roundC 0 (evalC (cf L) (evalF (cf L) 201) (Option.getD (List.lookup 46 lives) []) 0 0 201 (loopAt Try.f46 1)) (acU a b i k) ([]) = some r)
    (fun h0 => bif_case (P := fun r => roundC 0 (evalC (cf L) (evalF (cf L) 201) (Option.getD (List.lookup 46 lives) []) 0 0 201 (loopAt Try.f46 1)) (acU a b i k) ([]) = some r)
     (fun h1 => key [true, true] ((AExit.normal, (([slA a, slA b, AVal.junk, AVal.junk, AVal.junk, iA i, iA (IntKind.i64.wrap (k + 1))] ++ jk 71), []))) _ (by kernel_rfl) (allOb_cons (show Plain (List.replicate 19 AObj.free) from by simp only [Plain, List.all_append, List.all_cons, List.all_nil, plainO, upL_flatPP, flatP_plain, Nat.zero_mul, List.drop_zero] <;> rfl) (allOb_cons h1 (allOb_cons (by exact (e0 h0)) (allOb_cons (part_pt (b3 h0)) (allOb_cons (idx_ok (b3 h0)) (allOb_cons (part_pt (b2 h0)) (allOb_cons (idx_ok (b2 h0)) (allOb_cons (part_pt (b1 h0)) (allOb_cons (idx_ok (b1 h0)) (allOb_cons (part_pt (b0 h0)) (allOb_cons (idx_ok (b0 h0)) (allOb_cons h0 allOb_nil)))))))))))))
     (fun h1 => bif_case (P := fun r => roundC 0 (evalC (cf L) (evalF (cf L) 201) (Option.getD (List.lookup 46 lives) []) 0 0 201 (loopAt Try.f46 1)) (acU a b i k) ([]) = some r)
      (fun h2 => bif_case (P := fun r => roundC 0 (evalC (cf L) (evalF (cf L) 201) (Option.getD (List.lookup 46 lives) []) 0 0 201 (loopAt Try.f46 1)) (acU a b i k) ([]) = some r)
       (fun h3 => key [true, false, true, true, true] ((AExit.ret, ((jk 4 ++ [bA false] ++ jk 73), []))) _ (by kernel_rfl) (allOb_cons (show Plain (List.replicate 41 AObj.free ++ [AObj.box [iA (Prod.fst s), iA (Prod.snd s)], AObj.free, AObj.free]) from by simp only [Plain, List.all_append, List.all_cons, List.all_nil, plainO, upL_flatPP, flatP_plain, Nat.zero_mul, List.drop_zero] <;> rfl) (allOb_cons lit_t (allOb_cons h3 (allOb_cons (by exact (e2 h0 h1 h2)) (allOb_cons (by exact (e1 h0 h1 h2)) (allOb_cons (part_pt (b3 h0)) (allOb_cons (idx_ok (b3 h0)) (allOb_cons (part_pt (b2 h0)) (allOb_cons (idx_ok (b2 h0)) (allOb_cons (part_pt (b1 h0)) (allOb_cons (idx_ok (b1 h0)) (allOb_cons (part_pt (b0 h0)) (allOb_cons (idx_ok (b0 h0)) (allOb_cons h2 (allOb_cons h1 (allOb_cons (by exact (e0 h0)) (allOb_cons (part_pt (b3 h0)) (allOb_cons (idx_ok (b3 h0)) (allOb_cons (part_pt (b2 h0)) (allOb_cons (idx_ok (b2 h0)) (allOb_cons (part_pt (b1 h0)) (allOb_cons (idx_ok (b1 h0)) (allOb_cons (part_pt (b0 h0)) (allOb_cons (idx_ok (b0 h0)) (allOb_cons h0 allOb_nil))))))))))))))))))))))))))
       (fun h3 => bif_case (P := fun r => roundC 0 (evalC (cf L) (evalF (cf L) 201) (Option.getD (List.lookup 46 lives) []) 0 0 201 (loopAt Try.f46 1)) (acU a b i k) ([]) = some r)
        (fun h4 => key [true, false, true, false, true] ((AExit.ret, ((jk 4 ++ [bA false] ++ jk 73), []))) _ (by kernel_rfl) (allOb_cons (show Plain (List.replicate 41 AObj.free ++ [AObj.box [iA (Prod.fst s), iA (Prod.snd s)], AObj.free, AObj.free]) from by simp only [Plain, List.all_append, List.all_cons, List.all_nil, plainO, upL_flatPP, flatP_plain, Nat.zero_mul, List.drop_zero] <;> rfl) (allOb_cons h4 (allOb_cons (by exact (e3 h0 h1 h2 h3)) (allOb_cons h3 (allOb_cons (by exact (e2 h0 h1 h2)) (allOb_cons (by exact (e1 h0 h1 h2)) (allOb_cons (part_pt (b3 h0)) (allOb_cons (idx_ok (b3 h0)) (allOb_cons (part_pt (b2 h0)) (allOb_cons (idx_ok (b2 h0)) (allOb_cons (part_pt (b1 h0)) (allOb_cons (idx_ok (b1 h0)) (allOb_cons (part_pt (b0 h0)) (allOb_cons (idx_ok (b0 h0)) (allOb_cons h2 (allOb_cons h1 (allOb_cons (by exact (e0 h0)) (allOb_cons (part_pt (b3 h0)) (allOb_cons (idx_ok (b3 h0)) (allOb_cons (part_pt (b2 h0)) (allOb_cons (idx_ok (b2 h0)) (allOb_cons (part_pt (b1 h0)) (allOb_cons (idx_ok (b1 h0)) (allOb_cons (part_pt (b0 h0)) (allOb_cons (idx_ok (b0 h0)) (allOb_cons h0 allOb_nil)))))))))))))))))))))))))))
        (fun h4 => key [true, false, true, false, false] ((AExit.normal, (([slA a, slA b, AVal.junk, AVal.junk, AVal.junk, iA i, iA (IntKind.i64.wrap (k + 1))] ++ jk 71), []))) _ (by kernel_rfl) (allOb_cons (show Plain (List.replicate 41 AObj.free ++ [AObj.box [iA (Prod.fst s), iA (Prod.snd s)], AObj.free, AObj.free]) from by simp only [Plain, List.all_append, List.all_cons, List.all_nil, plainO, upL_flatPP, flatP_plain, Nat.zero_mul, List.drop_zero] <;> rfl) (allOb_cons h4 (allOb_cons (by exact (e3 h0 h1 h2 h3)) (allOb_cons h3 (allOb_cons (by exact (e2 h0 h1 h2)) (allOb_cons (by exact (e1 h0 h1 h2)) (allOb_cons (part_pt (b3 h0)) (allOb_cons (idx_ok (b3 h0)) (allOb_cons (part_pt (b2 h0)) (allOb_cons (idx_ok (b2 h0)) (allOb_cons (part_pt (b1 h0)) (allOb_cons (idx_ok (b1 h0)) (allOb_cons (part_pt (b0 h0)) (allOb_cons (idx_ok (b0 h0)) (allOb_cons h2 (allOb_cons h1 (allOb_cons (by exact (e0 h0)) (allOb_cons (part_pt (b3 h0)) (allOb_cons (idx_ok (b3 h0)) (allOb_cons (part_pt (b2 h0)) (allOb_cons (idx_ok (b2 h0)) (allOb_cons (part_pt (b1 h0)) (allOb_cons (idx_ok (b1 h0)) (allOb_cons (part_pt (b0 h0)) (allOb_cons (idx_ok (b0 h0)) (allOb_cons h0 allOb_nil)))))))))))))))))))))))))))))
      (fun h2 => key [true, false, false] ((AExit.ret, ((jk 4 ++ [bA false] ++ jk 73), []))) _ (by kernel_rfl) (allOb_cons (show Plain (List.replicate 19 AObj.free) from by simp only [Plain, List.all_append, List.all_cons, List.all_nil, plainO, upL_flatPP, flatP_plain, Nat.zero_mul, List.drop_zero] <;> rfl) (allOb_cons h2 (allOb_cons h1 (allOb_cons (by exact (e0 h0)) (allOb_cons (part_pt (b3 h0)) (allOb_cons (idx_ok (b3 h0)) (allOb_cons (part_pt (b2 h0)) (allOb_cons (idx_ok (b2 h0)) (allOb_cons (part_pt (b1 h0)) (allOb_cons (idx_ok (b1 h0)) (allOb_cons (part_pt (b0 h0)) (allOb_cons (idx_ok (b0 h0)) (allOb_cons h0 allOb_nil))))))))))))))))
    (fun h0 => key [false] ((AExit.exit 2, (([slA a, slA b, AVal.junk, AVal.junk, AVal.junk, iA i, iA k] ++ jk 13 ++ [bA false] ++ jk 57), []))) _ (by kernel_rfl) (allOb_cons (show Plain [] from by simp only [Plain, List.all_append, List.all_cons, List.all_nil, plainO, upL_flatPP, flatP_plain, Nat.zero_mul, List.drop_zero] <;> rfl) (allOb_cons h0 allOb_nil)))
def ac1 (L : Lib Try.prog) (a : List P2) (b : List P2) (i : Int) (k : Int) : AExit × List AVal × List AObj :=
  (bif decide (IntKind.i64.wrap (i + 1) < (↑(List.length a) : Int)) then (AExit.normal, (([slA a, slA b, AVal.junk, AVal.junk, AVal.junk, iA (IntKind.i64.wrap (i + 1))] ++ jk 72), [])) else (AExit.exit 0, (([slA a, slA b, AVal.junk, AVal.junk, AVal.junk, iA i] ++ jk 7 ++ [bA false] ++ jk 64), [])))
theorem ac1_eq (L : Lib Try.prog) (a : List P2) (b : List P2) (i : Int) (k : Int) (e0 : (decide (IntKind.i64.wrap (i + 1) < (↑(List.length a) : Int))) = true → iterC 0 (evalC (cf L) (evalF (cf L) 201) ((lives.lookup 46).getD []) 0 0 201 (loopAt Try.f46 1)) 201 ([AVal.list (List.length a) (flatPP a), AVal.list (List.length b) (flatPP b), AVal.junk, AVal.junk, AVal.junk, iA i, iA 0] ++ jk 71) [] = some (AExit.exit 2, (([AVal.list (List.length a) (flatPP a), AVal.list (List.length b) (flatPP b), AVal.junk, AVal.junk, AVal.junk, iA i, iA k] ++ jk 13 ++ [bA false] ++ jk 57), []))) : roundC 0 (evalC (cf L) (evalF (cf L) 201) (Option.getD (List.lookup 46 lives) []) 0 0 201 (loopAt Try.f46 0)) (acT a b i) ([]) = some (ac1 L a b i k) := by
  have key := fun (bs : List Bool) (r : AExit × List AVal × List AObj) (ob : List Prop) (h : roundP (cf L) (evalF (cf L) 201) (Option.getD (List.lookup 46 lives) []) 0 0 201 [(9999, 0, Hint.idx)] (loopAt Try.f46 0) (acT a b i) ([]) bs [(AExit.exit 2, acV a b i k, [])] = .ok (r.1, r.2.1, r.2.2, ob)) (hp : allOb ob) => roundP_ok h hp
  unfold ac1
  exact bif_case (P := fun r => roundC 0 (evalC (cf L) (evalF (cf L) 201) (Option.getD (List.lookup 46 lives) []) 0 0 201 (loopAt Try.f46 0)) (acT a b i) ([]) = some r)
    (fun h0 => key [true] ((AExit.normal, (([slA a, slA b, AVal.junk, AVal.junk, AVal.junk, iA (IntKind.i64.wrap (i + 1))] ++ jk 72), []))) _ (by kernel_rfl) (allOb_cons (show Plain [] from by simp only [Plain, List.all_append, List.all_cons, List.all_nil, plainO, upL_flatPP, flatP_plain, Nat.zero_mul, List.drop_zero] <;> rfl) (allOb_cons (by exact (e0 h0)) (allOb_cons h0 allOb_nil))))
    (fun h0 => key [false] ((AExit.exit 0, (([slA a, slA b, AVal.junk, AVal.junk, AVal.junk, iA i] ++ jk 7 ++ [bA false] ++ jk 64), []))) _ (by kernel_rfl) (allOb_cons (show Plain [] from by simp only [Plain, List.all_append, List.all_cons, List.all_nil, plainO, upL_flatPP, flatP_plain, Nat.zero_mul, List.drop_zero] <;> rfl) (allOb_cons h0 allOb_nil)))
def ac1x (L : Lib Try.prog) (a : List P2) (b : List P2) (i : Int) : AExit × List AVal × List AObj :=
  (bif decide (IntKind.i64.wrap (i + 1) < (↑(List.length a) : Int)) then (AExit.ret, ((jk 4 ++ [bA false] ++ jk 73), [])) else (AExit.exit 0, (([slA a, slA b, AVal.junk, AVal.junk, AVal.junk, iA i] ++ jk 7 ++ [bA false] ++ jk 64), [])))
theorem ac1x_eq (L : Lib Try.prog) (a : List P2) (b : List P2) (i : Int) (e0 : (decide (IntKind.i64.wrap (i + 1) < (↑(List.length a) : Int))) = true → iterC 0 (evalC (cf L) (evalF (cf L) 201) ((lives.lookup 46).getD []) 0 0 201 (loopAt Try.f46 1)) 201 ([AVal.list (List.length a) (flatPP a), AVal.list (List.length b) (flatPP b), AVal.junk, AVal.junk, AVal.junk, iA i, iA 0] ++ jk 71) [] = some (AExit.ret, ((jk 4 ++ [bA false] ++ jk 73), []))) : roundC 0 (evalC (cf L) (evalF (cf L) 201) (Option.getD (List.lookup 46 lives) []) 0 0 201 (loopAt Try.f46 0)) (acT a b i) ([]) = some (ac1x L a b i) := by
  have key := fun (bs : List Bool) (r : AExit × List AVal × List AObj) (ob : List Prop) (h : roundP (cf L) (evalF (cf L) 201) (Option.getD (List.lookup 46 lives) []) 0 0 201 [(9999, 0, Hint.idx)] (loopAt Try.f46 0) (acT a b i) ([]) bs [(AExit.ret, acX, [])] = .ok (r.1, r.2.1, r.2.2, ob)) (hp : allOb ob) => roundP_ok h hp
  unfold ac1x
  exact bif_case (P := fun r => roundC 0 (evalC (cf L) (evalF (cf L) 201) (Option.getD (List.lookup 46 lives) []) 0 0 201 (loopAt Try.f46 0)) (acT a b i) ([]) = some r)
    (fun h0 => key [true] ((AExit.ret, ((jk 4 ++ [bA false] ++ jk 73), []))) _ (by kernel_rfl) (allOb_cons (show Plain [] from by simp only [Plain, List.all_append, List.all_cons, List.all_nil, plainO, upL_flatPP, flatP_plain, Nat.zero_mul, List.drop_zero] <;> rfl) (allOb_cons (by exact (e0 h0)) (allOb_cons h0 allOb_nil))))
    (fun h0 => key [false] ((AExit.exit 0, (([slA a, slA b, AVal.junk, AVal.junk, AVal.junk, iA i] ++ jk 7 ++ [bA false] ++ jk 64), []))) _ (by kernel_rfl) (allOb_cons (show Plain [] from by simp only [Plain, List.all_append, List.all_cons, List.all_nil, plainO, upL_flatPP, flatP_plain, Nat.zero_mul, List.drop_zero] <;> rfl) (allOb_cons h0 allOb_nil)))
def acA (L : Lib Try.prog) (a : List P2) (b : List P2) (i : Int) : PVal :=
  bP true
theorem acA_calls (L : Lib Try.prog) (a : List P2) (b : List P2) (i : Int) (e0 : iterC 0 (evalC (cf L) (evalF (cf L) 201) ((lives.lookup 46).getD []) 0 0 201 (loopAt Try.f46 0)) 201 ([AVal.list (List.length a) (flatPP a), AVal.list (List.length b) (flatPP b), AVal.junk, AVal.junk, AVal.junk, iA 0] ++ jk 72) [] = some (AExit.exit 0, (([AVal.list (List.length a) (flatPP a), AVal.list (List.length b) (flatPP b), AVal.junk, AVal.junk, AVal.junk, iA i] ++ jk 7 ++ [bA false] ++ jk 64), []))) : CallsP Try.prog 46 [slP a, slP b] (acA L a b i) := by
  have key := fun (bs : List Bool) (r : PVal) (ob : List Prop) (h : callP (cf L) (evalF (cf L) 201) 201 [(9999, 0, Hint.idx)] 46 [slP a, slP b] bs [(AExit.exit 0, acE a b i, [])] (none) = .ok (r, ob)) (hp : allOb ob) => callP_ok (cf_ok L) h hp
  unfold acA
  exact key [] (bP true) _ (by kernel_rfl) (allOb_cons (by exact e0) allOb_nil)
def acB (L : Lib Try.prog) (a : List P2) (b : List P2) : PVal :=
  bP false
theorem acB_calls (L : Lib Try.prog) (a : List P2) (b : List P2) (e0 : iterC 0 (evalC (cf L) (evalF (cf L) 201) ((lives.lookup 46).getD []) 0 0 201 (loopAt Try.f46 0)) 201 ([AVal.list (List.length a) (flatPP a), AVal.list (List.length b) (flatPP b), AVal.junk, AVal.junk, AVal.junk, iA 0] ++ jk 72) [] = some (AExit.ret, ((jk 4 ++ [bA false] ++ jk 73), []))) : CallsP Try.prog 46 [slP a, slP b] (acB L a b) := by
  have key := fun (bs : List Bool) (r : PVal) (ob : List Prop) (h : callP (cf L) (evalF (cf L) 201) 201 [(9999, 0, Hint.idx)] 46 [slP a, slP b] bs [(AExit.ret, acX, [])] (none) = .ok (r, ob)) (hp : allOb ob) => callP_ok (cf_ok L) h hp
  unfold acB
  exact key [] (bP false) _ (by kernel_rfl) (allOb_cons (by exact e0) allOb_nil)
end Go.Proofs.Ytmopbegmdegooaa
/- pt.Box, pt.Meet, seg.Shared, line.end, line.Apart, and the document's: what they answer. -/
namespace Go.Proofs.Ytmopbegmdegooaa
open Go Vm M
set_option linter.unusedVariables false
set_option linter.unusedSimpArgs false
theorem near_gT (a : P2) {ev : Ev} : pureCall (cf LR4) ev 56 [ptP a] = some (ptP (nearP a)) := pure_given (g := g1 fun p => ptP (nearP p)) (by kernel_rfl) rfl
theorem clean_gT (a : P2) {ev : Ev} : pureCall (cf LR4) ev 50 [ptP a] = some (ptP (nearP a)) := pure_given (g := g1 fun p => ptP (nearP p)) (by kernel_rfl) rfl
theorem rel_gT (a b c d : P2) {ev : Ev} : pureCall (cf LR4) ev 18 [ptP a, ptP b, ptP c, ptP d] = some (iP (relate a b c d)) := pure_given (g := g4 fun a b c d => iP (relate a b c d)) (by kernel_rfl) rfl
theorem rel9_gT (a b c d : P2) {ev : Ev} : pureCall (cf LR4) ev 64 [ptP a, ptP b, ptP c, ptP d] = some (iP (relate a b c d)) := pure_given (g := g4 fun a b c d => iP (relate a b c d)) (by kernel_rfl) rfl
/-! pt.Box -/
theorem ite_min (q l : Int) : (if q < l then q else l) = min l q := by split <;> omega
theorem ite_max (q h : Int) : (if q > h then q else h) = max h q := by split <;> omega
noncomputable abbrev bodyBx : List AVal → List AObj → Res := evalC (cf LR4) (evalF (cf LR4) 201) ((lives.lookup 68).getD []) 0 0 201 (loopAt Try.f68 0)
theorem bx_step (ps : List P2) {k : Nat} (hk : k < ps.length) (h200 : ps.length ≤ 200) : roundC 0 bodyBx (bxT ps k) (bxS (boxK ps k).1 (boxK ps k).2) = some (.normal, bxT ps (k + 1 : Nat), bxS (boxK ps (k + 1)).1 (boxK ps (k + 1)).2) := by
  have h := bxR_eq LR4 ps k (boxK ps k).1 (boxK ps k).2 (nearP (pAt ps k)) (fun _ => ⟨by omega, by omega⟩) (fun _ => by rw [Int.toNat_natCast]; exact near_gT _)
  rw [show bodyBx = _ from rfl]
  rw [h]
  unfold bxR
  rw [decide_eq_true (by omega : (k : Int) < (ps.length : Int)), wrS (by omega)]
  cases k with
  | zero =>
    have e : ∀ x : Int, (if x < x then x else x) = x := fun x => by split <;> rfl
    have e2 : ∀ x : Int, (if x > x then x else x) = x := fun x => by split <;> rfl
    simp only [e, e2]
    rfl
  | succ k =>
    rw [beq_eq_false_iff_ne.2 (by omega : ((k + 1 : Nat) : Int) ≠ 0)]
    simp only [ite_min, ite_max]
    rfl
theorem box_calls (ps : List P2) (h200 : ps.length ≤ 200) : CallsP Try.prog 68 [slP ps] (.tup [ptP (boxK ps ps.length).1, ptP (boxK ps ps.length).2, bP (decide ((ps.length : Int) > 0))]) := by
  have hend : roundC 0 bodyBx (bxT ps ps.length) (bxS (boxK ps ps.length).1 (boxK ps ps.length).2) = some (.exit 0, bxE ps ps.length, bxS (boxK ps ps.length).1 (boxK ps ps.length).2) := by
    have hf : decide ((ps.length : Int) < (ps.length : Int)) = false := decide_eq_false (by omega)
    have h := bxR_eq LR4 ps ps.length (boxK ps ps.length).1 (boxK ps ps.length).2 (0, 0) (fun h => by rw [hf] at h; cases h) (fun h => by rw [hf] at h; cases h)
    rw [show bodyBx = _ from rfl]
    rw [h]
    unfold bxR
    rw [hf]
    rfl
  have hl := At.upto (base := 0) (body := bodyBx) (T := fun k => bxT ps k) (S := fun k => bxS (boxK ps k).1 (boxK ps k).2) (n := ps.length) (m := 1) (fun k hk => bx_step ps hk h200) (At.leave hend (by simp)) ps.length 0 (by omega)
  exact bxA_calls LR4 ps ps.length (boxK ps ps.length).1 (boxK ps ps.length).2 (At.use (at_more hl (m := 201) (by omega)) (by rfl) (by kernel_rfl))
/-! pt.Meet -/
noncomputable abbrev bodyMo : List AVal → List AObj → Res := evalC (cf LR4) (evalF (cf LR4) 201) ((lives.lookup 69).getD []) 0 0 201 (loopAt Try.f69 0)
noncomputable abbrev bodyMi : List AVal → List AObj → Res := evalC (cf LR4) (evalF (cf LR4) 201) ((lives.lookup 69).getD []) 0 0 201 (loopAt Try.f69 1)
theorem gt_le (x y : Int) : decide (x > y) = !decide (x ≤ y) := by
  by_cases h : x ≤ y
  · rw [decide_eq_true h, decide_eq_false (by omega)]; rfl
  · rw [decide_eq_false h, decide_eq_true (by omega)]; rfl
section
variable (A C B D X : P2) (i : Int)
theorem mi0_is : mi0 LR4 A C B D X i = bif leP X B then (.normal, mtU A C B D i 1, mtS B D (fr14 X)) else (.exit 0, mtX, []) := by
  unfold mi0 leP
  rw [gt_le, gt_le, show IntKind.i64.wrap (0 + 1) = 1 from IntWalk.i64_in _ (by omega)]
  cases decide (X.1 ≤ B.1) <;> cases decide (X.2 ≤ B.2) <;> rfl
theorem mi1_is : mi1 LR4 A C B D X i = bif leP X D then (.normal, mtU A C B D i 2, mtS B D (fr14 X)) else (.exit 0, mtX, []) := by
  unfold mi1 leP
  rw [gt_le, gt_le, show IntKind.i64.wrap (1 + 1) = 2 from IntWalk.i64_in _ (by omega)]
  cases decide (X.1 ≤ D.1) <;> cases decide (X.2 ≤ D.2) <;> rfl
theorem mi_loop : At 0 bodyMi 3 (mtU A C B D i 0) (mtS B D (fr14 X)) (some (bif leP X B && leP X D then (.exit 2, mtV A C B D i 2, mtS B D (fr14 X)) else (.exit 0, mtX, []))) := by
  have s0 : roundC 0 bodyMi (mtU A C B D i 0) (mtS B D (fr14 X)) = some (mi0 LR4 A C B D X i) := mi0_eq LR4 A C B D X i
  have s1 : roundC 0 bodyMi (mtU A C B D i 1) (mtS B D (fr14 X)) = some (mi1 LR4 A C B D X i) := mi1_eq LR4 A C B D X i
  have s2 : roundC 0 bodyMi (mtU A C B D i 2) (mtS B D (fr14 X)) = some (.exit 2, mtV A C B D i 2, mtS B D (fr14 X)) := mi2_eq LR4 A C B D X i
  rw [mi0_is] at s0
  rw [mi1_is] at s1
  cases h0 : leP X B with
  | false =>
    rw [h0] at s0
    exact at_more (n := 1) (At.leave s0 (by simp)) (by omega)
  | true =>
    rw [h0] at s0
    cases h1 : leP X D with
    | false =>
      rw [h1] at s1
      exact at_more (n := 2) (At.step s0 (At.leave s1 (by simp))) (by omega)
    | true =>
      rw [h1] at s1
      exact At.step s0 (At.step s1 (At.leave s2 (by simp)))
end
theorem mt_plain (B D : P2) (X : P2) : (mtS B D (fr14 X)).all plainO = true := by rfl
theorem mo_loop (A C B D : P2) : At 0 bodyMo 3 (mtT A C 0) (mtS B D fr15) (some (bif leP A B && leP A D && (leP C B && leP C D) then (.exit 0, mtE A C 2, mtS B D fr15) else (.exit 0, mtX, []))) := by
  have i0 := mi_loop A C B D A 0
  have i1 := mi_loop A C B D C 1
  have s2 : roundC 0 bodyMo (mtT A C 2) (mtS B D fr15) = some (.exit 0, mtE A C 2, mtS B D fr15) := mo2_eq LR4 A C B D
  cases h0 : leP A B && leP A D with
  | false =>
    rw [h0] at i0
    have s0 : roundC 0 bodyMo (mtT A C 0) (mtS B D fr15) = some (.exit 0, mtX, []) := mo0x_eq LR4 A C B D (At.use (at_more i0 (m := 201) (by omega)) (by rfl) (by kernel_rfl))
    exact at_more (n := 1) (At.leave s0 (by simp)) (by omega)
  | true =>
    rw [h0] at i0
    have s0 : roundC 0 bodyMo (mtT A C 0) (mtS B D fr15) = some (.normal, mtT A C 1, mtS B D fr15) := by
      have := mo0_eq LR4 A C B D (At.use (at_more i0 (m := 201) (by omega)) (by rfl) (by kernel_rfl))
      have e : mo0 LR4 A C B D = (.normal, mtT A C (IntKind.i64.wrap (0 + 1)), mtS B D fr15) := by kernel_rfl
      rw [e, show IntKind.i64.wrap (0 + 1) = 1 from IntWalk.i64_in _ (by omega)] at this
      exact this
    cases h1 : leP C B && leP C D with
    | false =>
      rw [h1] at i1
      have s1 : roundC 0 bodyMo (mtT A C 1) (mtS B D fr15) = some (.exit 0, mtX, []) := mo1x_eq LR4 A C B D (At.use (at_more i1 (m := 201) (by omega)) (by rfl) (by kernel_rfl))
      exact at_more (n := 2) (At.step s0 (At.leave s1 (by simp))) (by omega)
    | true =>
      rw [h1] at i1
      have s1 : roundC 0 bodyMo (mtT A C 1) (mtS B D fr15) = some (.normal, mtT A C 2, mtS B D fr15) := by
        have := mo1_eq LR4 A C B D (At.use (at_more i1 (m := 201) (by omega)) (by rfl) (by kernel_rfl))
        have e : mo1 LR4 A C B D = (.normal, mtT A C (IntKind.i64.wrap (1 + 1)), mtS B D fr15) := by kernel_rfl
        rw [e, show IntKind.i64.wrap (1 + 1) = 2 from IntWalk.i64_in _ (by omega)] at this
        exact this
      exact At.step s0 (At.step s1 (At.leave s2 (by simp)))
theorem meet_calls (a b c d : P2) : CallsP Try.prog 69 [ptP a, ptP b, ptP c, ptP d] (bP (meetB a b c d)) := by
  have hl := mo_loop (nearP a) (nearP c) (nearP b) (nearP d)
  unfold meetB
  cases h : leP (nearP a) (nearP b) && leP (nearP a) (nearP d) && (leP (nearP c) (nearP b) && leP (nearP c) (nearP d)) with
  | true =>
    rw [h] at hl
    exact mtA_calls LR4 a b c d (near_gT a) (near_gT c) (near_gT b) (near_gT d) (At.use (at_more hl (m := 201) (by omega)) (by rfl) (by kernel_rfl))
  | false =>
    rw [h] at hl
    exact mtB_calls LR4 a b c d (near_gT a) (near_gT c) (near_gT b) (near_gT d) (At.use (at_more hl (m := 201) (by omega)) (by rfl) (by kernel_rfl))
/-! seg.Shared, line.end -/
def sharedV (a b c d : P2) : PVal := .tup [ptP (sharedP a b c d).1, bP (sharedP a b c d).2]
theorem shared_calls (a b c d : P2) : CallsP Try.prog 70 [ptP a, ptP b, ptP c, ptP d] (sharedV a b c d) := by
  have key := shA_calls LR4 a b c d (relate a b c d) (rel_gT a b c d) (fun _ => near_gT a) (fun _ => near_gT b) (fun _ => near_gT c) (fun _ _ => near_gT d)
  have e : shA LR4 a b c d (relate a b c d) = sharedV a b c d := by
    unfold shA sharedV sharedP
    cases relate a b c d != 1 <;> cases eqB (nearP a) (nearP c) <;> cases eqB (nearP a) (nearP d) <;> rfl
  rw [e] at key
  exact key
theorem shared9_calls (a b c d : P2) : CallsP Try.prog 72 [ptP a, ptP b, ptP c, ptP d] (sharedV a b c d) := by
  have key := shB_calls LR4 a b c d (relate a b c d) (rel9_gT a b c d) (fun _ => clean_gT a) (fun _ => clean_gT b) (fun _ => clean_gT c) (fun _ => clean_gT d)
  have e : shB LR4 a b c d (relate a b c d) = sharedV a b c d := by
    unfold shB sharedV sharedP
    cases relate a b c d != 1 <;> cases eqB (nearP a) (nearP c) <;> cases eqB (nearP a) (nearP d) <;> rfl
  rw [e] at key
  exact key
theorem end_calls (ps : List P2) (p : P2) (h1 : 1 ≤ ps.length) (h200 : ps.length ≤ 200) : CallsP Try.prog 71 [slP ps, ptP p] (bP (endL ps p)) := by
  have hw : IntKind.i64.wrap ((ps.length : Int) - 1) = ((ps.length - 1 : Nat) : Int) := by rw [IntWalk.i64_in _ (by omega)]; omega
  have key := enA_calls LR4 ps p ⟨by omega, by omega⟩ (fun _ => ⟨by rw [hw]; omega, by rw [hw]; omega⟩)
  have e : enA LR4 ps p = bP (endL ps p) := by
    unfold enA endL
    rw [hw, Int.toNat_natCast]
    cases eqB p (pAt ps 0) <;> rfl
  rw [e] at key
  exact key
theorem end12_calls (ps : List P2) (p : P2) (h1 : 1 ≤ ps.length) (h200 : ps.length ≤ 200) : CallsP Try.prog 73 [slP ps, ptP p] (bP (endL ps p)) := by
  have hw : IntKind.i64.wrap ((ps.length : Int) - 1) = ((ps.length - 1 : Nat) : Int) := by rw [IntWalk.i64_in _ (by omega)]; omega
  have key := enB_calls LR4 ps p ⟨by omega, by omega⟩ (fun _ => ⟨by rw [hw]; omega, by rw [hw]; omega⟩)
  have e : enB LR4 ps p = bP (endL ps p) := by
    unfold enB endL
    rw [hw, Int.toNat_natCast, eqB_comm (pAt ps 0), eqB_comm (pAt ps (ps.length - 1))]
    cases eqB p (pAt ps 0) <;> rfl
  rw [e] at key
  exact key
def fEnd (ps : List P2) (p : P2) : Option PVal := if 1 ≤ ps.length ∧ ps.length ≤ 200 then some (bP (endL ps p)) else none
theorem fEnd_of {ps : List P2} (p : P2) (h1 : 1 ≤ ps.length) (h2 : ps.length ≤ 200) : fEnd ps p = some (bP (endL ps p)) := if_pos ⟨h1, h2⟩
theorem fEnd_some {ps : List P2} {p : P2} {r : PVal} (h : fEnd ps p = some r) : (1 ≤ ps.length ∧ ps.length ≤ 200) ∧ r = bP (endL ps p) := by
  unfold fEnd at h
  by_cases hl : 1 ≤ ps.length ∧ ps.length ≤ 200
  · rw [if_pos hl, Option.some.injEq] at h
    exact ⟨hl, h.symm⟩
  · rw [if_neg hl] at h
    cases h
noncomputable def LP1 : Lib Try.prog := LR4.add 68 (gSo fun ps => lim ps (.tup [ptP (boxK ps ps.length).1, ptP (boxK ps ps.length).2, bP (decide ((ps.length : Int) > 0))])) (Vm.enters_of named_prog Try.func68 (by kernel_rfl)) (gSo_spec fun ps r h => by obtain ⟨h1, rfl⟩ := lim_some h; exact box_calls ps h1)
noncomputable def LP2 : Lib Try.prog := LP1.add 69 (g4 fun a b c d => bP (meetB a b c d)) (Vm.enters_of named_prog Try.func69 (by kernel_rfl)) (g4_spec meet_calls)
noncomputable def LP3 : Lib Try.prog := LP2.add 70 (g4 sharedV) (Vm.enters_of named_prog Try.func70 (by kernel_rfl)) (g4_spec shared_calls)
noncomputable def LP4 : Lib Try.prog := LP3.add 72 (g4 sharedV) (Vm.enters_of named_prog Try.func72 (by kernel_rfl)) (g4_spec shared9_calls)
noncomputable def LP5 : Lib Try.prog := LP4.add 71 (gSPo fEnd) (Vm.enters_of named_prog Try.func71 (by kernel_rfl)) (gSPo_spec fun ps p r h => by obtain ⟨h1, rfl⟩ := fEnd_some h; exact end_calls ps p h1.1 h1.2)
noncomputable def LP6 : Lib Try.prog := LP5.add 73 (gSPo fEnd) (Vm.enters_of named_prog Try.func73 (by kernel_rfl)) (gSPo_spec fun ps p r h => by obtain ⟨h1, rfl⟩ := fEnd_some h; exact end12_calls ps p h1.1 h1.2)
end Go.Proofs.Ytmopbegmdegooaa
/- line.Apart, and the document's: what they answer. -/
namespace Go.Proofs.Ytmopbegmdegooaa
open Go Vm M
set_option linter.unusedVariables false
set_option linter.unusedSimpArgs false

/-! line.Apart -/
noncomputable abbrev bodyAp : List AVal → List AObj → Res := evalC (cf LP6) (evalF (cf LP6) 201) ((lives.lookup 45).getD []) 0 0 201 (loopAt Try.f45 0)
noncomputable abbrev bodyAq : List AVal → List AObj → Res := evalC (cf LP6) (evalF (cf LP6) 201) ((lives.lookup 45).getD []) 0 0 201 (loopAt Try.f45 1)
theorem apl_in (a b : List P2) (ha : 1 ≤ a.length) (hb : 1 ≤ b.length) (ha2 : a.length ≤ 200) (hb2 : b.length ≤ 200) {i k : Nat} (hi : i < a.length - 1) (hk : k < b.length - 1) : roundC 0 bodyAq (apU a b i k) [] = some (bif !goodP a b i k then (.exit 0, apX, []) else (.normal, apU a b i (k + 1 : Nat), [])) := by
  have h := ap2_eq LP6 a b i k (relate (pAt a i) (pAt a (i + 1)) (pAt b k) (pAt b (k + 1))) (sharedP (pAt a i) (pAt a (i + 1)) (pAt b k) (pAt b (k + 1))).1 (endL a (sharedP (pAt a i) (pAt a (i + 1)) (pAt b k) (pAt b (k + 1))).1) (endL b (sharedP (pAt a i) (pAt a (i + 1)) (pAt b k) (pAt b (k + 1))).1) (sharedP (pAt a i) (pAt a (i + 1)) (pAt b k) (pAt b (k + 1))).2
    (fun _ => ⟨by omega, by omega⟩) (fun _ => ⟨by rw [wrS (by omega)]; omega, by rw [wrS (by omega)]; omega⟩) (fun _ => ⟨by omega, by omega⟩) (fun _ => ⟨by rw [wrS (by omega)]; omega, by rw [wrS (by omega)]; omega⟩)
    (fun _ => by rw [wrS (by omega), wrS (by omega)]; simp only [Int.toNat_natCast]; exact pure_given (g := g4 fun a b c d => iP (relate a b c d)) (by kernel_rfl) rfl)
    (fun _ _ _ => by rw [wrS (by omega), wrS (by omega)]; simp only [Int.toNat_natCast]; exact pure_given (g := g4 sharedV) (by kernel_rfl) rfl)
    (fun _ _ _ => pure_given (g := gSPo fEnd) (by kernel_rfl) (by rw [gSPo_slP]; exact fEnd_of _ ha ha2))
    (fun _ _ _ _ => pure_given (g := gSPo fEnd) (by kernel_rfl) (by rw [gSPo_slP]; exact fEnd_of _ hb hb2))
  rw [show bodyAq = _ from rfl]
  rw [h]
  unfold ap2 goodP goodV
  rw [wrS (by omega), decide_eq_true (by omega : ((k + 1 : Nat) : Int) < (b.length : Int))]
  generalize relate (pAt a i) (pAt a (i + 1)) (pAt b k) (pAt b (k + 1)) = v
  generalize (sharedP (pAt a i) (pAt a (i + 1)) (pAt b k) (pAt b (k + 1))).1 = s
  cases v == 0 <;> cases v == 1 <;> cases endL a s <;> cases endL b s <;> rfl
theorem apl_inEnd (a b : List P2) (ha : 1 ≤ a.length) (hb : 1 ≤ b.length) (ha2 : a.length ≤ 200) (hb2 : b.length ≤ 200) (i : Nat) : roundC 0 bodyAq (apU a b i (b.length - 1 : Nat)) [] = some (.exit 2, apV a b i (b.length - 1 : Nat), []) := by
  have hf : decide (IntKind.i64.wrap (((b.length - 1 : Nat) : Int) + 1) < (b.length : Int)) = false := by rw [wrS (by omega)]; exact decide_eq_false (by omega)
  have h := ap2_eq LP6 a b i (b.length - 1 : Nat) 0 (0, 0) true true true (fun h => by rw [hf] at h; cases h) (fun h => by rw [hf] at h; cases h) (fun h => by rw [hf] at h; cases h) (fun h => by rw [hf] at h; cases h) (fun h => by rw [hf] at h; cases h) (fun h => by rw [hf] at h; cases h) (fun h => by rw [hf] at h; cases h) (fun h => by rw [hf] at h; cases h)
  rw [show bodyAq = _ from rfl]
  rw [h]
  unfold ap2
  rw [hf]
  rfl
theorem apl_inLoop (a b : List P2) (ha : 1 ≤ a.length) (hb : 1 ≤ b.length) (ha2 : a.length ≤ 200) (hb2 : b.length ≤ 200) {i : Nat} (hi : i < a.length - 1) : At 0 bodyAq (b.length - 1 + 1) (apU a b i (0 : Nat)) [] (some (match firstAt (fun k => !goodP a b i k) (b.length - 1) 0 with | some _ => (.exit 0, apX, []) | none => (.exit 2, apV a b i (b.length - 1 : Nat), []))) := by
  refine At.search (T := fun k => apU a b i k) (S := fun _ => []) (n := b.length - 1) (c := fun k => !goodP a b i k) (X := fun _ => (.exit 0, apX, [])) (E := (.exit 2, apV a b i (b.length - 1 : Nat), [])) ?_ ?_ ?_ (b.length - 1) 0 (by omega)
  · intro k hk hc
    rw [apl_in a b ha hb ha2 hb2 hi hk, hc]
    rfl
  · intro k hk hc
    exact ⟨by rw [apl_in a b ha hb ha2 hb2 hi hk, hc]; rfl, by simp⟩
  · exact ⟨apl_inEnd a b ha hb ha2 hb2 i, by simp⟩
theorem apl_out (a b : List P2) (ha : 1 ≤ a.length) (hb : 1 ≤ b.length) (ha2 : a.length ≤ 200) (hb2 : b.length ≤ 200) {i : Nat} (hi : i < a.length - 1) : roundC 0 bodyAp (apT a b i) [] = some (bif badRow a b i then (.exit 0, apX, []) else (.normal, apT a b (i + 1 : Nat), [])) := by
  have hin := apl_inLoop a b ha hb ha2 hb2 hi
  have hd : decide (IntKind.i64.wrap ((i : Int) + 1) < (a.length : Int)) = true := by rw [wrS (by omega)]; exact decide_eq_true (by omega)
  unfold badRow
  cases hf : firstAt (fun k => !goodP a b i k) (b.length - 1) 0 with
  | some j =>
    rw [hf] at hin
    have h := ap1x_eq LP6 a b i (fun _ => At.use (at_more hin (m := 201) (by omega)) (by rfl) (by kernel_rfl))
    rw [show bodyAp = _ from rfl]
    rw [h]
    unfold ap1x
    rw [hd]
    rfl
  | none =>
    rw [hf] at hin
    have h := ap1_eq LP6 a b i (b.length - 1 : Nat) (fun _ => At.use (at_more hin (m := 201) (by omega)) (by rfl) (by kernel_rfl))
    rw [show bodyAp = _ from rfl]
    rw [h]
    unfold ap1
    rw [hd, wrS (by omega)]
    rfl
theorem apl_outLoop (a b : List P2) (ha : 1 ≤ a.length) (hb : 1 ≤ b.length) (ha2 : a.length ≤ 200) (hb2 : b.length ≤ 200) : At 0 bodyAp (a.length - 1 + 1) (apT a b (0 : Nat)) [] (some (match firstAt (badRow a b) (a.length - 1) 0 with | some _ => (.exit 0, apX, []) | none => (.exit 0, apE a b (a.length - 1 : Nat), []))) := by
  refine At.search (T := fun i => apT a b i) (S := fun _ => []) (n := a.length - 1) (c := badRow a b) (X := fun _ => (.exit 0, apX, [])) (E := (.exit 0, apE a b (a.length - 1 : Nat), [])) ?_ ?_ ?_ (a.length - 1) 0 (by omega)
  · intro k hk hc
    rw [apl_out a b ha hb ha2 hb2 hk, hc]
    rfl
  · intro k hk hc
    exact ⟨by rw [apl_out a b ha hb ha2 hb2 hk, hc]; rfl, by simp⟩
  · refine ⟨?_, by simp⟩
    have hf : decide (IntKind.i64.wrap (((a.length - 1 : Nat) : Int) + 1) < (a.length : Int)) = false := by rw [wrS (by omega)]; exact decide_eq_false (by omega)
    have h := ap1_eq LP6 a b (a.length - 1 : Nat) 0 (fun h => by rw [hf] at h; cases h)
    rw [show bodyAp = _ from rfl]
    rw [h]
    unfold ap1
    rw [hf]
    rfl

/-! terrierref12.Apart -/
noncomputable abbrev bodyAc : List AVal → List AObj → Res := evalC (cf LP6) (evalF (cf LP6) 201) ((lives.lookup 46).getD []) 0 0 201 (loopAt Try.f46 0)
noncomputable abbrev bodyAd : List AVal → List AObj → Res := evalC (cf LP6) (evalF (cf LP6) 201) ((lives.lookup 46).getD []) 0 0 201 (loopAt Try.f46 1)
theorem acl_in (a b : List P2) (ha : 1 ≤ a.length) (hb : 1 ≤ b.length) (ha2 : a.length ≤ 200) (hb2 : b.length ≤ 200) {i k : Nat} (hi : i < a.length - 1) (hk : k < b.length - 1) : roundC 0 bodyAd (acU a b i k) [] = some (bif !goodP a b i k then (.ret, acX, []) else (.normal, acU a b i (k + 1 : Nat), [])) := by
  have h := ac2_eq LP6 a b i k (relate (pAt a i) (pAt a (i + 1)) (pAt b k) (pAt b (k + 1))) (sharedP (pAt a i) (pAt a (i + 1)) (pAt b k) (pAt b (k + 1))).1 (endL a (sharedP (pAt a i) (pAt a (i + 1)) (pAt b k) (pAt b (k + 1))).1) (endL b (sharedP (pAt a i) (pAt a (i + 1)) (pAt b k) (pAt b (k + 1))).1) (sharedP (pAt a i) (pAt a (i + 1)) (pAt b k) (pAt b (k + 1))).2
    (fun _ => ⟨by omega, by omega⟩) (fun _ => ⟨by rw [wrS (by omega)]; omega, by rw [wrS (by omega)]; omega⟩) (fun _ => ⟨by omega, by omega⟩) (fun _ => ⟨by rw [wrS (by omega)]; omega, by rw [wrS (by omega)]; omega⟩)
    (fun _ => by rw [wrS (by omega), wrS (by omega)]; simp only [Int.toNat_natCast]; exact pure_given (g := g4 fun a b c d => iP (relate a b c d)) (by kernel_rfl) rfl)
    (fun _ _ _ => by rw [wrS (by omega), wrS (by omega)]; simp only [Int.toNat_natCast]; exact pure_given (g := g4 sharedV) (by kernel_rfl) rfl)
    (fun _ _ _ => pure_given (g := gSPo fEnd) (by kernel_rfl) (by rw [gSPo_slP]; exact fEnd_of _ ha ha2))
    (fun _ _ _ _ => pure_given (g := gSPo fEnd) (by kernel_rfl) (by rw [gSPo_slP]; exact fEnd_of _ hb hb2))
  rw [show bodyAd = _ from rfl]
  rw [h]
  unfold ac2 goodP goodV
  rw [wrS (by omega), decide_eq_true (by omega : ((k + 1 : Nat) : Int) < (b.length : Int))]
  generalize relate (pAt a i) (pAt a (i + 1)) (pAt b k) (pAt b (k + 1)) = v
  generalize (sharedP (pAt a i) (pAt a (i + 1)) (pAt b k) (pAt b (k + 1))).1 = s
  cases v == 0 <;> cases v == 1 <;> cases endL a s <;> cases endL b s <;> rfl
theorem acl_inEnd (a b : List P2) (ha : 1 ≤ a.length) (hb : 1 ≤ b.length) (ha2 : a.length ≤ 200) (hb2 : b.length ≤ 200) (i : Nat) : roundC 0 bodyAd (acU a b i (b.length - 1 : Nat)) [] = some (.exit 2, acV a b i (b.length - 1 : Nat), []) := by
  have hf : decide (IntKind.i64.wrap (((b.length - 1 : Nat) : Int) + 1) < (b.length : Int)) = false := by rw [wrS (by omega)]; exact decide_eq_false (by omega)
  have h := ac2_eq LP6 a b i (b.length - 1 : Nat) 0 (0, 0) true true true (fun h => by rw [hf] at h; cases h) (fun h => by rw [hf] at h; cases h) (fun h => by rw [hf] at h; cases h) (fun h => by rw [hf] at h; cases h) (fun h => by rw [hf] at h; cases h) (fun h => by rw [hf] at h; cases h) (fun h => by rw [hf] at h; cases h) (fun h => by rw [hf] at h; cases h)
  rw [show bodyAd = _ from rfl]
  rw [h]
  unfold ac2
  rw [hf]
  rfl
theorem acl_inLoop (a b : List P2) (ha : 1 ≤ a.length) (hb : 1 ≤ b.length) (ha2 : a.length ≤ 200) (hb2 : b.length ≤ 200) {i : Nat} (hi : i < a.length - 1) : At 0 bodyAd (b.length - 1 + 1) (acU a b i (0 : Nat)) [] (some (match firstAt (fun k => !goodP a b i k) (b.length - 1) 0 with | some _ => (.ret, acX, []) | none => (.exit 2, acV a b i (b.length - 1 : Nat), []))) := by
  refine At.search (T := fun k => acU a b i k) (S := fun _ => []) (n := b.length - 1) (c := fun k => !goodP a b i k) (X := fun _ => (.ret, acX, [])) (E := (.exit 2, acV a b i (b.length - 1 : Nat), [])) ?_ ?_ ?_ (b.length - 1) 0 (by omega)
  · intro k hk hc
    rw [acl_in a b ha hb ha2 hb2 hi hk, hc]
    rfl
  · intro k hk hc
    exact ⟨by rw [acl_in a b ha hb ha2 hb2 hi hk, hc]; rfl, by simp⟩
  · exact ⟨acl_inEnd a b ha hb ha2 hb2 i, by simp⟩
theorem acl_out (a b : List P2) (ha : 1 ≤ a.length) (hb : 1 ≤ b.length) (ha2 : a.length ≤ 200) (hb2 : b.length ≤ 200) {i : Nat} (hi : i < a.length - 1) : roundC 0 bodyAc (acT a b i) [] = some (bif badRow a b i then (.ret, acX, []) else (.normal, acT a b (i + 1 : Nat), [])) := by
  have hin := acl_inLoop a b ha hb ha2 hb2 hi
  have hd : decide (IntKind.i64.wrap ((i : Int) + 1) < (a.length : Int)) = true := by rw [wrS (by omega)]; exact decide_eq_true (by omega)
  unfold badRow
  cases hf : firstAt (fun k => !goodP a b i k) (b.length - 1) 0 with
  | some j =>
    rw [hf] at hin
    have h := ac1x_eq LP6 a b i (fun _ => At.use (at_more hin (m := 201) (by omega)) (by rfl) (by kernel_rfl))
    rw [show bodyAc = _ from rfl]
    rw [h]
    unfold ac1x
    rw [hd]
    rfl
  | none =>
    rw [hf] at hin
    have h := ac1_eq LP6 a b i (b.length - 1 : Nat) (fun _ => At.use (at_more hin (m := 201) (by omega)) (by rfl) (by kernel_rfl))
    rw [show bodyAc = _ from rfl]
    rw [h]
    unfold ac1
    rw [hd, wrS (by omega)]
    rfl
theorem acl_outLoop (a b : List P2) (ha : 1 ≤ a.length) (hb : 1 ≤ b.length) (ha2 : a.length ≤ 200) (hb2 : b.length ≤ 200) : At 0 bodyAc (a.length - 1 + 1) (acT a b (0 : Nat)) [] (some (match firstAt (badRow a b) (a.length - 1) 0 with | some _ => (.ret, acX, []) | none => (.exit 0, acE a b (a.length - 1 : Nat), []))) := by
  refine At.search (T := fun i => acT a b i) (S := fun _ => []) (n := a.length - 1) (c := badRow a b) (X := fun _ => (.ret, acX, [])) (E := (.exit 0, acE a b (a.length - 1 : Nat), [])) ?_ ?_ ?_ (a.length - 1) 0 (by omega)
  · intro k hk hc
    rw [acl_out a b ha hb ha2 hb2 hk, hc]
    rfl
  · intro k hk hc
    exact ⟨by rw [acl_out a b ha hb ha2 hb2 hk, hc]; rfl, by simp⟩
  · refine ⟨?_, by simp⟩
    have hf : decide (IntKind.i64.wrap (((a.length - 1 : Nat) : Int) + 1) < (a.length : Int)) = false := by rw [wrS (by omega)]; exact decide_eq_false (by omega)
    have h := ac1_eq LP6 a b (a.length - 1 : Nat) 0 (fun h => by rw [hf] at h; cases h)
    rw [show bodyAc = _ from rfl]
    rw [h]
    unfold ac1
    rw [hf]
    rfl

theorem box_gP (ps : List P2) (h1 : 1 ≤ ps.length) (h200 : ps.length ≤ 200) {ev : Ev} : pureCall (cf LP6) ev 68 [slP ps] = some (.tup [ptP (boxK ps ps.length).1, ptP (boxK ps ps.length).2, bP true]) := by
  have := pure_given (c := cf LP6) (ev := ev) (F := 68) (ps := [slP ps]) (g := gSo fun ps => lim ps (.tup [ptP (boxK ps ps.length).1, ptP (boxK ps ps.length).2, bP (decide ((ps.length : Int) > 0))])) (by kernel_rfl) (by rw [gSo_slP, lim_of h200])
  rw [decide_eq_true (by omega : (ps.length : Int) > 0)] at this
  exact this
theorem apart_calls (a b : List P2) (ha : 1 ≤ a.length) (hb : 1 ≤ b.length) (ha2 : a.length ≤ 200) (hb2 : b.length ≤ 200) : CallsP Try.prog 45 [slP a, slP b] (bP (apartB a b)) := by
  have gm : ∀ {ev : Ev}, pureCall (cf LP6) ev 69 [ptP (boxK a a.length).1, ptP (boxK a a.length).2, ptP (boxK b b.length).1, ptP (boxK b b.length).2] = some (bP (meetB (boxK a a.length).1 (boxK a a.length).2 (boxK b b.length).1 (boxK b b.length).2)) := pure_given (g := g4 fun a b c d => bP (meetB a b c d)) (by kernel_rfl) rfl
  cases hm : meetB (boxK a a.length).1 (boxK a a.length).2 (boxK b b.length).1 (boxK b b.length).2 with
  | false =>
    rw [apart_box hm]
    exact apA_calls LP6 a b (boxK a a.length).1 (boxK a a.length).2 (boxK b b.length).1 (boxK b b.length).2 _ (by rw [hm]; rfl) (box_gP a ha ha2) (box_gP b hb hb2) gm
  | true =>
    have hl := apl_outLoop a b ha hb ha2 hb2
    unfold apartB
    cases hf : firstAt (badRow a b) (a.length - 1) 0 with
    | some j =>
      rw [hf] at hl
      exact apC_calls LP6 a b (boxK a a.length).1 (boxK a a.length).2 (boxK b b.length).1 (boxK b b.length).2 _ (by rw [hm]; rfl) (box_gP a ha ha2) (box_gP b hb hb2) gm (At.use (at_more hl (m := 201) (by omega)) (by rfl) (by kernel_rfl))
    | none =>
      rw [hf] at hl
      exact apB_calls LP6 a b (a.length - 1 : Nat) (boxK a a.length).1 (boxK a a.length).2 (boxK b b.length).1 (boxK b b.length).2 _ (by rw [hm]; rfl) (box_gP a ha ha2) (box_gP b hb hb2) gm (At.use (at_more hl (m := 201) (by omega)) (by rfl) (by kernel_rfl))
theorem apart12_calls (a b : List P2) (ha : 1 ≤ a.length) (hb : 1 ≤ b.length) (ha2 : a.length ≤ 200) (hb2 : b.length ≤ 200) : CallsP Try.prog 46 [slP a, slP b] (bP (apartB a b)) := by
  have hl := acl_outLoop a b ha hb ha2 hb2
  unfold apartB
  cases hf : firstAt (badRow a b) (a.length - 1) 0 with
  | some j =>
    rw [hf] at hl
    exact acB_calls LP6 a b (At.use (at_more hl (m := 201) (by omega)) (by rfl) (by kernel_rfl))
  | none =>
    rw [hf] at hl
    exact acA_calls LP6 a b (a.length - 1 : Nat) (At.use (at_more hl (m := 201) (by omega)) (by rfl) (by kernel_rfl))
def fApart (a b : List P2) : Option PVal := if (1 ≤ a.length ∧ a.length ≤ 200) ∧ (1 ≤ b.length ∧ b.length ≤ 200) then some (bP (apartB a b)) else none
theorem fApart_some {a b : List P2} {r : PVal} (h : fApart a b = some r) : ((1 ≤ a.length ∧ a.length ≤ 200) ∧ (1 ≤ b.length ∧ b.length ≤ 200)) ∧ r = bP (apartB a b) := by
  unfold fApart at h
  by_cases hl : (1 ≤ a.length ∧ a.length ≤ 200) ∧ (1 ≤ b.length ∧ b.length ≤ 200)
  · rw [if_pos hl, Option.some.injEq] at h
    exact ⟨hl, h.symm⟩
  · rw [if_neg hl] at h
    cases h
noncomputable def LP7 : Lib Try.prog := LP6.add 45 (gSSo fApart) (Vm.enters_of named_prog Try.func45 (by kernel_rfl)) (gSSo_spec fun a b r h => by obtain ⟨h1, rfl⟩ := fApart_some h; exact apart_calls a b h1.1.1 h1.2.1 h1.1.2 h1.2.2)
noncomputable def LP8 : Lib Try.prog := LP7.add 46 (gSSo fApart) (Vm.enters_of named_prog Try.func46 (by kernel_rfl)) (gSSo_spec fun a b r h => by obtain ⟨h1, rfl⟩ := fApart_some h; exact apart12_calls a b h1.1.1 h1.2.1 h1.1.2 h1.2.2)
end Go.Proofs.Ytmopbegmdegooaa
/- Lines side by side, and one across them: how they stand. -/
namespace Go.Proofs.Ytmopbegmdegooaa
open Go Vm M
set_option linter.unusedVariables false
set_option linter.unusedSimpArgs false
def rowL (long : Int) (i : Nat) : List P2 := [(0, 3 * (i : Int)), (long, 3 * (i : Int))]
def upL2 (x : Int) (i : Nat) : List P2 := [(x, 3 * (i : Int) - 1), (x, 3 * (i : Int) + 1)]
def enL (x : Int) (i : Nat) : List P2 := [(x, 3 * (i : Int)), (x, 3 * (i : Int) + 1)]
theorem two_apart (p q r s : P2) : apartB [p, q] [r, s] = goodV [p, q] [r, s] (relate p q r s) (sharedP p q r s).1 := by
  have a0 : pAt [p, q] 0 = p := pAt_get rfl
  have a1 : pAt [p, q] (0 + 1) = q := pAt_get rfl
  have b0 : pAt [r, s] 0 = r := pAt_get rfl
  have b1 : pAt [r, s] (0 + 1) = s := pAt_get rfl
  have hg : goodP [p, q] [r, s] 0 0 = goodV [p, q] [r, s] (relate p q r s) (sharedP p q r s).1 := by
    unfold goodP
    rw [a0, a1, b0, b1]
  rw [← hg, Bool.eq_iff_iff, apart_iff]
  constructor
  · intro h
    exact h 0 (by simp) 0 (by simp)
  · intro h i hi k hk
    simp only [List.length_cons, List.length_nil] at hi hk
    rw [show i = 0 by omega, show k = 0 by omega]
    exact h
theorem endL_two (p q s : P2) : endL [p, q] s = (eqB s p || eqB s q) := by
  have a0 : pAt [p, q] 0 = p := pAt_get rfl
  have a1 : pAt [p, q] 1 = q := pAt_get rfl
  unfold endL
  rw [show [p, q].length - 1 = 1 from rfl, a0, a1]
theorem area_row (long y : Int) (p : P2) : area (0, y) (long, y) p = long * (p.2 - y) := by unfold area; simp
theorem area_col (x y : Int) (z : Int) (p : P2) : area (x, y) (x, z) p = -((z - y) * (p.1 - x)) := by unfold area; simp
theorem sgn_pos {x : Int} (h : 0 < x) : sgn x = 1 := by unfold sgn; rw [if_neg (by omega), if_pos h]
theorem sgn_negv {x : Int} (h : x < 0) : sgn x = -1 := by unfold sgn; rw [if_pos h]
theorem sgn_zero : sgn 0 = 0 := by unfold sgn; simp
theorem sgn_mul_pos {x y : Int} (h : 0 < x) : sgn (x * y) = sgn y := by
  by_cases h1 : 0 < y
  · rw [sgn_pos h1, sgn_pos (Int.mul_pos h h1)]
  · by_cases h2 : y < 0
    · rw [sgn_negv h2, sgn_negv (Int.mul_neg_of_pos_of_neg h h2)]
    · rw [show y = 0 by omega, Int.mul_zero]
/-- A point on a row. -/
theorem on_row {long y : Int} (hl : 0 < long) (p : P2) : onR (0, y) (long, y) p = (decide (p.2 = y) && (decide (0 ≤ p.1) && decide (p.1 ≤ long))) := by
  unfold onR turnR
  rw [area_row, sgn_mul_pos hl]
  simp only
  by_cases h : p.2 = y
  · rw [h, Int.sub_self, sgn_zero]
    rw [decide_eq_true (rfl : y = y), show min 0 long = 0 by omega, show max 0 long = long by omega, show min y y = y by omega, show max y y = y by omega, decide_eq_true (Int.le_refl y)]
    simp
  · have : sgn (p.2 - y) ≠ 0 := by
      unfold sgn
      split
      · omega
      · split <;> omega
    rw [beq_eq_false_iff_ne.2 this, decide_eq_false h]
    rfl
/-- A point on a line across. -/
theorem on_col {x y z : Int} (hl : y < z) (p : P2) : onR (x, y) (x, z) p = (decide (p.1 = x) && (decide (y ≤ p.2) && decide (p.2 ≤ z))) := by
  unfold onR turnR
  rw [area_col, sgnS_neg, sgn_mul_pos (by omega)]
  simp only
  by_cases h : p.1 = x
  · rw [h, Int.sub_self, sgn_zero]
    rw [decide_eq_true (rfl : x = x), show min y z = y by omega, show max y z = z by omega, show min x x = x by omega, show max x x = x by omega, decide_eq_true (Int.le_refl x)]
    simp
  · have : -sgn (p.1 - x) ≠ 0 := by
      unfold sgn
      split
      · omega
      · split <;> omega
    rw [beq_eq_false_iff_ne.2 this, decide_eq_false h]
    rfl
section
variable {long x : Int} {i : Nat} (h1 : 1 ≤ long) (h2 : long ≤ 256) (h3 : 0 ≤ x) (h4 : x ≤ long) (hi : i < 100)
theorem near_small {p : P2} (h : -1000 ≤ p.1 ∧ p.1 ≤ 1000 ∧ -1000 ≤ p.2 ∧ p.2 ≤ 1000) : nearP p = p := nearP_id ⟨⟨by omega, by omega⟩, by omega, by omega⟩
theorem sgn_turn {a b c : P2} (ha : -1000 ≤ a.1 ∧ a.1 ≤ 1000 ∧ -1000 ≤ a.2 ∧ a.2 ≤ 1000) (hb : -1000 ≤ b.1 ∧ b.1 ≤ 1000 ∧ -1000 ≤ b.2 ∧ b.2 ≤ 1000) (hc : -1000 ≤ c.1 ∧ c.1 ≤ 1000 ∧ -1000 ≤ c.2 ∧ c.2 ≤ 1000) : turn a b c = sgn (area a b c) := by
  unfold turn turnR
  rw [near_small ha, near_small hb, near_small hc]
end
/-- How two segments of small points stand: by the points that are on both. -/
theorem relate_by {a b c d : P2} (ha : nearP a = a) (hb : nearP b = b) (hc : nearP c = c) (hd : nearP d = d) {Q : List P2} (hn : Q.Nodup) (hQ : ∀ p, p ∈ Q ↔ p ∈ [a, b, c, d] ∧ (onR a b p && onR c d p) = true) :
    relate a b c d = if 1 < Q.length then 4 else if ((Q.filter (endB a b c d)).length : Int) = 1 then 1 else if Q.length = 1 then 2 else if turn a b c * turn a b d < 0 ∧ turn c d a * turn c d b < 0 then 3 else 0 := by
  obtain ⟨k1, k2, k3, k4⟩ := ends_spec (nearP a) (nearP b) (nearP c) (nearP d) [nearP a, nearP b, nearP c, nearP d]
  rw [ha, hb, hc, hd] at k1 k2 k3 k4
  have hcom : ∀ p, p ∈ [a, b, c, d] → comB a b c d p = (onR a b p && onR c d p) := fun p hp => by
    have hp' : nearP p = p := by
      simp only [List.mem_cons, List.not_mem_nil, or_false] at hp
      rcases hp with rfl | rfl | rfl | rfl <;> assumption
    unfold comB M.on
    rw [ha, hb, hc, hd, hp']
  have hperm : (endsF a b c d [a, b, c, d] (0, 0, [])).2.2.Perm Q := (List.perm_ext_iff_of_nodup k1 hn).2 fun p => by
    rw [k2, hQ]
    constructor
    · rintro ⟨m, h⟩; exact ⟨m, by rw [← hcom p m]; exact h⟩
    · rintro ⟨m, h⟩; exact ⟨m, by rw [hcom p m]; exact h⟩
  unfold relate endsR
  rw [ha, hb, hc, hd, k3, k4, hperm.length_eq, (hperm.filter _).length_eq]
  by_cases c1 : 1 < Q.length
  · rw [if_pos c1, if_pos (by omega)]
  · rw [if_neg c1, if_neg (by omega)]
    by_cases c2 : ((Q.filter (endB a b c d)).length : Int) = 1
    · rw [if_pos c2, if_pos c2]
    · rw [if_neg c2, if_neg c2]
      by_cases c3 : Q.length = 1
      · rw [if_pos c3, if_pos (by omega)]
      · rw [if_neg c3, if_neg (by omega)]
theorem eqB_false {p q : P2} (h : p.1 ≠ q.1 ∨ p.2 ≠ q.2) : eqB p q = false := by
  rw [Bool.eq_false_iff]
  intro he
  have := eqB_iff.1 he
  subst this
  omega
section
variable {long x : Int} {i : Nat} (h1 : 1 ≤ long) (h2 : long ≤ 256) (h3 : 0 ≤ x) (h4 : x ≤ long) (hi : i < 100)
include h1 h2 h3 h4 hi
theorem rel_up : relate (0, 3 * (i : Int)) (long, 3 * (i : Int)) (x, 3 * (i : Int) - 1) (x, 3 * (i : Int) + 1) = if x = 0 ∨ x = long then 2 else 3 := by
  obtain ⟨y, hy⟩ : ∃ y : Int, y = 3 * (i : Int) := ⟨_, rfl⟩
  rw [← hy]
  have hyb : 0 ≤ y ∧ y ≤ 300 := by omega
  have nA : nearP ((0, y) : P2) = (0, y) := near_small ⟨by simp, by simp, by simp; omega, by simp; omega⟩
  have nB : nearP ((long, y) : P2) = (long, y) := near_small ⟨by simp; omega, by simp; omega, by simp; omega, by simp; omega⟩
  have nC : nearP ((x, y - 1) : P2) = (x, y - 1) := near_small ⟨by simp; omega, by simp; omega, by simp; omega, by simp; omega⟩
  have nD : nearP ((x, y + 1) : P2) = (x, y + 1) := near_small ⟨by simp; omega, by simp; omega, by simp; omega, by simp; omega⟩
  have hon : ∀ p : P2, (onR (0, y) (long, y) p && onR (x, y - 1) (x, y + 1) p) = true ↔ p.2 = y ∧ p.1 = x := fun p => by
    rw [on_row (by omega), on_col (by omega)]
    simp only [Bool.and_eq_true, decide_eq_true_eq]
    omega
  by_cases hx0 : x = 0
  · rw [relate_by nA nB nC nD (Q := [(0, y)]) (by simp) fun p => by
      rw [hon]
      obtain ⟨u, v⟩ := p
      simp only [List.mem_cons, List.not_mem_nil, or_false, Prod.mk.injEq]
      omega]
    have : endB ((0, y) : P2) (long, y) (x, y - 1) (x, y + 1) (0, y) = false := by
      unfold endB
      rw [eqB_false (p := (0, y)) (q := (x, y - 1)) (.inr (by simp only; omega)), eqB_false (p := (0, y)) (q := (x, y + 1)) (.inr (by simp only; omega))]
      simp
    rw [if_neg (by simp), if_neg (by simp [List.filter_cons, this]), if_pos (by rfl), if_pos (.inl hx0)]
  · by_cases hxl : x = long
    · rw [relate_by nA nB nC nD (Q := [(long, y)]) (by simp) fun p => by
        rw [hon]
        obtain ⟨u, v⟩ := p
        simp only [List.mem_cons, List.not_mem_nil, or_false, Prod.mk.injEq]
        omega]
      have : endB ((0, y) : P2) (long, y) (x, y - 1) (x, y + 1) (long, y) = false := by
        unfold endB
        rw [eqB_false (p := (long, y)) (q := (x, y - 1)) (.inr (by simp only; omega)), eqB_false (p := (long, y)) (q := (x, y + 1)) (.inr (by simp only; omega))]
        simp
      rw [if_neg (by simp), if_neg (by simp [List.filter_cons, this]), if_pos (by rfl), if_pos (.inr hxl)]
    · rw [relate_by nA nB nC nD (Q := []) (by simp) fun p => by
        rw [hon]
        obtain ⟨u, v⟩ := p
        constructor
        · intro h
          cases h
        · rintro ⟨hm, hv, hu⟩
          exfalso
          simp only [List.mem_cons, List.not_mem_nil, or_false, Prod.mk.injEq] at hm hv hu
          omega]
      have t1 : turn ((0, y) : P2) (long, y) (x, y - 1) = -1 := by
        unfold turn turnR
        rw [nA, nB, nC, area_row, sgn_mul_pos (by omega), show ((x, y - 1) : P2).2 - y = -1 by simp only; omega]
        rfl
      have t2 : turn ((0, y) : P2) (long, y) (x, y + 1) = 1 := by
        unfold turn turnR
        rw [nA, nB, nD, area_row, sgn_mul_pos (by omega), show ((x, y + 1) : P2).2 - y = 1 by simp only; omega]
        rfl
      have t3 : turn ((x, y - 1) : P2) (x, y + 1) (0, y) = 1 := by
        unfold turn turnR
        rw [nC, nD, nA, area_col, sgnS_neg, sgn_mul_pos (by omega), sgn_negv (by simp only; omega)]
        rfl
      have t4 : turn ((x, y - 1) : P2) (x, y + 1) (long, y) = -1 := by
        unfold turn turnR
        rw [nC, nD, nB, area_col, sgnS_neg, sgn_mul_pos (by omega), sgn_pos (by simp only; omega)]
      rw [if_neg (by simp), if_neg (by simp), if_neg (by simp), t1, t2, t3, t4, if_pos ⟨by omega, by omega⟩, if_neg (fun h => h.elim hx0 hxl)]
theorem rel_en : relate (0, 3 * (i : Int)) (long, 3 * (i : Int)) (x, 3 * (i : Int)) (x, 3 * (i : Int) + 1) = if x = 0 ∨ x = long then 1 else 2 := by
  obtain ⟨y, hy⟩ : ∃ y : Int, y = 3 * (i : Int) := ⟨_, rfl⟩
  rw [← hy]
  have hyb : 0 ≤ y ∧ y ≤ 300 := by omega
  have nA : nearP ((0, y) : P2) = (0, y) := near_small ⟨by simp, by simp, by simp; omega, by simp; omega⟩
  have nB : nearP ((long, y) : P2) = (long, y) := near_small ⟨by simp; omega, by simp; omega, by simp; omega, by simp; omega⟩
  have nC : nearP ((x, y) : P2) = (x, y) := near_small ⟨by simp; omega, by simp; omega, by simp; omega, by simp; omega⟩
  have nD : nearP ((x, y + 1) : P2) = (x, y + 1) := near_small ⟨by simp; omega, by simp; omega, by simp; omega, by simp; omega⟩
  have hon : ∀ p : P2, (onR (0, y) (long, y) p && onR (x, y) (x, y + 1) p) = true ↔ p.2 = y ∧ p.1 = x := fun p => by
    rw [on_row (by omega), on_col (by omega)]
    simp only [Bool.and_eq_true, decide_eq_true_eq]
    omega
  rw [relate_by nA nB nC nD (Q := [(x, y)]) (by simp) fun p => by
    rw [hon]
    obtain ⟨u, v⟩ := p
    simp only [List.mem_cons, List.not_mem_nil, or_false, Prod.mk.injEq]
    omega]
  have he : endB ((0, y) : P2) (long, y) (x, y) (x, y + 1) (x, y) = (decide (x = 0) || decide (x = long)) := by
    unfold endB
    rw [eqB_iff.2 (rfl : ((x, y) : P2) = (x, y)), Bool.true_or, Bool.and_true]
    have e1 : eqB ((x, y) : P2) (0, y) = decide (x = 0) := by
      by_cases h : x = 0
      · subst h; rw [decide_eq_true rfl]; exact eqB_iff.2 rfl
      · rw [decide_eq_false h]; exact eqB_false (.inl h)
    have e2 : eqB ((x, y) : P2) (long, y) = decide (x = long) := by
      by_cases h : x = long
      · subst h; rw [decide_eq_true rfl]; exact eqB_iff.2 rfl
      · rw [decide_eq_false h]; exact eqB_false (.inl h)
    rw [e1, e2]
  rw [if_neg (by simp)]
  by_cases hx : x = 0 ∨ x = long
  · have : (decide (x = 0) || decide (x = long)) = true := by rw [Bool.or_eq_true, decide_eq_true_eq, decide_eq_true_eq]; exact hx
    rw [this] at he
    rw [if_pos (by simp [List.filter_cons, he]), if_pos hx]
  · have : (decide (x = 0) || decide (x = long)) = false := by
      rw [Bool.or_eq_false_iff, decide_eq_false_iff_not, decide_eq_false_iff_not]
      exact ⟨fun h => hx (.inl h), fun h => hx (.inr h)⟩
    rw [this] at he
    rw [if_neg (by simp [List.filter_cons, he]), if_pos (by rfl), if_neg hx]
theorem rows_up : apartB (rowL long i) (upL2 x i) = false := by
  unfold rowL upL2
  rw [two_apart, rel_up h1 h2 h3 h4 hi]
  unfold goodV
  split <;> rfl
theorem rows_en : apartB (rowL long i) (enL x i) = (decide (x = 0) || decide (x = long)) := by
  unfold rowL enL
  rw [two_apart]
  have hr := rel_en h1 h2 h3 h4 hi
  by_cases hx : x = 0 ∨ x = long
  · have hd : (decide (x = 0) || decide (x = long)) = true := by rw [Bool.or_eq_true, decide_eq_true_eq, decide_eq_true_eq]; exact hx
    rw [if_pos hx] at hr
    have nC : nearP ((x, 3 * (i : Int)) : P2) = (x, 3 * (i : Int)) := near_small ⟨by simp; omega, by simp; omega, by simp; omega, by simp; omega⟩
    have nA : nearP ((0, 3 * (i : Int)) : P2) = (0, 3 * (i : Int)) := near_small ⟨by simp, by simp, by simp; omega, by simp; omega⟩
    have nB : nearP ((long, 3 * (i : Int)) : P2) = (long, 3 * (i : Int)) := near_small ⟨by simp; omega, by simp; omega, by simp; omega, by simp; omega⟩
    have hs := shared_uniq (p := (x, 3 * (i : Int))) hr (by rw [nA, nB]; rcases hx with h | h <;> simp [h]) (.inl nC.symm)
    rw [hr, hs, hd]
    unfold goodV
    rw [endL_two, endL_two, eqB_iff.2 (rfl : ((x, 3 * (i : Int)) : P2) = (x, 3 * (i : Int)))]
    have : (eqB ((x, 3 * (i : Int)) : P2) (0, 3 * (i : Int)) || eqB ((x, 3 * (i : Int)) : P2) (long, 3 * (i : Int))) = true := by
      rw [Bool.or_eq_true, eqB_iff, eqB_iff]
      rcases hx with h | h
      · exact .inl (by rw [h])
      · exact .inr (by rw [h])
    rw [this]
    rfl
  · have hd : (decide (x = 0) || decide (x = long)) = false := by
      rw [Bool.or_eq_false_iff, decide_eq_false_iff_not, decide_eq_false_iff_not]
      exact ⟨fun h => hx (.inl h), fun h => hx (.inr h)⟩
    rw [if_neg hx] at hr
    rw [hr, hd]
    rfl
end
theorem rows_two {long : Int} {i k : Nat} (h1 : 1 ≤ long) (h2 : long ≤ 256) (hi : i < 100) (hk : k < i) : apartB (rowL long i) (rowL long k) = true := by
  refine apart_box ?_
  have b : ∀ j : Nat, j < 100 → boxK (rowL long j) (rowL long j).length = ((0, 3 * (j : Int)), (long, 3 * (j : Int))) := fun j hj => by
    have a0 : pAt (rowL long j) 0 = (0, 3 * (j : Int)) := pAt_get rfl
    have a1 : pAt (rowL long j) (0 + 1) = (long, 3 * (j : Int)) := pAt_get rfl
    have n0 : nearP ((0, 3 * (j : Int)) : P2) = (0, 3 * (j : Int)) := near_small ⟨by simp, by simp, by simp; omega, by simp; omega⟩
    have n1 : nearP ((long, 3 * (j : Int)) : P2) = (long, 3 * (j : Int)) := near_small ⟨by simp; omega, by simp; omega, by simp; omega, by simp; omega⟩
    rw [show (rowL long j).length = 0 + 1 + 1 from rfl]
    unfold boxK
    rw [show 0 + 1 = 1 from rfl] at *
    rw [a1, n1]
    unfold boxK
    rw [a0, n0]
    unfold minP maxP
    simp only [Prod.mk.injEq]
    omega
  rw [b i (by omega), b k (by omega)]
  unfold meetB
  have n0 : ∀ j : Nat, j < 100 → nearP ((0, 3 * (j : Int)) : P2) = (0, 3 * (j : Int)) := fun j hj => near_small ⟨by simp, by simp, by simp; omega, by simp; omega⟩
  have n1 : ∀ j : Nat, j < 100 → nearP ((long, 3 * (j : Int)) : P2) = (long, 3 * (j : Int)) := fun j hj => near_small ⟨by simp; omega, by simp; omega, by simp; omega, by simp; omega⟩
  rw [n0 i (by omega), n0 k (by omega), n1 i (by omega), n1 k (by omega)]
  have : leP (0, 3 * (i : Int)) (long, 3 * (k : Int)) = false := by
    unfold leP
    rw [decide_eq_false (by simp only; omega : ¬ ((0, 3 * (i : Int)) : P2).2 ≤ ((long, 3 * (k : Int)) : P2).2), Bool.and_false]
  rw [this, Bool.and_false, Bool.false_and]
end Go.Proofs.Ytmopbegmdegooaa
/- LineRows: its rounds, its path. -/
namespace Go.Proofs.Ytmopbegmdegooaa
open Go Vm M
set_option linter.unusedVariables false
set_option linter.unusedSimpArgs false
def rwT (N long x : Int) (r : AVal) (i : Int) : List AVal := [iA N, iA long] ++ jk 5 ++ [iA x, r, iA i] ++ jk 96
def rwE (N long x : Int) (r : AVal) (i : Int) : List AVal := [iA N, iA long] ++ jk 5 ++ [iA x, r, iA i] ++ jk 18 ++ [bA false] ++ jk 77
def rwU (N long x : Int) (r : AVal) (i : Int) : List AVal := [iA N, iA long] ++ jk 5 ++ [iA x, r, .junk, iA i] ++ jk 95
def rwF (N long x : Int) (r : AVal) (i : Int) : List AVal := [iA N, iA long] ++ jk 5 ++ [iA x, r, .junk, iA i] ++ jk 33 ++ [bA false] ++ jk 61
def rwV (N long x : Int) (r : AVal) (i k : Int) : List AVal := [iA N, iA long] ++ jk 5 ++ [iA x, r, .junk, iA i, iA k] ++ jk 94
def rwG (N long x : Int) (r : AVal) (i k : Int) : List AVal := [iA N, iA long] ++ jk 5 ++ [iA x, r, .junk, iA i, iA k] ++ jk 37 ++ [bA false] ++ jk 56
def rw1 (L : Lib Try.prog) (N : Int) (x : Int) (long : Int) (i : Int) : AExit × List AVal × List AObj :=
  (bif decide (i < N) then (AExit.normal, (([iA N, iA long] ++ jk 5 ++ [iA x, AVal.row 2 0 1 0 1, iA (IntKind.i64.wrap (i + 1))] ++ jk 96), ([AObj.free, AObj.free, AObj.row 1 0 none [AVal.list 2 [iP 0, iP (IntKind.i64.wrap (3 * i)), iP long, iP (IntKind.i64.wrap (3 * i))]]]))) else (AExit.exit 0, (([iA N, iA long] ++ jk 5 ++ [iA x, AVal.v (Value.slice none 0 0), iA i] ++ jk 18 ++ [bA false] ++ jk 77), [])))
theorem rw1_eq (L : Lib Try.prog) (N : Int) (x : Int) (long : Int) (i : Int) : roundC 0 (evalC (cf L) (evalF (cf L) 201) (Option.getD (List.lookup 16 lives) []) 0 0 201 (loopAt Try.f16 0)) (rwT N long x (AVal.v (Value.slice none 0 0)) i) ([]) = some (rw1 L N x long i) := by
  have key := fun (bs : List Bool) (r : AExit × List AVal × List AObj) (ob : List Prop) (h : roundP (cf L) (evalF (cf L) 201) (Option.getD (List.lookup 16 lives) []) 0 0 201 [(9999, 0, Hint.idx)] (loopAt Try.f16 0) (rwT N long x (AVal.v (Value.slice none 0 0)) i) ([]) bs [] = .ok (r.1, r.2.1, r.2.2, ob)) (hp : allOb ob) => roundP_ok h hp
  unfold rw1
  exact bif_case (P := fun r => roundC 0 (evalC (cf L) (evalF (cf L) 201) (Option.getD (List.lookup 16 lives) []) 0 0 201 (loopAt Try.f16 0)) (rwT N long x (AVal.v (Value.slice none 0 0)) i) ([]) = some r)
    (fun h0 => key [true] ((AExit.normal, (([iA N, iA long] ++ jk 5 ++ [iA x, AVal.row 2 0 1 0 1, iA (IntKind.i64.wrap (i + 1))] ++ jk 96), ([AObj.free, AObj.free, AObj.row 1 0 none [AVal.list 2 [iP 0, iP (IntKind.i64.wrap (3 * i)), iP long, iP (IntKind.i64.wrap (3 * i))]]])))) _ (by kernel_rfl) (allOb_cons (show Plain ([AObj.row 2 0 (some 4) [iA 0, iA (IntKind.i64.wrap (3 * i)), iA long, iA (IntKind.i64.wrap (3 * i))], AObj.row 1 0 none [AVal.list 2 [iP 0, iP (IntKind.i64.wrap (3 * i)), iP long, iP (IntKind.i64.wrap (3 * i))]], AObj.row 1 0 none [AVal.list 2 [iP 0, iP (IntKind.i64.wrap (3 * i)), iP long, iP (IntKind.i64.wrap (3 * i))]]]) from by simp only [Plain, List.all_append, List.all_cons, List.all_nil, plainO, upL_flatPP, flatP_plain, Nat.zero_mul, List.drop_zero] <;> rfl) (allOb_cons h0 allOb_nil)))
    (fun h0 => key [false] ((AExit.exit 0, (([iA N, iA long] ++ jk 5 ++ [iA x, AVal.v (Value.slice none 0 0), iA i] ++ jk 18 ++ [bA false] ++ jk 77), []))) _ (by kernel_rfl) (allOb_cons (show Plain [] from by simp only [Plain, List.all_append, List.all_cons, List.all_nil, plainO, upL_flatPP, flatP_plain, Nat.zero_mul, List.drop_zero] <;> rfl) (allOb_cons h0 allOb_nil)))
def rw2 (L : Lib Try.prog) (N : Int) (x : Int) (long : Int) (i : Int) (ws : List (List P2)) (us : List (List P2)) : AExit × List AVal × List AObj :=
  (bif decide (i < N) then (AExit.normal, (([iA N, iA long] ++ jk 5 ++ [iA x, AVal.row 2 0 1 0 (List.length ws + 1), iA (IntKind.i64.wrap (i + 1))] ++ jk 96), ([AObj.free, AObj.free, AObj.row 1 0 none (wsA us)]))) else (AExit.exit 0, (([iA N, iA long] ++ jk 5 ++ [iA x, AVal.row 2 0 1 0 (List.length ws), iA i] ++ jk 18 ++ [bA false] ++ jk 77), ([AObj.free, AObj.free, AObj.row 1 0 none (wsA ws)]))))
theorem rw2_eq (L : Lib Try.prog) (N : Int) (x : Int) (long : Int) (i : Int) (ws : List (List P2)) (us : List (List P2)) (e0 : (decide (i < N)) = true → (0 + List.length ws) * 1 = List.length (wsA ws) ∧ (List.length ws + 1) * 24 ≤ 140737488355328 ∧ List.length ws + 1 ≤ 9223372036854775807) (e1 : (decide (i < N)) = true → Ones [AVal.list 2 [iP 0, iP (IntKind.i64.wrap (3 * i)), iP long, iP (IntKind.i64.wrap (3 * i))]]) (e2 : (decide (i < N)) = true → wsA ws ++ [AVal.list 2 [iP 0, iP (IntKind.i64.wrap (3 * i)), iP long, iP (IntKind.i64.wrap (3 * i))]] = wsA us) : roundC 0 (evalC (cf L) (evalF (cf L) 201) (Option.getD (List.lookup 16 lives) []) 0 0 201 (loopAt Try.f16 0)) (rwT N long x (AVal.row 2 0 1 0 (List.length ws)) i) (ctP ws) = some (rw2 L N x long i ws us) := by
  have key := fun (bs : List Bool) (r : AExit × List AVal × List AObj) (ob : List Prop) (h : roundP (cf L) (evalF (cf L) 201) (Option.getD (List.lookup 16 lives) []) 0 0 201 [(9999, 0, Hint.idx), (7, 10, Hint.appY (wsA us))] (loopAt Try.f16 0) (rwT N long x (AVal.row 2 0 1 0 (List.length ws)) i) (ctP ws) bs [] = .ok (r.1, r.2.1, r.2.2, ob)) (hp : allOb ob) => roundP_ok h hp
  unfold rw2
  exact bif_case (P := fun r => roundC 0 (evalC (cf L) (evalF (cf L) 201) (Option.getD (List.lookup 16 lives) []) 0 0 201 (loopAt Try.f16 0)) (rwT N long x (AVal.row 2 0 1 0 (List.length ws)) i) (ctP ws) = some r)
    (fun h0 => key [true] ((AExit.normal, (([iA N, iA long] ++ jk 5 ++ [iA x, AVal.row 2 0 1 0 (List.length ws + 1), iA (IntKind.i64.wrap (i + 1))] ++ jk 96), ([AObj.free, AObj.free, AObj.row 1 0 none (wsA us)])))) _ (by kernel_rfl) (allOb_cons (show Plain ([AObj.row 2 0 (some 4) [iA 0, iA (IntKind.i64.wrap (3 * i)), iA long, iA (IntKind.i64.wrap (3 * i))], AObj.row 1 0 none [AVal.list 2 [iP 0, iP (IntKind.i64.wrap (3 * i)), iP long, iP (IntKind.i64.wrap (3 * i))]], AObj.row 1 1 none (wsA us)]) from by simp only [Plain, List.all_append, List.all_cons, List.all_nil, plainO, wsA_plain, upL_flatPP, flatP_plain, Nat.zero_mul, List.drop_zero] <;> rfl) (allOb_cons (by exact (e2 h0)) (allOb_cons (show 1 ≤ 1 from by decide) (allOb_cons (show 0 < 1 from by decide) (allOb_cons (by exact (e1 h0)) (allOb_cons (by exact (e0 h0)) (allOb_cons h0 allOb_nil))))))))
    (fun h0 => key [false] ((AExit.exit 0, (([iA N, iA long] ++ jk 5 ++ [iA x, AVal.row 2 0 1 0 (List.length ws), iA i] ++ jk 18 ++ [bA false] ++ jk 77), ([AObj.free, AObj.free, AObj.row 1 0 none (wsA ws)])))) _ (by kernel_rfl) (allOb_cons (show Plain ([AObj.free, AObj.free, AObj.row 1 0 none (wsA ws)]) from by simp only [Plain, List.all_append, List.all_cons, List.all_nil, plainO, wsA_plain, upL_flatPP, flatP_plain, Nat.zero_mul, List.drop_zero] <;> rfl) (allOb_cons h0 allOb_nil)))
def rw3 (L : Lib Try.prog) (N : Int) (x : Int) (long : Int) (i : Int) (k : Int) (ws : List (List P2)) (a : List P2) (b : List P2) (o : Bool) : AExit × List AVal × List AObj :=
  (bif decide (k < i) then (AExit.normal, (([iA N, iA long] ++ jk 5 ++ [iA x, AVal.row 2 0 1 0 (List.length ws), AVal.junk, iA i, iA (IntKind.i64.wrap (k + 1))] ++ jk 94), ([AObj.free, AObj.free, AObj.row 1 0 none (wsA ws)]))) else (AExit.exit 4, (([iA N, iA long] ++ jk 5 ++ [iA x, AVal.row 2 0 1 0 (List.length ws), AVal.junk, iA i, iA k] ++ jk 37 ++ [bA false] ++ jk 56), ([AObj.free, AObj.free, AObj.row 1 0 none (wsA ws)]))))
theorem rw3_eq (L : Lib Try.prog) (N : Int) (x : Int) (long : Int) (i : Int) (k : Int) (ws : List (List P2)) (a : List P2) (b : List P2) (o : Bool) (p1 : (!o) = false) (b0 : (decide (k < i)) = true → (0 : Int) ≤ i ∧ (i : Int) < (↑(List.length ws) : Int)) (e0 : (decide (k < i)) = true → partA (Cfg.P (cf L)) 24 (wsA ws) ((0 + Int.toNat i) * 1) = some (slA a)) (b1 : (decide (k < i)) = true → (0 : Int) ≤ k ∧ (k : Int) < (↑(List.length ws) : Int)) (e1 : (decide (k < i)) = true → partA (Cfg.P (cf L)) 24 (wsA ws) ((0 + Int.toNat k) * 1) = some (slA b)) (e2 : (decide (k < i)) = true → pureCall (cf L) (evalF (cf L) 201) 45 [slP a, slP b] = some (bP o)) : roundC 0 (evalC (cf L) (evalF (cf L) 201) (Option.getD (List.lookup 16 lives) []) 0 0 201 (loopAt Try.f16 2)) (rwV N long x (AVal.row 2 0 1 0 (List.length ws)) i k) (ctP ws) = some (rw3 L N x long i k ws a b o) := by
  have key := fun (bs : List Bool) (r : AExit × List AVal × List AObj) (ob : List Prop) (h : roundP (cf L) (evalF (cf L) 201) (Option.getD (List.lookup 16 lives) []) 0 0 201 [(9999, 0, Hint.idx), (14, 3, Hint.load (slA a)), (14, 7, Hint.load (slA b)), (14, 8, Hint.pcall (bP o))] (loopAt Try.f16 2) (rwV N long x (AVal.row 2 0 1 0 (List.length ws)) i k) (ctP ws) bs [] = .ok (r.1, r.2.1, r.2.2, ob)) (hp : allOb ob) => roundP_ok h hp
  unfold rw3
  exact bif_case (P := fun r => roundC 0 (evalC (cf L) (evalF (cf L) 201) (Option.getD (List.lookup 16 lives) []) 0 0 201 (loopAt Try.f16 2)) (rwV N long x (AVal.row 2 0 1 0 (List.length ws)) i k) (ctP ws) = some r)
    (fun h0 => key [true, false] ((AExit.normal, (([iA N, iA long] ++ jk 5 ++ [iA x, AVal.row 2 0 1 0 (List.length ws), AVal.junk, iA i, iA (IntKind.i64.wrap (k + 1))] ++ jk 94), ([AObj.free, AObj.free, AObj.row 1 0 none (wsA ws)])))) _ (by kernel_rfl) (allOb_cons (show Plain ([AObj.free, AObj.free, AObj.row 1 0 none (wsA ws)] ++ List.replicate 10 AObj.free) from by simp only [Plain, List.all_append, List.all_cons, List.all_nil, plainO, wsA_plain, upL_flatPP, flatP_plain, Nat.zero_mul, List.drop_zero] <;> rfl) (allOb_cons p1 (allOb_cons (by exact (e2 h0)) (allOb_cons (by exact (e1 h0)) (allOb_cons (b1 h0) (allOb_cons (by exact (e0 h0)) (allOb_cons (b0 h0) (allOb_cons h0 allOb_nil)))))))))
    (fun h0 => key [false] ((AExit.exit 4, (([iA N, iA long] ++ jk 5 ++ [iA x, AVal.row 2 0 1 0 (List.length ws), AVal.junk, iA i, iA k] ++ jk 37 ++ [bA false] ++ jk 56), ([AObj.free, AObj.free, AObj.row 1 0 none (wsA ws)])))) _ (by kernel_rfl) (allOb_cons (show Plain ([AObj.free, AObj.free, AObj.row 1 0 none (wsA ws)]) from by simp only [Plain, List.all_append, List.all_cons, List.all_nil, plainO, wsA_plain, upL_flatPP, flatP_plain, Nat.zero_mul, List.drop_zero] <;> rfl) (allOb_cons h0 allOb_nil)))
def rw4 (L : Lib Try.prog) (N : Int) (x : Int) (long : Int) (i : Int) (k : Int) (ws : List (List P2)) (a : List P2) (u : Bool) (e : Bool) : AExit × List AVal × List AObj :=
  (bif decide (i < N) then (bif x == 0 then (bif !e == true then (AExit.ret, ((jk 6 ++ [bA false] ++ jk 99), [])) else (AExit.normal, (([iA N, iA long] ++ jk 5 ++ [iA x, AVal.row 2 0 1 0 (List.length ws), AVal.junk, iA (IntKind.i64.wrap (i + 1))] ++ jk 95), ([AObj.free, AObj.free, AObj.row 1 0 none (wsA ws)])))) else (bif !e == (x == long) then (AExit.ret, ((jk 6 ++ [bA false] ++ jk 99), [])) else (AExit.normal, (([iA N, iA long] ++ jk 5 ++ [iA x, AVal.row 2 0 1 0 (List.length ws), AVal.junk, iA (IntKind.i64.wrap (i + 1))] ++ jk 95), ([AObj.free, AObj.free, AObj.row 1 0 none (wsA ws)]))))) else (AExit.exit 2, (([iA N, iA long] ++ jk 5 ++ [iA x, AVal.row 2 0 1 0 (List.length ws), AVal.junk, iA i] ++ jk 33 ++ [bA false] ++ jk 61), ([AObj.free, AObj.free, AObj.row 1 0 none (wsA ws)]))))
theorem rw4_eq (L : Lib Try.prog) (N : Int) (x : Int) (long : Int) (i : Int) (k : Int) (ws : List (List P2)) (a : List P2) (u : Bool) (e : Bool) (p1 : (u) = false) (e0 : (decide (i < N)) = true → iterC 0 (evalC (cf L) (evalF (cf L) 201) ((lives.lookup 16).getD []) 0 0 201 (loopAt Try.f16 2)) 201 ([iA N, iA long] ++ jk 5 ++ [iA x, AVal.row 2 0 1 0 (List.length ws), AVal.junk, iA i, iA 0] ++ jk 94) ([AObj.free, AObj.free, AObj.row 1 0 none (wsA ws)]) = some (AExit.exit 4, (([iA N, iA long] ++ jk 5 ++ [iA x, AVal.row 2 0 1 0 (List.length ws), AVal.junk, iA i, iA k] ++ jk 37 ++ [bA false] ++ jk 56), ([AObj.free, AObj.free, AObj.row 1 0 none (wsA ws)])))) (b0 : (decide (i < N)) = true → (0 : Int) ≤ i ∧ (i : Int) < (↑(List.length ws) : Int)) (e1 : (decide (i < N)) = true → partA (Cfg.P (cf L)) 24 (wsA ws) ((0 + Int.toNat i) * 1) = some (slA a)) (e2 : (decide (i < N)) = true → pureCall (cf L) (evalF (cf L) 201) 45 [slP a, PVal.list 2 [iP x, iP (IntKind.i64.wrap (IntKind.i64.wrap (3 * i) - 1)), iP x, iP (IntKind.i64.wrap (IntKind.i64.wrap (3 * i) + 1))]] = some (bP u)) (e3 : (decide (i < N)) = true → pureCall (cf L) (evalF (cf L) 201) 45 [slP a, PVal.list 2 [iP x, iP (IntKind.i64.wrap (3 * i)), iP x, iP (IntKind.i64.wrap (IntKind.i64.wrap (3 * i) + 1))]] = some (bP e)) : roundC 0 (evalC (cf L) (evalF (cf L) 201) (Option.getD (List.lookup 16 lives) []) 0 0 201 (loopAt Try.f16 1)) (rwU N long x (AVal.row 2 0 1 0 (List.length ws)) i) (ctP ws) = some (rw4 L N x long i k ws a u e) := by
  have key := fun (bs : List Bool) (r : AExit × List AVal × List AObj) (ob : List Prop) (h : roundP (cf L) (evalF (cf L) 201) (Option.getD (List.lookup 16 lives) []) 0 0 201 [(9999, 0, Hint.idx), (18, 3, Hint.load (slA a)), (18, 5, Hint.pcall (bP u)), (18, 10, Hint.load (slA a)), (18, 12, Hint.pcall (bP e))] (loopAt Try.f16 1) (rwU N long x (AVal.row 2 0 1 0 (List.length ws)) i) (ctP ws) bs [(AExit.exit 4, rwG N long x (AVal.row 2 0 1 0 (List.length ws)) i k, ctP ws)] = .ok (r.1, r.2.1, r.2.2, ob)) (hp : allOb ob) => roundP_ok h hp
  unfold rw4
  exact bif_case (P := fun r => roundC 0 (evalC (cf L) (evalF (cf L) 201) (Option.getD (List.lookup 16 lives) []) 0 0 201 (loopAt Try.f16 1)) (rwU N long x (AVal.row 2 0 1 0 (List.length ws)) i) (ctP ws) = some r)
    (fun h0 => bif_case (P := fun r => roundC 0 (evalC (cf L) (evalF (cf L) 201) (Option.getD (List.lookup 16 lives) []) 0 0 201 (loopAt Try.f16 1)) (rwU N long x (AVal.row 2 0 1 0 (List.length ws)) i) (ctP ws) = some r)
     (fun h1 => bif_case (P := fun r => roundC 0 (evalC (cf L) (evalF (cf L) 201) (Option.getD (List.lookup 16 lives) []) 0 0 201 (loopAt Try.f16 1)) (rwU N long x (AVal.row 2 0 1 0 (List.length ws)) i) (ctP ws) = some r)
      (fun h2 => key [true, false, true, true] ((AExit.ret, ((jk 6 ++ [bA false] ++ jk 99), []))) _ (by kernel_rfl) (allOb_cons (show Plain ([AObj.row 2 0 (some 4) [iA x, iA (IntKind.i64.wrap (IntKind.i64.wrap (3 * i) - 1)), iA x, iA (IntKind.i64.wrap (IntKind.i64.wrap (3 * i) + 1))], AObj.row 2 0 (some 4) [iA x, iA (IntKind.i64.wrap (3 * i)), iA x, iA (IntKind.i64.wrap (IntKind.i64.wrap (3 * i) + 1))], AObj.row 1 0 none (wsA ws)]) from by simp only [Plain, List.all_append, List.all_cons, List.all_nil, plainO, wsA_plain, upL_flatPP, flatP_plain, Nat.zero_mul, List.drop_zero] <;> rfl) (allOb_cons h2 (allOb_cons h1 (allOb_cons (by exact (e3 h0)) (allOb_cons (by exact (e1 h0)) (allOb_cons (b0 h0) (allOb_cons p1 (allOb_cons (by exact (e2 h0)) (allOb_cons (by exact (e1 h0)) (allOb_cons (b0 h0) (allOb_cons (by exact (e0 h0)) (allOb_cons h0 allOb_nil)))))))))))))
      (fun h2 => key [true, false, true, false] ((AExit.normal, (([iA N, iA long] ++ jk 5 ++ [iA x, AVal.row 2 0 1 0 (List.length ws), AVal.junk, iA (IntKind.i64.wrap (i + 1))] ++ jk 95), ([AObj.free, AObj.free, AObj.row 1 0 none (wsA ws)])))) _ (by kernel_rfl) (allOb_cons (show Plain ([AObj.row 2 0 (some 4) [iA x, iA (IntKind.i64.wrap (IntKind.i64.wrap (3 * i) - 1)), iA x, iA (IntKind.i64.wrap (IntKind.i64.wrap (3 * i) + 1))], AObj.row 2 0 (some 4) [iA x, iA (IntKind.i64.wrap (3 * i)), iA x, iA (IntKind.i64.wrap (IntKind.i64.wrap (3 * i) + 1))], AObj.row 1 0 none (wsA ws)]) from by simp only [Plain, List.all_append, List.all_cons, List.all_nil, plainO, wsA_plain, upL_flatPP, flatP_plain, Nat.zero_mul, List.drop_zero] <;> rfl) (allOb_cons h2 (allOb_cons h1 (allOb_cons (by exact (e3 h0)) (allOb_cons (by exact (e1 h0)) (allOb_cons (b0 h0) (allOb_cons p1 (allOb_cons (by exact (e2 h0)) (allOb_cons (by exact (e1 h0)) (allOb_cons (b0 h0) (allOb_cons (by exact (e0 h0)) (allOb_cons h0 allOb_nil))))))))))))))
     (fun h1 => bif_case (P := fun r => roundC 0 (evalC (cf L) (evalF (cf L) 201) (Option.getD (List.lookup 16 lives) []) 0 0 201 (loopAt Try.f16 1)) (rwU N long x (AVal.row 2 0 1 0 (List.length ws)) i) (ctP ws) = some r)
      (fun h2 => key [true, false, false, true] ((AExit.ret, ((jk 6 ++ [bA false] ++ jk 99), []))) _ (by kernel_rfl) (allOb_cons (show Plain ([AObj.row 2 0 (some 4) [iA x, iA (IntKind.i64.wrap (IntKind.i64.wrap (3 * i) - 1)), iA x, iA (IntKind.i64.wrap (IntKind.i64.wrap (3 * i) + 1))], AObj.row 2 0 (some 4) [iA x, iA (IntKind.i64.wrap (3 * i)), iA x, iA (IntKind.i64.wrap (IntKind.i64.wrap (3 * i) + 1))], AObj.row 1 0 none (wsA ws)]) from by simp only [Plain, List.all_append, List.all_cons, List.all_nil, plainO, wsA_plain, upL_flatPP, flatP_plain, Nat.zero_mul, List.drop_zero] <;> rfl) (allOb_cons h2 (allOb_cons h1 (allOb_cons (by exact (e3 h0)) (allOb_cons (by exact (e1 h0)) (allOb_cons (b0 h0) (allOb_cons p1 (allOb_cons (by exact (e2 h0)) (allOb_cons (by exact (e1 h0)) (allOb_cons (b0 h0) (allOb_cons (by exact (e0 h0)) (allOb_cons h0 allOb_nil)))))))))))))
      (fun h2 => key [true, false, false, false] ((AExit.normal, (([iA N, iA long] ++ jk 5 ++ [iA x, AVal.row 2 0 1 0 (List.length ws), AVal.junk, iA (IntKind.i64.wrap (i + 1))] ++ jk 95), ([AObj.free, AObj.free, AObj.row 1 0 none (wsA ws)])))) _ (by kernel_rfl) (allOb_cons (show Plain ([AObj.row 2 0 (some 4) [iA x, iA (IntKind.i64.wrap (IntKind.i64.wrap (3 * i) - 1)), iA x, iA (IntKind.i64.wrap (IntKind.i64.wrap (3 * i) + 1))], AObj.row 2 0 (some 4) [iA x, iA (IntKind.i64.wrap (3 * i)), iA x, iA (IntKind.i64.wrap (IntKind.i64.wrap (3 * i) + 1))], AObj.row 1 0 none (wsA ws)]) from by simp only [Plain, List.all_append, List.all_cons, List.all_nil, plainO, wsA_plain, upL_flatPP, flatP_plain, Nat.zero_mul, List.drop_zero] <;> rfl) (allOb_cons h2 (allOb_cons h1 (allOb_cons (by exact (e3 h0)) (allOb_cons (by exact (e1 h0)) (allOb_cons (b0 h0) (allOb_cons p1 (allOb_cons (by exact (e2 h0)) (allOb_cons (by exact (e1 h0)) (allOb_cons (b0 h0) (allOb_cons (by exact (e0 h0)) (allOb_cons h0 allOb_nil)))))))))))))))
    (fun h0 => key [false] ((AExit.exit 2, (([iA N, iA long] ++ jk 5 ++ [iA x, AVal.row 2 0 1 0 (List.length ws), AVal.junk, iA i] ++ jk 33 ++ [bA false] ++ jk 61), ([AObj.free, AObj.free, AObj.row 1 0 none (wsA ws)])))) _ (by kernel_rfl) (allOb_cons (show Plain ([AObj.free, AObj.free, AObj.row 1 0 none (wsA ws)]) from by simp only [Plain, List.all_append, List.all_cons, List.all_nil, plainO, wsA_plain, upL_flatPP, flatP_plain, Nat.zero_mul, List.drop_zero] <;> rfl) (allOb_cons h0 allOb_nil)))
def rwA (L : Lib Try.prog) (n : Int) (l : Int) (c : Int) (N : Nat) (x : Nat) (long : Nat) (ws : List (List P2)) : PVal :=
  bP true
theorem rwA_calls (L : Lib Try.prog) (n : Int) (l : Int) (c : Int) (N : Nat) (x : Nat) (long : Nat) (ws : List (List P2)) (e0 : binA Try.prog BinOp.add 3 (Operand.tmp 16) (Operand.const (Value.int IntKind.i64 2)) (iA (Int.tmod (IntKind.i64.wrap (↑(BitVec.toNat (BitVec.ofInt 64 n &&& BitVec.ofInt 64 255)) : Int)) 20)) (iA 2) = some (iA (↑N : Int))) (e1 : binA Try.prog BinOp.add 3 (Operand.tmp 19) (Operand.const (Value.int IntKind.i64 1)) (iA (IntKind.i64.wrap (↑(BitVec.toNat (BitVec.ofInt 64 l &&& BitVec.ofInt 64 255)) : Int))) (iA 1) = some (iA (↑long : Int))) (e2 : binA Try.prog BinOp.rem 3 (Operand.tmp 22) (Operand.tmp 24) (iA (IntKind.i64.wrap (↑(BitVec.toNat (BitVec.ofInt 64 c &&& BitVec.ofInt 64 255)) : Int))) (iA (IntKind.i64.wrap ((↑long : Int) + 1))) = some (iA (↑x : Int))) (e3 : iterC 0 (evalC (cf L) (evalF (cf L) 201) ((lives.lookup 16).getD []) 0 0 201 (loopAt Try.f16 0)) 201 ([iA (↑N : Int), iA (↑long : Int)] ++ jk 5 ++ [iA (↑x : Int), AVal.v (Value.slice none 0 0), iA 0] ++ jk 96) [] = some (AExit.exit 0, (([iA (↑N : Int), iA (↑long : Int)] ++ jk 5 ++ [iA (↑x : Int), AVal.row 2 0 1 0 (List.length ws), iA (↑N : Int)] ++ jk 18 ++ [bA false] ++ jk 77), ([AObj.free, AObj.free, AObj.row 1 0 none (wsA ws)])))) (e4 : iterC 0 (evalC (cf L) (evalF (cf L) 201) ((lives.lookup 16).getD []) 0 0 201 (loopAt Try.f16 1)) 201 ([iA (↑N : Int), iA (↑long : Int)] ++ jk 5 ++ [iA (↑x : Int), AVal.row 2 0 1 0 (List.length ws), AVal.junk, iA 0] ++ jk 95) ([AObj.free, AObj.free, AObj.row 1 0 none (wsA ws)]) = some (AExit.exit 2, (([iA (↑N : Int), iA (↑long : Int)] ++ jk 5 ++ [iA (↑x : Int), AVal.row 2 0 1 0 (List.length ws), AVal.junk, iA (↑N : Int)] ++ jk 33 ++ [bA false] ++ jk 61), ([AObj.free, AObj.free, AObj.row 1 0 none (wsA ws)])))) (e5 : pureCall (cf L) (evalF (cf L) 201) 32 [] = some (bP true)) : CallsP Try.prog 16 [iP n, iP l, iP c] (rwA L n l c N x long ws) := by
  have key := fun (bs : List Bool) (r : PVal) (ob : List Prop) (h : callP (cf L) (evalF (cf L) 201) 201 [(9999, 0, Hint.idx), (1, 3, Hint.val (Value.int IntKind.i64 (↑N : Int))), (1, 6, Hint.val (Value.int IntKind.i64 (↑long : Int))), (2, 4, Hint.val (Value.int IntKind.i64 (↑x : Int))), (20, 0, Hint.pcall (bP true))] 16 [iP n, iP l, iP c] bs [(AExit.exit 0, rwE (↑N : Int) (↑long : Int) (↑x : Int) (AVal.row 2 0 1 0 (List.length ws)) (↑N : Int), ctP ws), (AExit.exit 2, rwF (↑N : Int) (↑long : Int) (↑x : Int) (AVal.row 2 0 1 0 (List.length ws)) (↑N : Int), ctP ws)] (none) = .ok (r, ob)) (hp : allOb ob) => callP_ok (cf_ok L) h hp
  unfold rwA
  exact key [] (bP true) _ (by kernel_rfl) (allOb_cons (by exact e5) (allOb_cons (by exact e4) (allOb_cons (by exact e3) (allOb_cons (by exact e2) (allOb_cons (by exact e1) (allOb_cons (by exact e0) allOb_nil))))))
end Go.Proofs.Ytmopbegmdegooaa
/- The law LineRows: what its code answers is true. -/
namespace Go.Proofs.Ytmopbegmdegooaa
open Go Vm M
set_option linter.unusedVariables false
set_option linter.unusedSimpArgs false
def rwW (long : Int) (m : Nat) : List (List P2) := (List.range m).map (rowL long)
theorem rwW_length (long : Int) (m : Nat) : (rwW long m).length = m := by simp [rwW]
theorem rwW_succ (long : Int) (m : Nat) : rwW long (m + 1) = rwW long m ++ [rowL long m] := by simp [rwW, List.range_succ]
theorem rwW_get {long : Int} {m k : Nat} (h : k < m) : (rwW long m)[k]? = some (rowL long k) := by simp [rwW, h]
noncomputable abbrev bodyW0 : List AVal → List AObj → Res := evalC (cf LP7) (evalF (cf LP7) 201) ((lives.lookup 16).getD []) 0 0 201 (loopAt Try.f16 0)
noncomputable abbrev bodyW1 : List AVal → List AObj → Res := evalC (cf LP7) (evalF (cf LP7) 201) ((lives.lookup 16).getD []) 0 0 201 (loopAt Try.f16 1)
noncomputable abbrev bodyW2 : List AVal → List AObj → Res := evalC (cf LP7) (evalF (cf LP7) 201) ((lives.lookup 16).getD []) 0 0 201 (loopAt Try.f16 2)
theorem w3 {k : Nat} (h : k < 100) : IntKind.i64.wrap (3 * (k : Int)) = 3 * (k : Int) := IntWalk.i64_in _ (by omega)
theorem load_ws {ws : List (List P2)} {k : Nat} {w : List P2} (h : ws[k]? = some w) : partA Try.prog 24 (wsA ws) ((0 + (k : Int).toNat) * 1) = some (slA w) := by
  rw [Int.toNat_natCast, Nat.mul_one, Nat.zero_add]
  have e : (wsA ws)[k]? = some (slA w) := by
    unfold wsA
    rw [List.getElem?_map, h]
    rfl
  unfold partA
  exact e
theorem rw_first (N x long : Int) (h : 0 < N) : roundC 0 bodyW0 (rwT N long x (.v (.slice none 0 0)) (0 : Nat)) [] = some (.normal, rwT N long x (.row 2 0 1 0 (rwW long 1).length) (1 : Nat), ctP (rwW long 1)) := by
  have h' := rw1_eq LP7 N x long (0 : Nat)
  rw [show bodyW0 = _ from rfl]
  rw [h']
  unfold rw1
  rw [decide_eq_true (by omega : ((0 : Nat) : Int) < N), wrS (by omega), w3 (by omega)]
  rfl
theorem rw_next (N x long : Int) {k : Nat} (hk : (k : Int) < N) (hN : N ≤ 50) : roundC 0 bodyW0 (rwT N long x (.row 2 0 1 0 (rwW long k).length) k) (ctP (rwW long k)) = some (.normal, rwT N long x (.row 2 0 1 0 (rwW long (k + 1)).length) (k + 1 : Nat), ctP (rwW long (k + 1))) := by
  have h' := rw2_eq LP7 N x long k (rwW long k) (rwW long (k + 1)) (fun _ => ⟨by unfold wsA; rw [List.length_map]; omega, by rw [rwW_length]; omega, by rw [rwW_length]; omega⟩) (fun _ => by rfl) (fun _ => by
    rw [w3 (by omega), rwW_succ]
    unfold wsA
    rw [List.map_append]
    rfl)
  rw [show bodyW0 = _ from rfl]
  rw [h']
  unfold rw2
  rw [decide_eq_true hk, wrS (by omega), rwW_length, rwW_length]
  rfl
theorem rw_loop (N : Nat) (x long : Int) (h1 : 1 ≤ N) (h : N ≤ 50) : At 0 bodyW0 (N - 1 + 1 + 1) (rwT N long x (.v (.slice none 0 0)) (0 : Nat)) [] (some (.exit 0, rwE N long x (.row 2 0 1 0 (rwW long N).length) N, ctP (rwW long N))) := by
  have hend : roundC 0 bodyW0 (rwT N long x (.row 2 0 1 0 (rwW long N).length) N) (ctP (rwW long N)) = some (.exit 0, rwE N long x (.row 2 0 1 0 (rwW long N).length) N, ctP (rwW long N)) := by
    have hf : decide ((N : Int) < (N : Int)) = false := decide_eq_false (by omega)
    have h' := rw2_eq LP7 N x long N (rwW long N) [] (fun h => by rw [hf] at h; cases h) (fun h => by rw [hf] at h; cases h) (fun h => by rw [hf] at h; cases h)
    rw [show bodyW0 = _ from rfl]
    rw [h']
    unfold rw2
    rw [hf]
    rfl
  have hgen : ∀ (d m : Nat), 1 ≤ m → m + d = N → At 0 bodyW0 (d + 1) (rwT N long x (.row 2 0 1 0 (rwW long m).length) m) (ctP (rwW long m)) (some (.exit 0, rwE N long x (.row 2 0 1 0 (rwW long N).length) N, ctP (rwW long N))) := by
    intro d
    induction d with
    | zero =>
      intro m hm1 hm
      obtain rfl : m = N := by omega
      exact At.leave hend (by simp)
    | succ d ih =>
      intro m hm1 hm
      exact At.step (rw_next N x long (by omega) (by omega)) (ih (m + 1) (by omega) (by omega))
  exact At.step (rw_first N x long (by omega)) (hgen (N - 1) 1 (Nat.le_refl 1) (by omega))
theorem ap_g {ev : Ev} {a b : List P2} (h1 : 1 ≤ a.length) (h2 : a.length ≤ 200) (h3 : 1 ≤ b.length) (h4 : b.length ≤ 200) : pureCall (cf LP7) ev 45 [slP a, slP b] = some (bP (apartB a b)) := pure_given (g := gSSo fApart) (by kernel_rfl) (by rw [gSSo_slP]; exact if_pos ⟨⟨h1, h2⟩, h3, h4⟩)
theorem rw_plain (ws : List (List P2)) : (ctP ws).all plainO = true := by
  unfold ctP
  simp only [List.all_cons, List.all_nil, plainO, wsA_plain]
  rfl
theorem rw_in (N : Nat) (x long : Int) (hN : N ≤ 50) (l1 : 1 ≤ long) (l2 : long ≤ 256) (x1 : 0 ≤ x) (x2 : x ≤ long) {i k : Nat} (hi : i < N) (hk : k < i) : roundC 0 bodyW2 (rwV N long x (.row 2 0 1 0 (rwW long N).length) i k) (ctP (rwW long N)) = some (.normal, rwV N long x (.row 2 0 1 0 (rwW long N).length) i (k + 1 : Nat), ctP (rwW long N)) := by
  have h := rw3_eq LP7 N x long i k (rwW long N) (rowL long i) (rowL long k) true rfl (fun _ => ⟨by omega, by rw [rwW_length]; omega⟩) (fun _ => load_ws (rwW_get (by omega))) (fun _ => ⟨by omega, by rw [rwW_length]; omega⟩) (fun _ => load_ws (rwW_get (by omega)))
    (fun _ => by have := @ap_g (evalF (cf LP7) 201) (rowL long i) (rowL long k) (by simp [rowL]) (by simp [rowL]) (by simp [rowL]) (by simp [rowL]); rw [rows_two l1 l2 (by omega) hk] at this; exact this)
  rw [show bodyW2 = _ from rfl]
  rw [h]
  unfold rw3
  rw [decide_eq_true (by omega : (k : Int) < (i : Int)), wrS (by omega)]
  rfl
theorem rw_inLoop (N : Nat) (x long : Int) (hN : N ≤ 50) (l1 : 1 ≤ long) (l2 : long ≤ 256) (x1 : 0 ≤ x) (x2 : x ≤ long) {i : Nat} (hi : i < N) : At 0 bodyW2 (i + 1) (rwV N long x (.row 2 0 1 0 (rwW long N).length) i (0 : Nat)) (ctP (rwW long N)) (some (.exit 4, rwG N long x (.row 2 0 1 0 (rwW long N).length) i i, ctP (rwW long N))) := by
  refine At.upto (base := 0) (body := bodyW2) (T := fun k => rwV N long x (.row 2 0 1 0 (rwW long N).length) i k) (S := fun _ => ctP (rwW long N)) (n := i) (m := 1) (fun k hk => rw_in N x long hN l1 l2 x1 x2 hi hk) (At.leave ?_ (by simp)) i 0 (by omega)
  have hf : decide ((i : Int) < (i : Int)) = false := decide_eq_false (by omega)
  have h := rw3_eq LP7 N x long i i (rwW long N) [] [] true rfl (fun h => by rw [hf] at h; cases h) (fun h => by rw [hf] at h; cases h) (fun h => by rw [hf] at h; cases h) (fun h => by rw [hf] at h; cases h) (fun h => by rw [hf] at h; cases h)
  rw [show bodyW2 = _ from rfl]
  rw [h]
  unfold rw3
  rw [hf]
  rfl
theorem rw_out (N : Nat) (x long : Int) (hN : N ≤ 50) (l1 : 1 ≤ long) (l2 : long ≤ 256) (x1 : 0 ≤ x) (x2 : x ≤ long) {i : Nat} (hi : i < N) : roundC 0 bodyW1 (rwU N long x (.row 2 0 1 0 (rwW long N).length) i) (ctP (rwW long N)) = some (.normal, rwU N long x (.row 2 0 1 0 (rwW long N).length) (i + 1 : Nat), ctP (rwW long N)) := by
  have hm : IntKind.i64.wrap (3 * (i : Int) - 1) = 3 * (i : Int) - 1 := IntWalk.i64_in _ (by omega)
  have hp : IntKind.i64.wrap (3 * (i : Int) + 1) = 3 * (i : Int) + 1 := IntWalk.i64_in _ (by omega)
  have h := rw4_eq LP7 N x long i i (rwW long N) (rowL long i) false (decide (x = 0) || decide (x = long)) rfl
    (fun _ => At.use (at_more (rw_inLoop N x long hN l1 l2 x1 x2 hi) (m := 201) (by omega)) (rw_plain _) (by kernel_rfl))
    (fun _ => ⟨by omega, by rw [rwW_length]; omega⟩) (fun _ => load_ws (rwW_get (by omega)))
    (fun _ => by
      rw [w3 (by omega), hm, hp]
      have := @ap_g (evalF (cf LP7) 201) (rowL long i) (upL2 x i) (by simp [rowL]) (by simp [rowL]) (by simp [upL2]) (by simp [upL2])
      rw [rows_up l1 l2 x1 x2 (by omega)] at this
      exact this)
    (fun _ => by
      rw [w3 (by omega), hp]
      have := @ap_g (evalF (cf LP7) 201) (rowL long i) (enL x i) (by simp [rowL]) (by simp [rowL]) (by simp [enL]) (by simp [enL])
      rw [rows_en l1 l2 x1 x2 (by omega)] at this
      exact this)
  rw [show bodyW1 = _ from rfl]
  rw [h]
  unfold rw4
  rw [decide_eq_true (by omega : (i : Int) < (N : Int)), wrS (by omega)]
  by_cases hx : x = 0
  · rw [decide_eq_true hx, beq_iff_eq.2 hx]
    rfl
  · rw [decide_eq_false hx, beq_eq_false_iff_ne.2 hx]
    by_cases hl : x = long
    · rw [decide_eq_true hl, beq_iff_eq.2 hl]
      rfl
    · rw [decide_eq_false hl, beq_eq_false_iff_ne.2 hl]
      rfl
theorem rw_outLoop (N : Nat) (x long : Int) (hN : N ≤ 50) (l1 : 1 ≤ long) (l2 : long ≤ 256) (x1 : 0 ≤ x) (x2 : x ≤ long) : At 0 bodyW1 (N + 1) (rwU N long x (.row 2 0 1 0 (rwW long N).length) (0 : Nat)) (ctP (rwW long N)) (some (.exit 2, rwF N long x (.row 2 0 1 0 (rwW long N).length) N, ctP (rwW long N))) := by
  refine At.upto (base := 0) (body := bodyW1) (T := fun k => rwU N long x (.row 2 0 1 0 (rwW long N).length) k) (S := fun _ => ctP (rwW long N)) (n := N) (m := 1) (fun k hk => rw_out N x long hN l1 l2 x1 x2 hk) (At.leave ?_ (by simp)) N 0 (by omega)
  have hf : decide ((N : Int) < (N : Int)) = false := decide_eq_false (by omega)
  have h := rw4_eq LP7 N x long N 0 (rwW long N) [] false true rfl (fun h => by rw [hf] at h; cases h) (fun h => by rw [hf] at h; cases h) (fun h => by rw [hf] at h; cases h) (fun h => by rw [hf] at h; cases h) (fun h => by rw [hf] at h; cases h)
  rw [show bodyW1 = _ from rfl]
  rw [h]
  unfold rw4
  rw [hf]
  rfl
theorem lineRows_calls (nv lv av : Int) : CallsP Try.prog 16 [iP nv, iP lv, iP av] (bP true) := by
  obtain ⟨t, ht, hte⟩ := st_rem nv 20 (by omega)
  have hl := and255_bound lv
  obtain ⟨s, hs⟩ : ∃ s : Nat, and255 lv = (s : Int) := ⟨(and255 lv).toNat, by omega⟩
  obtain ⟨x, hx, hxe⟩ := st_rem av (s + 1 + 1) (by omega)
  have hN : t + 2 ≤ 50 := by omega
  have l0 := At.use (at_more (rw_loop (t + 2) x ((s + 1 : Nat) : Int) (by omega) hN) (m := 201) (by omega)) (by rfl) (T := rwT ((t + 2 : Nat) : Int) ((s + 1 : Nat) : Int) x (.v (.slice none 0 0)) (0 : Nat)) (S := []) (by kernel_rfl)
  have l1 := At.use (at_more (rw_outLoop (t + 2) x ((s + 1 : Nat) : Int) hN (by omega) (by omega) (by omega) (by omega)) (m := 201) (by omega)) (rw_plain _) (T := rwU ((t + 2 : Nat) : Int) ((s + 1 : Nat) : Int) x (.row 2 0 1 0 (rwW ((s + 1 : Nat) : Int) (t + 2)).length) (0 : Nat)) (S := ctP (rwW ((s + 1 : Nat) : Int) (t + 2))) (by kernel_rfl)
  refine rwA_calls LP7 nv lv av (t + 2) x (s + 1) (rwW ((s + 1 : Nat) : Int) (t + 2)) ?_ ?_ ?_ l0 l1 (pure_given (g := fun ps => match ps with | [] => some (bP true) | _ => none) (by kernel_rfl) rfl)
  · have := binA_add (Int.tmod (and255 nv) 20) 2 (Operand.tmp 16) (Operand.const (Value.int IntKind.i64 2))
    have e : Int.tmod (and255 nv) 20 = (t : Int) := hte
    rw [e, IntWalk.i64_in _ (by omega)] at this
    show binA _ _ _ _ _ (iA (Int.tmod (and255 nv) 20)) (iA 2) = _
    rw [e, this, show ((t + 2 : Nat) : Int) = (t : Int) + 2 by omega]
  · have := binA_add (and255 lv) 1 (Operand.tmp 19) (Operand.const (Value.int IntKind.i64 1))
    rw [hs, IntWalk.i64_in _ (by omega)] at this
    show binA _ _ _ _ _ (iA (and255 lv)) (iA 1) = _
    rw [hs, this, show ((s + 1 : Nat) : Int) = (s : Int) + 1 by omega]
  · have := binA_rem (and255 av) ((s + 1 + 1 : Nat) : Int) (Operand.tmp 22) (Operand.tmp 24) (by omega)
    rw [hxe] at this
    rw [wrS (by omega)]
    exact this
end Go.Proofs.Ytmopbegmdegooaa
/- LineRows: the row. Proved: whatever the input, the law answers true and leaves its arguments as they were. -/
namespace Go.Proofs.Ytmopbegmdegooaa
open Go Vm M Go.ChangeShapes Go.WideShapes Go.ChangeAt Go.RowKit
set_option linter.unusedVariables false
set_option maxRecDepth 100000 in
theorem lineRows_lifted (os : Os) (started : os.Started) (H : Type) (enc : TypeId × Value → H) :
    ReturnsInHanded {} Try.checked os 16 .any (Rows.lineRowsSpec.pre6 enc Try.prog Try.f16 Rows.lineRowsRow.domain false) (Rows.lineRowsSpec.post enc Try.prog Try.f16 false true false false) := by
  refine returnsInHanded_of_change_sized (C := Try.checked) own started (by kernel_rfl) Try.func16
    (ChangeSpec.witness6 (enc := enc) (C := Try.checked) false ⟨#[], #[.int .i64 0, .int .i64 0, .int .i64 0], []⟩ 8 (by kernel_rfl) (by kernel_rfl) (by kernel_rfl) (by kernel_rfl)) ?_
  intro W base args ds gs before hval0 hW hcnd hsz0 _
  have hval : ∀ (j : Nat) t v, Try.f16.params[j]? = some t → args[j]? = some v → Value.okWide Try.prog W .any base t v := hval0
  have hW' := hW
  obtain ⟨p, q, hA0, hV, rfl, hfz, hnd⟩ := hW
  have hA : DataW.TrodAll enc Try.prog W 0 (fun _ => true) true Try.f16.params.toList args.toList ds p := hA0
  rw [Try.params16] at hA hval
  obtain ⟨v0, vs0, d0, ds0, p0, q0, hargs, rfl, rfl, h0, r0⟩ := trodAll_cons hA
  obtain ⟨v1, vs1, d1, ds1, p1, q1, rfl, rfl, rfl, h1, r1⟩ := trodAll_cons r0
  obtain ⟨v2, vs2, d2, ds2, p2, q2, rfl, rfl, rfl, h2, r2⟩ := trodAll_cons r1
  obtain ⟨rfl, rfl, rfl⟩ := trodAll_nil r2
  obtain rfl : args = #[v0, v1, v2] := by cases args; simp_all
  obtain ⟨rfl, rfl⟩ := trodVars_none hV
  have lt : ∀ {t : TypeId} {v : Value} {d : DataW H} {ps : List MemPlace}, DataW.Trod enc Try.prog W 0 (fun _ => true) true t v d ps → ∀ x ∈ ps, x.block < W.heap.size := fun h => by obtain ⟨m, hm⟩ := h; exact DataW.trod_lt m _ _ _ hm
  obtain ⟨a0, rfl, rfl, rfl, w0⟩ := open_int Try.underlying3 (hval 0 3 v0 rfl rfl) h0
  obtain ⟨a1, rfl, rfl, rfl, w1⟩ := open_int Try.underlying3 (hval 1 3 v1 rfl rfl) h1
  obtain ⟨a2, rfl, rfl, rfl, w2⟩ := open_int Try.underlying3 (hval 2 3 v2 rfl rfl) h2
  refine (CallsP.calls (lineRows_calls a0 a1 a2) (w := W) (vs := #[.int .i64 a0, .int .i64 a1, .int .i64 a2]) rfl (Rps_cons rfl (Rp_int _ a0) (Rps_cons rfl (Rp_int _ a1) (Rps_cons rfl (Rp_int _ a2) Rps_nil))) (u := .bool true) (fun L x h => Rp_bool h)).mono fun e W' ⟨he, bel⟩ => ?_
  subst he
  exact ⟨_, rfl, _, _, _, [], _, [], hW', trodAll_mk1 (shut_bool Try.underlying4 _), (trodAll_cons_mk (shut_int Try.underlying3 w0) (trodAll_cons_mk (shut_int Try.underlying3 w1) (trodAll_cons_mk (shut_int Try.underlying3 w2) trodAll_mk0))), rfl, bel.frame _, fun h => by cases h⟩
theorem lineRows_over : Rows.lineRowsRow.holds Try.pinned (OpenSpec.ofChange Rows.lineRowsSpec) :=
  OpenClaim.holds_of_wide 16 Try.f16 rfl rfl rfl rfl rfl rfl rfl ⟨rfl, rfl, rfl, rfl, rfl⟩ rfl rfl rfl rfl rfl (by kernel_rfl) Try.func16 (by kernel_rfl)
    (of_decide_eq_true (by kernel_rfl)) (by unfold Func.isWrapper; first | (rw [if_pos (by decide +kernel)]; kernel_rfl) | (rw [if_neg (by decide +kernel)]; exact ⟨rfl, rfl⟩))
    (fun os started H enc _ => lineRows_lifted os started H enc)
theorem lineRows_holds : Rows.LineRowsSaid := lineRows_over
#print axioms lineRows_holds
end Go.Proofs.Ytmopbegmdegooaa
