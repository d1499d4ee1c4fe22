/- LineOk: the row. Proved: whatever the input, the law answers true and leaves its arguments as they were. -/
import Derived.Test.YtmopbegmdegooaaBnLine8
import Derived.Deep.SlicePairs
import Derived.Test.YtmopbegmdegooaaRows
import Derived.ProofKit
import Derived.OpenShut
import Derived.ChangeOld
import Derived.SizedLaws
import Derived.Carry
import Derived.Lib.SmallJoins
import Derived.RowKit3
import Derived.WideLaws
import Derived.Laws.Rows
/- Arguments that are points, numbers, and slices of points: what the form hands a law, as the abstract machine's values. -/
namespace Go.Proofs.Ytmopbegmdegooaa
open Go Vm M Go.Deep Go.ChangeShapes Go.WideShapes Go.ChangeAt Go.RowKit
set_option linter.unusedVariables false
theorem own : ownKnob Try.prog.godebug = none := by kernel_rfl
theorem laidOut : laidOutB Try.prog = true := by kernel_rfl
section
variable {H : Type} {enc : TypeId × Value → H} {w : World} {base : Nat} {spare : Nat → Bool} {held : Bool}
theorem open_pt {r : Reach} {b0 : Nat} {v : Value} {d : DataW H} {ps : List MemPlace} (hval : Value.okWide Try.prog w r b0 23 v) (h : DataW.Trod enc Try.prog w base spare held 23 v d ps) : ∃ p : P2, v = ptV p := by
  obtain ⟨v0, v1, y0, y1, n, rfl, _, _, h0, h1⟩ := Go.Joins.open_agg2 Try.underlying23 (by kernel_rfl) (by kernel_rfl) hval h
  obtain ⟨x, hx, _, _⟩ := DataW.trod_int Try.underlying2 h0
  obtain ⟨y, hy, _, _⟩ := DataW.trod_int Try.underlying2 h1
  cases hx
  cases hy
  exact ⟨(x, y), rfl⟩
end
/-- A call by values, from no memory of the call's own. -/
theorem CallsP.calls {f : FuncId} {ps : List PVal} {r : PVal} (h : CallsP Try.prog f ps r) {vs : Array Value} {w : World} (hs : vs.size = ps.length) (hr : Rps (fun _ _ => False) ps (fun i y => vs[i]? = some y) 0) {u : Value} (hu : ∀ L x, Rp L r x → x = u) :
    Calls Try.prog f vs w fun e w' => e = .returned u ∧ Below w.heap.size w w' := by
  refine (h (fun _ _ => False) w vs (fun _ _ h => h.elim) hs (Rps_mono (fun _ _ h => h.elim) _ _ _ _ (fun _ _ h => h) hr)).mono ?_
  rintro e w' ⟨v, ok', rfl, hb, _, _, _, hv⟩
  exact ⟨by rw [hu _ _ hv], hb⟩
theorem Rp_pt (L : Addr → Value → Prop) (p : P2) : Rp L (ptP p) (ptV p) := by
  simp only [ptP, ptV, Rp]
  exact ⟨_, rfl, rfl, by simp [Rps, Rp]⟩
theorem Rp_int (L : Addr → Value → Prop) (n : Int) : Rp L (iP n) (.int .i64 n) := by simp [iP, Rp]
theorem Rp_bool {L : Addr → Value → Prop} {b : Bool} {x : Value} (h : Rp L (bP b) x) : x = .bool b := by simpa [bP, Rp] using h
theorem Rps_cons {L : Addr → Value → Prop} {x : PVal} {xs : List PVal} {f : Nat → Value → Prop} {i : Nat} {y : Value} (hy : f i y) (hr : Rp L x y) (h : Rps L xs f (i + 1)) : Rps L (x :: xs) f i := by
  simp only [Rps]
  exact ⟨⟨y, hy, hr⟩, h⟩
theorem Rps_nil {L : Addr → Value → Prop} {f : Nat → Value → Prop} {i : Nat} : Rps L [] f i := by simp [Rps]
theorem list_of {len : Nat} {R : Nat → P2 → Prop} (h : ∀ i, i < len → ∃ p, R i p) : ∃ ps : List P2, ps.length = len ∧ ∀ i p, ps[i]? = some p → R i p := by
  induction len with
  | zero => exact ⟨[], rfl, fun i p hp => by simp at hp⟩
  | succ n ih =>
    obtain ⟨ps, hl, hR⟩ := ih fun i hi => h i (by omega)
    obtain ⟨p, hp⟩ := h n (by omega)
    refine ⟨ps ++ [p], by simp [hl], fun i q hq => ?_⟩
    by_cases hi : i < n
    · rw [List.getElem?_append_left (by omega)] at hq
      exact hR i q hq
    · have := (List.getElem?_eq_some_iff.1 hq).1
      simp only [List.length_append, List.length_singleton] at this
      have e : i = n := by omega
      subst e
      rw [List.getElem?_append_right (by omega), hl, Nat.sub_self] at hq
      simp only [List.getElem?_cons_zero, Option.some.injEq] at hq
      exact hq ▸ hp
theorem rps_flat {L : Addr → Value → Prop} {A : Option Addr} : ∀ (ps : List P2) (k : Nat), (∀ i p, ps[i]? = some p → ∃ a, A = some a ∧ L (a.add (k + i * 2)) (.int .i64 p.1) ∧ L (a.add (k + i * 2 + 1)) (.int .i64 p.2)) → Rps L (flatPP ps) (fun i y => ∃ a, A = some a ∧ L (a.add i) y) k
  | [], k, _ => by simp [flatPP, Rps]
  | p :: ps, k, h => by
    obtain ⟨a, ha, h1, h2⟩ := h 0 p rfl
    simp only [flatPP, Rps, Rp]
    refine ⟨⟨_, ⟨a, ha, by simpa using h1⟩, rfl⟩, ⟨_, ⟨a, ha, by simpa using h2⟩, rfl⟩, rps_flat ps (k + 1 + 1) fun i q hq => ?_⟩
    obtain ⟨b, hb, h3, h4⟩ := h (i + 1) q (by simpa using hq)
    refine ⟨b, hb, ?_, ?_⟩
    · rw [show k + 1 + 1 + i * 2 = k + (i + 1) * 2 by omega]; exact h3
    · rw [show k + 1 + 1 + i * 2 + 1 = k + (i + 1) * 2 + 1 by omega]; exact h4
theorem cell_lt {w : World} {a : Addr} {v : Value} (h : w.cell? a = some v) : a.block < w.heap.size := by
  unfold World.cell? at h
  split at h
  · rename_i hb
    exact (Array.getElem?_eq_some_iff.1 hb).1
  · cases h
section
variable {H : Type} {enc : TypeId × Value → H} {W : World}
theorem open_sl {b0 : Nat} {v : Value} {d : DataW H} {pl : List MemPlace} (hval : Value.okWide Try.prog W .any b0 24 v) (h : DataW.Trod enc Try.prog W 0 (fun _ => true) true 24 v d pl) : ∃ ps : List P2, Rp (sees (fun b _ => b < W.heap.size) W) (slP ps) v := by
  obtain ⟨A, len, cap, rfl⟩ := okWide_slice Try.underlying24 hval
  obtain ⟨fuel, hf⟩ := h
  rcases open_slice_pairs Try.underlying24 Try.underlying23 (by kernel_rfl) rfl rfl (by kernel_rfl) (by kernel_rfl) hf with ⟨hcs, _⟩ | ⟨a, len', cap', m, n, V0, V1, D0, D1, P0, P1, hcs, _, hl, _, hm, _, hall⟩
  · simp [Value.cells] at hcs
    obtain ⟨rfl, rfl, rfl⟩ := hcs
    refine ⟨[], ?_⟩
    simp only [slP, flatPP, Rp, Rps]
    exact ⟨none, 0, rfl, Nat.le_refl _, trivial⟩
  · simp [Value.cells] at hcs
    obtain ⟨rfl, rfl, rfl⟩ := hcs
    simp only [if_true] at hm
    subst hm
    obtain ⟨ps, hps, hR⟩ := list_of (len := len) (R := fun i p => W.cell? (a.add (i * 2)) = some (.int .i64 p.1) ∧ W.cell? (a.add (i * 2 + 1)) = some (.int .i64 p.2)) fun i hi => by
      obtain ⟨c0, c1, t0, t1⟩ := hall i (by omega)
      obtain ⟨x, hx, _, _⟩ := DataW.trod_int Try.underlying2 t0
      obtain ⟨y, hy, _, _⟩ := DataW.trod_int Try.underlying2 t1
      simp only [List.cons.injEq, and_true] at hx hy
      exact ⟨(x, y), by rw [c0, hx], by rw [c1, hy]⟩
    refine ⟨ps, ?_⟩
    simp only [slP, Rp]
    refine ⟨some a, m, by rw [hps], by rw [hps]; exact hl, rps_flat ps 0 fun i p hp => ?_⟩
    obtain ⟨h0, h1⟩ := hR i p hp
    rw [Nat.zero_add]
    exact ⟨a, rfl, ⟨cell_lt h0, h0⟩, cell_lt h1, h1⟩
end
/-- A call by values, of memory that lay there. -/
theorem callsS {f : FuncId} {ps : List PVal} {r : PVal} (h : CallsP Try.prog f ps r) {vs : Array Value} {w : World} (hs : vs.size = ps.length) (hr : Rps (sees (fun b _ => b < w.heap.size) w) ps (fun i y => vs[i]? = some y) 0) {u : Value} (hu : ∀ L x, Rp L r x → x = u) :
    Calls Try.prog f vs w fun e w' => e = .returned u ∧ Below w.heap.size w w' := by
  refine (h (fun b _ => b < w.heap.size) w vs (fun _ _ h => h) hs hr).mono ?_
  rintro e w' ⟨v, ok', rfl, hb, _, _, _, hv⟩
  exact ⟨by rw [hu _ _ hv], hb⟩
end Go.Proofs.Ytmopbegmdegooaa
/- LineOk: its path. -/
namespace Go.Proofs.Ytmopbegmdegooaa
open Go Vm M
set_option linter.unusedVariables false
set_option linter.unusedSimpArgs false
def lkA (L : Lib Try.prog) (ps : List P2) (xs : List P2) (o : Bool) (c : Bool) (s : Bool) : PVal :=
  (bif decide ((↑(List.length ps) : Int) > 70) then PVal.v (Value.bool true) else PVal.v (Value.bool true))
theorem lkA_calls (L : Lib Try.prog) (ps : List P2) (xs : List P2) (o : Bool) (c : Bool) (s : Bool) (p3 : (s == s) = true) (p2 : (c == c) = true) (p1 : (o == o) = true) (e0 : pureCall (cf L) (evalF (cf L) 201) 32 [] = some (PVal.v (Value.bool true))) (e1 : (decide ((↑(List.length ps) : Int) > 70)) = false → pureCall (cf L) (evalF (cf L) 201) 29 [slP ps] = some (slP xs)) (e2 : (decide ((↑(List.length ps) : Int) > 70)) = false → pureCall (cf L) (evalF (cf L) 201) 33 [slP ps] = some (PVal.v (Value.bool o))) (e3 : (decide ((↑(List.length ps) : Int) > 70)) = false → pureCall (cf L) (evalF (cf L) 201) 24 [slP ps] = some (PVal.v (Value.bool o))) (e4 : (decide ((↑(List.length ps) : Int) > 70)) = false → pureCall (cf L) (evalF (cf L) 201) 34 [slP xs] = some (PVal.v (Value.bool c))) (e5 : (decide ((↑(List.length ps) : Int) > 70)) = false → pureCall (cf L) (evalF (cf L) 201) 35 [slP xs] = some (PVal.v (Value.bool c))) (e6 : (decide ((↑(List.length ps) : Int) > 70)) = false → pureCall (cf L) (evalF (cf L) 201) 36 [slP xs] = some (PVal.v (Value.bool s))) (e7 : (decide ((↑(List.length ps) : Int) > 70)) = false → pureCall (cf L) (evalF (cf L) 201) 37 [slP xs] = some (PVal.v (Value.bool s))) : CallsP Try.prog 11 [slP ps] (lkA L ps xs o c s) := by
  have key := fun (bs : List Bool) (r : PVal) (ob : List Prop) (h : callP (cf L) (evalF (cf L) 201) 201 [(2, 0, Hint.pcall (bP true)), (3, 1, Hint.pcall (slP xs)), (4, 1, Hint.pcall (bP o)), (4, 3, Hint.pcall (bP o)), (4, 7, Hint.pcall (bP c)), (4, 9, Hint.pcall (bP c)), (4, 14, Hint.pcall (bP s)), (4, 16, Hint.pcall (bP s)), (4, 20, Hint.pcall (bP true))] 11 [slP ps] bs [] (none) = .ok (r, ob)) (hp : allOb ob) => callP_ok (cf_ok L) h hp
  unfold lkA
  exact bif_case (P := fun r => CallsP Try.prog 11 [slP ps] r)
    (fun h0 => key [true] (PVal.v (Value.bool true)) _ (by kernel_rfl) (allOb_cons (by exact e0) (allOb_cons h0 allOb_nil)))
    (fun h0 => key [false, true, true, true] (PVal.v (Value.bool true)) _ (by kernel_rfl) (allOb_cons (by exact e0) (allOb_cons p3 (allOb_cons (by exact (e7 h0)) (allOb_cons (by exact (e6 h0)) (allOb_cons p2 (allOb_cons (by exact (e5 h0)) (allOb_cons (by exact (e4 h0)) (allOb_cons p1 (allOb_cons (by exact (e3 h0)) (allOb_cons (by exact (e2 h0)) (allOb_cons (by exact (e1 h0)) (allOb_cons h0 allOb_nil)))))))))))))
end Go.Proofs.Ytmopbegmdegooaa
/- The law LineOk: what its code answers is true. -/
namespace Go.Proofs.Ytmopbegmdegooaa
open Go Vm M
set_option linter.unusedVariables false
set_option linter.unusedSimpArgs false
theorem nrL_nrL (ps : List P2) : nrL (nrL ps) = nrL ps := by
  unfold nrL
  rw [List.map_map]
  exact List.map_congr_left fun p _ => nearP_nearP p
section
variable {ev : Ev} {ps : List P2}
theorem r_ok : pureCall (cf LR4) ev 33 [slP ps] = some (bP (okB ps)) := pure_given (g := gSo fun ps => some (bP (okB ps))) (by kernel_rfl) (by rw [gSo_slP])
theorem r_ok12 : pureCall (cf LR4) ev 24 [slP ps] = some (bP (okB ps)) := pure_given (g := gSo fun ps => some (bP (okB ps))) (by kernel_rfl) (by rw [gSo_slP])
theorem r_closed (h : ps.length ≤ 200) : pureCall (cf LR4) ev 34 [slP ps] = some (bP (closedB ps)) := pure_given (g := gSo fun ps => lim ps (bP (closedB ps))) (by kernel_rfl) (by rw [gSo_slP, lim_of h])
theorem r_closed12 (h : ps.length ≤ 200) : pureCall (cf LR4) ev 35 [slP ps] = some (bP (closedB (nrL ps))) := pure_given (g := gSo fun ps => lim ps (bP (closedB (nrL ps)))) (by kernel_rfl) (by rw [gSo_slP, lim_of h])
theorem r_simple (h : ps.length ≤ 200) : pureCall (cf LR4) ev 36 [slP ps] = some (bP (simpleB ps)) := pure_given (g := gSo fun ps => lim ps (bP (simpleB ps))) (by kernel_rfl) (by rw [gSo_slP, lim_of h])
theorem r_simple12 (h : ps.length ≤ 200) : pureCall (cf LR4) ev 37 [slP ps] = some (bP (simpleB (nrL ps))) := pure_given (g := gSo fun ps => lim ps (bP (simpleB (nrL ps)))) (by kernel_rfl) (by rw [gSo_slP, lim_of h])
theorem r_awake : pureCall (cf LR4) ev 32 [] = some (bP true) := pure_given (g := fun ps => match ps with | [] => some (bP true) | _ => none) (by kernel_rfl) rfl
theorem r_grid (h : ps.length ≤ 200) : pureCall (cf LR4) ev 29 [slP ps] = some (slP (nrL ps)) := pure_given (g := gSo fGrid) (by kernel_rfl) (by rw [gSo_slP]; unfold fGrid; rw [if_pos h]; rfl)
end
theorem beq_selfB (b : Bool) : (b == b) = true := by cases b <;> rfl
theorem lineOk_calls (ps : List P2) : CallsP Try.prog 11 [slP ps] (bP true) := by
  have hs : ∀ {P : Prop}, (ps.length ≤ 70 → P) → decide ((ps.length : Int) > 70) = false → P := fun f h => f (by have := of_decide_eq_false h; omega)
  have hl := nrL_length ps
  have key := lkA_calls LR4 ps (nrL ps) (okB ps) (closedB (nrL ps)) (simpleB (nrL ps)) (beq_selfB _) (beq_selfB _) (beq_selfB _) r_awake (hs fun h => r_grid (by omega)) (hs fun h => r_ok) (hs fun h => r_ok12) (hs fun h => r_closed (by omega))
    (hs fun h => by have := @r_closed12 (evalF (cf LR4) 201) (nrL ps) (by omega); rw [nrL_nrL] at this; exact this) (hs fun h => r_simple (by omega))
    (hs fun h => by have := @r_simple12 (evalF (cf LR4) 201) (nrL ps) (by omega); rw [nrL_nrL] at this; exact this)
  have e : lkA LR4 ps (nrL ps) (okB ps) (closedB (nrL ps)) (simpleB (nrL ps)) = bP true := by
    unfold lkA
    cases decide ((ps.length : Int) > 70) <;> rfl
  rw [e] at key
  exact key
end Go.Proofs.Ytmopbegmdegooaa
/- LineOk: the row. Proved: whatever the input, the law answers true and leaves its arguments as they were. -/
namespace Go.Proofs.Ytmopbegmdegooaa
open Go Vm M Go.ChangeShapes Go.WideShapes Go.ChangeAt Go.RowKit
set_option linter.unusedVariables false
set_option maxRecDepth 100000 in
theorem lineOk_lifted (os : Os) (started : os.Started) (H : Type) (enc : TypeId × Value → H) :
    ReturnsInHanded {} Try.checked os 11 .any (Rows.lineOkSpec.pre6 enc Try.prog Try.f11 Rows.lineOkRow.domain false) (Rows.lineOkSpec.post enc Try.prog Try.f11 false true false false) := by
  refine returnsInHanded_of_change_sized (C := Try.checked) own started (by kernel_rfl) Try.func11
    (ChangeSpec.witness6 (enc := enc) (C := Try.checked) false ⟨#[], #[.slice none 0 0], []⟩ 8 (by kernel_rfl) (by kernel_rfl) (by kernel_rfl) (by kernel_rfl)) ?_
  intro W base args ds gs before hval0 hW hcnd hsz0 _
  have hval : ∀ (j : Nat) t v, Try.f11.params[j]? = some t → args[j]? = some v → Value.okWide Try.prog W .any base t v := hval0
  have hW' := hW
  obtain ⟨p, q, hA0, hV, rfl, hfz, hnd⟩ := hW
  have hA : DataW.TrodAll enc Try.prog W 0 (fun _ => true) true Try.f11.params.toList args.toList ds p := hA0
  rw [Try.params11] at hA hval
  obtain ⟨v0, vs0, d0, ds0, p0, q0, hargs, rfl, rfl, h0, r0⟩ := trodAll_cons hA
  obtain ⟨rfl, rfl, rfl⟩ := trodAll_nil r0
  obtain rfl : args = #[v0] := by cases args; simp_all
  obtain ⟨rfl, rfl⟩ := trodVars_none hV
  have lt : ∀ {t : TypeId} {v : Value} {d : DataW H} {ps : List MemPlace}, DataW.Trod enc Try.prog W 0 (fun _ => true) true t v d ps → ∀ x ∈ ps, x.block < W.heap.size := fun h => by obtain ⟨m, hm⟩ := h; exact DataW.trod_lt m _ _ _ hm
  obtain ⟨a0, hr0⟩ := open_sl (hval 0 24 v0 rfl rfl) h0
  refine (callsS (lineOk_calls a0) (w := W) (vs := #[v0]) rfl (Rps_cons rfl hr0 Rps_nil) (u := .bool true) (fun L x h => Rp_bool h)).mono fun e W' ⟨he, bel⟩ => ?_
  subst he
  exact ⟨_, rfl, _, _, _, [], _, [], hW', trodAll_mk1 (shut_bool Try.underlying4 _), (trodAll_cons_mk (Below.trod laidOut (by kernel_rfl) (of_decide_eq_true (by kernel_rfl)) h0 bel (lt h0)) trodAll_mk0), rfl, bel.frame _, fun h => by cases h⟩
theorem lineOk_over : Rows.lineOkRow.holds Try.pinned (OpenSpec.ofChange Rows.lineOkSpec) :=
  OpenClaim.holds_of_wide 11 Try.f11 rfl rfl rfl rfl rfl rfl rfl ⟨rfl, rfl, rfl, rfl, rfl⟩ rfl rfl rfl rfl rfl (by kernel_rfl) Try.func11 (by kernel_rfl)
    (of_decide_eq_true (by kernel_rfl)) (by unfold Func.isWrapper; first | (rw [if_pos (by decide +kernel)]; kernel_rfl) | (rw [if_neg (by decide +kernel)]; exact ⟨rfl, rfl⟩))
    (fun os started H enc _ => lineOk_lifted os started H enc)
theorem lineOk_holds : Rows.LineOkSaid := lineOk_over
#print axioms lineOk_holds
end Go.Proofs.Ytmopbegmdegooaa
