/- Texts put together: VmRange, VmEv. What is proved stands at the head of each part. -/
import Derived.Test.YtkkgimhbliocoaaGreatBnLawTopoUnused3
import Derived.Laws.IdiomRangeMap
/- A range over a map that is empty: the loop ends at once. -/
namespace Go.Proofs.YtkkgimhbliocoaaGreat.Vm
open Go Go.RowKit
set_option linter.unusedVariables false
set_option linter.unusedSimpArgs false
set_option linter.unnecessarySimpa false
/-- A block that no object is. -/
theorem lone_ok {C : Ctx} (hS : St C) (ob : Obj) : St ⟨C.ρ, C.S, C.ok, C.w.alloc ob⟩ ∧ Ext C ⟨C.ρ, C.S, C.ok, C.w.alloc ob⟩ := by
  have hheap : ∀ b, b < C.w.heap.size → (C.w.alloc ob).heap[b]? = C.w.heap[b]? := fun b hb => Below.heap_alloc _ _ _ hb
  have hlt : ∀ o y e', C.S[o]? = some y → y.ep? = some e' → (C.ρ o).b < C.w.heap.size := fun o y e' hy hye => (hS.obj o y hy).lt hye
  have g : Grows C ⟨C.ρ, C.S, C.ok, C.w.alloc ob⟩ := by
    refine ⟨⟨fun a y ⟨h1, h2⟩ => ⟨h1, ?_⟩, fun b es ⟨h1, c, h2⟩ => ⟨h1, c, ?_⟩⟩, fun o y e' hy hye => ⟨y, e', hy, hye, .inl ⟨rfl, rfl⟩⟩⟩
    · rw [← h2]
      exact World.cell?_of_block (hheap a.block (hS.okIn _ _ h1))
    · rw [← h2]
      exact hheap b (hS.okIn _ _ h1)
  refine ⟨⟨fun o y hy => (hS.obj o y hy).keep g (fun _ _ h => h) rfl fun e1 h1 => hheap _ (hlt o y e1 hy h1), hS.inj, fun b j hb => ?_, hS.okRow⟩,
    ⟨g, rfl, rfl, rfl, ?_, fun _ _ h => h, fun b hb _ => hheap b hb, fun b j hb => .inl hb, fun o y e1 hy h1 => .inr ⟨o, y, e1, hy, h1, rfl⟩⟩⟩
  · have := hS.okIn b j hb
    show b < (C.w.alloc ob).heap.size
    rw [World.size_alloc]; omega
  · show C.w.heap.size ≤ (C.w.alloc ob).heap.size
    rw [World.size_alloc]; omega
/-- Operations in a row, and what is behind them. -/
theorem runOps_pre {c : Cfg} {ev : Ev} (hc : CfgOk c) (he : EvOk c ev) {lo : Nat} {ops : Array Oper} {C0 : Ctx} {d0 : List Deferred} {Q : Exit → Act → World → Prop} (post : List Oper) : ∀ (pre : List Oper) (i : Nat) (T : List AVal) (a : Act) (C : Ctx) (T' : List AVal) (S' : List AObj),
    ops.toList.drop i = pre ++ post → St C → Ext C0 C → RT C T a.tmps → a.defers = d0 → runOps c ev lo ops pre T C.S = some (T', S') →
    (∀ a' C', C'.S = S' → St C' → Ext C0 C' → RT C' T' a'.tmps → a'.defers = d0 → wpOps c.P ops Q (List.range' (i + pre.length) (ops.size - (i + pre.length))) a' C'.w) → wpOps c.P ops Q (List.range' i (ops.size - i)) a C.w
  | [], i, T, a, C, T', S', hd, hS, hE, hT, hda, h, hQ => by
    simp only [runOps, Option.some.injEq, Prod.mk.injEq] at h
    obtain ⟨rfl, rfl⟩ := h
    exact hQ a C rfl hS hE hT hda
  | o :: rest, i, T, a, C, T', S', hd, hS, hE, hT, hda, h, hQ => by
    have hi : i < ops.size := by
      rcases Nat.lt_or_ge i ops.size with h1 | h1
      · exact h1
      · rw [List.drop_eq_nil_of_le (by simpa using h1)] at hd; cases hd
    rw [List.drop_eq_getElem_cons (by simpa using hi)] at hd
    obtain ⟨ho, hrest⟩ := List.cons.inj hd
    have ho' : ops[i]? = some o := by rw [Array.getElem?_eq_getElem hi]; simpa using ho
    have hQ' : ∀ a' C', C'.S = S' → St C' → Ext C0 C' → RT C' T' a'.tmps → a'.defers = d0 → wpOps c.P ops Q (List.range' (i + 1 + rest.length) (ops.size - (i + 1 + rest.length))) a' C'.w := fun a' C' h1 h2 h3 h4 h5 => by
      have := hQ a' C' h1 h2 h3 h4 h5
      rwa [List.length_cons, show i + (rest.length + 1) = i + 1 + rest.length by omega] at this
    rw [show ops.size - i = (ops.size - (i + 1)) + 1 by omega, List.range'_succ]
    simp only [wpOps, ho']
    simp only [runOps] at h
    split at h
    · rename_i hw
      rw [wanted_ok hT hw, if_pos rfl]
      split at h
      · rename_i x S1 hx
        refine .inl (stepOp_ok hc he hS hT (slotOf_ok lo C.S) hx fun u C1 h1 h2 h3 h4 => ?_).1
        rw [← h1] at h
        exact runOps_pre hc he post rest (i + 1) _ _ C1 T' S' hrest h2 (hE.trans h3) ((hT.mono h3.grows).put _ h4) (stepOp_defers.trans hda) h hQ'
      · cases h
    · rename_i hw
      rw [wanted_ok hT hw, if_neg (by simp)]
      exact runOps_pre hc he post rest (i + 1) _ _ C T' S' hrest hS hE (hT.put _ (by simp [Rv])) (stepOp_defers.trans hda) h hQ'
    · cases h
theorem get_put {a : Act} {d : Tmp} {u : Value} (h : d < a.tmps.size) : (a.put (some d) u).eval (.tmp d) = u := by
  simp [Act.put, Act.eval, Array.getD_eq_getD_getElem?, Array.getElem?_setIfInBounds, h]
theorem size_put {a : Act} {d : Option Tmp} {u : Value} : (a.put d u).tmps.size = a.tmps.size := by
  cases d <;> simp [Act.put]
/-- Code that ranges over a map that is empty. -/
theorem range_empty {c : Cfg} {ev : Ev} (hc : CfgOk c) (he : EvOk c ev) {lo : Nat} {C0 : Ctx} {d0 : List Deferred} {ops ops2 : Array Oper} {id bid nid : Nat} {pre : List Oper} {rop nop xop : Oper} {t : TypeId} {m it q k : Tmp} {o : Nat} {fz : Bool} {z : AVal} {rest : Code}
    {T : List AVal} {a : Act} {C : Ctx} {T1 : List AVal} {S1 : List AObj}
    (h1 : ops.toList = pre ++ [rop]) (h2 : rop.op = .range t (.tmp m) ∧ rop.guard = none ∧ rop.dst = some it) (h3 : ops2 = #[nop, xop]) (h4 : nop.op = .next (.tmp it) false ∧ nop.guard = none ∧ nop.dst = some q) (h5 : xop.op = .extract (.tmp q) 0 ∧ xop.guard = none ∧ xop.dst = some k)
    (hr : runOps c ev lo ops pre T C.S = some (T1, S1)) (hm : T1.getD m .junk = .mp o) (ho : S1[o]? = some (.mapo fz [] [])) (hz : mapT c.P t = some z) (hl : it < T1.length ∧ q < T1.length ∧ k < T1.length)
    (hS : St C) (hE : Ext C0 C) (hT : RT C T a.tmps) (hd : a.defers = d0) :
    (Code.seq (.region id ops false) (.block bid (.loop (.seq (.region nid ops2 false) (.seq (.cond (.tmp k) .skip (.exit bid)) rest))))).wp c.P (Post C0 .normal (putT (putT (putT T1 (some it) .junk) (some q) .junk) (some k) .junk) S1 d0) a C.w := by
  refine wp_seq (wp_region ?_)
  rw [List.range_eq_range']
  have hsz : ops.size = pre.length + 1 := by
    have := congrArg List.length h1
    simpa using this
  refine runOps_pre (C0 := C0) (d0 := d0) hc he [rop] pre 0 T a C T1 S1 (by simpa using h1) hS hE hT hd hr fun a1 C1 e1 k1 k2 k3 k4 => ?_
  have hrop : ops[0 + pre.length]? = some rop := by
    rw [← Array.getElem?_toList, h1, Nat.zero_add, List.getElem?_append_right (Nat.le_refl _), Nat.sub_self]; rfl
  rw [show ops.size - (0 + pre.length) = 0 + 1 by omega, List.range'_succ, List.range'_zero]
  simp only [wpOps, hrop]
  have hmv := k3.get m
  rw [hm] at hmv
  simp only [Rv] at hmv
  obtain ⟨r, hu, ob, e0, g1, g2, g3, g4⟩ := hmv
  rw [e1, ho] at g1
  cases g1
  simp only [AObj.ep?, Option.some.injEq] at g2
  subst g2
  obtain ⟨es, cl, f1, f2, f3, f4, _⟩ := k1.obj o _ (e1 ▸ ho)
  have hes : es = #[] := by
    have := f2.1
    simp only [List.length_nil] at this
    exact Array.eq_empty_of_size_eq_zero this
  subst hes
  obtain ⟨kt, et, i, zv, ht, _, _, _, _⟩ := mapT_some hz
  have hwant : Region.wanted rop (yielded ops a1.tmps) = true := by simp [Region.wanted, h2.2.1]
  rw [if_pos hwant]
  refine .inl ?_
  have hev : a1.eval (.tmp m) = .map (some (C1.ρ o).b) := by
    show a1.tmps.getD m undef = _
    rw [hu, g4 rfl]
  have hx1 : (execOp a1.eval rop).run c.P C1.w = .ok (.value (.pointer (some ⟨C1.w.heap.size, 0, none⟩))) (C1.w.alloc (.mapIter (some (C1.ρ o).b) cl #[] cl)) := by
    simp [execOp, h2.1, hev, run_range_map C1.w t kt et (C1.ρ o).b #[] cl ht f1]
  unfold Oper.wp
  rw [hx1]
  rw [Oper.upon_value, h2.2.2]
  obtain ⟨s1, s2⟩ := lone_ok k1 (.mapIter (some (C1.ρ o).b) cl #[] cl)
  have z1 : a1.tmps.size = T1.length := k3.1
  have ev1 : (a1.put (some it) (.pointer (some ⟨C1.w.heap.size, 0, none⟩))).eval (.tmp it) = .pointer (some ⟨C1.w.heap.size, 0, none⟩) := get_put (by rw [z1]; exact hl.1)
  have r1 : RT ⟨C1.ρ, C1.S, C1.ok, C1.w.alloc (.mapIter (some (C1.ρ o).b) cl #[] cl)⟩ (putT T1 (some it) .junk) (a1.put (some it) (.pointer (some ⟨C1.w.heap.size, 0, none⟩))).tmps := (k3.mono s2.grows).put (some it) (by simp [Rv])
  have z2 : (a1.put (some it) (.pointer (some ⟨C1.w.heap.size, 0, none⟩))).tmps.size = T1.length := size_put.trans z1
  have d2 : (a1.put (some it) (.pointer (some ⟨C1.w.heap.size, 0, none⟩))).defers = d0 := stepOp_defers.trans k4
  generalize a1.put (some it) (.pointer (some ⟨C1.w.heap.size, 0, none⟩)) = a2 at *
  subst h3
  show (Code.block bid _).wp c.P _ a2 _
  refine wp_block (wp_loop_rounds 1 ?_)
  refine wp_seq (wp_region ?_)
  have hrg : List.range (#[nop, xop] : Array Oper).size = [0, 1] := rfl
  rw [hrg]
  have g0 : (#[nop, xop] : Array Oper)[0]? = some nop := rfl
  have g1' : (#[nop, xop] : Array Oper)[1]? = some xop := rfl
  simp only [wpOps, g0, g1']
  have w2 : ∀ a : Act, Region.wanted nop (yielded #[nop, xop] a.tmps) = true := fun a => by simp [Region.wanted, h4.2.1]
  have w3 : ∀ a : Act, Region.wanted xop (yielded #[nop, xop] a.tmps) = true := fun a => by simp [Region.wanted, h5.2.1]
  rw [if_pos (w2 _)]
  refine .inl ?_
  have hn : (Instr.next (.pointer (some ⟨C1.w.heap.size, 0, none⟩)) false nop.type).run c.P (C1.w.alloc (.mapIter (some (C1.ρ o).b) cl #[] cl)) = .ok (.tuple #[.bool false]) (C1.w.alloc (.mapIter (some (C1.ρ o).b) cl #[] cl)) := by
    rcases run_next_map C1.w nop.type (C1.ρ o).b cl cl #[] #[] cl f1 (fun x hx => by simp at hx) (Nat.le_refl _) with ⟨_, h⟩ | ⟨e, he', _⟩
    · exact h
    · simp [leftOf] at he'
  have hx2 : (execOp a2.eval nop).run c.P (C1.w.alloc (.mapIter (some (C1.ρ o).b) cl #[] cl)) = .ok (.value (.tuple #[.bool false])) (C1.w.alloc (.mapIter (some (C1.ρ o).b) cl #[] cl)) := by
    simp [execOp, h4.1, ev1, hn]
  unfold Oper.wp
  rw [hx2, Oper.upon_value, h4.2.2]
  have ev2 : (a2.put (some q) (.tuple #[.bool false])).eval (.tmp q) = .tuple #[.bool false] := get_put (by rw [z2]; exact hl.2.1)
  have z3 : (a2.put (some q) (.tuple #[.bool false])).tmps.size = T1.length := size_put.trans z2
  have r2 := r1.put (u := .tuple #[.bool false]) (some q) (x := .junk) (by simp [Rv])
  have d3 : (a2.put (some q) (.tuple #[.bool false])).defers = d0 := stepOp_defers.trans d2
  generalize a2.put (some q) (.tuple #[.bool false]) = a3 at *
  rw [if_pos (w3 _)]
  refine .inl ?_
  have hx3 : (execOp a3.eval xop).run c.P (C1.w.alloc (.mapIter (some (C1.ρ o).b) cl #[] cl)) = .ok (.value (.bool false)) (C1.w.alloc (.mapIter (some (C1.ρ o).b) cl #[] cl)) := by
    simp [execOp, h5.1, ev2, Instr.extract]
  rw [hx3, Oper.upon_value, h5.2.2]
  have ev3 : (a3.put (some k) (.bool false)).eval (.tmp k) = .bool false := get_put (by rw [z3]; exact hl.2.2)
  have r3 := r2.put (u := .bool false) (some k) (x := .junk) (by simp [Rv])
  have d4 : (a3.put (some k) (.bool false)).defers = d0 := stepOp_defers.trans d3
  generalize a3.put (some k) (.bool false) = a4 at *
  show (Code.seq _ _).wp c.P _ a4 _
  refine wp_seq (wp_cond_false ev3 (wp_exit ?_))
  show (if bid = bid then _ else _)
  rw [if_pos rfl]
  exact ⟨⟨C1.ρ, C1.S, C1.ok, C1.w.alloc (.mapIter (some (C1.ρ o).b) cl #[] cl)⟩, rfl, e1, s1, k2.trans s2, r3, d4, trivial⟩
/-! ## code in a row, with a piece that the machine does not run -/
def seqs : List Code → Code → Code
  | [], c => c
  | x :: xs, c => .seq x (seqs xs c)
def headL : Nat → Code → List Code
  | n + 1, .seq a b => a :: headL n b
  | _, _ => []
def tailC : Nat → Code → Code
  | n + 1, .seq _ b => tailC n b
  | _, c => c
theorem seqs_head : ∀ (n : Nat) (c : Code), seqs (headL n c) (tailC n c) = c
  | 0, c => by cases c <;> rfl
  | n + 1, c => by
    cases c with
    | seq a b => simp only [headL, tailC, seqs, seqs_head n b]
    | _ => rfl
def evalL (c : Cfg) (ev : Ev) (lv : List Nat) (lo base n : Nat) : List Code → List AVal → List AObj → Option (List AVal × List AObj)
  | [], T, S => some (T, S)
  | x :: xs, T, S => match evalC c ev lv lo base n x T S with
    | some (.normal, T', S') => evalL c ev lv lo base n xs T' S'
    | _ => none
theorem seqs_ok {c : Cfg} {ev : Ev} (hc : CfgOk c) (he : EvOk c ev) {lv : List Nat} {lo base n : Nat} {C0 : Ctx} {d0 : List Deferred} (hb : C0.S.length ≤ base) {rest : Code} {Q : Exit → Act → World → Prop} : ∀ (xs : List Code) (T : List AVal) (a : Act) (C : Ctx) (T' : List AVal) (S' : List AObj),
    St C → Ext C0 C → RT C T a.tmps → a.defers = d0 → evalL c ev lv lo base n xs T C.S = some (T', S') →
    (∀ a' C', C'.S = S' → St C' → Ext C0 C' → RT C' T' a'.tmps → a'.defers = d0 → rest.wp c.P Q a' C'.w) → (seqs xs rest).wp c.P Q a C.w
  | [], T, a, C, T', S', hS, hE, hT, hd, h, hQ => by
    simp only [evalL, Option.some.injEq, Prod.mk.injEq] at h
    obtain ⟨rfl, rfl⟩ := h
    exact hQ a C rfl hS hE hT hd
  | x :: xs, T, a, C, T', S', hS, hE, hT, hd, h, hQ => by
    simp only [evalL] at h
    split at h
    · rename_i T1 S1 h1
      refine wp_seq (wp_mono (evalC_ok hc he hb x T a C _ _ _ hS hE hT hd h1) ?_)
      rintro e a1 w1 ⟨C1, rfl, rfl, k1, k2, k3, k4, k5⟩
      cases e <;> simp only [AExit.is] at k5
      exact seqs_ok hc he hb xs T1 a1 C1 T' S' k1 k2 k3 k4 h hQ
    · cases h
/-- What comes back by objects, as a value. -/
theorem callsP_of_A {P : Program} {f : FuncId} {ps : List PVal} {r0 : AVal} {S : List AObj} {p : PVal} (h : CallsA P f (upL ps) [] r0 S) (hp : peek (mark 0 deep S r0) deep r0 = some p) : CallsP P f ps p := by
  intro ok w vs hin hs hr
  let C : Ctx := ⟨fun _ => ⟨0, 0, 0⟩, [], ok, w⟩
  have hS : St C := ⟨fun o x hx => by simp [C] at hx, fun o o' x x' e e' hx => by simp [C] at hx, hin, fun b j hb o x e hx => by simp [C] at hx⟩
  refine (h C vs rfl hS (by simp [hs]) ((Rvs_up ps _ 0).2 hr)).mono ?_
  rintro e w' ⟨v, C', rfl, rfl, hCS, hS', hE, hrv⟩
  obtain ⟨C2, hm, hm2⟩ := mark_ok 0 deep r0 C' hS'
  have hrv2 := Rv_mono hm.ext.grows _ _ hrv
  have hE2 := hE.trans hm.ext
  have hp := peek_ok hm.st deep r0 p v (by rw [hm2, hCS]; exact hp) hrv2
  refine ⟨v, C2.ok, rfl, ?_, fun b j hb => ?_, fun b j hb => ?_, fun b j hb => ?_, ?_⟩
  · rw [← hm.w]; exact hE2.below rfl
  · exact hE2.ok b j hb
  · rcases hE2.okNew b j hb with h1 | h1 | ⟨o, x, e, h1, _⟩
    · exact .inl h1
    · exact .inr h1
    · simp [C] at h1
  · rw [← hm.w]; exact hm.st.okIn b j hb
  · rw [← hm.w]; exact hp
/-- A function's body that comes to its end. -/
theorem callsA_of_body {c : Cfg} (hc : CfgOk c) {f : FuncId} {a : FnA} (ha : c.tab f = some a) {args : List AVal} {S : List AObj} {r : AVal} {x : AExit} (hx : x = .normal ∨ x = .ret) {T' : List AVal} {S' : List AObj}
    (hr : resultsA c.P a.results T' S' = some r)
    (h : ∀ (C : Ctx) (ac : Act), C.S = S → St C → RT C (args ++ List.replicate (a.ntmps - args.length) (.v undef)) ac.tmps → ac.defers = [] → a.body.wp c.P (Post C x T' S' []) ac C.w) : CallsA c.P f args S r S' := by
  obtain ⟨fn, f1, f2, f3, f4, f5⟩ := (hc.tab f a ha).fn
  intro C vs hCS hS hs hra
  refine calls_of_wp f1 f3 (wp_mono (h C { tmps := vs ++ Array.replicate (fn.ntmps - vs.size) undef, defers := [] } hCS hS ?_ rfl) ?_)
  · rw [f4]
    exact enter_rel hs hra a.ntmps
  · rintro e a1 w1 ⟨C1, rfl, rfl, k1, k2, k3, k4, k5⟩
    have h4' : resultsA c.P fn.results T' C1.S = some r := by rw [f5]; exact hr
    obtain ⟨v, r1, r2⟩ := results_ok k1 k3 h4'
    rcases hx with rfl | rfl
    · cases e <;> simp only [AExit.is] at k5
      exact ⟨k4, v, r1, v, C1, rfl, rfl, rfl, k1, k2, r2⟩
    · cases e <;> simp only [AExit.is] at k5
      exact ⟨k4, v, r1, v, C1, rfl, rfl, rfl, k1, k2, r2⟩
end Go.Proofs.YtkkgimhbliocoaaGreat.Vm
/- Pieces of code put together: what each comes to is told by the machine, or by hand. -/
namespace Go.Proofs.YtkkgimhbliocoaaGreat.Vm
open Go Go.RowKit
set_option linter.unusedVariables false
set_option linter.unusedSimpArgs false
def EV (c : Cfg) (base : Nat) (code : Code) (T : List AVal) (S : List AObj) (x : AExit) (T' : List AVal) (S' : List AObj) : Prop :=
  ∀ (C0 C : Ctx) (a : Act) (d0 : List Deferred), C0.S.length ≤ base → St C → Ext C0 C → RT C T a.tmps → a.defers = d0 → C.S = S → code.wp c.P (Post C0 x T' S' d0) a C.w
variable {c : Cfg} {base : Nat}
theorem EV.of (hc : CfgOk c) {ev : Ev} (he : EvOk c ev) {lv : List Nat} {lo n : Nat} {code : Code} {T T' : List AVal} {S S' : List AObj} {x : AExit} (h : evalC c ev lv lo base n code T S = some (x, T', S')) : EV c base code T S x T' S' := by
  intro C0 C a d0 hb hS hE hT hd hCS
  subst hCS
  exact evalC_ok hc he hb code T a C x T' S' hS hE hT hd h
theorem EV.seq {p q : Code} {T T1 T2 : List AVal} {S S1 S2 : List AObj} {x : AExit} (h : EV c base p T S .normal T1 S1) (k : EV c base q T1 S1 x T2 S2) : EV c base (.seq p q) T S x T2 S2 := by
  intro C0 C a d0 hb hS hE hT hd hCS
  refine wp_seq (wp_mono (h C0 C a d0 hb hS hE hT hd hCS) ?_)
  rintro e a1 w1 ⟨C1, rfl, e1, k1, k2, k3, k4, k5⟩
  cases e <;> simp only [AExit.is] at k5
  exact k C0 C1 a1 d0 hb k1 k2 k3 k4 e1
theorem EV.block {id : Nat} {p : Code} {T T' : List AVal} {S S' : List AObj} (h : EV c base p T S (.exit id) T' S') : EV c base (.block id p) T S .normal T' S' := by
  intro C0 C a d0 hb hS hE hT hd hCS
  refine wp_block (wp_mono (h C0 C a d0 hb hS hE hT hd hCS) ?_)
  rintro e a1 w1 ⟨C1, rfl, e1, k1, k2, k3, k4, k5⟩
  cases e <;> simp only [AExit.is] at k5
  subst k5
  show (if id = id then _ else _)
  rw [if_pos rfl]
  exact ⟨C1, rfl, e1, k1, k2, k3, k4, trivial⟩
theorem EV.loop {body : Code} {T : Nat → List AVal} {S : Nat → List AObj} {n : Nat} {x : AExit} {T' : List AVal} {S' : List AObj} (hs : ∀ k, k < n → EV c base body (T k) (S k) .normal (T (k + 1)) (S (k + 1))) (he : EV c base body (T n) (S n) x T' S') (hx : x ≠ .normal) :
    EV c base (.loop body) (T 0) (S 0) x T' S' := by
  intro C0 C a d0 hb hS hE hT hd hCS
  have key : ∀ (d k : Nat), k + d = n → ∀ (C : Ctx) (a : Act), St C → Ext C0 C → RT C (T k) a.tmps → a.defers = d0 → C.S = S k → Code.rounds c.P body (Post C0 x T' S' d0) (d + 1) a C.w := by
    intro d
    induction d with
    | zero =>
      intro k hk C a hS hE hT hd hCS
      obtain rfl : k = n := by omega
      rw [rounds_succ]
      refine wp_mono (he C0 C a d0 hb hS hE hT hd hCS) ?_
      rintro e a1 w1 ⟨C1, rfl, e1, k1, k2, k3, k4, k5⟩
      cases e with
      | normal => cases x <;> simp only [AExit.is] at k5; exact absurd rfl hx
      | _ => exact ⟨C1, rfl, e1, k1, k2, k3, k4, k5⟩
    | succ d ih =>
      intro k hk C a hS hE hT hd hCS
      rw [rounds_succ]
      refine wp_mono (hs k (by omega) C0 C a d0 hb hS hE hT hd hCS) ?_
      rintro e a1 w1 ⟨C1, rfl, e1, k1, k2, k3, k4, k5⟩
      cases e <;> simp only [AExit.is] at k5
      exact ih (k + 1) (by omega) C1 a1 k1 k2 k3 k4 e1
  exact wp_loop_rounds (n + 1) (key n 0 (by omega) C a hS hE hT hd hCS)
theorem EV.seqX {p q : Code} {T T1 : List AVal} {S S1 : List AObj} {x : AExit} (h : EV c base p T S x T1 S1) (hx : x ≠ .normal) : EV c base (.seq p q) T S x T1 S1 := by
  intro C0 C a d0 hb hS hE hT hd hCS
  refine wp_seq (wp_mono (h C0 C a d0 hb hS hE hT hd hCS) ?_)
  rintro e a1 w1 ⟨C1, rfl, e1, k1, k2, k3, k4, k5⟩
  cases e with
  | normal => cases x <;> simp only [AExit.is] at k5; exact absurd rfl hx
  | _ => exact ⟨C1, rfl, e1, k1, k2, k3, k4, k5⟩
theorem EV.blockR {id : Nat} {p : Code} {T T' : List AVal} {S S' : List AObj} (h : EV c base p T S .ret T' S') : EV c base (.block id p) T S .ret T' S' := by
  intro C0 C a d0 hb hS hE hT hd hCS
  refine wp_block (wp_mono (h C0 C a d0 hb hS hE hT hd hCS) ?_)
  rintro e a1 w1 ⟨C1, rfl, e1, k1, k2, k3, k4, k5⟩
  cases e <;> simp only [AExit.is] at k5
  exact ⟨C1, rfl, e1, k1, k2, k3, k4, trivial⟩
theorem EV.head (hc : CfgOk c) {ev : Ev} (he : EvOk c ev) {lv : List Nat} {lo m : Nat} (n : Nat) {code : Code} {T T1 T' : List AVal} {S S1 S' : List AObj} {x : AExit} (h : evalL c ev lv lo base m (headL n code) T S = some (T1, S1)) (k : EV c base (tailC n code) T1 S1 x T' S') : EV c base code T S x T' S' := by
  intro C0 C a d0 hb hS hE hT hd hCS
  subst hCS
  rw [← seqs_head n code]
  exact seqs_ok hc he hb (headL n code) T a C T1 S1 hS hE hT hd h fun a1 C1 e1 k1 k2 k3 k4 => k C0 C1 a1 d0 hb k1 k2 k3 k4 e1
def c1 : Code → Code
  | .seq a _ => a
  | _ => .skip
def c2 : Code → Code
  | .seq _ b => b
  | _ => .skip
theorem callsA_of_EV (hc : CfgOk c) {f : FuncId} {a : FnA} (ha : c.tab f = some a) {args : List AVal} {S : List AObj} {r : AVal} {x : AExit} (hx : x = .normal ∨ x = .ret) {T' : List AVal} {S' : List AObj} (hr : resultsA c.P a.results T' S' = some r)
    (h : EV c S.length a.body (args ++ List.replicate (a.ntmps - args.length) (.v undef)) S x T' S') : CallsA c.P f args S r S' :=
  callsA_of_body hc ha hx hr fun C ac hCS hS hT hd => h C C ac [] (by rw [hCS]; exact Nat.le_refl _) hS (Ext.refl C) hT hd hCS
end Go.Proofs.YtkkgimhbliocoaaGreat.Vm
