/- Texts put together: VmRange, VmEv, VmHide. What is proved stands at the head of each part. -/
import Derived.Test.YtkkgimhbliocoaaGreatBnLawFindEmpty5
import Derived.Laws.IdiomRangeMap
/- A range over a map that is empty: the loop ends at once. -/
namespace Go.Proofs.YtkkgimhbliocoaaGreat.Vm
open Go Go.RowKit
noncomputable section
set_option linter.unusedVariables false
set_option linter.unusedSimpArgs false
set_option linter.unnecessarySimpa false
/-- A block that no object is. -/
theorem lone_ok {C : Ctx} (hS : St C) (ob : Obj) : St ⟨C.ρ, C.S, C.ok, C.w.alloc ob⟩ ∧ Ext C ⟨C.ρ, C.S, C.ok, C.w.alloc ob⟩ := by
  have hheap : ∀ b, b < C.w.heap.size → (C.w.alloc ob).heap[b]? = C.w.heap[b]? := fun b hb => Below.heap_alloc _ _ _ hb
  have hlt : ∀ o y e', C.S[o]? = some y → y.ep? = some e' → (C.ρ o).b < C.w.heap.size := fun o y e' hy hye => (hS.obj o y hy).lt hye
  have g : Grows C ⟨C.ρ, C.S, C.ok, C.w.alloc ob⟩ := by
    refine ⟨⟨fun a y ⟨h1, h2⟩ => ⟨h1, ?_⟩, fun b es ⟨h1, c, h2⟩ => ⟨h1, c, ?_⟩⟩, fun o y e' hy hye => ⟨y, e', hy, hye, .inl ⟨rfl, rfl⟩⟩⟩
    · rw [← h2]
      exact World.cell?_of_block (hheap a.block (hS.okIn _ _ h1))
    · rw [← h2]
      exact hheap b (hS.okIn _ _ h1)
  refine ⟨⟨fun o y hy => (hS.obj o y hy).keep g (fun _ _ h => h) rfl fun e1 h1 => hheap _ (hlt o y e1 hy h1), hS.inj, fun b j hb => ?_, hS.okRow⟩,
    ⟨g, rfl, rfl, rfl, ?_, fun _ _ h => h, fun b hb _ => hheap b hb, fun b j hb => .inl hb, fun o y e1 hy h1 => .inr ⟨o, y, e1, hy, h1, rfl⟩⟩⟩
  · have := hS.okIn b j hb
    show b < (C.w.alloc ob).heap.size
    rw [World.size_alloc]; omega
  · show C.w.heap.size ≤ (C.w.alloc ob).heap.size
    rw [World.size_alloc]; omega
/-- Operations in a row, and what is behind them. -/
theorem runOps_pre {c : Cfg} {ev : Ev} (hc : CfgOk c) (he : EvOk c ev) {ro : Option Nat} {lo : Nat} {ops : Array Oper} {C0 : Ctx} {d0 : List Deferred} {Q : Exit → Act → World → Prop} (post : List Oper) : ∀ (pre : List Oper) (i : Nat) (T : List AVal) (a : Act) (C : Ctx) (T' : List AVal) (S' : List AObj),
    ops.toList.drop i = pre ++ post → St C → Ext C0 C → RT C T a.tmps → a.defers = d0 → runOps c ev lo ops pre T C.S = some (T', S') →
    (∀ a' C', C'.S = S' → St C' → Ext C0 C' → RT C' T' a'.tmps → a'.defers = d0 → wpOpsIn (fR ro) 0 c.P ops Q (List.range' (i + pre.length) (ops.size - (i + pre.length))) a' C'.w) → wpOpsIn (fR ro) 0 c.P ops Q (List.range' i (ops.size - i)) a C.w
  | [], i, T, a, C, T', S', hd, hS, hE, hT, hda, h, hQ => by
    simp only [runOps, Option.some.injEq, Prod.mk.injEq] at h
    obtain ⟨rfl, rfl⟩ := h
    exact hQ a C rfl hS hE hT hda
  | o :: rest, i, T, a, C, T', S', hd, hS, hE, hT, hda, h, hQ => by
    have hi : i < ops.size := by
      rcases Nat.lt_or_ge i ops.size with h1 | h1
      · exact h1
      · rw [List.drop_eq_nil_of_le (by simpa using h1)] at hd; cases hd
    rw [List.drop_eq_getElem_cons (by simpa using hi)] at hd
    obtain ⟨ho, hrest⟩ := List.cons.inj hd
    have ho' : ops[i]? = some o := by rw [Array.getElem?_eq_getElem hi]; simpa using ho
    have hQ' : ∀ a' C', C'.S = S' → St C' → Ext C0 C' → RT C' T' a'.tmps → a'.defers = d0 → wpOpsIn (fR ro) 0 c.P ops Q (List.range' (i + 1 + rest.length) (ops.size - (i + 1 + rest.length))) a' C'.w := fun a' C' h1 h2 h3 h4 h5 => by
      have := hQ a' C' h1 h2 h3 h4 h5
      rwa [List.length_cons, show i + (rest.length + 1) = i + 1 + rest.length by omega] at this
    rw [show ops.size - i = (ops.size - (i + 1)) + 1 by omega, List.range'_succ]
    simp only [wpOpsIn, ho']
    simp only [runOps, putK_eq] at h
    split at h
    · rename_i hw
      rw [wanted_ok hT hw, if_pos rfl]
      split at h
      · rename_i x S1 hx
        refine (stepOp_ok hc he hS hT (slotOf_ok lo C.S) hx fun u C1 h1 h2 h3 h4 => ?_).1
        rw [← h1] at h
        exact runOps_pre hc he post rest (i + 1) _ _ C1 T' S' hrest h2 (hE.trans h3) ((hT.mono h3.grows).put _ h4) (stepOp_defers.trans hda) h hQ'
      · cases h
    · rename_i hw
      rw [wanted_ok hT hw, if_neg (by simp)]
      refine ⟨fun f _ => fR_fn ro f, ?_⟩
      exact runOps_pre hc he post rest (i + 1) _ _ C T' S' hrest hS hE (hT.put _ (by simp [Rv])) (stepOp_defers.trans hda) h hQ'
    · cases h
theorem get_put {a : Act} {d : Tmp} {u : Value} (h : d < a.tmps.size) : (a.put (some d) u).eval (.tmp d) = u := by
  simp [Act.put, Act.eval, Array.getD_eq_getD_getElem?, Array.getElem?_setIfInBounds, h]
theorem size_put {a : Act} {d : Option Tmp} {u : Value} : (a.put d u).tmps.size = a.tmps.size := by
  cases d <;> simp [Act.put]
/-- Code that ranges over a map that is empty. -/
theorem range_empty {c : Cfg} {ev : Ev} (hc : CfgOk c) (he : EvOk c ev) {ro : Option Nat} {lo : Nat} {C0 : Ctx} {d0 : List Nat} {ops ops2 : Array Oper} {id bid nid : Nat} {pre : List Oper} {rop nop xop : Oper} {t : TypeId} {m it q k : Tmp} {o : Nat} {fz : Bool} {z : AVal} {rest : Code}
    {T : List AVal} {a : Act} {C : Ctx} {T1 : List AVal} {S1 : List AObj}
    (h1 : ops.toList = pre ++ [rop]) (h2 : rop.op = .range t (.tmp m) ∧ rop.guard = none ∧ rop.dst = some it) (h3 : ops2 = #[nop, xop]) (h4 : nop.op = .next (.tmp it) false ∧ nop.guard = none ∧ nop.dst = some q) (h5 : xop.op = .extract (.tmp q) 0 ∧ xop.guard = none ∧ xop.dst = some k)
    (hr : runOps c ev lo ops pre T C.S = some (T1, S1)) (hm : T1.getD m .junk = .mp o) (ho : S1[o]? = some (.mapo fz [] [])) (hz : mapT c.P t = some z) (hl : it < T1.length ∧ q < T1.length ∧ k < T1.length)
    (hS : St C) (hE : Ext C0 C) (hT : RT C T a.tmps) (hd : MarksOk C0 d0 C a.defers) :
    (Code.seq (.region id ops false) (.block bid (.loop (.seq (.region nid ops2 false) (.seq (.cond (.tmp k) .skip (.exit bid)) rest))))).wpIn (fR ro) 0 c.P (Post C0 .normal (putT (putT (putT T1 (some it) .junk) (some q) .junk) (some k) .junk) S1 d0) a C.w := by
  refine wpIn_seq (wpIn_region ?_)
  rw [List.range_eq_range']
  have hsz : ops.size = pre.length + 1 := by
    have := congrArg List.length h1
    simpa using this
  refine runOps_pre (C0 := C) (d0 := a.defers) hc he [rop] pre 0 T a C T1 S1 (by simpa using h1) hS (Ext.refl C) hT rfl hr fun a1 C1 e1 k1 k2 k3 k4 => ?_
  have hrop : ops[0 + pre.length]? = some rop := by
    rw [← Array.getElem?_toList, h1, Nat.zero_add, List.getElem?_append_right (Nat.le_refl _), Nat.sub_self]; rfl
  rw [show ops.size - (0 + pre.length) = 0 + 1 by omega, List.range'_succ, List.range'_zero]
  simp only [wpOpsIn, hrop]
  have hmv := k3.get m
  rw [hm] at hmv
  simp only [Rv] at hmv
  obtain ⟨r, hu, ob, e0, g1, g2, g3, g4⟩ := hmv
  rw [e1, ho] at g1
  cases g1
  simp only [AObj.ep?, Option.some.injEq] at g2
  subst g2
  obtain ⟨es, cl, f1, f2, f3, f4, _⟩ := k1.obj o _ (e1 ▸ ho)
  have hes : es = #[] := by
    have := f2.1
    simp only [List.length_nil] at this
    exact Array.eq_empty_of_size_eq_zero this
  subst hes
  obtain ⟨kt, et, i, zv, ht, _, _, _, _⟩ := mapT_some hz
  have hwant : Region.wanted rop (yielded ops a1.tmps) = true := by simp [Region.wanted, h2.2.1]
  rw [if_pos hwant]
  have hev : a1.eval (.tmp m) = .map (some (C1.ρ o).b) := by
    show a1.tmps.getD m undef = _
    rw [hu, g4 rfl]
  have hx1 : (execOp a1.eval rop).run c.P C1.w = .ok (.value (.pointer (some ⟨C1.w.heap.size, 0, none⟩))) (C1.w.alloc (.mapIter (some (C1.ρ o).b) cl #[] cl)) := by
    simp [execOp, h2.1, hev, run_range_map C1.w t kt et (C1.ρ o).b #[] cl ht f1]
  refine opIn_of (fun d h => by rw [h2.1] at h; cases h) hx1 ?_
  rw [Oper.uponIn_value, h2.2.2]
  obtain ⟨s1, s2⟩ := lone_ok k1 (.mapIter (some (C1.ρ o).b) cl #[] cl)
  have z1 : a1.tmps.size = T1.length := k3.1
  have ev1 : (a1.put (some it) (.pointer (some ⟨C1.w.heap.size, 0, none⟩))).eval (.tmp it) = .pointer (some ⟨C1.w.heap.size, 0, none⟩) := get_put (by rw [z1]; exact hl.1)
  have r1 : RT ⟨C1.ρ, C1.S, C1.ok, C1.w.alloc (.mapIter (some (C1.ρ o).b) cl #[] cl)⟩ (putT T1 (some it) .junk) (a1.put (some it) (.pointer (some ⟨C1.w.heap.size, 0, none⟩))).tmps := (k3.mono s2.grows).put (some it) (by simp [Rv])
  have z2 : (a1.put (some it) (.pointer (some ⟨C1.w.heap.size, 0, none⟩))).tmps.size = T1.length := size_put.trans z1
  have d2 : (a1.put (some it) (.pointer (some ⟨C1.w.heap.size, 0, none⟩))).defers = a.defers := stepOp_defers.trans k4
  generalize a1.put (some it) (.pointer (some ⟨C1.w.heap.size, 0, none⟩)) = a2 at *
  subst h3
  show (Code.block bid _).wpIn (fR ro) 0 c.P _ a2 _
  refine wpIn_block (wpIn_loop_rounds 1 ?_)
  refine wpIn_seq (wpIn_region ?_)
  have hrg : List.range (#[nop, xop] : Array Oper).size = [0, 1] := rfl
  rw [hrg]
  have g0 : (#[nop, xop] : Array Oper)[0]? = some nop := rfl
  have g1' : (#[nop, xop] : Array Oper)[1]? = some xop := rfl
  simp only [wpOpsIn, g0, g1']
  have w2 : ∀ a : Act, Region.wanted nop (yielded #[nop, xop] a.tmps) = true := fun a => by simp [Region.wanted, h4.2.1]
  have w3 : ∀ a : Act, Region.wanted xop (yielded #[nop, xop] a.tmps) = true := fun a => by simp [Region.wanted, h5.2.1]
  rw [if_pos (w2 _)]
  have hn : (Instr.next (.pointer (some ⟨C1.w.heap.size, 0, none⟩)) false nop.type).run c.P (C1.w.alloc (.mapIter (some (C1.ρ o).b) cl #[] cl)) = .ok (.tuple #[.bool false]) (C1.w.alloc (.mapIter (some (C1.ρ o).b) cl #[] cl)) := by
    rcases run_next_map C1.w nop.type (C1.ρ o).b cl cl #[] #[] cl f1 (fun x hx => by simp at hx) (Nat.le_refl _) with ⟨_, h⟩ | ⟨e, he', _⟩
    · exact h
    · simp [leftOf] at he'
  have hx2 : (execOp a2.eval nop).run c.P (C1.w.alloc (.mapIter (some (C1.ρ o).b) cl #[] cl)) = .ok (.value (.tuple #[.bool false])) (C1.w.alloc (.mapIter (some (C1.ρ o).b) cl #[] cl)) := by
    simp [execOp, h4.1, ev1, hn]
  refine opIn_of (fun d h => by rw [h4.1] at h; cases h) hx2 ?_
  rw [Oper.uponIn_value, h4.2.2]
  have ev2 : (a2.put (some q) (.tuple #[.bool false])).eval (.tmp q) = .tuple #[.bool false] := get_put (by rw [z2]; exact hl.2.1)
  have z3 : (a2.put (some q) (.tuple #[.bool false])).tmps.size = T1.length := size_put.trans z2
  have r2 := r1.put (u := .tuple #[.bool false]) (some q) (x := .junk) (by simp [Rv])
  have d3 : (a2.put (some q) (.tuple #[.bool false])).defers = a.defers := stepOp_defers.trans d2
  generalize a2.put (some q) (.tuple #[.bool false]) = a3 at *
  rw [if_pos (w3 _)]
  have hx3 : (execOp a3.eval xop).run c.P (C1.w.alloc (.mapIter (some (C1.ρ o).b) cl #[] cl)) = .ok (.value (.bool false)) (C1.w.alloc (.mapIter (some (C1.ρ o).b) cl #[] cl)) := by
    simp [execOp, h5.1, ev2, Instr.extract]
  refine opIn_of (fun d h => by rw [h5.1] at h; cases h) hx3 ?_
  rw [Oper.uponIn_value, h5.2.2]
  have ev3 : (a3.put (some k) (.bool false)).eval (.tmp k) = .bool false := get_put (by rw [z3]; exact hl.2.2)
  have r3 := r2.put (u := .bool false) (some k) (x := .junk) (by simp [Rv])
  have d4 : (a3.put (some k) (.bool false)).defers = a.defers := stepOp_defers.trans d3
  generalize a3.put (some k) (.bool false) = a4 at *
  show (Code.seq _ _).wpIn (fR ro) 0 c.P _ a4 _
  refine wpIn_seq (wpIn_cond_false ev3 (wpIn_exit ?_))
  show (if bid = bid then _ else _)
  rw [if_pos rfl]
  exact ⟨⟨C1.ρ, C1.S, C1.ok, C1.w.alloc (.mapIter (some (C1.ρ o).b) cl #[] cl)⟩, rfl, e1, s1, hE.trans (k2.trans s2), r3, by rw [d4]; exact hd.ext (k2.trans s2), trivial⟩
/-! ## code in a row, with a piece that the machine does not run -/
def seqs : List Code → Code → Code
  | [], c => c
  | x :: xs, c => .seq x (seqs xs c)
def headL : Nat → Code → List Code
  | n + 1, .seq a b => a :: headL n b
  | _, _ => []
def tailC : Nat → Code → Code
  | n + 1, .seq _ b => tailC n b
  | _, c => c
theorem seqs_head : ∀ (n : Nat) (c : Code), seqs (headL n c) (tailC n c) = c
  | 0, c => by cases c <;> rfl
  | n + 1, c => by
    cases c with
    | seq a b => simp only [headL, tailC, seqs, seqs_head n b]
    | _ => rfl
theorem RoOk.head {ro : Option Nat} : ∀ (n : Nat) (c : Code), RoOk ro c → (∀ x ∈ headL n c, RoOk ro x) ∧ RoOk ro (tailC n c)
  | 0, c, h => by cases c <;> exact ⟨fun x hx => (by cases hx), h⟩
  | n + 1, c, h => by
    cases c with
    | seq a b =>
      obtain ⟨k1, k2⟩ := RoOk.head n b h.seq.2
      refine ⟨fun x hx => ?_, k2⟩
      rcases List.mem_cons.1 hx with rfl | hx
      · exact h.seq.1
      · exact k1 x hx
    | _ => exact ⟨fun x hx => (by cases hx), h⟩
def evalL (c : Cfg) (ev : Ev) (lv : List Nat) (lo base n : Nat) : List Code → List AVal → List AObj → Option (List AVal × List AObj)
  | [], T, S => some (T, S)
  | x :: xs, T, S => match evalC c ev lv lo base n x T S with
    | some (.normal, T', S') => evalL c ev lv lo base n xs T' S'
    | _ => none
theorem seqs_ok {c : Cfg} {ev : Ev} (hc : CfgOk c) (he : EvOk c ev) {lv : List Nat} {ro : Option Nat} {lo base n : Nat} {C0 : Ctx} {d0 : List Nat} (hb : C0.S.length ≤ base) {rest : Code} {Q : Exit → Act → World → Prop} : ∀ (xs : List Code), (∀ x ∈ xs, RoOk ro x) → ∀ (T : List AVal) (a : Act) (C : Ctx) (T' : List AVal) (S' : List AObj),
    St C → Ext C0 C → RT C T a.tmps → MarksOk C0 d0 C a.defers → evalL c ev lv lo base n xs T C.S = some (T', S') →
    (∀ a' C', C'.S = S' → St C' → Ext C0 C' → RT C' T' a'.tmps → MarksOk C0 d0 C' a'.defers → rest.wpIn (fR ro) 0 c.P Q a' C'.w) → (seqs xs rest).wpIn (fR ro) 0 c.P Q a C.w
  | [], hro, T, a, C, T', S', hS, hE, hT, hd, h, hQ => by
    simp only [evalL, Option.some.injEq, Prod.mk.injEq] at h
    obtain ⟨rfl, rfl⟩ := h
    exact hQ a C rfl hS hE hT hd
  | x :: xs, hro, T, a, C, T', S', hS, hE, hT, hd, h, hQ => by
    simp only [evalL] at h
    split at h
    · rename_i T1 S1 h1
      refine wpIn_seq (wpIn_mono (evalC_ok hc he hb x T a C _ _ _ (hro x (by simp)) hS hE hT hd h1) ?_)
      rintro e a1 w1 ⟨C1, rfl, rfl, k1, k2, k3, k4, k5⟩
      cases e <;> simp only [AExit.is] at k5
      exact seqs_ok hc he hb xs (fun y hy => hro y (by simp [hy])) T1 a1 C1 T' S' k1 k2 k3 k4 h hQ
    · cases h
/-- What comes back by objects, as a value. -/
theorem callsP_of_A {P : Program} {f : FuncId} {ps : List PVal} {r0 : AVal} {S : List AObj} {p : PVal} (h : CallsA P f (upL ps) [] r0 S) (hp : peek (mark 0 deep S r0) deep r0 = some p) : CallsP P f ps p := by
  intro ok w vs hin hs hr
  let C : Ctx := ⟨fun _ => ⟨0, 0, 0⟩, [], ok, w⟩
  have hS : St C := ⟨fun o x hx => by simp [C] at hx, fun o o' x x' e e' hx => by simp [C] at hx, hin, fun b j hb o x e hx => by simp [C] at hx⟩
  refine (h C vs rfl hS (by simp [hs]) ((Rvs_up ps _ 0).2 hr)).mono ?_
  rintro e w' ⟨v, C', rfl, rfl, hCS, hS', hE, hrv⟩
  obtain ⟨C2, hm, hm2⟩ := mark_ok 0 deep r0 C' hS'
  have hrv2 := Rv_mono hm.ext.grows _ _ hrv
  have hE2 := hE.trans hm.ext
  have hp := peek_ok hm.st deep r0 p v (by rw [hm2, hCS]; exact hp) hrv2
  refine ⟨v, C2.ok, rfl, ?_, fun b j hb => ?_, fun b j hb => ?_, fun b j hb => ?_, ?_⟩
  · rw [← hm.w]; exact hE2.below rfl
  · exact hE2.ok b j hb
  · rcases hE2.okNew b j hb with h1 | h1 | ⟨o, x, e, h1, _⟩
    · exact .inl h1
    · exact .inr h1
    · simp [C] at h1
  · rw [← hm.w]; exact hm.st.okIn b j hb
  · rw [← hm.w]; exact hp
/-- A function's body that comes to its end. -/
theorem callsA_of_body {c : Cfg} (hc : CfgOk c) {f : FuncId} {a : FnA} (ha : c.tab f = some a) {args : List AVal} {S : List AObj} {r : AVal} {x : AExit} (hx : x = .normal ∨ x = .ret) {T' : List AVal} {S' : List AObj}
    (hr : resultsA c.P a.results T' S' = some r)
    (h : ∀ (C : Ctx) (ac : Act), C.S = S → St C → RT C (args ++ List.replicate (a.ntmps - args.length) (.v undef)) ac.tmps → MarksOk C [] C ac.defers → a.body.wpIn (fR none) 0 c.P (Post C x T' S' []) ac C.w) : CallsA c.P f args S r S' := by
  obtain ⟨fn, f1, f2, f3, f4, f5⟩ := (hc.tab f a ha).fn
  intro C vs hCS hS hs hra
  refine calls_of_body f1 f3 hx (by rw [f5]; exact hr) (h C _ hCS hS ?_ (MarksOk.nil _ _ _))
  rw [f4]
  exact enter_rel hs hra a.ntmps
end
end Go.Proofs.YtkkgimhbliocoaaGreat.Vm
/- Pieces of code put together: what each comes to is told by the machine, or by hand. -/
namespace Go.Proofs.YtkkgimhbliocoaaGreat.Vm
open Go Go.RowKit
noncomputable section
set_option linter.unusedVariables false
set_option linter.unusedSimpArgs false
def EV (c : Cfg) (base : Nat) (code : Code) (T : List AVal) (S : List AObj) (x : AExit) (T' : List AVal) (S' : List AObj) : Prop :=
  ∀ (ro : Option Nat) (C0 C : Ctx) (a : Act) (d0 : List Nat), RoOk ro code → C0.S.length ≤ base → St C → Ext C0 C → RT C T a.tmps → MarksOk C0 d0 C a.defers → C.S = S → code.wpIn (fR ro) 0 c.P (Post C0 x T' S' d0) a C.w
variable {c : Cfg} {base : Nat}
theorem EV.of (hc : CfgOk c) {ev : Ev} (he : EvOk c ev) {lv : List Nat} {lo n : Nat} {code : Code} {T T' : List AVal} {S S' : List AObj} {x : AExit} (h : evalC c ev lv lo base n code T S = some (x, T', S')) : EV c base code T S x T' S' := by
  intro ro C0 C a d0 hro hb hS hE hT hd hCS
  subst hCS
  exact evalC_ok hc he hb code T a C x T' S' hro hS hE hT hd h
theorem EV.seq {p q : Code} {T T1 T2 : List AVal} {S S1 S2 : List AObj} {x : AExit} (h : EV c base p T S .normal T1 S1) (k : EV c base q T1 S1 x T2 S2) : EV c base (.seq p q) T S x T2 S2 := by
  intro ro C0 C a d0 hro hb hS hE hT hd hCS
  refine wpIn_seq (wpIn_mono (h ro C0 C a d0 hro.seq.1 hb hS hE hT hd hCS) ?_)
  rintro e a1 w1 ⟨C1, rfl, e1, k1, k2, k3, k4, k5⟩
  cases e <;> simp only [AExit.is] at k5
  exact k ro C0 C1 a1 d0 hro.seq.2 hb k1 k2 k3 k4 e1
theorem EV.block {id : Nat} {p : Code} {T T' : List AVal} {S S' : List AObj} (h : EV c base p T S (.exit id) T' S') : EV c base (.block id p) T S .normal T' S' := by
  intro ro C0 C a d0 hro hb hS hE hT hd hCS
  refine wpIn_block (wpIn_mono (h ro C0 C a d0 hro.block hb hS hE hT hd hCS) ?_)
  rintro e a1 w1 ⟨C1, rfl, e1, k1, k2, k3, k4, k5⟩
  cases e <;> simp only [AExit.is] at k5
  subst k5
  show (if id = id then _ else _)
  rw [if_pos rfl]
  exact ⟨C1, rfl, e1, k1, k2, k3, k4, trivial⟩
theorem EV.loop {body : Code} {T : Nat → List AVal} {S : Nat → List AObj} {n : Nat} {x : AExit} {T' : List AVal} {S' : List AObj} (hs : ∀ k, k < n → EV c base body (T k) (S k) .normal (T (k + 1)) (S (k + 1))) (he : EV c base body (T n) (S n) x T' S') (hx : x ≠ .normal) :
    EV c base (.loop body) (T 0) (S 0) x T' S' := by
  intro ro C0 C a d0 hro hb hS hE hT hd hCS
  have key : ∀ (d k : Nat), k + d = n → ∀ (C : Ctx) (a : Act), St C → Ext C0 C → RT C (T k) a.tmps → MarksOk C0 d0 C a.defers → C.S = S k → Code.roundsIn (fR ro) 0 c.P body (Post C0 x T' S' d0) (d + 1) a C.w := by
    intro d
    induction d with
    | zero =>
      intro k hk C a hS hE hT hd hCS
      obtain rfl : k = n := by omega
      rw [roundsIn_succ]
      refine wpIn_mono (he ro C0 C a d0 hro.loop hb hS hE hT hd hCS) ?_
      rintro e a1 w1 ⟨C1, rfl, e1, k1, k2, k3, k4, k5⟩
      cases e with
      | normal => cases x <;> simp only [AExit.is] at k5; exact absurd rfl hx
      | _ => exact ⟨C1, rfl, e1, k1, k2, k3, k4, k5⟩
    | succ d ih =>
      intro k hk C a hS hE hT hd hCS
      rw [roundsIn_succ]
      refine wpIn_mono (hs k (by omega) ro C0 C a d0 hro.loop hb hS hE hT hd hCS) ?_
      rintro e a1 w1 ⟨C1, rfl, e1, k1, k2, k3, k4, k5⟩
      cases e <;> simp only [AExit.is] at k5
      exact ih (k + 1) (by omega) C1 a1 k1 k2 k3 k4 e1
  exact wpIn_loop_rounds (n + 1) (key n 0 (by omega) C a hS hE hT hd hCS)
theorem EV.seqX {p q : Code} {T T1 : List AVal} {S S1 : List AObj} {x : AExit} (h : EV c base p T S x T1 S1) (hx : x ≠ .normal) : EV c base (.seq p q) T S x T1 S1 := by
  intro ro C0 C a d0 hro hb hS hE hT hd hCS
  refine wpIn_seq (wpIn_mono (h ro C0 C a d0 hro.seq.1 hb hS hE hT hd hCS) ?_)
  rintro e a1 w1 ⟨C1, rfl, e1, k1, k2, k3, k4, k5⟩
  cases e with
  | normal => cases x <;> simp only [AExit.is] at k5; exact absurd rfl hx
  | _ => exact ⟨C1, rfl, e1, k1, k2, k3, k4, k5⟩
theorem EV.blockR {id : Nat} {p : Code} {T T' : List AVal} {S S' : List AObj} (h : EV c base p T S .ret T' S') : EV c base (.block id p) T S .ret T' S' := by
  intro ro C0 C a d0 hro hb hS hE hT hd hCS
  refine wpIn_block (wpIn_mono (h ro C0 C a d0 hro.block hb hS hE hT hd hCS) ?_)
  rintro e a1 w1 ⟨C1, rfl, e1, k1, k2, k3, k4, k5⟩
  cases e <;> simp only [AExit.is] at k5
  exact ⟨C1, rfl, e1, k1, k2, k3, k4, trivial⟩
theorem EV.head (hc : CfgOk c) {ev : Ev} (he : EvOk c ev) {lv : List Nat} {lo m : Nat} (n : Nat) {code : Code} {T T1 T' : List AVal} {S S1 S' : List AObj} {x : AExit} (h : evalL c ev lv lo base m (headL n code) T S = some (T1, S1)) (k : EV c base (tailC n code) T1 S1 x T' S') : EV c base code T S x T' S' := by
  intro ro C0 C a d0 hro hb hS hE hT hd hCS
  subst hCS
  rw [← seqs_head n code]
  exact seqs_ok hc he hb (headL n code) (RoOk.head n code hro).1 T a C T1 S1 hS hE hT hd h fun a1 C1 e1 k1 k2 k3 k4 => k ro C0 C1 a1 d0 (RoOk.head n code hro).2 hb k1 k2 k3 k4 e1
/-- What has come out is put in order; the rows nl are not looked into. -/
theorem EV.tidy {code : Code} {T T1 T' : List AVal} {S S1 S' : List AObj} {x : AExit} (nl : List Nat) (h : EV c base code T S x T1 S1) (hp : ∀ q ∈ nl, ∀ y, S1[q]? = some y → plainO y = true) (hc : canonTR (fun q => !memR q nl) base T1 S1 = some (T', S')) : EV c base code T S x T' S' := by
  intro ro C0 C a d0 hro hb hS hE hT hd hCS
  refine wpIn_mono (h ro C0 C a d0 hro hb hS hE hT hd hCS) ?_
  rintro e a1 w1 ⟨C1, rfl, e1, k1, k2, k3, k4, k5⟩
  subst e1
  obtain ⟨C2, h1, h2, h3, h4, h5, h6, h7, h8⟩ := canonTR_okX k1 k2 k3 hb (fun o y hy hr => by
    have hm : memR o nl = true := by simpa using hr
    have : o ∈ nl := by
      have key : ∀ l : List Nat, memR o l = true → o ∈ l := by
        intro l
        induction l with
        | nil => intro h; cases h
        | cons q l ih =>
          intro h
          simp only [memR, Bool.or_eq_true] at h
          rcases h with h | h
          · rw [Nat.eq_of_beq_eq_true h]; simp
          · simp [ih h]
      exact key nl hm
    exact hp o this y hy) hc
  exact ⟨C2, h1, h2, h3, h4, h5, k4.tidy h1 h6 h7 h8, k5⟩
def c1 : Code → Code
  | .seq a _ => a
  | _ => .skip
def c2 : Code → Code
  | .seq _ b => b
  | _ => .skip
theorem callsA_of_EV (hc : CfgOk c) {f : FuncId} {a : FnA} (ha : c.tab f = some a) {args : List AVal} {S : List AObj} {r : AVal} {x : AExit} (hx : x = .normal ∨ x = .ret) {T' : List AVal} {S' : List AObj} (hr : resultsA c.P a.results T' S' = some r)
    (h : EV c S.length a.body (args ++ List.replicate (a.ntmps - args.length) (.v undef)) S x T' S') : CallsA c.P f args S r S' :=
  callsA_of_body hc ha hx hr fun C ac hCS hS hT hd => h none C C ac [] (.inl rfl) (by rw [hCS]; exact Nat.le_refl _) hS (Ext.refl C) hT hd hCS
end
end Go.Proofs.YtkkgimhbliocoaaGreat.Vm
/- Objects put out of sight while a piece of code runs: what it comes to with them. -/
namespace Go.Proofs.YtkkgimhbliocoaaGreat.Vm
open Go Go.RowKit
noncomputable section
set_option linter.unusedVariables false
set_option linter.unusedSimpArgs false
set_option linter.unnecessarySimpa false

mutual
/-- A value goes on if all that it leads to does. -/
theorem Rv_ep {C C' : Ctx} (hρ : C'.ρ = C.ρ) (hok : C'.ok = C.ok) (hw : C'.w = C.w) :
    ∀ (x : AVal) (u : Value), (∀ o y e, ment o x = true → C.S[o]? = some y → y.ep? = some e → ∃ y', C'.S[o]? = some y' ∧ y'.ep? = some e) → Rv C x u → Rv C' x u
  | .v x, u, hk, h => by simpa [Rv] using h
  | .agg xs, u, hk, h => by
    simp only [Rv] at h ⊢
    obtain ⟨cs, h1, h2, h3⟩ := h
    exact ⟨cs, h1, h2, Rvs_ep hρ hok hw xs _ 0 (fun o y e hm => hk o y e (by simpa [ment] using hm)) h3⟩
  | .tup xs, u, hk, h => by
    simp only [Rv] at h ⊢
    obtain ⟨cs, h1, h2, h3⟩ := h
    exact ⟨cs, h1, h2, Rvs_ep hρ hok hw xs _ 0 (fun o y e hm => hk o y e (by simpa [ment] using hm)) h3⟩
  | .list n xs, u, hk, h => by simpa only [Rv, hok, hw] using h
  | .clip, u, hk, h => by simpa [Rv] using h
  | .row o ep sz off len, u, hk, h => by
    simp only [Rv] at h ⊢
    obtain ⟨a, c, h1, h2, x, e, h3, h4, h5, h6⟩ := h
    obtain ⟨y, g1, g2⟩ := hk o x e (by simp [ment]) h3 h4
    exact ⟨a, c, h1, h2, y, e, g1, g2, h5, by rw [hρ]; exact h6⟩
  | .ptr o ep off, u, hk, h => by
    simp only [Rv] at h ⊢
    obtain ⟨a, h1, x, e, h3, h4, h5, h6⟩ := h
    obtain ⟨y, g1, g2⟩ := hk o x e (by simp [ment]) h3 h4
    exact ⟨a, h1, y, e, g1, g2, h5, by rw [hρ]; exact h6⟩
  | .eptr xs, u, hk, h => by simpa only [Rv, hok, hw] using h
  | .fn f xs, u, hk, h => by
    simp only [Rv] at h ⊢
    obtain ⟨cs, h1, h2, h3⟩ := h
    exact ⟨cs, h1, h2, Rvs_ep hρ hok hw xs _ 0 (fun o y e hm => hk o y e (by simpa [ment] using hm)) h3⟩
  | .mp o, u, hk, h => by
    simp only [Rv] at h ⊢
    obtain ⟨a, h1, x, e, h3, h4, h5, h6⟩ := h
    obtain ⟨y, g1, g2⟩ := hk o x e (by simp [ment]) h3 h4
    exact ⟨a, h1, y, e, g1, g2, h5, by rw [hρ]; exact h6⟩
  | .fmap ks vs, u, hk, h => by simpa only [Rv, hok, hw] using h
  | .yld o, u, hk, h => by
    simp only [Rv] at h ⊢
    obtain ⟨a, h1, x, e, h3, h4, h5, h6⟩ := h
    obtain ⟨y, g1, g2⟩ := hk o x e (by simp [ment]) h3 h4
    exact ⟨a, h1, y, e, g1, g2, h5, by rw [hρ]; exact h6⟩
  | .junk, u, hk, h => by simp [Rv]
theorem Rvs_ep {C C' : Ctx} (hρ : C'.ρ = C.ρ) (hok : C'.ok = C.ok) (hw : C'.w = C.w) :
    ∀ (xs : List AVal) (f : Nat → Value → Prop) (i : Nat), (∀ o y e, mentL o xs = true → C.S[o]? = some y → y.ep? = some e → ∃ y', C'.S[o]? = some y' ∧ y'.ep? = some e) → Rvs C xs f i → Rvs C' xs f i
  | [], _, _, _, _ => by simp [Rvs]
  | x :: xs, f, i, hk, h => by
    simp only [Rvs] at h ⊢
    obtain ⟨⟨y, hy, hr⟩, h2⟩ := h
    exact ⟨⟨y, hy, Rv_ep hρ hok hw x y (fun o y e hm => hk o y e (by simp [mentL, hm])) hr⟩, Rvs_ep hρ hok hw xs f (i + 1) (fun o y e hm => hk o y e (by simp [mentL, hm])) h2⟩
end

/-- Does this object lead to object p? -/
def mentX (p : Nat) : AObj → Bool
  | .row _ _ _ xs => mentL p xs
  | .box xs => mentL p xs
  | .mapo _ _ vs => mentL p vs
  | .loop _ T _ _ _ _ => mentL p T
  | _ => false
theorem Robj_ep {C C' : Ctx} (hρ : C'.ρ = C.ρ) (hok : C'.ok = C.ok) (hw : C'.w = C.w) {q : Nat} {x : AObj} (hk : ∀ o y e, mentX o x = true → C.S[o]? = some y → y.ep? = some e → ∃ y', C'.S[o]? = some y' ∧ y'.ep? = some e) (h : Robj C q x) : Robj C' q x := by
  cases x with
  | box xs =>
    obtain ⟨cs, t, k1, k2, k3, k4, k5⟩ := h
    exact ⟨cs, t, by rw [hρ, hw]; exact k1, k2, by rw [hρ]; exact k3, Rvs_ep hρ hok hw xs _ 0 (fun o y e hm => hk o y e hm) k4, k5⟩
  | row sz ep fz xs =>
    obtain ⟨cs, t, k1, k2, k3, k4, k5, k6, k7⟩ := h
    exact ⟨cs, t, by rw [hρ, hw]; exact k1, by rw [hρ]; exact k2, by rw [hρ]; exact k3, k4, by rw [hρ]; exact Rvs_ep hρ hok hw xs _ 0 (fun o y e hm => hk o y e hm) k5, k6, by rw [hρ, hok]; exact k7⟩
  | mapo fz ks vs =>
    obtain ⟨es, c, k1, k2, k3, k4, k5⟩ := h
    exact ⟨es, c, by rw [hρ, hw]; exact k1, k2, k3, Rvs_ep hρ hok hw vs _ 0 (fun o y e hm => hk o y e hm) k4, by rw [hρ, hok]; exact k5⟩
  | loop lv T ps asg body st =>
    obtain ⟨r, k1, k2, k3, k4⟩ := h
    exact ⟨r, by rw [hρ, hw]; exact k1, k2, Rvs_ep hρ hok hw T _ 0 (fun o y e hm => hk o y e hm) k3, k4⟩
  | free => trivial
  | hidden => trivial
theorem hideAll_length : ∀ (U : List Nat) (S : List AObj), (hideAll U S).length = S.length
  | [], S => rfl
  | u :: U, S => (hideAll_length U (S.set u .hidden)).trans (by simp)
theorem hideAll_out : ∀ (U : List Nat) (S : List AObj) {q : Nat}, q ∉ U → (hideAll U S)[q]? = S[q]?
  | [], S, q, _ => rfl
  | u :: U, S, q, h => by
    simp only [List.mem_cons, not_or] at h
    have := hideAll_out U (S.set u .hidden) h.2
    refine this.trans ?_
    rw [List.getElem?_set, if_neg (fun h' => h.1 h'.symm)]
theorem hideAll_in : ∀ (U : List Nat) (S : List AObj) {q : Nat}, q ∈ U → q < S.length → (hideAll U S)[q]? = some .hidden
  | [], S, q, h, _ => by cases h
  | u :: U, S, q, h, hl => by
    have e : hideAll (u :: U) S = hideAll U (S.set u .hidden) := rfl
    rw [e]
    by_cases hq : q ∈ U
    · exact hideAll_in U _ hq (by simpa using hl)
    · have : q = u := (List.mem_cons.1 h).resolve_right hq
      subst this
      rw [hideAll_out U _ hq, List.getElem?_set, if_pos rfl, if_pos hl]
/-- A map's values, all but one only by name. -/
def blur (us : Nat → Value) (i : Nat) : Nat → List AVal → List AVal
  | _, [] => []
  | j, v :: vs => (bif Nat.beq j i then v else .v (us j)) :: blur us i (j + 1) vs
theorem blur_length {us : Nat → Value} {i : Nat} : ∀ (j : Nat) (vs : List AVal), (blur us i j vs).length = vs.length
  | _, [] => rfl
  | j, v :: vs => by simp [blur, blur_length (j + 1) vs]
theorem blur_get {us : Nat → Value} {i : Nat} : ∀ (j : Nat) (vs : List AVal) (n : Nat), (blur us i j vs)[n]? = (vs[n]?).map fun v => bif Nat.beq (j + n) i then v else .v (us (j + n))
  | _, [], n => by simp [blur]
  | j, v :: vs, 0 => by simp [blur]
  | j, v :: vs, n + 1 => by
    simp only [blur, List.getElem?_cons_succ]
    rw [blur_get (j + 1) vs n, show j + 1 + n = j + (n + 1) by omega]
def restoreL (H : List Nat) (o : Nat) (m : AObj) (S : List AObj) : Nat → List AObj → List AObj
  | _, [] => []
  | q, x :: xs => (bif H.contains q then S.getD q .free else bif Nat.beq q o then m else x) :: restoreL H o m S (q + 1) xs
theorem restoreL_get {H : List Nat} {o : Nat} {m : AObj} {S : List AObj} : ∀ (q : Nat) (xs : List AObj) (n : Nat), (restoreL H o m S q xs)[n]? = (xs[n]?).map fun x => bif H.contains (q + n) then S.getD (q + n) .free else bif Nat.beq (q + n) o then m else x
  | _, [], n => by simp [restoreL]
  | q, x :: xs, 0 => by simp [restoreL]
  | q, x :: xs, n + 1 => by
    simp only [restoreL, List.getElem?_cons_succ]
    rw [restoreL_get (q + 1) xs n, show q + 1 + n = q + (n + 1) by omega]

variable {c : Cfg}
/-- A piece of code that looks at one entry of a map, and at none of the objects H: run with all that out of sight. -/
theorem EV.hide {bh base : Nat} {code : Code} {H : List Nat} {o i : Nat} {ks : List Int} {vs : List AVal} {y : AVal} {T T' : List AVal} {S S' : List AObj} {S1 : (Nat → Value) → List AObj} {x : AExit}
    (h : ∀ us : Nat → Value, EV c bh code T (hideAll H (S.set o (.mapo false ks (blur us i 0 vs)))) x T' (S1 us)) (hbh : S.length ≤ bh) (ho : S[o]? = some (.mapo false ks vs)) (hoH : o ∉ H)
    (hcl : ∀ p ∈ H, mentL p T = false ∧ (∀ v, vs[i]? = some v → ment p v = false) ∧ ∀ (q : Nat) (z : AObj), q ∉ H → q ≠ o → S[q]? = some z → mentX p z = false)
    (hH : ∀ us, ∀ q ∈ H, (S1 us)[q]? = some .hidden) (ho1 : ∀ us, (S1 us)[o]? = some (.mapo false ks (blur us i 0 (vs.set i y)))) (hS' : ∀ us, restoreL H o (.mapo false ks (vs.set i y)) S 0 (S1 us) = S') : EV c base code T S x T' S' := by
  intro ro C0 C a d0 hro hb hS hE hT hd hCS
  subst hCS
  obtain ⟨es, cl, m1, m2, m3, m4, m5⟩ := hS.obj o _ ho
  let us : Nat → Value := fun j => (es[j]?.map (·.val)).getD undef
  have hus : ∀ j e, es[j]? = some e → us j = e.val := fun j e he => by simp [us, he]
  let m : AObj := .mapo false ks (blur us i 0 vs)
  have hol : o < C.S.length := (List.getElem?_eq_some_iff.1 ho).1
  let Sh := hideAll H (C.S.set o m)
  let Ch : Ctx := ⟨C.ρ, Sh, C.ok, C.w⟩
  have hout : ∀ q, q ∉ H → Sh[q]? = if q = o then some m else C.S[q]? := fun q hq => by
    show (hideAll H (C.S.set o m))[q]? = _
    rw [hideAll_out H _ hq, List.getElem?_set]
    by_cases hqo : q = o
    · subst hqo; rw [if_pos rfl, if_pos rfl, if_pos hol]
    · rw [if_neg hqo, if_neg (fun h => hqo h.symm)]
  have hsub : ∀ (q : Nat) (z : AObj) (e : Nat), Sh[q]? = some z → z.ep? = some e → q ∉ H ∧ ∃ z', C.S[q]? = some z' ∧ z'.ep? = some e := by
    intro q z e hz he
    rcases hideAll_get H _ hz with rfl | ⟨hq, _⟩
    · cases he
    · refine ⟨hq, ?_⟩
      rw [hout q hq] at hz
      split at hz
      · rename_i hqo
        subst hqo
        simp only [Option.some.injEq] at hz
        subst hz
        exact ⟨_, ho, he⟩
      · exact ⟨z, hz, he⟩
  have hsup : ∀ (q : Nat) (z : AObj) (e : Nat), q ∉ H → C.S[q]? = some z → z.ep? = some e → ∃ z', Sh[q]? = some z' ∧ z'.ep? = some e := by
    intro q z e hq hz he
    rw [hout q hq]
    split
    · rename_i hqo
      subst hqo
      rw [ho] at hz; cases hz
      exact ⟨m, rfl, he⟩
    · exact ⟨z, hz, he⟩
  have hnm : ∀ {p : Nat} {b : Bool}, (p ∈ H → b = false) → b = true → p ∉ H := fun h1 h2 h3 => by rw [h1 h3] at h2; cases h2
  have hSh : St Ch := by
    refine ⟨fun q z hz => ?_, fun q q' z z' e e' hz hz' he he' hbb => ?_, hS.okIn, fun b j hbj q z e hz he hbo => ?_⟩
    · rcases hideAll_get H _ hz with rfl | ⟨hq, _⟩
      · trivial
      · rw [show Ch.S[q]? = Sh[q]? from rfl, hout q hq] at hz
        split at hz
        · rename_i hqo
          subst hqo
          simp only [Option.some.injEq] at hz
          subst hz
          refine ⟨es, cl, m1, m2, by rw [m3, blur_length], Rvs_mk fun j v hv => ?_, m5⟩
          rw [blur_get] at hv
          simp only [Option.map_eq_some_iff, Nat.zero_add] at hv
          obtain ⟨v0, hv0, rfl⟩ := hv
          obtain ⟨u, ⟨e, he, rfl⟩, hu⟩ := Rvs_get m4 j v0 hv0
          rw [Nat.zero_add] at he
          refine ⟨e.val, ⟨e, by rw [Nat.zero_add]; exact he, rfl⟩, ?_⟩
          cases hji : Nat.beq j i with
          | true =>
            have := Nat.eq_of_beq_eq_true hji
            subst this
            exact Rv_ep (C := C) (C' := Ch) rfl rfl rfl v0 _ (fun p z e hm hz he => hsup p z e (hnm (fun hp => (hcl p hp).2.1 v0 hv0) hm) hz he) hu
          | false => simp [Rv, hus j e he]
        · rename_i hqo
          exact Robj_ep (C := C) (C' := Ch) rfl rfl rfl (fun p z' e hm hz' he => hsup p z' e (hnm (fun hp => (hcl p hp).2.2 q z hq hqo hz) hm) hz' he) (hS.obj q z hz)
    · obtain ⟨_, y1, k1, k2⟩ := hsub q z e hz he
      obtain ⟨_, y2, k3, k4⟩ := hsub q' z' e' hz' he'
      exact hS.inj q q' y1 y2 e e' k1 k3 k2 k4 hbb
    · obtain ⟨hq, y1, k1, k2⟩ := hsub q z e hz he
      have hf := hS.okRow b j hbj q y1 e k1 k2 hbo
      rw [show Ch.S[q]? = Sh[q]? from rfl, hout q hq] at hz
      split at hz
      · rename_i hqo
        subst hqo
        rw [ho] at k1; cases k1
        rcases hf with ⟨_, _, _, _, hf, _⟩ | ⟨_, _, hf⟩ <;> cases hf
      · rw [hz] at k1; cases k1
        exact hf
  have hTh : RT Ch T a.tmps := ⟨hT.1, Rvs_ep (C := C) (C' := Ch) rfl rfl rfl T _ 0 (fun p z e hm hz he => hsup p z e (hnm (fun hp => (hcl p hp).1) hm) hz he) hT.2⟩
  obtain ⟨Ds, q1, q2, q3⟩ := hd
  have hdh : MarksOk Ch Ds Ch a.defers := ⟨Ds, q1, q2, fun D hD => ⟨(q3 D hD).1, ⟨fun p z e hz he hbb => by obtain ⟨_, z', k1, k2⟩ := hsub p z e hz he; exact (q3 D hD).2.1.1 p z' e k1 k2 hbb, (q3 D hD).2.1.2⟩, .inl hD⟩⟩
  refine wpIn_mono (h us ro Ch Ch a Ds hro (by show (hideAll H (C.S.set o m)).length ≤ bh; rw [hideAll_length, List.length_set]; exact hbh) hSh (Ext.refl Ch) hTh hdh rfl) ?_
  rintro e1 a1 w1 ⟨C1, rfl, hC1, hS1, hE1, hT1, hd1, hx1⟩
  let C' : Ctx := ⟨fun q => if q ∈ H then C.ρ q else C1.ρ q, S', C1.ok, C1.w⟩
  have hlen1 : Sh.length ≤ C1.S.length ∨ True := .inr trivial
  have hget : ∀ q, S'[q]? = (C1.S[q]?).map fun z => if q ∈ H then C.S.getD q .free else if q = o then .mapo false ks (vs.set i y) else z := fun q => by
    rw [← hS' us, restoreL_get, hC1]
    simp only [Nat.zero_add]
    congr 1
    funext z
    by_cases hq : q ∈ H
    · have : H.contains q = true := by simpa using hq
      rw [this, if_pos hq]; rfl
    · have : H.contains q = false := by simpa using hq
      rw [this, if_neg hq]
      simp only [cond_false]
      by_cases hqo : q = o
      · subst hqo
        rw [if_pos rfl, show Nat.beq q q = true from Nat.beq_refl q]; rfl
      · have : Nat.beq q o = false := by
          cases hb : Nat.beq q o with
          | true => exact absurd (Nat.eq_of_beq_eq_true hb) hqo
          | false => rfl
        rw [if_neg hqo, this]; rfl
  have hgH : ∀ q z, q ∈ H → C.S[q]? = some z → S'[q]? = some z := fun q z hq hz => by
    rw [hget q, hC1, hH us q hq, Option.map_some, if_pos hq]
    simp [List.getD, hz]
  have hgH' : ∀ (q : Nat) (z : AObj) (e : Nat), q ∈ H → S'[q]? = some z → z.ep? = some e → C.S[q]? = some z := fun q z e hq hz he => by
    rw [hget q, hC1, hH us q hq, Option.map_some, if_pos hq] at hz
    simp only [Option.some.injEq, List.getD] at hz
    cases hc : C.S[q]? with
    | none => rw [hc] at hz; subst hz; cases he
    | some z' => rw [hc] at hz; simpa using hz
  have hgo : S'[o]? = some (.mapo false ks (vs.set i y)) := by rw [hget o, hC1, ho1 us, Option.map_some, if_neg hoH, if_pos rfl]
  have hgn : ∀ q, q ∉ H → q ≠ o → S'[q]? = C1.S[q]? := fun q hq hqo => by
    rw [hget q]
    cases C1.S[q]? with
    | none => rfl
    | some z => rw [Option.map_some, if_neg hq, if_neg hqo]
  have hρH : ∀ q, q ∈ H → C'.ρ q = C.ρ q := fun q hq => by simp only [C', if_pos hq]
  have hρn : ∀ q, q ∉ H → C'.ρ q = C1.ρ q := fun q hq => by simp only [C', if_neg hq]
  have hno1 : ∀ (q : Nat) (z : AObj) (e : Nat), C1.S[q]? = some z → z.ep? = some e → q ∉ H := fun q z e hz he hq => by
    rw [hC1, hH us q hq] at hz; cases hz; cases he
  -- the map stands where it stood
  have hρo : C1.ρ o = C.ρ o := by
    obtain ⟨x', e', g1, g2, g3⟩ := hE1.grows.refs o m 0 (by rw [show Ch.S[o]? = Sh[o]? from rfl, hout o hoH, if_pos rfl]) rfl
    rw [hC1, ho1 us] at g1; cases g1
    simp only [AObj.ep?, Option.some.injEq] at g2
    subst g2
    rcases g3 with ⟨_, g3⟩ | g3
    · exact g3
    · omega
  have g1 : Grows C1 C' := by
    refine ⟨⟨fun _ _ h => h, fun _ _ h => h⟩, fun q z e hz he => ?_⟩
    have hq := hno1 q z e hz he
    by_cases hqo : q = o
    · subst hqo
      rw [hC1, ho1 us] at hz; cases hz
      exact ⟨_, e, hgo, he, .inl ⟨rfl, hρn q hq⟩⟩
    · exact ⟨z, e, (hgn q hq hqo).trans hz, he, .inl ⟨rfl, hρn q hq⟩⟩
  have gC : Grows C C' := by
    refine ⟨⟨fun b z hz => hE1.grows.sees.cell b z hz, fun b z hz => hE1.grows.sees.mp b z hz⟩, fun q z e hz he => ?_⟩
    by_cases hq : q ∈ H
    · exact ⟨z, e, hgH q z hq hz, he, .inl ⟨rfl, hρH q hq⟩⟩
    · by_cases hqo : q = o
      · subst hqo
        rw [ho] at hz; cases hz
        simp only [AObj.ep?, Option.some.injEq] at he
        subst he
        exact ⟨_, 0, hgo, rfl, .inl ⟨rfl, by rw [hρn q hq, hρo]⟩⟩
      · obtain ⟨x', e', k1, k2, k3⟩ := hE1.grows.refs q z e (by rw [show Ch.S[q]? = Sh[q]? from rfl, hout q hq, if_neg hqo]; exact hz) he
        exact ⟨x', e', by show S'[q]? = _; rw [hgn q hq hqo]; exact k1, k2, by rw [hρn q hq]; exact k3⟩
  have hframe : ∀ b, b < C.w.heap.size → (∀ q z e, q ∉ H → C.S[q]? = some z → z.ep? = some e → (C.ρ q).b ≠ b) → C1.w.heap[b]? = C.w.heap[b]? := fun b hb hn => hE1.frame b hb fun q z e hz he hbo => by
    obtain ⟨hq, z', k1, k2⟩ := hsub q z e hz he
    exact hn q z' e hq k1 k2 hbo
  have hblk : ∀ (q : Nat) (z : AObj) (e : Nat), q ∉ H → S'[q]? = some z → z.ep? = some e → C.w.heap.size ≤ (C1.ρ q).b ∨ ∃ q2 z2 e2, q2 ∉ H ∧ C.S[q2]? = some z2 ∧ z2.ep? = some e2 ∧ (C.ρ q2).b = (C1.ρ q).b := by
    intro q z e hq hz he
    have : ∃ z1 e1, C1.S[q]? = some z1 ∧ z1.ep? = some e1 := by
      by_cases hqo : q = o
      · subst hqo; exact ⟨_, 0, by rw [hC1]; exact ho1 us, rfl⟩
      · exact ⟨z, e, (hgn q hq hqo).symm.trans hz, he⟩
    obtain ⟨z1, e1, k1, k2⟩ := this
    rcases hE1.blocks q z1 e1 k1 k2 with h1 | ⟨q2, z2, e2, h1, h2, h3⟩
    · exact .inl h1
    · obtain ⟨hq2, z3, k3, k4⟩ := hsub q2 z2 e2 h1 h2
      exact .inr ⟨q2, z3, e2, hq2, k3, k4, h3⟩
  have hltC : ∀ (q : Nat) (z : AObj) (e : Nat), C.S[q]? = some z → z.ep? = some e → (C.ρ q).b < C.w.heap.size := fun q z e hz he => (hS.obj q z hz).lt he
  have hcross : ∀ (q q' : Nat) (z z' : AObj) (e e' : Nat), q ∈ H → q' ∉ H → S'[q]? = some z → z.ep? = some e → S'[q']? = some z' → z'.ep? = some e' → (C.ρ q).b = (C1.ρ q').b → False := by
    intro q q' z z' e e' hq hq' hz he hz' he' hbb
    have hzC := hgH' q z e hq hz he
    rcases hblk q' z' e' hq' hz' he' with h1 | ⟨q2, z2, e2, h1, h2, h3, h4⟩
    · have := hltC q z e hzC he; omega
    · have := hS.inj q q2 z z2 e e2 hzC h2 he h3 (hbb.trans h4.symm)
      subst this
      exact h1 hq
  have ep1 : ∀ (q : Nat) (z : AObj) (e : Nat), q ∉ H → S'[q]? = some z → z.ep? = some e → ∃ z1, C1.S[q]? = some z1 ∧ z1.ep? = some e := by
    intro q z e hq hz he
    by_cases hqo : q = o
    · subst hqo
      rw [hgo] at hz; cases hz
      exact ⟨.mapo false ks (blur us i 0 (vs.set i y)), by rw [hC1]; exact ho1 us, he⟩
    · exact ⟨z, (hgn q hq hqo).symm.trans hz, he⟩
  have hmk : MarksOk C0 d0 C' a1.defers := by
    obtain ⟨Ds1, p1, p2, p3⟩ := hd1
    refine ⟨Ds1, p1, p2, fun D hD => ?_⟩
    obtain ⟨l1, l2, l3⟩ := p3 D hD
    refine ⟨l1, ⟨fun q z e hz he hbb => ?_, l2.2⟩, ?_⟩
    · by_cases hq : q ∈ H
      · rw [hρH q hq] at hbb
        have hzC := hgH' q z e hq hz he
        rcases l3 with l3 | l3
        · exact (q3 D l3).2.1.1 q z e hzC he hbb
        · have := hltC q z e hzC he
          have l3 : C.w.heap.size ≤ D := l3
          omega
      · rw [hρn q hq] at hbb
        obtain ⟨z1, k1, k2⟩ := ep1 q z e hq hz he
        exact l2.1 q z1 e k1 k2 hbb
    · rcases l3 with l3 | l3
      · exact (q3 D l3).2.2
      · exact .inr (Nat.le_trans hE.size l3)
  refine ⟨C', rfl, rfl, ⟨fun q z hz => ?_, fun q q' z z' e e' hz hz' he he' hbb => ?_, hS1.okIn, fun b j hbj q z e hz he hbo => ?_⟩, hE.trans ⟨gC, hE1.os, hE1.tape, hE1.output, hE1.size, hE1.ok, fun b hb hn => hframe b hb fun q z e _ hz he => hn q z e hz he, fun b j hj => ?_, fun q z e hz he => ?_⟩, hT1.mono g1, hmk, hx1⟩
  · by_cases hq : q ∈ H
    · cases hep : z.ep? with
      | none => cases z <;> first | trivial | (simp [AObj.ep?] at hep; done)
      | some e =>
        have hzC := hgH' q z e hq hz hep
        refine (hS.obj q z hzC).keep gC hE1.ok (hρH q hq) fun e2 he2 => ?_
        refine hframe _ (hltC q z e hzC hep) fun q2 z2 e3 hq2 hz2 he3 hbb => ?_
        have := hS.inj q2 q z2 z e3 e hz2 hzC he3 hep hbb
        subst this
        exact hq2 hq
    · by_cases hqo : q = o
      · subst hqo
        rw [show C'.S[q]? = S'[q]? from rfl, hgo] at hz; cases hz
        obtain ⟨es1, cl1, n1, n2, n3, n4, n5⟩ := hS1.obj q _ (by rw [hC1]; exact ho1 us)
        have hsz1 : es1.size = vs.length := by rw [n3, blur_length, List.length_set]
        refine ⟨es1, cl1, by rw [hρn q hq]; exact n1, n2, by rw [hsz1, List.length_set], Rvs_mk fun j v hv => ?_, (fun h => by cases h), n5.2⟩
        have hb1 := blur_get (us := us) (i := i) 0 (vs.set i y) j
        rw [hv] at hb1
        simp only [Option.map_some, Nat.zero_add] at hb1
        obtain ⟨u, hu1, hu2⟩ := Rvs_get n4 j _ hb1
        refine ⟨u, hu1, ?_⟩
        cases hji : Nat.beq j i with
        | true =>
          rw [hji] at hu2
          exact Rv_mono g1 _ _ hu2
        | false =>
          rw [hji] at hu2
          simp only [cond_false, Rv] at hu2
          subst hu2
          have hne : i ≠ j := fun h => by subst h; rw [show Nat.beq i i = true from Nat.beq_refl i] at hji; cases hji
          rw [List.getElem?_set, if_neg hne] at hv
          obtain ⟨u0, ⟨e0, he0, rfl⟩, hu0⟩ := Rvs_get m4 j v hv
          rw [Nat.zero_add] at he0
          rw [hus j e0 he0]
          exact Rv_mono gC _ _ hu0
      · have hz1 : C1.S[q]? = some z := (hgn q hq hqo).symm.trans hz
        exact (hS1.obj q z hz1).keep g1 (fun _ _ h => h) (hρn q hq) fun _ _ => rfl
  · by_cases hq : q ∈ H <;> by_cases hq' : q' ∈ H
    · rw [hρH q hq, hρH q' hq'] at hbb
      exact hS.inj q q' z z' e e' (hgH' q z e hq hz he) (hgH' q' z' e' hq' hz' he') he he' hbb
    · rw [hρH q hq, hρn q' hq'] at hbb
      exact (hcross q q' z z' e e' hq hq' hz he hz' he' hbb).elim
    · rw [hρn q hq, hρH q' hq'] at hbb
      exact (hcross q' q z' z e' e hq' hq hz' he' hz he hbb.symm).elim
    · rw [hρn q hq, hρn q' hq'] at hbb
      obtain ⟨z1, k1, k2⟩ := ep1 q z e hq hz he
      obtain ⟨z2, k3, k4⟩ := ep1 q' z' e' hq' hz' he'
      exact hS1.inj q q' z1 z2 e e' k1 k3 k2 k4 hbb
  · by_cases hq : q ∈ H
    · rw [hρH q hq] at hbo ⊢
      have hzC := hgH' q z e hq hz he
      rcases hE1.okNew b j hbj with h1 | h1 | ⟨q2, z2, e2, h1, h2, h3⟩
      · exact hS.okRow b j h1 q z e hzC he hbo
      · have := hltC q z e hzC he
        have h1 : C.w.heap.size ≤ b := h1
        omega
      · exfalso
        obtain ⟨hq2, z3, k1, k2⟩ := hsub q2 z2 e2 h1 h2
        have := hS.inj q q2 z z3 e e2 hzC k1 he k2 (hbo.trans h3.symm)
        subst this
        exact hq2 hq
    · rw [hρn q hq] at hbo ⊢
      by_cases hqo : q = o
      · exfalso
        subst hqo
        rcases hS1.okRow b j hbj q _ 0 (by rw [hC1]; exact ho1 us) rfl hbo with ⟨_, _, _, _, hf, _⟩ | ⟨_, _, hf⟩ <;> cases hf
      · exact hS1.okRow b j hbj q z e ((hgn q hq hqo).symm.trans hz) he hbo
  · rcases hE1.okNew b j hj with h1 | h1 | ⟨q2, z2, e2, h1, h2, h3⟩
    · exact .inl h1
    · exact .inr (.inl h1)
    · obtain ⟨hq2, z3, k1, k2⟩ := hsub q2 z2 e2 h1 h2
      exact .inr (.inr ⟨q2, z3, e2, k1, k2, h3⟩)
  · by_cases hq : q ∈ H
    · exact .inr ⟨q, z, e, hgH' q z e hq hz he, he, by rw [hρH q hq]⟩
    · rw [hρn q hq]
      rcases hblk q z e hq hz he with h1 | ⟨q2, z2, e2, h1, h2, h3, h4⟩
      · exact .inl h1
      · exact .inr ⟨q2, z2, e2, h2, h3, h4⟩
end
end Go.Proofs.YtkkgimhbliocoaaGreat.Vm
