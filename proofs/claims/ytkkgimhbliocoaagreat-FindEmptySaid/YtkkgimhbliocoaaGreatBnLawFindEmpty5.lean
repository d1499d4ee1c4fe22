/- Texts put together: VmEval, VmFun, VmPath, VmLib, VmRound. What is proved stands at the head of each part. -/
import Derived.Test.YtkkgimhbliocoaaGreatBnLawFindEmpty4
import Derived.RangeFuncIn
/- Code and functions of the abstract machine are the model's. -/
namespace Go.Proofs.YtkkgimhbliocoaaGreat.Vm
open Go Go.RowKit
set_option linter.unusedVariables false
set_option linter.unusedSimpArgs false
set_option linter.unnecessarySimpa false

/-! ## regions in the text's order -/
theorem stepOp_defers {a : Act} {d : Option Tmp} {u : Value} : (a.put d u).defers = a.defers := by cases d <;> rfl
theorem runOps_ok {c : Cfg} {ev : Ev} (hc : CfgOk c) (he : EvOk c ev) {ro : Option Nat} {lo : Nat} {ops : Array Oper} {C0 : Ctx} {d0 : List Deferred} {Q : Exit → Act → World → Prop} : ∀ (rest : List Oper) (i : Nat) (T : List AVal) (a : Act) (C : Ctx) (T' : List AVal) (S' : List AObj),
    ops.toList.drop i = rest → St C → Ext C0 C → RT C T a.tmps → a.defers = d0 → runOps c ev lo ops rest T C.S = some (T', S') →
    (∀ a' C', C'.S = S' → St C' → Ext C0 C' → RT C' T' a'.tmps → a'.defers = d0 → Q .normal a' C'.w) → wpOpsIn (fR ro) 0 c.P ops Q (List.range' i (ops.size - i)) a C.w
  | [], i, T, a, C, T', S', hd, hS, hE, hT, hda, h, hQ => by
    simp only [runOps, Option.some.injEq, Prod.mk.injEq] at h
    obtain ⟨rfl, rfl⟩ := h
    have : ops.size ≤ i := by simpa using hd
    rw [show ops.size - i = 0 by omega]
    exact hQ a C rfl hS hE hT hda
  | o :: rest, i, T, a, C, T', S', hd, hS, hE, hT, hda, h, hQ => by
    have hi : i < ops.size := by
      rcases Nat.lt_or_ge i ops.size with h1 | h1
      · exact h1
      · rw [List.drop_eq_nil_of_le (by simpa using h1)] at hd; cases hd
    rw [List.drop_eq_getElem_cons (by simpa using hi)] at hd
    obtain ⟨ho, hrest⟩ := List.cons.inj hd
    have ho' : ops[i]? = some o := by rw [Array.getElem?_eq_getElem hi]; simpa using ho
    rw [show ops.size - i = (ops.size - (i + 1)) + 1 by omega, List.range'_succ]
    simp only [wpOpsIn, ho']
    simp only [runOps, putK_eq] at h
    split at h
    · rename_i hw
      rw [wanted_ok hT hw, if_pos rfl]
      split at h
      · rename_i x S1 hx
        refine (stepOp_ok hc he hS hT (slotOf_ok lo C.S) hx fun u C1 h1 h2 h3 h4 => ?_).1
        rw [← h1] at h
        exact runOps_ok hc he rest (i + 1) _ _ C1 T' S' hrest h2 (hE.trans h3) ((hT.mono h3.grows).put _ h4) (stepOp_defers.trans hda) h hQ
      · cases h
    · rename_i hw
      rw [wanted_ok hT hw, if_neg (by simp)]
      refine ⟨fun f _ => fR_fn ro f, ?_⟩
      exact runOps_ok hc he rest (i + 1) _ _ C T' S' hrest hS hE (hT.put _ (by simp [Rv])) (stepOp_defers.trans hda) h hQ
    · cases h
theorem stepOp_stays {c : Cfg} {ev : Ev} (hc : CfgOk c) (he : EvOk c ev) {lo slot : Nat} {o : Oper} {T : List AVal} {S : List AObj} {x : AVal} {S' : List AObj} (h : stepOp c ev lo T S slot o = some (x, S')) : Stays lo S S' := by
  unfold stepOp at h
  split at h
  · split at h
    · exact (callA_ok hc he h).2.2
    · exact (he.ylds _ _ _ _ _ _ h).2.2
    · cases h
  · split at h
    · split at h
      · rename_i hlo
        simp only [Option.some.injEq, Prod.mk.injEq] at h
        obtain ⟨_, rfl⟩ := h
        exact Stays.eff _ _ hlo
      · cases h
    · cases h
theorem runOps_stays {c : Cfg} {ev : Ev} (hc : CfgOk c) (he : EvOk c ev) {lo : Nat} {ops : Array Oper} : ∀ (rest : List Oper) (T : List AVal) (S : List AObj) (T' : List AVal) (S' : List AObj), runOps c ev lo ops rest T S = some (T', S') → Stays lo S S'
  | [], T, S, T', S', h => by
    simp only [runOps, Option.some.injEq, Prod.mk.injEq] at h
    obtain ⟨_, rfl⟩ := h
    exact Stays.refl _ _
  | o :: rest, T, S, T', S', h => by
    simp only [runOps, putK_eq] at h
    split at h
    · split at h
      · rename_i x S1 hx
        exact (stepOp_stays hc he hx).trans (runOps_stays hc he rest _ _ _ _ h)
      · cases h
    · exact runOps_stays hc he rest _ _ _ _ h
    · cases h

/-! ## code -/
def AExit.is : AExit → Exit → Prop
  | .normal, .normal => True
  | .exit i, .exit j => i = j
  | .ret, .ret => True
  | _, _ => False
/-- Where code has come to. -/
def Post (C0 : Ctx) (x : AExit) (T' : List AVal) (S' : List AObj) (d0 : List Nat) (e : Exit) (a' : Act) (w' : World) : Prop :=
  ∃ C', C'.w = w' ∧ C'.S = S' ∧ St C' ∧ Ext C0 C' ∧ RT C' T' a'.tmps ∧ MarksOk C0 d0 C' a'.defers ∧ x.is e
/-- In a round's frame no range over a function begins. -/
def RoOk (ro : Option Nat) (code : Code) : Prop := ro = none ∨ noRF code = true
theorem RoOk.seq {ro : Option Nat} {p q : Code} (h : RoOk ro (.seq p q)) : RoOk ro p ∧ RoOk ro q := by
  rcases h with h | h
  · exact ⟨.inl h, .inl h⟩
  · simp only [noRF, Bool.and_eq_true] at h
    exact ⟨.inr h.1, .inr h.2⟩
theorem RoOk.cond {ro : Option Nat} {x : Operand} {p q : Code} (h : RoOk ro (.cond x p q)) : RoOk ro p ∧ RoOk ro q := by
  rcases h with h | h
  · exact ⟨.inl h, .inl h⟩
  · simp only [noRF, Bool.and_eq_true] at h
    exact ⟨.inr h.1, .inr h.2⟩
theorem RoOk.block {ro : Option Nat} {i : Nat} {p : Code} (h : RoOk ro (.block i p)) : RoOk ro p := h.imp id fun h => by simpa only [noRF] using h
theorem RoOk.loop {ro : Option Nat} {p : Code} (h : RoOk ro (.loop p)) : RoOk ro p := h.imp id fun h => by simpa only [noRF] using h
theorem RoOk.scope {ro : Option Nat} {p : Code} (h : RoOk ro (.scope p)) : RoOk ro p := h.imp id fun h => by simpa only [noRF] using h
theorem stepR_scope {P : Program} {b : Frame} {a : Act} {k : List Item} {cs : List Frame} {w : World} {c : Code} : step P (lone (b.atR a (.code (.scope c) :: k)) cs w) = .next (lone (b.atR a (.code c :: .inScope c :: k)) cs w) :=
  step_lone_go (by simp [stepG, stepG.exec, Frame.atR])
theorem stepR_inScope {P : Program} {b : Frame} {a : Act} {k : List Item} {cs : List Frame} {w : World} {c : Code} : step P (lone (b.atR a (.inScope c :: k)) cs w) = .next (lone (b.atR a k) cs w) :=
  step_lone_go (by simp [stepG, stepG.exec, Frame.atR])
theorem wpIn_scope_straight {F : Fence} {n : Nat} {P : Program} {Q : Exit → Act → World → Prop} {a : Act} {w : World} {c : Code} (h : c.wpIn F n P (Exit.noGoto Q) a w) : (Code.scope c).wpIn F n P Q a w := by
  intro b k cs hro hb hr
  have h0 : (lone (b.atR a (.code (.scope c) :: k)) cs w).fenced P F := fenced_calm hb hr rfl
  obtain ⟨e, a₁, w₁, hq, harr⟩ := h b (.inScope c :: k) cs hro hb hr
  cases e with
  | normal => exact ⟨.normal, a₁, w₁, hq, .head h0 stepR_scope (StepsIn.trans harr (.one (fenced_calm hb hr rfl) stepR_inScope))⟩
  | exit id =>
    have hx : exitTo id (.inScope c :: k) = exitTo id k := by simp [exitTo]
    exact ⟨.exit id, a₁, w₁, hq, fun k' hk => .head h0 stepR_scope (harr.1 k' (by rw [hx]; exact hk)), fun hr' hk => let ⟨k₁, h1, h2⟩ := harr.2 hr' (by rw [hx]; exact hk); ⟨k₁, h1, .head h0 stepR_scope h2⟩⟩
  | goto l => exact hq.elim
  | ret => exact ⟨_, a₁, w₁, hq, .of_steps (.one h0 stepR_scope) harr⟩
  | panic ch => exact ⟨_, a₁, w₁, hq, .of_steps (.one h0 stepR_scope) harr⟩
  | outgrown => exact ⟨_, a₁, w₁, hq, .of_steps (b := b) (k := k) (cs := cs) (e := .outgrown) (.one h0 stepR_scope) harr⟩
theorem endLp_ok {c : Cfg} {C0 C C2 : Ctx} {d0 : List Nat} {q : Nat} {T T' : List AVal} {S' : List AObj} {x : AExit} {a : Act} {ob : AObj} (hob : C.S[q]? = some ob) (hep : ob.ep? = some 0) (hE : Ext C C2) (hE0 : Ext C0 C2) (hS : St C2) (hT : RT C2 T a.tmps) (hd : MarksOk C0 d0 C2 a.defers)
    (h : endLp T C2.S q = some (x, T', S')) : ∃ jump w4, (Instr.endLoop (C.ρ q).b).run c.P C2.w = .ok jump w4 ∧ (match jump with | none => Post C0 x T' S' d0 .normal a w4 | some j => j.wpIn Fence.wide 0 c.P (Post C0 x T' S' d0) a w4) := by
  have key : ∀ (lv : List Nat) (Tq : List AVal) (ps : Array Tmp) (asg body : Code) (st : LpSt), C2.S[q]? = some (.loop lv Tq ps asg body st) → st = .ready ∨ (∃ j, st = .done j) →
      ∃ r : Loop, LpOk st r ∧ ∃ w4, (Instr.endLoop (C.ρ q).b).run c.P C2.w = .ok r.pending w4 ∧ St ⟨C2.ρ, setSt C2.S q .over, C2.ok, w4⟩ ∧ Ext C2 ⟨C2.ρ, setSt C2.S q .over, C2.ok, w4⟩ := by
    intro lv Tq ps asg body st hq hst
    have hρ : C2.ρ q = C.ρ q := hE.at0 hob hep hq rfl
    obtain ⟨r, k1, k2, k3, k4, k5⟩ := hS.obj q _ hq
    have hb : r.state ≠ .busy := by
      rcases hst with rfl | ⟨j, rfl⟩ <;> (rw [k5.1]; simp)
    rw [hρ] at k1
    obtain ⟨l1, l2⟩ := turnedL hS hq (r := r) (r' := { r with state := .exhausted }) (st' := .over) (by rw [hρ]; exact k1) ⟨rfl, rfl, rfl, rfl⟩ trivial
    rw [setSt_loop hq]
    rw [hρ] at l1 l2
    exact ⟨r, k5, _, run_endLoop k1 hb, l1, l2⟩
  unfold endLp at h
  split at h
  · rename_i hq
    simp only [Option.some.injEq, Prod.mk.injEq] at h
    obtain ⟨rfl, rfl, rfl⟩ := h
    obtain ⟨r, k1, w4, k2, k3, k4⟩ := key _ _ _ _ _ _ hq (.inl rfl)
    rw [k1.2] at k2
    exact ⟨none, w4, k2, _, rfl, rfl, k3, hE0.trans k4, hT.mono k4.grows, hd.ext k4, trivial⟩
  · rename_i hq
    simp only [Option.some.injEq, Prod.mk.injEq] at h
    obtain ⟨rfl, rfl, rfl⟩ := h
    obtain ⟨r, k1, w4, k2, k3, k4⟩ := key _ _ _ _ _ _ hq (.inr ⟨_, rfl⟩)
    rw [k1.2] at k2
    exact ⟨some _, w4, k2, wpIn_exit ⟨_, rfl, rfl, k3, hE0.trans k4, hT.mono k4.grows, hd.ext k4, rfl⟩⟩
  · rename_i hq
    simp only [Option.some.injEq, Prod.mk.injEq] at h
    obtain ⟨rfl, rfl, rfl⟩ := h
    obtain ⟨r, k1, w4, k2, k3, k4⟩ := key _ _ _ _ _ _ hq (.inr ⟨_, rfl⟩)
    rw [k1.2] at k2
    exact ⟨some _, w4, k2, wpIn_ret ⟨_, rfl, rfl, k3, hE0.trans k4, hT.mono k4.grows, hd.ext k4, trivial⟩⟩
  · cases h
theorem forget_rel {C : Ctx} : ∀ (T : List AVal) (m : Nat) (f : Nat → Value → Prop) (i : Nat), Rvs C T f i → Rvs C (forget m T) f i
  | [], m, f, i, h => by simpa [forget] using h
  | x :: xs, m, f, i, h => by
    simp only [forget, Rvs] at h ⊢
    obtain ⟨⟨y, hy, hr⟩, h2⟩ := h
    refine ⟨⟨y, hy, ?_⟩, forget_rel xs (m / 2) f (i + 1) h2⟩
    cases Nat.beq (m % 2) 1
    · simp [Rv]
    · exact hr
theorem forget_length : ∀ (T : List AVal) (m : Nat), (forget m T).length = T.length
  | [], _ => rfl
  | x :: xs, m => by simp [forget, forget_length xs]
theorem RT.forget {C : Ctx} {T : List AVal} {tmps : Array Value} (h : RT C T tmps) (lv : List Nat) (id : Nat) : RT C (forgetAt lv id T) tmps := by
  unfold forgetAt
  split
  · exact ⟨by rw [forget_length]; exact h.1, forget_rel _ _ _ _ h.2⟩
  · exact h
theorem rangeFunc_ok {c : Cfg} {ev : Ev} (he : EvOk c ev) {lv : List Nat} {lo base n : Nat} {C0 : Ctx} {d0 : List Nat} {g : Operand} {ps : Array Tmp} {asg body : Code} {T : List AVal} {a : Act} {C : Ctx} {x : AExit} {T' : List AVal} {S' : List AObj}
    (hS : St C) (hE : Ext C0 C) (hT : RT C T a.tmps) (hd : MarksOk C0 d0 C a.defers) (h : evalC c ev lv lo base n (.rangeFunc g ps asg body) T C.S = some (x, T', S')) : (Code.rangeFunc g ps asg body).wpIn (fR none) 0 c.P (Post C0 x T' S' d0) a C.w := by
  simp only [evalC] at h
  split at h
  · rename_i f caps hf
    cases hcnd : (Nat.ble lo C.S.length && noRF asg && noRF body && (c.givenS f).isNone && (c.givenP f).isNone) with
    | false => rw [hcnd] at h; cases h
    | true =>
      rw [hcnd] at h
      simp only [cond_true] at h
      split at h
      · rename_i r0 S2 hev
        have hrf := opd_rel hT g
        rw [hf] at hrf
        simp only [Rv] at hrf
        obtain ⟨cs, hv, hcs, hcr⟩ := hrf
        obtain ⟨fnn, e1, e2, e3⟩ := he.enters _ _ _ _ _ _ hev
        refine wpIn_rangeFunc fun fn _ => ?_
        obtain ⟨rec, hrec⟩ : ∃ rec : Loop, rec = { state := .ready, pending := none, fn, tmps := a.tmps, params := ps, assign := asg, body, defers := C.w.heap.size } := ⟨_, rfl⟩
        obtain ⟨s1, x1⟩ := alone_ok hS (.deferred (some []))
        obtain ⟨ρ', s2, x2, hρ⟩ := madeO s1 C.S.length (.inl rfl) (.loop rec) (.loop lv T ps asg body .ready) 0 0 rfl (C.w.alloc (.deferred (some []))) rfl rfl rfl rfl (fun C' g hw hρ hok => by
          refine ⟨rec, ?_, ?_, ?_, ?_, ?_⟩
          · rw [hw, hρ]; exact World.alloc_heap_new _ _
          · rw [hrec]; exact hT.1
          · rw [hrec]; exact Rvs_mono (x1.grows.trans g) _ _ _ _ (fun _ _ h => h) hT.2
          · rw [hrec]; exact ⟨rfl, rfl, rfl⟩
          · rw [hrec]; exact ⟨rfl, rfl⟩)
        have hset : setObj C.S C.S.length (.loop lv T ps asg body .ready) = C.S ++ [.loop lv T ps asg body .ready] := by unfold setObj; rw [if_neg (by omega)]
        simp only [hset] at s2 x2
        have hsz : (C.w.alloc (.deferred (some []))).heap.size = C.w.heap.size + 1 := World.size_alloc _ _
        have x12 : Ext C ⟨ρ', C.S ++ [.loop lv T ps asg body .ready], C.ok, (C.w.alloc (.deferred (some []))).alloc (.loop rec)⟩ := x1.trans x2
        have hq : (C.S ++ [AObj.loop lv T ps asg body .ready])[C.S.length]? = some (.loop lv T ps asg body .ready) := by simp
        have hl : (ρ' C.S.length).b = C.w.heap.size + 1 := by rw [hρ]; exact hsz
        obtain ⟨C1, hC1⟩ : ∃ C1 : Ctx, C1 = ⟨ρ', C.S ++ [.loop lv T ps asg body .ready], C.ok, (C.w.alloc (.deferred (some []))).alloc (.loop rec)⟩ := ⟨_, rfl⟩
        have hw1 : C1.w = (C.w.alloc (.deferred (some []))).alloc (.loop rec) := by rw [hC1]
        have hS1 : C1.S = C.S ++ [.loop lv T ps asg body .ready] := by rw [hC1]
        have hl1 : (C1.ρ C.S.length).b = C.w.heap.size + 1 := by rw [hC1]; exact hl
        rw [← hC1] at s2 x12
        have hmk : MarksOk C0 d0 C1 (markOf C.w.heap.size :: a.defers) := by
          obtain ⟨Ds, m1, m2, m3⟩ := hd
          refine ⟨C.w.heap.size :: Ds, by rw [m1]; rfl, List.nodup_cons.2 ⟨fun hm => ?_, m2⟩, fun D hD => ?_⟩
          · have := (Array.getElem?_eq_some_iff.1 (m3 _ hm).1).1
            omega
          · rcases List.mem_cons.1 hD with rfl | hD
            · refine ⟨?_, ⟨fun o y e hy hye hb => ?_, fun j hj => ?_⟩, .inr hE.size⟩
              · rw [hw1]
                exact (Below.heap_alloc _ _ _ (by rw [hsz]; omega)).trans (World.alloc_heap_new _ _)
              · rw [hS1, List.getElem?_append] at hy
                split at hy
                · obtain ⟨y', e', k1, k2, k3⟩ := x12.grows.refs o y e hy hye
                  rw [hS1, List.getElem?_append_left (by assumption), hy] at k1; cases k1
                  rw [hye] at k2; cases k2
                  rcases k3 with ⟨_, k3⟩ | k3
                  · rw [k3] at hb
                    have := (hS.obj o y hy).lt hye
                    omega
                  · omega
                · rename_i hge
                  have : o = C.S.length := by
                    have := (List.getElem?_eq_some_iff.1 hy).1
                    simp only [List.length_cons, List.length_nil] at this
                    omega
                  subst this
                  omega
              · rw [hC1] at hj
                have := hS.okIn _ _ hj
                omega
            · obtain ⟨k1, k2, k3⟩ := m3 D hD
              have := Lone.ext x12 (Array.getElem?_eq_some_iff.1 k1).1 k2
              exact ⟨this.1.trans k1, this.2, k3⟩
        refine ⟨C.w.heap.size + 1, [markOf C.w.heap.size], C1.w, { target := .fn (.func f) cs, args := #[.func (.yield (C.w.heap.size + 1)) #[] #[]] }, C1.w, f,
          #[.func (.yield (C.w.heap.size + 1)) #[] #[]] ++ cs, C1.w, ?_, ?_, fun f' _ => trivial, ?_, (fun h => by cases h), ?_⟩
        · rw [hw1, hrec]; exact run_enterLoop_outer _ _ _ _ _
        · simp only [resolve, hv]
          simp [go_sem]
        · have e2' : ¬ fnn.name = "runtime.NumGoroutine" := by simpa using e2
          have e3' : ¬ fnn.body = none := fun h => by simp [h] at e3
          simp [invoke, go_sem, callFunc, e1, e2', e3']
        · refine callsR (ro := none) ?_
          have hvs : ((#[.func (.yield (C.w.heap.size + 1)) #[] #[]] : Array Value) ++ cs).size = (AVal.yld C.S.length :: caps).length := by
            rw [Array.size_append, hcs, List.length_cons]
            simp only [List.size_toArray, List.length_cons, List.length_nil]
            omega
          have hvr : Rvs C1 (AVal.yld C.S.length :: caps) (fun i y => ((#[.func (.yield (C.w.heap.size + 1)) #[] #[]] : Array Value) ++ cs)[i]? = some y) 0 := by
            simp only [Rvs]
            refine ⟨⟨.func (.yield (C.w.heap.size + 1)) #[] #[], by rw [Array.getElem?_append_left (show 0 < ((#[.func (.yield (C.w.heap.size + 1)) #[] #[]] : Array Value)).size from Nat.zero_lt_one)]; rfl, ?_⟩, Rvs_mk fun j y hy => ?_⟩
            · simp only [Rv]
              refine ⟨_, rfl, .loop lv T ps asg body .ready, 0, ?_, rfl, Nat.le_refl _, fun _ => hl1.symm⟩
              rw [hS1]; exact hq
            · obtain ⟨u, hu, hru⟩ := Rvs_get (Rvs_mono x12.grows _ _ _ _ (fun _ _ h => h) hcr) j y hy
              refine ⟨u, ?_, hru⟩
              simp only [Nat.zero_add] at hu
              have hj : ((#[.func (.yield (C.w.heap.size + 1)) #[] #[]] : Array Value)).size ≤ 0 + 1 + j := by simp only [List.size_toArray, List.length_cons, List.length_nil]; omega
              rw [Array.getElem?_append_right hj]
              simp only [List.size_toArray, List.length_cons, List.length_nil]
              rw [show 0 + 1 + j - (0 + 1) = j by omega]
              exact hu
          have hcall := he.calls _ _ _ _ _ _ hev C1 _ hS1 s2 hvs hvr
          refine hcall.mono ?_
          rintro e w' ⟨v, C2, rfl, rfl, k1, k2, k3, k4⟩
          rw [← k1] at h
          have := endLp_ok (c := c) (C0 := C0) (d0 := d0) (C := C1) (a := { a with defers := [markOf C.w.heap.size] ++ a.defers }) (q := C.S.length) (ob := .loop lv T ps asg body .ready) (by rw [hS1]; exact hq) rfl k3 ((hE.trans x12).trans k3) k2 ((hT.mono x12.grows).mono k3.grows) (hmk.ext k3) h
          rw [hl1] at this
          exact this
      · cases h
  · cases h
theorem evalC_ok {c : Cfg} {ev : Ev} (hc : CfgOk c) (he : EvOk c ev) {lv : List Nat} {lo base n : Nat} {ro : Option Nat} {C0 : Ctx} {d0 : List Nat} (hb : C0.S.length ≤ base) : ∀ (code : Code) (T : List AVal) (a : Act) (C : Ctx) (x : AExit) (T' : List AVal) (S' : List AObj),
    RoOk ro code → St C → Ext C0 C → RT C T a.tmps → MarksOk C0 d0 C a.defers → evalC c ev lv lo base n code T C.S = some (x, T', S') → code.wpIn (fR ro) 0 c.P (Post C0 x T' S' d0) a C.w := by
  intro code
  induction code with
  | skip =>
    intro T a C x T' S' hro hS hE hT hd h
    simp only [evalC, Option.some.injEq, Prod.mk.injEq] at h
    obtain ⟨rfl, rfl, rfl⟩ := h
    exact wpIn_skip ⟨C, rfl, rfl, hS, hE, hT, hd, trivial⟩
  | label l =>
    intro T a C x T' S' hro hS hE hT hd h
    simp only [evalC, Option.some.injEq, Prod.mk.injEq] at h
    obtain ⟨rfl, rfl, rfl⟩ := h
    exact wpIn_label ⟨C, rfl, rfl, hS, hE, hT, hd, trivial⟩
  | region id ops draw =>
    intro T a C x T' S' hro hS hE hT hd h
    cases draw with
    | false =>
      simp only [evalC, Option.map_eq_some_iff, Prod.mk.injEq] at h
      obtain ⟨⟨T1, S1⟩, h1, rfl, rfl, rfl⟩ := h
      refine wpIn_region ?_
      rw [List.range_eq_range']
      exact runOps_ok (C0 := C) (d0 := a.defers) hc he ops.toList 0 T a C _ _ rfl hS (Ext.refl C) hT rfl h1 fun a' C' h1 h2 h3 h4 h5 => ⟨C', rfl, h1, h2, hE.trans h3, h4.forget lv id, by rw [h5]; exact hd.ext h3, trivial⟩
    | true =>
      simp only [evalC, Option.map_eq_some_iff, Prod.mk.injEq] at h
      obtain ⟨⟨T1, S1⟩, h1, rfl, rfl, rfl⟩ := h
      exact runDraw_ok hc he hS hT h1 fun a' C' h1 h2 h3 h4 h5 => ⟨C', rfl, h1, h2, hE.trans h3, h4.forget lv id, by rw [h5]; exact hd.ext h3, trivial⟩
  | seq p q ihp ihq =>
    intro T a C x T' S' hro hS hE hT hd h
    simp only [evalC] at h
    split at h
    · rename_i T1 S1 h1
      refine wpIn_seq (wpIn_mono (ihp T a C _ _ _ hro.seq.1 hS hE hT hd h1) ?_)
      rintro e a1 w1 ⟨C1, rfl, rfl, k1, k2, k3, k4, k5⟩
      cases e <;> simp only [AExit.is] at k5
      exact ihq T1 a1 C1 x T' S' hro.seq.2 k1 k2 k3 k4 h
    · rename_i hne
      refine wpIn_seq (wpIn_mono (ihp T a C _ _ _ hro.seq.1 hS hE hT hd h) ?_)
      rintro e a1 w1 ⟨C1, rfl, rfl, k1, k2, k3, k4, k5⟩
      cases e with
      | normal =>
        cases x <;> simp only [AExit.is] at k5
        exact (hne _ _ h).elim
      | _ => exact ⟨C1, rfl, rfl, k1, k2, k3, k4, k5⟩
  | cond y p q ihp ihq =>
    intro T a C x T' S' hro hS hE hT hd h
    simp only [evalC] at h
    split at h
    · rename_i t ht
      have hr := opd_rel hT y
      rw [ht] at hr
      simp only [Rv] at hr
      refine wpIn_cond hr ?_
      cases t
      · exact ihq T a C x T' S' hro.cond.2 hS hE hT hd (by simpa using h)
      · exact ihp T a C x T' S' hro.cond.1 hS hE hT hd (by simpa using h)
    · cases h
  | block id p ih =>
    intro T a C x T' S' hro hS hE hT hd h
    simp only [evalC] at h
    split at h
    · rename_i j T1 S1 h1
      simp only [Option.some.injEq, Prod.mk.injEq] at h
      obtain ⟨rfl, rfl, rfl⟩ := h
      refine wpIn_block (wpIn_mono (ih T a C _ _ _ hro.block hS hE hT hd h1) ?_)
      rintro e a1 w1 ⟨C1, rfl, rfl, k1, k2, k3, k4, k5⟩
      cases e <;> simp only [AExit.is] at k5
      subst k5
      simp only [Exit.inBlock]
      by_cases hj : j = id
      · rw [if_pos hj]
        exact ⟨C1, rfl, rfl, k1, k2, k3, k4, by simp [hj, AExit.is]⟩
      · rw [if_neg hj]
        exact ⟨C1, rfl, rfl, k1, k2, k3, k4, by simp [hj, AExit.is]⟩
    · rename_i hne
      refine wpIn_block (wpIn_mono (ih T a C _ _ _ hro.block hS hE hT hd h) ?_)
      rintro e a1 w1 ⟨C1, rfl, rfl, k1, k2, k3, k4, k5⟩
      cases e with
      | exit j =>
        cases x <;> simp only [AExit.is] at k5
        exact (hne _ _ _ h).elim
      | _ => exact ⟨C1, rfl, rfl, k1, k2, k3, k4, k5⟩
  | loop p ih =>
    intro T a C x T' S' hro hS hE hT hd h
    simp only [evalC] at h
    refine wpIn_loop_rounds n ?_
    have key : ∀ (m : Nat) (T : List AVal) (a : Act) (C : Ctx), St C → Ext C0 C → RT C T a.tmps → MarksOk C0 d0 C a.defers → iterC base (evalC c ev lv lo base n p) m T C.S = some (x, T', S') → Code.roundsIn (fR ro) 0 c.P p (Post C0 x T' S' d0) m a C.w := by
      intro m
      induction m with
      | zero => intro T a C _ _ _ _ h; simp [iterC] at h
      | succ m ihm =>
        intro T a C hS hE hT hd h
        rw [roundsIn_succ]
        simp only [iterC] at h
        split at h
        · rename_i T1 S1 hcn
          obtain ⟨C1, hw, rfl, hS1, hE1, hT1, hE01⟩ := canon_okE hS hE hT hb hcn
          have hd1 := hE01 d0 a.defers hd
          rw [← hw]
          split at h
          · rename_i T2 S2 h1
            refine wpIn_mono (ih T1 a C1 _ _ _ hro.loop hS1 hE1 hT1 hd1 h1) ?_
            rintro e a1 w1 ⟨C2, rfl, rfl, k1, k2, k3, k4, k5⟩
            cases e <;> simp only [AExit.is] at k5
            exact ihm T2 a1 C2 k1 k2 k3 k4 h
          · rename_i x2 T2 S2 hne h1
            simp only [Option.map_eq_some_iff, Prod.mk.injEq] at h
            obtain ⟨⟨T3, S3⟩, h2, rfl, rfl, rfl⟩ := h
            refine wpIn_mono (ih T1 a C1 _ _ _ hro.loop hS1 hE1 hT1 hd1 h1) ?_
            rintro e a1 w1 ⟨C2, rfl, rfl, k1, k2, k3, k4, k5⟩
            obtain ⟨C3, hw3, rfl, k6, k7, k8, k9⟩ := canon_okE k1 k2 k3 hb h2
            have post : Post C0 x2 T3 C3.S d0 e a1 C2.w := ⟨C3, hw3, rfl, k6, k7, k8, k9 d0 a1.defers k4, k5⟩
            cases e with
            | normal =>
              cases x2 <;> simp only [AExit.is] at k5
              exact (hne rfl).elim
            | _ => exact post
          · cases h
        · cases h
    exact key n T a C hS hE hT hd h
  | exit id =>
    intro T a C x T' S' hro hS hE hT hd h
    simp only [evalC, Option.some.injEq, Prod.mk.injEq] at h
    obtain ⟨rfl, rfl, rfl⟩ := h
    exact wpIn_exit ⟨C, rfl, rfl, hS, hE, hT, hd, rfl⟩
  | scope p ih =>
    intro T a C x T' S' hro hS hE hT hd h
    simp only [evalC] at h
    refine wpIn_scope_straight (wpIn_mono (ih T a C _ _ _ hro.scope hS hE hT hd h) ?_)
    rintro e a1 w1 ⟨C1, rfl, rfl, k1, k2, k3, k4, k5⟩
    cases e with
    | goto l => cases x <;> exact k5.elim
    | _ => exact ⟨C1, rfl, rfl, k1, k2, k3, k4, k5⟩
  | ret =>
    intro T a C x T' S' hro hS hE hT hd h
    simp only [evalC, Option.some.injEq, Prod.mk.injEq] at h
    obtain ⟨rfl, rfl, rfl⟩ := h
    exact wpIn_ret ⟨C, rfl, rfl, hS, hE, hT, hd, trivial⟩
  | rangeFunc g ps asg body iha ihb =>
    intro T a C x T' S' hro hS hE hT hd h
    have hro' : ro = none := by
      rcases hro with h | h
      · exact h
      · simp [noRF] at h
    subst hro'
    exact rangeFunc_ok he hS hE hT hd h
  | _ => intro T a C x T' S' hro hS hE hT hd h; simp [evalC] at h
/-- What stays while code runs: objects below lo and below base; none below base goes. -/
def StaysB (lo base : Nat) (S S' : List AObj) : Prop := base ≤ S'.length ∧ ∀ q, q < lo → q < base → S'[q]? = S[q]?
theorem Stays.toB {lo base : Nat} {S S' : List AObj} (hb : base ≤ S.length) (h : Stays lo S S') : StaysB lo base S S' := ⟨Nat.le_trans hb h.1, fun q hq hqb => h.2 q hq (by omega)⟩
theorem StaysB.trans {lo base : Nat} {A B D : List AObj} (h : StaysB lo base A B) (k : StaysB lo base B D) : StaysB lo base A D := ⟨k.1, fun q hq hqb => (k.2 q hq hqb).trans (h.2 q hq hqb)⟩
theorem evalC_stays {c : Cfg} {ev : Ev} (hc : CfgOk c) (he : EvOk c ev) {lv : List Nat} {lo base n : Nat} : ∀ (code : Code) (T : List AVal) (S : List AObj) (x : AExit) (T' : List AVal) (S' : List AObj), base ≤ S.length → evalC c ev lv lo base n code T S = some (x, T', S') → StaysB lo base S S' := by
  intro code
  induction code with
  | region id ops draw =>
    intro T S x T' S' hb h
    cases draw with
    | false =>
      simp only [evalC, Option.map_eq_some_iff, Prod.mk.injEq] at h
      obtain ⟨⟨T1, S1⟩, h1, rfl, rfl, rfl⟩ := h
      exact (runOps_stays hc he _ _ _ _ _ h1).toB hb
    | true =>
      simp only [evalC, Option.map_eq_some_iff, Prod.mk.injEq] at h
      obtain ⟨⟨T1, S1⟩, h1, rfl, rfl, rfl⟩ := h
      exact (runDraw_stays h1).toB hb
  | seq p q ihp ihq =>
    intro T S x T' S' hb h
    simp only [evalC] at h
    split at h
    · rename_i T1 S1 h1
      have k := ihp _ _ _ _ _ hb h1
      exact k.trans (ihq _ _ _ _ _ k.1 h)
    · exact ihp _ _ _ _ _ hb h
  | cond y p q ihp ihq =>
    intro T S x T' S' hb h
    simp only [evalC] at h
    split at h
    · rename_i t ht
      cases t
      · exact ihq _ _ _ _ _ hb (by simpa using h)
      · exact ihp _ _ _ _ _ hb (by simpa using h)
    · cases h
  | block id p ih =>
    intro T S x T' S' hb h
    simp only [evalC] at h
    split at h
    · rename_i j T1 S1 h1
      simp only [Option.some.injEq, Prod.mk.injEq] at h
      obtain ⟨rfl, rfl, rfl⟩ := h
      exact ih _ _ _ _ _ hb h1
    · exact ih _ _ _ _ _ hb h
  | loop p ih =>
    intro T S x T' S' hb h
    simp only [evalC] at h
    have key : ∀ (m : Nat) (T : List AVal) (S : List AObj), base ≤ S.length → iterC base (evalC c ev lv lo base n p) m T S = some (x, T', S') → StaysB lo base S S' := by
      intro m
      induction m with
      | zero => intro T S _ h; simp [iterC] at h
      | succ m ihm =>
        intro T S hb h
        simp only [iterC] at h
        split at h
        · rename_i T1 S1 hcn
          obtain ⟨c1, c2⟩ := canon_stays (lo := lo) hb hcn
          have k0 : StaysB lo base S S1 := ⟨c1, fun q _ hq => c2 q hq⟩
          split at h
          · rename_i T2 S2 h1
            have k := ih _ _ _ _ _ c1 h1
            exact k0.trans (k.trans (ihm _ _ k.1 h))
          · rename_i x2 T2 S2 hne h1
            simp only [Option.map_eq_some_iff, Prod.mk.injEq] at h
            obtain ⟨⟨T3, S3⟩, h2, rfl, rfl, rfl⟩ := h
            have k := ih _ _ _ _ _ c1 h1
            obtain ⟨d1, d2⟩ := canon_stays (lo := lo) k.1 h2
            exact k0.trans (k.trans ⟨d1, fun q _ hq => d2 q hq⟩)
          · cases h
        · cases h
    exact key n T S hb h
  | scope p ih =>
    intro T S x T' S' hb h
    simp only [evalC] at h
    exact ih _ _ _ _ _ hb h
  | skip | label | exit | ret =>
    intro T S x T' S' hb h
    simp only [evalC, Option.some.injEq, Prod.mk.injEq] at h
    obtain ⟨_, _, rfl⟩ := h
    exact ⟨hb, fun _ _ _ => rfl⟩
  | rangeFunc g ps asg body iha ihb =>
    intro T S x T' S' hb h
    simp only [evalC] at h
    split at h
    · rename_i f caps hf
      cases hcnd : (Nat.ble lo S.length && noRF asg && noRF body && (c.givenS f).isNone && (c.givenP f).isNone) with
      | false => rw [hcnd] at h; cases h
      | true =>
        rw [hcnd] at h
        simp only [cond_true] at h
        split at h
        · rename_i r0 S2 hev
          have hlo : lo ≤ S.length := by
            simp only [Bool.and_eq_true] at hcnd
            exact Nat.le_of_ble_eq_true hcnd.1.1.1.1
          have k1 := he.stays _ _ _ _ _ _ hev
          have k0 : Stays lo S (S ++ [.loop lv T ps asg body .ready]) := ⟨by simp, fun q hq hl => by rw [List.getElem?_append_left hl]⟩
          have k2 : S' = setSt S2 S.length .over := by
            unfold endLp at h
            split at h <;> first | (simp only [Option.some.injEq, Prod.mk.injEq] at h; exact h.2.2.symm) | cases h
          rw [k2]
          exact ((k0.trans k1).trans (setSt_stays S2 hlo _)).toB hb
        · cases h
    · cases h
  | _ => intro T S x T' S' hb h; simp [evalC] at h
end Go.Proofs.YtkkgimhbliocoaaGreat.Vm
/- Functions of the abstract machine are the model's, however deep they call. -/
namespace Go.Proofs.YtkkgimhbliocoaaGreat.Vm
open Go Go.RowKit
noncomputable section
set_option linter.unusedVariables false
set_option linter.unusedSimpArgs false
set_option linter.unnecessarySimpa false

def resultV (tmps : Array Value) : ResultVar → Sem Value
  | .tmp t => pure (tmps.getD t undef)
  | .cell a t => do loadVar t (← asAddr (tmps.getD a undef))
theorem resultA_ok {P : Program} {C : Ctx} {T : List AVal} {tmps : Array Value} (hS : St C) (hT : RT C T tmps) {rv : ResultVar} {x : AVal} (h : resultA P T C.S rv = some x) : ∃ v, (resultV tmps rv).run P C.w = .ok v C.w ∧ Rv C x v := by
  cases rv with
  | tmp t =>
    simp only [resultA, Option.some.injEq] at h
    subst h
    exact ⟨_, rfl, hT.get t⟩
  | cell a t =>
    simp only [resultA] at h
    have hr := hT.get a
    obtain ⟨v, h1, h2⟩ := load_ok hS h hr
    have hp : ∃ ad, tmps.getD a undef = .pointer (some ad) := by
      unfold loadA at h
      split at h
      · rename_i o ep off hx
        rw [hx] at hr; simp only [Rv] at hr
        obtain ⟨ad, h, _⟩ := hr
        exact ⟨ad, h⟩
      · rename_i xs hx
        rw [hx] at hr; simp only [Rv] at hr
        obtain ⟨ad, h, _⟩ := hr
        exact ⟨ad, h⟩
      · cases h
    obtain ⟨ad, hp⟩ := hp
    refine ⟨v, ?_, h2⟩
    rw [hp] at h1
    simp only [resultV, hp]
    exact h1
theorem resultsL_ok {P : Program} {C : Ctx} {T : List AVal} {tmps : Array Value} (hS : St C) (hT : RT C T tmps) : ∀ {rs : List ResultVar} {xs : List AVal}, mapO (resultA P T C.S) rs = some xs →
    ∃ vs : List Value, (rs.mapM (resultV tmps)).run P C.w = .ok vs C.w ∧ vs.length = xs.length ∧ Rvs C xs (fun i y => vs[i]? = some y) 0
  | [], xs, h => by
    simp only [mapO, Option.some.injEq] at h
    subst h
    exact ⟨[], rfl, rfl, by simp [Rvs]⟩
  | r :: rs, xs, h => by
    simp only [mapO] at h
    split at h
    · rename_i y ys h1 h2
      simp only [Option.some.injEq] at h
      subst h
      obtain ⟨v, k1, k2⟩ := resultA_ok hS hT h1
      obtain ⟨vs, l1, l2, l3⟩ := resultsL_ok hS hT h2
      refine ⟨v :: vs, ?_, by simp [l2], ?_⟩
      · rw [List.mapM_cons]
        simp [k1, l1]
      · simp only [Rvs]
        refine ⟨⟨v, rfl, k2⟩, Rvs_mk fun j x hx => ?_⟩
        obtain ⟨u, hu, hr⟩ := Rvs_get l3 j x hx
        simp only [Nat.zero_add] at hu
        exact ⟨u, by rw [show 0 + 1 + j = j + 1 by omega]; simpa using hu, hr⟩
    · cases h
theorem results_ok {P : Program} {C : Ctx} {T : List AVal} {tmps : Array Value} (hS : St C) (hT : RT C T tmps) {fn : Func} {x : AVal} (h : resultsA P fn.results T C.S = some x) : ∃ v, (results fn tmps).run P C.w = .ok v C.w ∧ Rv C x v := by
  have e1 : results fn tmps = (do let vs ← fn.results.mapM (resultV tmps); pure (if h : vs.size = 1 then vs[0] else .tuple vs)) := by
    unfold results
    congr 1
  rw [e1, Array.mapM_eq_mapM_toList]
  unfold resultsA at h
  have key : ∀ xs, mapO (resultA P T C.S) fn.results.toList = some xs → ∃ vs : List Value, (fn.results.toList.mapM (resultV tmps)).run P C.w = .ok vs C.w ∧ vs.length = xs.length ∧ Rvs C xs (fun i y => vs[i]? = some y) 0 := fun xs hx => resultsL_ok hS hT hx
  split at h
  · rename_i y hy
    simp only [Option.some.injEq] at h
    subst h
    obtain ⟨vs, h1, h2, h3⟩ := key _ hy
    match vs, h2, h1, h3 with
    | [v], _, h1, h3 =>
      simp only [Rvs] at h3
      obtain ⟨⟨u, hu, hr⟩, _⟩ := h3
      simp only [List.getElem?_cons_zero, Option.some.injEq] at hu
      subst hu
      exact ⟨v, by simp [h1], hr⟩
  · rename_i ys hne hy
    simp only [Option.some.injEq] at h
    subst h
    obtain ⟨vs, h1, h2, h3⟩ := key _ hy
    have hl : vs.length ≠ 1 := by
      intro hl
      rw [h2] at hl
      match ys, hl with
      | [z], _ => exact hne z rfl
    refine ⟨.tuple vs.toArray, by simp [h1, hl], ?_⟩
    simp only [Rv]
    exact ⟨_, rfl, by simp [h2], Rvs_mono (Grows.refl C) _ _ _ _ (fun i y hy => by simpa using hy) h3⟩
  · cases h

theorem enter_rel {C : Ctx} {args : List AVal} {vs : Array Value} (hs : vs.size = args.length) (hr : Rvs C args (fun i y => vs[i]? = some y) 0) (n : Nat) :
    RT C (args ++ List.replicate (n - args.length) (.v undef)) (vs ++ Array.replicate (n - vs.size) undef) := by
  refine ⟨by simp [hs], Rvs_append (Rvs_mono (Grows.refl C) _ _ _ _ (fun i y hy => ?_) hr) (Rvs_mk fun j x hx => ?_)⟩
  · have hlt := (Array.getElem?_eq_some_iff.1 hy).1
    rw [Array.getElem?_append_left hlt]; exact hy
  · have := List.mem_of_getElem? hx
    simp only [List.mem_replicate] at this
    refine ⟨undef, ?_, by rw [this.2]; simp [Rv]⟩
    have hlt := (List.getElem?_eq_some_iff.1 hx).1
    simp only [List.length_replicate] at hlt
    rw [Array.getElem?_append_right (by omega)]
    simp [hs, hlt]
/-- An activation ends: its marks are taken away. -/
theorem leaves_ok {P : Program} {fn : Func} {tmps : Array Value} {R : Ending → World → Prop} {C0 : Ctx} : ∀ (Ds : List Nat) (C : Ctx), St C → Ext C0 C → Ds.Nodup → (∀ D ∈ Ds, C.w.heap[D]? = some (.deferred (some [])) ∧ Lone C D ∧ C0.w.heap.size ≤ D) →
    (∀ C' : Ctx, C'.S = C.S → St C' → Ext C0 C' → Grows C C' → ∃ v, (results fn tmps).run P C'.w = .ok v C'.w ∧ R (.returned v) C'.w) → LeavesInM Fence.wide 0 P fn tmps R (Ds.map markOf) .returning C.w
  | [], C, hS, hE, _, _, hfin => hfin C rfl hS hE (Grows.refl C)
  | D :: Ds, C, hS, hE, hn, hD, hfin => by
    obtain ⟨h1, h2, h3⟩ := hD D (by simp)
    obtain ⟨k1, k2, k3⟩ := lone_taken (ob := .deferred none) hS hE h3 h2
    refine ⟨by simp, .inl ⟨D, _, rfl, run_takeDeferred h1, ?_⟩⟩
    refine leaves_ok Ds ⟨C.ρ, C.S, C.ok, C.w.putObj D (.deferred none)⟩ k1 k2 (List.nodup_cons.1 hn).2 (fun D' hD' => ?_) (fun C' e1 e2 e3 e4 => hfin C' e1 e2 e3 (k3.trans e4))
    obtain ⟨l1, l2, l3⟩ := hD D' (by simp [hD'])
    have hne : D' ≠ D := fun h => (List.nodup_cons.1 hn).1 (h ▸ hD')
    exact ⟨(World.putObj_heap_other hne).trans l1, l2, l3⟩
/-- A function's contract from its body. -/
theorem calls_of_body {P : Program} {f : FuncId} {fn : Func} {code : Code} {C : Ctx} {vs : Array Value} {x : AExit} {T' : List AVal} {S' : List AObj} {r : AVal} (hf : P.funcs[f]? = some fn) (hb : fn.body = some code) (hx : x = .normal ∨ x = .ret) (hr : resultsA P fn.results T' S' = some r)
    (h : code.wpIn Fence.wide 0 P (Post C x T' S' []) { tmps := vs ++ Array.replicate (fn.ntmps - vs.size) undef, defers := [] } C.w) :
    Calls P f vs C.w fun e w' => ∃ v C', e = .returned v ∧ C'.w = w' ∧ C'.S = S' ∧ St C' ∧ Ext C C' ∧ Rv C' r v := by
  refine callsIn_wide.1 (callsIn_of_wp_marks (n := 0) hf hb trivial (wpIn_mono h ?_))
  rintro e a1 w1 ⟨C1, rfl, rfl, k1, k2, k3, k4, k5⟩
  have key : LeavesInM Fence.wide 0 P fn a1.tmps (fun e w' => ∃ v C', e = .returned v ∧ C'.w = w' ∧ C'.S = C1.S ∧ St C' ∧ Ext C C' ∧ Rv C' r v) a1.defers .returning C1.w := by
    obtain ⟨Ds, m1, m2, m3⟩ := k4
    rw [m1]
    refine leaves_ok Ds C1 k1 k2 m2 (fun D hD => ?_) fun C' e1 e2 e3 e4 => ?_
    · obtain ⟨l1, l2, l3⟩ := m3 D hD
      refine ⟨l1, l2, ?_⟩
      rcases l3 with l3 | l3
      · cases l3
      · exact l3
    · obtain ⟨v, r1, r2⟩ := results_ok e2 (k3.mono e4) (by rw [e1]; exact hr)
      exact ⟨v, r1, v, C', rfl, rfl, e1, e2, e3, r2⟩
  rcases hx with rfl | rfl
  · cases e <;> simp only [AExit.is] at k5
    exact key
  · cases e <;> simp only [AExit.is] at k5
    exact key
theorem readyB_get {S : List AObj} {q : Nat} (h : readyB S q = true) : ∃ lv T ps asg body, S[q]? = some (.loop lv T ps asg body .ready) := by
  unfold readyB at h
  split at h
  · rename_i hq
    exact ⟨_, _, _, _, _, hq⟩
  · cases h
theorem busyB_get {S : List AObj} {q : Nat} (h : busyB S q = true) : ∃ lv T ps asg body, S[q]? = some (.loop lv T ps asg body .busy) := by
  unfold busyB at h
  split at h
  · rename_i hq
    exact ⟨_, _, _, _, _, hq⟩
  · cases h
/-- A round, from its pieces. -/
theorem round_of {c : Cfg} {q : Nat} {lv : List Nat} {T : List AVal} {ps : Array Tmp} {asg body : Code} {args : List AVal} {S S1 S2 S' : List AObj} {T1 T2 : List AVal} {x : AExit} {r : AVal} (hq : S[q]? = some (.loop lv T ps asg body .ready)) (hps : args.length = ps.size)
    (h1 : ∀ (l : Nat) (C : Ctx) (a : Act), C.S = S → St C → RT C (putsT ps.toList args T) a.tmps → a.defers = [] → asg.wpIn (fR (some l)) 0 c.P (Post C .normal T1 S1 []) a C.w) (hr1 : readyB S1 q = true)
    (h2 : ∀ (l : Nat) (C0 C : Ctx) (a : Act) (d0 : List Nat), C0.S.length ≤ S.length → C.S = setSt S1 q .busy → St C → Ext C0 C → RT C T1 a.tmps → MarksOk C0 d0 C a.defers → body.wpIn (fR (some l)) 0 c.P (Post C0 x T2 S2 d0) a C.w) (hb2 : busyB S2 q = true) (hr : endRd S2 q x = some (r, S')) :
    (∃ x, S[q]? = some x ∧ x.ep? = some 0) ∧ YldA c.P q args S r S' := by
  refine ⟨⟨_, hq, rfl⟩, fun C vs hCS hS hs hv => ?_⟩
  subst hCS
  obtain ⟨rc, g1, g2, g3, g4, g5⟩ := hS.obj q _ hq
  refine ⟨_, _, _, _, run_yield g1 (by rw [hs, g4.1, hps]), roundIn_of_wpIn trivial ?_⟩
  rw [g4.1, g4.2.1, g4.2.2]
  have hT1 : RT C (putsT ps.toList args T) ((ps.zip vs).foldl (fun tmps (t, a) => tmps.setIfInBounds t a) rc.tmps) := by
    have := puts_rel (C := C) ps.toList args vs.toList T rc.tmps (by simpa using hs) (Rvs_mono (Grows.refl C) _ _ _ _ (fun i y hy => by simpa using hy) hv) ⟨g2, g3⟩
    rw [← Array.toList_zip, Array.foldl_toList] at this
    exact this
  refine wpIn_mono (h1 (C.ρ q).b C _ rfl hS hT1 rfl) ?_
  rintro e a1 w1 ⟨C1, rfl, rfl, k1, k2, k3, k4, k5⟩
  cases e <;> simp only [AExit.is] at k5
  obtain ⟨lv1, Tq1, ps1, asg1, body1, hq1⟩ := readyB_get hr1
  have e1 : C1.ρ q = C.ρ q := k2.at0 hq rfl hq1 rfl
  obtain ⟨r1, l1, l2, l3, l4, l5⟩ := k1.obj q _ hq1
  rw [e1] at l1
  refine ⟨_, run_beginRound l1 l5.1, ?_⟩
  obtain ⟨s2, x2⟩ := turnedL k1 hq1 (r := r1) (r' := { r1 with state := .busy }) (st' := .busy) (by rw [e1]; exact l1) ⟨rfl, rfl, rfl, rfl⟩ ⟨rfl, l5.2⟩
  rw [← setSt_loop hq1, e1] at s2 x2
  refine wpIn_mono (h2 (C.ρ q).b C ⟨C1.ρ, setSt C1.S q .busy, C1.ok, C1.w.putObj (C.ρ q).b (.loop { r1 with state := .busy })⟩ a1 [] (Nat.le_refl _) rfl s2 (k2.trans x2) (k3.mono x2.grows) (k4.ext x2)) ?_
  rintro e a2 w2 ⟨C2, rfl, rfl, m1, m2, m3, m4, m5⟩
  obtain ⟨lv2, Tq2, ps2, asg2, body2, hq2⟩ := busyB_get hb2
  have e2 : C2.ρ q = C.ρ q := m2.at0 hq rfl hq2 rfl
  obtain ⟨r2, n1, n2, n3, n4, n5⟩ := m1.obj q _ hq2
  rw [e2] at n1
  have fin : ∀ (jump : Option Code) (st' : LpSt) (b : Bool), b = jump.isNone → LpOk st' { r2 with state := if jump.isNone then .ready else .done, pending := jump } → r = .v (.bool b) → S' = setSt C2.S q st' →
      ∃ v w', (Instr.endRound (C.ρ q).b jump).run c.P C2.w = .ok v w' ∧ ∃ v' C', Ending.returned v = .returned v' ∧ C'.w = w' ∧ C'.S = S' ∧ St C' ∧ Ext C C' ∧ Rv C' r v' := by
    intro jump st' b hb hst hrr hSS
    obtain ⟨s3, x3⟩ := turnedL m1 hq2 (r := r2) (r' := { r2 with state := if jump.isNone then .ready else .done, pending := jump }) (st' := st') (by rw [e2]; exact n1) ⟨rfl, rfl, rfl, rfl⟩ hst
    rw [← setSt_loop hq2, e2] at s3 x3
    refine ⟨_, _, run_endRound jump n1, _, ⟨C2.ρ, setSt C2.S q st', C2.ok, _⟩, rfl, rfl, hSS.symm, s3, m2.trans x3, ?_⟩
    rw [hrr, hb]
    simp [Rv]
  cases x with
  | normal =>
    cases e <;> simp only [AExit.is] at m5
    simp only [endRd, Option.some.injEq, Prod.mk.injEq] at hr
    exact fin none .ready true rfl ⟨rfl, rfl⟩ hr.1.symm hr.2.symm
  | exit i =>
    cases e <;> simp only [AExit.is] at m5
    subst m5
    simp only [endRd, Option.some.injEq, Prod.mk.injEq] at hr
    exact fin (some (.exit i)) (.done (.exit i)) false rfl ⟨rfl, rfl⟩ hr.1.symm hr.2.symm
  | ret =>
    cases e <;> simp only [AExit.is] at m5
    simp only [endRd, Option.some.injEq, Prod.mk.injEq] at hr
    exact fin (some .ret) (.done .ret) false rfl ⟨rfl, rfl⟩ hr.1.symm hr.2.symm
theorem roundA_ok {c : Cfg} {ev : Ev} (hc : CfgOk c) (he : EvOk c ev) {k lo q : Nat} {args : List AVal} {S S' : List AObj} {r : AVal} (h : roundA c ev k lo q args S = some (r, S')) : (∃ x, S[q]? = some x ∧ x.ep? = some 0) ∧ YldA c.P q args S r S' ∧ Stays lo S S' := by
  unfold roundA at h
  split at h
  · rename_i lv T ps asg body hq
    cases hcnd : (Nat.ble lo q && Nat.beq args.length ps.size && noRF asg && noRF body) with
    | false => rw [hcnd] at h; cases h
    | true =>
      rw [hcnd] at h
      simp only [cond_true] at h
      simp only [Bool.and_eq_true] at hcnd
      obtain ⟨⟨⟨c1, c2⟩, c3⟩, c4⟩ := hcnd
      split at h
      · rename_i T1 S1 h1
        cases hr1 : readyB S1 q with
        | false => rw [hr1] at h; cases h
        | true =>
          rw [hr1] at h
          simp only [cond_true] at h
          split at h
          · rename_i x T2 S2 h2
            cases hb2 : busyB S2 q with
            | false => rw [hb2] at h; cases h
            | true =>
              rw [hb2] at h
              simp only [cond_true] at h
              have key := round_of (c := c) (T2 := T2) hq (Nat.eq_of_beq_eq_true c2) (fun l C a hCS hS hT hd => evalC_ok (ro := some l) hc he (by rw [hCS]; exact Nat.le_refl _) asg _ a C _ _ _ (.inr c3) hS (Ext.refl C) hT (by rw [hd]; exact MarksOk.nil _ _ _) (by rw [hCS]; exact h1)) hr1
                (fun l C0 C a d0 hb hCS hS hE hT hd => evalC_ok (ro := some l) hc he hb body _ a C _ _ _ (.inr c4) hS hE hT hd (by rw [hCS]; exact h2)) hb2 h
              refine ⟨key.1, key.2, ?_⟩
              have t1 := evalC_stays hc he _ _ _ _ _ _ (Nat.le_refl _) h1
              have t2 := setSt_stays (lo := lo) S1 (Nat.le_of_ble_eq_true c1) .busy
              have t3 := evalC_stays hc he _ _ _ _ _ _ (Nat.le_trans t1.1 t2.1) h2
              have t4 : ∃ st, S' = setSt S2 q st := by
                unfold endRd at h
                split at h <;> (simp only [Option.some.injEq, Prod.mk.injEq] at h; exact ⟨_, h.2.symm⟩)
              obtain ⟨st, t4⟩ := t4
              have t5 := setSt_stays (lo := lo) S2 (Nat.le_of_ble_eq_true c1) st
              rw [t4]
              refine ⟨Nat.le_trans t3.1 t5.1, fun p hp hl => ?_⟩
              rw [t5.2 p hp (by have := t3.1; omega), t3.2 p hp hl, t2.2 p hp (by have := t1.1; omega), t1.2 p hp hl]
          · cases h
      · cases h
  · cases h
theorem evalF_ok {c : Cfg} (hc : CfgOk c) : ∀ k, EvOk c (evalF c k)
  | 0 => ⟨fun _ _ _ _ _ _ h => by simp [evalF] at h, fun _ _ _ _ _ _ h => by simp [evalF] at h, fun _ _ _ _ _ _ h => by simp [evalF] at h, fun _ _ _ _ _ _ h => by simp [evalF] at h⟩
  | k + 1 => by
    have ih := evalF_ok hc k
    have inv : ∀ lo f args S r S', evalF c (k + 1) lo f args S = some (r, S') → ∃ a x T, c.tab f = some a ∧ (x = .normal ∨ x = .ret) ∧
        evalC c (evalF c k) a.live lo S.length k a.body (args ++ List.replicate (a.ntmps - args.length) (.v undef)) S = some (x, T, S') ∧ resultsA c.P a.results T S' = some r := by
      intro lo f args S r S' h
      simp only [evalF] at h
      split at h
      · rename_i a ha
        split at h
        · rename_i T S1 h1
          simp only [Option.map_eq_some_iff, Prod.mk.injEq] at h
          obtain ⟨r', h2, rfl, rfl⟩ := h
          exact ⟨a, _, T, ha, .inl rfl, h1, h2⟩
        · rename_i T S1 h1
          simp only [Option.map_eq_some_iff, Prod.mk.injEq] at h
          obtain ⟨r', h2, rfl, rfl⟩ := h
          exact ⟨a, _, T, ha, .inr rfl, h1, h2⟩
        · cases h
      · cases h
    refine ⟨fun lo q args S r S' h => roundA_ok hc ih h, fun lo f args S r S' h => ?_, fun lo f args S r S' h => ?_, fun lo f args S r S' h => ?_⟩
    · obtain ⟨a, x, T, h1, h2, h3, h4⟩ := inv _ _ _ _ _ _ h
      obtain ⟨fn, f1, f2, f3, f4, f5⟩ := (hc.tab f a h1).fn
      intro C vs hCS hS hs hr
      subst hCS
      refine calls_of_body f1 f3 h2 (by rw [f5]; exact h4) (evalC_ok (ro := none) (C0 := C) (d0 := []) hc ih (Nat.le_refl _) a.body _ _ C x T S' (.inl rfl) hS (Ext.refl C) ?_ (MarksOk.nil _ _ _) h3)
      rw [f4]
      exact enter_rel hs hr a.ntmps
    · obtain ⟨a, x, T, h1, h2, h3, h4⟩ := inv _ _ _ _ _ _ h
      obtain ⟨fn, f1, f2, f3, f4, f5⟩ := (hc.tab f a h1).fn
      exact ⟨fn, f1, f2, by rw [f3]; rfl⟩
    · obtain ⟨a, x, T, h1, h2, h3, h4⟩ := inv _ _ _ _ _ _ h
      have := evalC_stays hc ih _ _ _ _ _ _ (Nat.le_refl _) h3
      exact ⟨this.1, fun q hq hl => this.2 q hq hl⟩
end
end Go.Proofs.YtkkgimhbliocoaaGreat.Vm
/- The abstract machine along one path: what is asked of symbols on the way is handed back as a list of statements. -/
namespace Go.Proofs.YtkkgimhbliocoaaGreat.Vm
open Go Go.RowKit
noncomputable section
set_option linter.unusedVariables false
set_option linter.unusedSimpArgs false
set_option linter.unnecessarySimpa false

inductive Hint where
  /-- that the operation comes to this is to be shown -/
  | op (x : AVal) (e : Eff)
  | load (x : AVal)
  | store (ys : List AVal)
  | idx
  | app
  /-- elements of a number that is a symbol are put behind a row, or make one -/
  | appX
  /-- .. and what the row then holds is told -/
  | appY (ys : List AVal)
  /-- behind what is in use of a row; zero values behind nothing -/
  | appS
  | appZ
  /-- a slice expression whose bounds are symbols -/
  | cut
  /-- what an operation on two numbers comes to is to be shown -/
  | val (v : Value)
  | call (r : AVal) (S : List AObj)
  /-- a call by value: what it comes to is to be shown of the values that are handed over -/
  | pcall (r : PVal)
  /-- a call that may make a row of its own -/
  | fcall (r : Fr)
  /-- a call by objects: what it comes to is told by a function, and to be shown -/
  | callS (f : List AVal → List AObj → AVal × List AObj)
  /-- a call by value; what is handed over, and what is frozen, is told and to be shown -/
  | pcallV (ps : List PVal) (r : PVal) (fS : List AObj → List AObj)
/-- How far a path came: no further (at an operation of a region); to a choice that is not made; to a loop of which nothing is said; to its end. -/
inductive Pth (α : Type) : Type where
  | bad (id i : Nat)
  | more (ob : List Prop)
  | loop (T : List AVal) (S : List AObj)
  | ok (a : α)
abbrev Hints := List (Nat × Nat × Hint)
def hintAt : Hints → Nat → Nat → Option Hint
  | [], _, _ => none
  | (a, b, h) :: hs, id, i => bif Nat.beq a id && Nat.beq b i then some h else hintAt hs id i

def idxP (P : Program) (t : TypeId) (x : AVal) (i : Int) : Option (AVal × Prop) :=
  match P.underlying t with
  | some (.slice e) => match szOf P e with
    | some sz => match x with
      | .list n xs => some (.eptr (xs.drop (i.toNat * sz)), 0 ≤ i ∧ i < n ∧ 0 < sz ∧ xs.length = n * sz)
      | .row o ep sz' off len => if sz' = sz then some (.ptr o ep ((off + i.toNat) * sz), 0 ≤ i ∧ i < len) else none
      | _ => none
    | none => none
  | some (.array n e) => match szOf P e with
    | some sz => match x with
      | .ptr o ep off => some (.ptr o ep (off + i.toNat * sz), 0 ≤ i ∧ i < n)
      | .eptr xs => some (.eptr (xs.drop (i.toNat * sz)), 0 ≤ i ∧ i < n)
      | _ => none
    | none => none
  | _ => none
theorem idxP_ok {P : Program} {t : TypeId} {x : AVal} {i : Int} {r : AVal} {p : Prop} (h : idxP P t x i = some (r, p)) (hp : p) : indexAddrA P t x i = some r := by
  unfold idxP at h
  unfold indexAddrA
  split at h
  · rename_i e he
    simp only [he]
    split at h
    · rename_i sz hsz
      simp only [hsz]
      split at h
      · simp only [Option.some.injEq, Prod.mk.injEq] at h
        obtain ⟨rfl, rfl⟩ := h
        simp only [if_pos hp]
      · split at h
        · rename_i hs
          simp only [Option.some.injEq, Prod.mk.injEq] at h
          obtain ⟨rfl, rfl⟩ := h
          simp only [hs, hp, and_self, if_true]
        · cases h
      · cases h
    · cases h
  · rename_i n e he
    simp only [he]
    split at h
    · rename_i sz hsz
      simp only [hsz]
      split at h
      · simp only [Option.some.injEq, Prod.mk.injEq] at h
        obtain ⟨rfl, rfl⟩ := h
        simp only [hp, and_self, if_true]
      · simp only [Option.some.injEq, Prod.mk.injEq] at h
        obtain ⟨rfl, rfl⟩ := h
        simp only [hp, and_self, if_true]
      · cases h
    · cases h
  · cases h
/-- Elements put behind a row that is there. -/
def appP (P : Program) (S : List AObj) (t : TypeId) (s x : AVal) : Option (AVal × Eff × Prop) :=
  match P.underlying t with
  | some (.slice e) => match P.info? e with
    | some i => if 0 < i.size ∧ i.zero.map (·.cells.size) = some i.size then (match elemsA S i.size x with
      | some (m + 1, ys) => if ys.all AVal.one then (match s with
          | .row o ep sz off len => match S[o]? with
            | some (.row sz' e' fr xs) => if sz = i.size ∧ sz' = sz ∧ e' = ep then
                some (.row o (ep + 1) sz 0 (len + (m + 1)), [(o, .row sz (ep + 1) (fr.map fun _ => 0) (xs.drop (off * sz) ++ ys))],
                  (off + len) * sz = xs.length ∧ (len + (m + 1)) * i.bytes ≤ 140737488355328 ∧ len + (m + 1) ≤ 9223372036854775807)
              else none
            | _ => none
          | _ => none) else none
      | _ => none) else none
    | none => none
  | _ => none
theorem appP_ok {P : Program} {S : List AObj} {slot : Nat} {t : TypeId} {s x : AVal} {r : AVal} {e : Eff} {p : Prop} (h : appP P S t s x = some (r, e, p)) (hp : p) : appendA P S slot t s x = some (r, e) := by
  unfold appP at h
  unfold appendA
  split at h
  · rename_i el hel
    simp only [hel]
    split at h
    · rename_i i hi
      simp only [hi]
      split at h
      · rename_i hz
        rw [if_pos hz]
        split at h
        · rename_i m ys hm
          simp only [hm]
          rw [if_neg (by omega)]
          split at h
          · rename_i hone
            rw [if_pos hone]
            split at h
            · rename_i o ep sz off len
              split at h
              · rename_i sz' e' fr xs hx
                simp only [hx]
                split at h
                · rename_i hc
                  simp only [Option.some.injEq, Prod.mk.injEq] at h
                  obtain ⟨rfl, rfl, rfl⟩ := h
                  rw [if_pos ⟨hc.1, hc.2.1, hc.2.2, hp⟩]
                · cases h
              · cases h
            · cases h
          · cases h
        · cases h
      · cases h
    · cases h
  · cases h

def loN : Option AVal → Nat
  | some (.v (.int _ n)) => n.toNat
  | _ => 0
def hiN (len : Nat) : Option AVal → Nat
  | some (.v (.int _ n)) => n.toNat
  | _ => len
def cutP (P : Program) (t : TypeId) (x : AVal) (lo hi : Option AVal) : Option (AVal × Prop) :=
  match P.underlying t with
  | some (.slice e) => match szOf P e with
    | some sz => match x with
      | .list n xs => some (.list (hiN n hi - loN lo) (cutA xs sz (loN lo) (hiN n hi)), boundsA n lo hi none = some (loN lo, hiN n hi, none))
      | .row o ep sz' off len => if sz' = sz then some (.row o ep sz (off + loN lo) (hiN len hi - loN lo), boundsA len lo hi none = some (loN lo, hiN len hi, none)) else none
      | _ => none
    | none => none
  | _ => none
theorem cutP_ok {P : Program} {t : TypeId} {x : AVal} {lo hi : Option AVal} {r : AVal} {p : Prop} (h : cutP P t x lo hi = some (r, p)) (hp : p) : sliceA P t x lo hi none = some r := by
  unfold cutP at h
  unfold sliceA
  split at h
  · rename_i e he
    simp only [he]
    split at h
    · rename_i sz hsz
      simp only [hsz]
      split at h
      · simp only [Option.some.injEq, Prod.mk.injEq] at h
        obtain ⟨rfl, rfl⟩ := h
        simp only [hp]
        rw [if_neg (by simp)]
      · split at h
        · rename_i hs
          simp only [Option.some.injEq, Prod.mk.injEq] at h
          obtain ⟨rfl, rfl⟩ := h
          simp only [hs, hp, if_true]
          rw [if_neg (by simp)]
        · cases h
      · cases h
    · cases h
  · cases h
/-- .. with a bound on the capacity, which is not the lower bound. -/
def cut3P (P : Program) (t : TypeId) (x : AVal) (lo hi : Option AVal) (mx : AVal) : Option (AVal × Prop) :=
  match P.underlying t with
  | some (.slice e) => match szOf P e with
    | some sz => match x with
      | .list n xs => some (.list (hiN n hi - loN lo) (cutA xs sz (loN lo) (hiN n hi)), ∃ m, boundsA n lo hi (some mx) = some (loN lo, hiN n hi, some m) ∧ m ≠ loN lo)
      | .row o ep sz' off len => if sz' = sz then some (.row o ep sz (off + loN lo) (hiN len hi - loN lo), ∃ m, boundsA len lo hi (some mx) = some (loN lo, hiN len hi, some m) ∧ m ≠ loN lo) else none
      | _ => none
    | none => none
  | _ => none
theorem cut3P_ok {P : Program} {t : TypeId} {x : AVal} {lo hi : Option AVal} {mx r : AVal} {p : Prop} (h : cut3P P t x lo hi mx = some (r, p)) (hp : p) : sliceA P t x lo hi (some mx) = some r := by
  unfold cut3P at h
  unfold sliceA
  split at h
  · rename_i e he
    simp only [he]
    split at h
    · rename_i sz hsz
      simp only [hsz]
      split at h
      · simp only [Option.some.injEq, Prod.mk.injEq] at h
        obtain ⟨rfl, rfl⟩ := h
        obtain ⟨m, h1, h2⟩ := hp
        simp only [h1]
        rw [if_neg (by simpa using h2)]
      · split at h
        · rename_i hs
          simp only [Option.some.injEq, Prod.mk.injEq] at h
          obtain ⟨rfl, rfl⟩ := h
          obtain ⟨m, h1, h2⟩ := hp
          simp only [hs, h1, if_true]
          rw [if_neg (by simpa using h2)]
        · cases h
      · cases h
    · cases h
  · cases h
def Ones (ys : List AVal) : Prop := ys.all AVal.one = true
def srcP (S : List AObj) (sz : Nat) : AVal → Option (Nat × List AVal × Prop)
  | .list n xs => some (n, upL xs, xs.length = n * sz)
  | .row o ep sz' off len => match S[o]? with
    | some (.row s e _ xs) => if s = sz ∧ sz' = sz ∧ e = ep then some (len, cutA xs sz off (off + len), (off + len) * sz ≤ xs.length) else none
    | _ => none
  | _ => none
theorem srcP_ok {S : List AObj} {sz : Nat} {x : AVal} {m : Nat} {ys : List AVal} {p : Prop} (h : srcP S sz x = some (m, ys, p)) (hp : p) : elemsA S sz x = some (m, ys) := by
  unfold srcP at h
  unfold elemsA
  split at h
  · simp only [Option.some.injEq, Prod.mk.injEq] at h
    obtain ⟨rfl, rfl, rfl⟩ := h
    simp only [hp, if_true]
  · split at h
    · rename_i hx
      split at h
      · rename_i hc
        simp only [Option.some.injEq, Prod.mk.injEq] at h
        obtain ⟨rfl, rfl, rfl⟩ := h
        simp only [hx]
        rw [if_pos ⟨hc.1, hc.2.1, hc.2.2, hp⟩]
      · cases h
    · cases h
  · cases h
def appXP (P : Program) (S : List AObj) (slot : Nat) (t : TypeId) (s x : AVal) : Option (AVal × Eff × List Prop) :=
  match P.underlying t with
  | some (.slice e) => match P.info? e with
    | some i => if 0 < i.size ∧ i.zero.map (·.cells.size) = some i.size then (match srcP S i.size x with
      | some (m, ys, p) => match s with
        | .clip | .v (.slice none 0 0) => some (.row slot 0 i.size 0 m, [(slot, .row i.size 0 none ys)], [p, 0 < m, Ones ys, m * i.bytes ≤ 140737488355328 ∧ m ≤ 9223372036854775807])
        | .row o ep sz off len => match S[o]? with
          | some (.row sz' e' fr xs) => if sz = i.size ∧ sz' = sz ∧ e' = ep then
              some (.row o (ep + 1) sz 0 (len + m), [(o, .row sz (ep + 1) (fr.map fun _ => 0) (xs.drop (off * sz) ++ ys))],
                [p, 0 < m, Ones ys, (off + len) * sz = xs.length ∧ (len + m) * i.bytes ≤ 140737488355328 ∧ len + m ≤ 9223372036854775807])
            else none
          | _ => none
        | _ => none
      | none => none) else none
    | none => none
  | _ => none
theorem appXP_ok {P : Program} {S : List AObj} {slot : Nat} {t : TypeId} {s x : AVal} {r : AVal} {e : Eff} {ps : List Prop} (h : appXP P S slot t s x = some (r, e, ps)) (hp : ∀ p ∈ ps, p) : appendA P S slot t s x = some (r, e) := by
  unfold appXP at h
  unfold appendA
  split at h
  · rename_i el hel
    simp only [hel]
    split at h
    · rename_i i hi
      simp only [hi]
      split at h
      · rename_i hz
        rw [if_pos hz]
        split at h
        · rename_i m ys p hm
          split at h
          · simp only [Option.some.injEq, Prod.mk.injEq] at h
            obtain ⟨rfl, rfl, rfl⟩ := h
            have h1 := hp p (by simp)
            have h2 : 0 < m := hp (0 < m) (by simp)
            have h3 : Ones ys := hp (Ones ys) (by simp)
            have h4 : m * i.bytes ≤ 140737488355328 ∧ m ≤ 9223372036854775807 := hp (m * i.bytes ≤ 140737488355328 ∧ m ≤ 9223372036854775807) (by simp)
            unfold Ones at h3
            simp only [srcP_ok hm h1]
            rw [if_neg (by omega), if_pos h3, if_pos h4]
          · simp only [Option.some.injEq, Prod.mk.injEq] at h
            obtain ⟨rfl, rfl, rfl⟩ := h
            have h1 := hp p (by simp)
            have h2 : 0 < m := hp (0 < m) (by simp)
            have h3 : Ones ys := hp (Ones ys) (by simp)
            have h4 : m * i.bytes ≤ 140737488355328 ∧ m ≤ 9223372036854775807 := hp (m * i.bytes ≤ 140737488355328 ∧ m ≤ 9223372036854775807) (by simp)
            unfold Ones at h3
            simp only [srcP_ok hm h1]
            rw [if_neg (by omega), if_pos h3, if_pos h4]
          · rename_i o ep sz off len
            split at h
            · rename_i sz' e' fr xs hx
              split at h
              · rename_i hc
                simp only [Option.some.injEq, Prod.mk.injEq] at h
                obtain ⟨rfl, rfl, rfl⟩ := h
                have h1 := hp p (by simp)
                have h2 : 0 < m := hp (0 < m) (by simp)
                have h3 : Ones ys := hp (Ones ys) (by simp)
                have h4 : (off + len) * sz = xs.length ∧ (len + m) * i.bytes ≤ 140737488355328 ∧ len + m ≤ 9223372036854775807 := hp _ (List.mem_cons_of_mem _ (List.mem_cons_of_mem _ (List.mem_cons_of_mem _ (List.mem_cons_self ..))))
                unfold Ones at h3
                simp only [srcP_ok hm h1]
                rw [if_neg (by omega), if_pos h3]
                simp only [hx]
                rw [if_pos ⟨hc.1, hc.2.1, hc.2.2, h4⟩]
              · cases h
            · cases h
          · cases h
        · cases h
      · cases h
    · cases h
  · cases h

def appSP (P : Program) (S : List AObj) (slot : Nat) (t : TypeId) (s x : AVal) : Option (AVal × Eff × List Prop) :=
  match s with
  | .row o ep sz off len => match S[o]? with
    | some (.row sz' e0 none xs) => match appXP P (S.set o (.row sz' e0 none (xs.take ((off + len) * sz)))) slot t (.row o ep sz off len) x with
      | some (r, [(q, y)], ps) => if q = o then some (r, [(q, y)], ((off + len) * sz ≠ xs.length) :: ps) else none
      | _ => none
    | _ => none
  | _ => none
theorem appSP_ok {P : Program} {S : List AObj} {slot : Nat} {t : TypeId} {s x : AVal} {r : AVal} {e : Eff} {ps : List Prop} (h : appSP P S slot t s x = some (r, e, ps)) (hp : ∀ p ∈ ps, p) : appendS P S slot t s x = some (r, e) := by
  unfold appSP at h
  unfold appendS
  split at h
  · rename_i o ep sz off len
    split at h
    · rename_i sz' e0 xs hx
      simp only [hx]
      split at h
      · rename_i r' q y qs ha
        split at h
        · rename_i hq
          simp only [Option.some.injEq, Prod.mk.injEq] at h
          obtain ⟨rfl, rfl, rfl⟩ := h
          have h1 : (off + len) * sz ≠ xs.length := hp _ (List.mem_cons_self ..)
          rw [if_neg h1, appXP_ok ha fun p hp' => hp p (List.mem_cons_of_mem _ hp')]
          simp only [hq, if_true]
        · cases h
      · cases h
    · cases h
  · cases h
def appZP (P : Program) (slot : Nat) (t tn : TypeId) (s x : AVal) : Option (AVal × Eff × Prop) :=
  match P.underlying t, P.underlying tn with
  | some (.slice e), some (.int _) => match P.info? e, zeroA P e with
    | some i, some zs => match s, x with
      | .v (.slice none 0 0), .v (.int _ n) => if 0 < i.size ∧ zs.length = i.size ∧ zs.all AVal.one = true then
          some (.row slot 0 i.size 0 n.toNat, [(slot, .row i.size 0 none (List.replicate n.toNat zs).flatten)], 0 < n ∧ n * i.bytes ≤ 140737488355328 ∧ n ≤ 9223372036854775807)
        else none
      | _, _ => none
    | _, _ => none
  | _, _ => none
theorem appZP_ok {P : Program} {slot : Nat} {t tn : TypeId} {s x : AVal} {r : AVal} {e : Eff} {p : Prop} (h : appZP P slot t tn s x = some (r, e, p)) (hp : p) : appendZ P slot t tn s x = some (r, e) := by
  unfold appZP at h
  unfold appendZ
  split at h
  · rename_i el kn ht htn
    simp only [ht, htn]
    split at h
    · rename_i i zs hi hzs
      simp only [hi, hzs]
      split at h
      · split at h
        · rename_i hc
          simp only [Option.some.injEq, Prod.mk.injEq] at h
          obtain ⟨rfl, rfl, rfl⟩ := h
          simp only
          rw [if_pos ⟨hp.1, hp.2.1, hp.2.2, hc.1, hc.2.1, hc.2.2⟩]
        · cases h
      · cases h
    · cases h
  · cases h
def evalH (P : Program) (T : List AVal) (S : List AObj) (slot : Nat) (o : Oper) (h : Hint) : Option (AVal × Eff × List Prop) :=
  match h with
  | .op x e => some (x, e, [evalOp P T S slot o = some (x, e)])
  | .load x => match o.op with
    | .load t a => match opd T a with
      | .eptr xs => some (x, [], [partA P t (upL xs) 0 = some x])
      | .ptr q ep off => match S[q]? with
        | some (.box xs) => if ep = 0 then some (x, [], [partA P t xs off = some x]) else none
        | some (.row _ e _ xs) => if e = ep then some (x, [], [partA P t xs off = some x]) else none
        | _ => none
      | _ => none
    | .lookup t m k ok => match mapT P t, opd T k, mapA S (opd T m) with
      | some z, .v (.int .i64 n), some kv => some (x, [], [lookA z n ok kv = x])
      | _, _, _ => none
    | _ => none
  | .appX => match o.op with
    | .call { callee := .builtin .append, args, argTypes } => match args.toList.map (opd T) with
      | [s, x] => if argTypes.toList = [argTypes.getD 0 0, argTypes.getD 0 0] then appXP P S slot (argTypes.getD 0 0) s x else none
      | _ => none
    | _ => none
  | .cut => match o.op with
    | .slice t x lo hi none => match cutP P t (opd T x) (lo.map (opd T)) (hi.map (opd T)) with
      | some (r, p) => some (r, [], [p])
      | none => none
    | .slice t x lo hi (some mx) => match cut3P P t (opd T x) (lo.map (opd T)) (hi.map (opd T)) (opd T mx) with
      | some (r, p) => some (r, [], [p])
      | none => none
    | _ => none
  | .val v => match o.op with
    | .binOp op t x y _ => match eqAgg P op t (opd T x) (opd T y) with
      | some _ => none
      | none => some (.v v, [], [binA P op t x y (opd T x) (opd T y) = some (.v v)])
    | _ => none
  | .store ys => match o.op with
    | .store t a x => match opd T a with
      | .ptr q ep off => match S[q]? with
        | some (.box xs) => if ep = 0 ∧ szOf P t = some (opd T x).cells.length then some (.v undef, [(q, .box ys)], [putA xs off (opd T x).cells = some ys]) else none
        | some (.row sz e fz xs) => if e = ep ∧ fz.isNone = true ∧ szOf P t = some (opd T x).cells.length then some (.v undef, [(q, .row sz e none ys)], [putA xs off (opd T x).cells = some ys]) else none
        | _ => none
      | _ => none
    | _ => none
  | .idx => match o.op with
    | .indexAddr t x i => match opd T i with
      | .v (.int _ n) => match idxP P t (opd T x) n with
        | some (r, p) => some (r, [], [p])
        | none => none
      | _ => none
    | _ => none
  | .app => match o.op with
    | .call { callee := .builtin .append, args, argTypes } => match args.toList.map (opd T) with
      | [s, x] => if argTypes.toList = [argTypes.getD 0 0, argTypes.getD 0 0] then (match appP P S (argTypes.getD 0 0) s x with
        | some (r, e, p) => some (r, e, [p])
        | none => none) else none
      | _ => none
    | _ => none
  | .appY ys => match o.op with
    | .call { callee := .builtin .append, args, argTypes } => match args.toList.map (opd T) with
      | [s, x] => if argTypes.toList = [argTypes.getD 0 0, argTypes.getD 0 0] then (match appXP P S slot (argTypes.getD 0 0) s x with
        | some (r, [(q, .row sz ep fz zs)], ps) => some (r, [(q, .row sz ep fz ys)], (zs = ys) :: ps)
        | _ => none) else none
      | _ => none
    | _ => none
  | .appS => match o.op with
    | .call { callee := .builtin .append, args, argTypes } => match args.toList.map (opd T) with
      | [s, x] => if argTypes.toList = [argTypes.getD 0 0, argTypes.getD 0 0] then appSP P S slot (argTypes.getD 0 0) s x else none
      | _ => none
    | _ => none
  | .appZ => match o.op with
    | .call { callee := .builtin .append, args, argTypes } => match args.toList.map (opd T) with
      | [s, x] => if argTypes.toList = [argTypes.getD 0 0, argTypes.getD 0 0] then none else if argTypes.toList = [argTypes.getD 0 0, argTypes.getD 1 0] then (match appZP P slot (argTypes.getD 0 0) (argTypes.getD 1 0) s x with
        | some (r, e, p) => some (r, e, [p])
        | none => none) else none
      | _ => none
    | _ => none
  | .call _ _ => none
  | .pcall _ => none
  | .fcall _ => none
  | .callS _ => none
  | .pcallV _ _ _ => none
theorem evalH_ok {P : Program} {T : List AVal} {S : List AObj} {slot : Nat} {o : Oper} {h : Hint} {x : AVal} {e : Eff} {ps : List Prop} (hh : evalH P T S slot o h = some (x, e, ps)) (hp : ∀ p ∈ ps, p) : evalOp P T S slot o = some (x, e) := by
  unfold evalH at hh
  split at hh
  · simp only [Option.some.injEq, Prod.mk.injEq] at hh
    obtain ⟨rfl, rfl, rfl⟩ := hh
    exact hp _ (by simp)
  · split at hh
    · rename_i t a ho
      split at hh
      · rename_i xs ha
        simp only [Option.some.injEq, Prod.mk.injEq] at hh
        obtain ⟨rfl, rfl, rfl⟩ := hh
        have := hp _ (List.mem_singleton.2 rfl)
        simp only [evalOp, ho, loadA, ha, this, Option.map_some]
      · rename_i q ep off ha
        split at hh
        · rename_i xs hq
          split at hh
          · rename_i hc
            simp only [Option.some.injEq, Prod.mk.injEq] at hh
            obtain ⟨rfl, rfl, rfl⟩ := hh
            have := hp _ (List.mem_singleton.2 rfl)
            simp only [evalOp, ho, loadA, ha, hq, hc, this, if_true, Option.map_some]
          · cases hh
        · rename_i _ e _ xs hq
          split at hh
          · rename_i hc
            simp only [Option.some.injEq, Prod.mk.injEq] at hh
            obtain ⟨rfl, rfl, rfl⟩ := hh
            have := hp _ (List.mem_singleton.2 rfl)
            simp only [evalOp, ho, loadA, ha, hq, hc, this, if_true, Option.map_some]
          · cases hh
        · cases hh
      · cases hh
    · rename_i t m k ok ho
      split at hh
      · rename_i z n kv hz hk hm
        simp only [Option.some.injEq, Prod.mk.injEq] at hh
        obtain ⟨rfl, rfl, rfl⟩ := hh
        have := hp _ (List.mem_singleton.2 rfl)
        simp only [evalOp, ho, hz, hk, hm, this]
      · cases hh
    · cases hh
  · split at hh
    · rename_i args ts ho
      split at hh
      · rename_i s y ha
        split at hh
        · rename_i hts
          simp only [evalOp, ho, ha, evalBuiltin]
          rw [if_pos hts]
          rw [appXP_ok hh hp]
        · cases hh
      · cases hh
    · cases hh
  · split at hh
    · rename_i t y lo hi ho
      split at hh
      · rename_i r p hr
        simp only [Option.some.injEq, Prod.mk.injEq] at hh
        obtain ⟨rfl, rfl, rfl⟩ := hh
        simp only [evalOp, ho, Option.map_none, cutP_ok hr (hp _ (by simp)), Option.map_some]
      · cases hh
    · rename_i t y lo hi mx ho
      split at hh
      · rename_i r p hr
        simp only [Option.some.injEq, Prod.mk.injEq] at hh
        obtain ⟨rfl, rfl, rfl⟩ := hh
        simp only [evalOp, ho, Option.map_some, cut3P_ok hr (hp _ (by simp))]
      · cases hh
    · cases hh
  · split at hh
    · rename_i op t y z _ ho
      split at hh
      · cases hh
      · rename_i hag
        simp only [Option.some.injEq, Prod.mk.injEq] at hh
        obtain ⟨rfl, rfl, rfl⟩ := hh
        have := hp _ (List.mem_singleton.2 rfl)
        simp only [evalOp, ho, hag, this, Option.map_some]
    · cases hh
  · split at hh
    · rename_i t a y ho
      split at hh
      · rename_i q ep off ha
        split at hh
        · rename_i xs hq
          split at hh
          · rename_i hc
            simp only [Option.some.injEq, Prod.mk.injEq] at hh
            obtain ⟨rfl, rfl, rfl⟩ := hh
            have := hp _ (List.mem_singleton.2 rfl)
            simp only [evalOp, ho, storeA, ha, hq, hc.1, hc.2, this, if_true, Option.map_some]
          · cases hh
        · rename_i sz ee fz xs hq
          split at hh
          · rename_i hc
            simp only [Option.some.injEq, Prod.mk.injEq] at hh
            obtain ⟨rfl, rfl, rfl⟩ := hh
            have := hp _ (List.mem_singleton.2 rfl)
            have hf : fz = none := by cases fz <;> simp_all
            simp only [evalOp, ho, storeA, ha, hq, hc.1, hc.2.2, this, hf, and_self, if_true, Option.map_some]
          · cases hh
        · cases hh
      · cases hh
    · cases hh
  · split at hh
    · rename_i t y i ho
      split at hh
      · rename_i k n hi
        split at hh
        · rename_i r p hr
          simp only [Option.some.injEq, Prod.mk.injEq] at hh
          obtain ⟨rfl, rfl, rfl⟩ := hh
          simp only [evalOp, ho, hi, idxP_ok hr (hp _ (by simp)), Option.map_some]
        · cases hh
      · cases hh
    · cases hh
  · split at hh
    · rename_i args ts ho
      split at hh
      · rename_i s y ha
        split at hh
        · rename_i hts
          split at hh
          · rename_i r e' p hr
            simp only [Option.some.injEq, Prod.mk.injEq] at hh
            obtain ⟨rfl, rfl, rfl⟩ := hh
            simp only [evalOp, ho, ha, evalBuiltin]
            rw [if_pos hts]
            rw [appP_ok (slot := slot) hr (hp _ (by simp))]
          · cases hh
        · cases hh
      · cases hh
    · cases hh
  · split at hh
    · rename_i args ts ho
      split at hh
      · rename_i s y ha
        split at hh
        · rename_i hts
          simp only [evalOp, ho, ha, evalBuiltin]
          rw [if_pos hts]
          split at hh
          · rename_i r q sz ep fz zs qs hr
            simp only [Option.some.injEq, Prod.mk.injEq] at hh
            obtain ⟨rfl, rfl, rfl⟩ := hh
            have h1 : zs = _ := hp _ (List.mem_cons_self ..)
            subst h1
            rw [appXP_ok hr fun p hp' => hp p (List.mem_cons_of_mem _ hp')]
          · cases hh
        · cases hh
      · cases hh
    · cases hh
  · split at hh
    · rename_i args ts ho
      split at hh
      · rename_i s y ha
        split at hh
        · rename_i hts
          simp only [evalOp, ho, ha, evalBuiltin]
          rw [if_pos hts]
          have hs := appSP_ok hh hp
          cases hq : appendA P S slot (ts.getD 0 0) s y with
          | none => exact hs
          | some r2 => exact (appendS_none (Less.refl S) hs hq).elim
        · cases hh
      · cases hh
    · cases hh
  · split at hh
    · rename_i args ts ho
      split at hh
      · rename_i s y ha
        split at hh
        · cases hh
        · rename_i hts
          split at hh
          · rename_i hts2
            split at hh
            · rename_i r' e' p' hr
              simp only [Option.some.injEq, Prod.mk.injEq] at hh
              obtain ⟨rfl, rfl, rfl⟩ := hh
              simp only [evalOp, ho, ha, evalBuiltin]
              rw [if_neg hts, if_pos hts2]
              exact appZP_ok hr (hp _ (by simp))
            · cases hh
          · cases hh
      · cases hh
    · cases hh
  · cases hh
  · cases hh
  · cases hh
  · cases hh
  · cases hh

/-! ## what is read at a place that is a symbol -/
def intAt : List AVal → Int
  | .v (.int _ n) :: _ => n
  | _ => 0
def boolAt : List AVal → Bool
  | .v (.bool b) :: _ => b
  | _ => false
def lenAt : List AVal → Nat
  | .list n _ :: _ => n
  | _ => 0
def cellsAt : List AVal → List PVal
  | .list _ xs :: _ => xs
  | _ => []
def symL (P : Program) : Nat → TypeId → List AVal → Option (List AVal)
  | 0, _, _ => none
  | n + 1, t, xs => match P.underlying t with
    | some (.int k) => some [.v (.int k (intAt xs))]
    | some .bool => some [.v (.bool (boolAt xs))]
    | some (.slice _) => some [.list (lenAt xs) (cellsAt xs)]
    | some (.struct fs) => fs.toList.foldr (fun f r => match symL P n f.type (xs.drop f.offset), r with
      | some ys, some zs => some (ys ++ zs)
      | _, _ => none) (some [])
    | _ => none
def symV (P : Program) (t : TypeId) (xs : List AVal) : Option AVal :=
  match symL P 4 t xs with
  | some ys => match aggT P t with
    | some true => some (.agg ys)
    | some false => ys.head?
    | none => none
  | none => none
/-- Where nothing is said: an index is to be shown to be one; what lies in a slice that was handed over is read as it is. -/
def autoH (P : Program) (T : List AVal) (S : List AObj) (o : Oper) : Option Hint :=
  match o.op with
  | .indexAddr _ x _ => match opd T x with
    | .list _ _ => some .idx
    | .row _ _ _ _ _ => some .idx
    | _ => none
  | .load t a => match opd T a with
    | .eptr xs => (symV P t (upL xs)).map .load
    | .ptr q _ off => match S[q]? with
      | some (.row _ _ _ xs) => (symV P t (xs.drop off)).map .load
      | _ => none
    | _ => none
  | _ => none
def hintOf (P : Program) (hs : Hints) (T : List AVal) (S : List AObj) (id i : Nat) (o : Oper) : Option Hint :=
  match hintAt hs id i with
  | some h => some h
  | none => match hintAt hs 9999 0 with
    | some _ => autoH P T S o
    | none => none

/-- Where a path has come to: what is still to be chosen, how loops come out, which temporaries were chosen, what is to be shown. -/
structure PSt where
  bs : List Bool
  ls : List (AExit × List AVal × List AObj)
  kn : List Nat
  ob : List Prop
def allOb (ps : List Prop) : Prop := ∀ p ∈ ps, p
def memN : List Nat → Nat → Bool
  | [], _ => false
  | x :: xs, y => Nat.beq x y || memN xs y
def dropN : List Nat → Nat → List Nat
  | [], _ => []
  | x :: xs, y => bif Nat.beq x y then dropN xs y else x :: dropN xs y

/-- A choice that is made is remembered: the temporary is what was chosen. -/
def knowP (t : Nat) (T : List AVal) (st : PSt) : Pth (List AVal × PSt) :=
  bif memN st.kn t then .ok (T, st)
  else match T[t]? with
    | some (.v (.bool b)) => match st.bs with
      | c :: bs => .ok (T.set t (.v (.bool c)), ⟨bs, st.ls, t :: st.kn, (b = c) :: st.ob⟩)
      | [] => .more st.ob
    | _ => .ok (T, st)
def knowX (x : Operand) (T : List AVal) (st : PSt) : Pth (List AVal × PSt) :=
  match x with
  | .tmp t => knowP t T st
  | _ => .ok (T, st)
/-- What is known behind an operation. -/
def knAfter (o : Oper) (kn : List Nat) : List Nat :=
  match o.dst with
  | none => kn
  | some d => match o.op with
    | .move (.tmp t) | .assign (.tmp t) | .unOp _ _ (.tmp t) => bif memN kn t then d :: dropN kn d else dropN kn d
    | .move (.const _) | .assign (.const _) => d :: dropN kn d
    | _ => dropN kn d
def PSt.after (st : PSt) (o : Oper) : PSt := ⟨st.bs, st.ls, knAfter o st.kn, st.ob⟩
def wantedP (ops : Array Oper) (T : List AVal) (o : Oper) (st : PSt) : Pth (Bool × List AVal × PSt) :=
  match o.guard with
  | none => match o.op with
    | .pick x _ _ => match knowX x T st with
      | .ok (T, st) => .ok (true, T, st)
      | .more ob => .more ob
      | .loop T S => .loop T S
      | .bad id i => .bad id i
    | _ => .ok (true, T, st)
  | some (j, _) => match (ops[j]?).bind (·.dst) with
    | some d => match knowP d T st with
      | .ok (T, st) => match wantedA ops T o with
        | some true => match o.op with
          | .pick x _ _ => match knowX x T st with
            | .ok (T, st) => .ok (true, T, st)
            | .more ob => .more ob
            | .loop T S => .loop T S
            | .bad id i => .bad id i
          | _ => .ok (true, T, st)
        | some false => .ok (false, T, st)
        | none => .bad 2001 j
      | .more ob => .more ob
      | .loop T S => .loop T S
      | .bad id i => .bad id i
    | none => .bad 2002 j
theorem set_same {T : List AVal} {d : Nat} {x : AVal} (h : T[d]? = some x) : T.set d x = T := by
  apply List.ext_getElem?
  intro i
  rw [List.getElem?_set]
  by_cases hd : d = i
  · subst hd
    have := (List.getElem?_eq_some_iff.1 h).1
    rw [if_pos rfl, if_pos this, h]
  · rw [if_neg hd]
theorem knowP_ok {t : Nat} {T T1 : List AVal} {st st' : PSt} (h : knowP t T st = .ok (T1, st')) (hp : allOb st'.ob) : T1 = T ∧ allOb st.ob := by
  unfold knowP at h
  cases hm : memN st.kn t with
  | true =>
    rw [hm] at h
    simp only [cond_true, Pth.ok.injEq, Prod.mk.injEq] at h
    obtain ⟨rfl, rfl⟩ := h
    exact ⟨rfl, hp⟩
  | false =>
    rw [hm] at h
    simp only [cond_false] at h
    split at h
    · rename_i b hb
      split at h
      · simp only [Pth.ok.injEq, Prod.mk.injEq] at h
        obtain ⟨rfl, rfl⟩ := h
        rename_i cc bs hbs
        have h1 : b = cc := hp _ (by simp)
        subst h1
        exact ⟨set_same hb, fun p hp' => hp p (by simp [hp'])⟩
      · cases h
    · simp only [Pth.ok.injEq, Prod.mk.injEq] at h
      obtain ⟨rfl, rfl⟩ := h
      exact ⟨rfl, hp⟩
theorem knowX_ok {x : Operand} {T T1 : List AVal} {st st' : PSt} (h : knowX x T st = .ok (T1, st')) (hp : allOb st'.ob) : T1 = T ∧ allOb st.ob := by
  unfold knowX at h
  split at h
  · exact knowP_ok h hp
  · simp only [Pth.ok.injEq, Prod.mk.injEq] at h
    obtain ⟨rfl, rfl⟩ := h
    exact ⟨rfl, hp⟩
theorem wantedP_ok {ops : Array Oper} {T T1 : List AVal} {o : Oper} {st st' : PSt} {b : Bool} (h : wantedP ops T o st = .ok (b, T1, st')) (hp : allOb st'.ob) : T1 = T ∧ wantedA ops T o = some b ∧ allOb st.ob := by
  unfold wantedP at h
  split at h
  · rename_i hg
    have hw : wantedA ops T o = some true := by unfold wantedA; simp only [hg]
    split at h
    · split at h
      · rename_i hk
        simp only [Pth.ok.injEq, Prod.mk.injEq] at h
        obtain ⟨rfl, rfl, rfl⟩ := h
        obtain ⟨rfl, h2⟩ := knowX_ok hk hp
        exact ⟨rfl, hw, h2⟩
      · cases h
      · cases h
      · cases h
    · simp only [Pth.ok.injEq, Prod.mk.injEq] at h
      obtain ⟨rfl, rfl, rfl⟩ := h
      exact ⟨rfl, hw, hp⟩
  · split at h
    · split at h
      · rename_i hk0
        split at h
        · rename_i hw
          split at h
          · split at h
            · rename_i hk
              simp only [Pth.ok.injEq, Prod.mk.injEq] at h
              obtain ⟨rfl, rfl, rfl⟩ := h
              obtain ⟨rfl, h2⟩ := knowX_ok hk hp
              obtain ⟨rfl, h3⟩ := knowP_ok hk0 h2
              exact ⟨rfl, hw, h3⟩
            · cases h
            · cases h
            · cases h
          · simp only [Pth.ok.injEq, Prod.mk.injEq] at h
            obtain ⟨rfl, rfl, rfl⟩ := h
            obtain ⟨rfl, h3⟩ := knowP_ok hk0 hp
            exact ⟨rfl, hw, h3⟩
        · rename_i hw
          simp only [Pth.ok.injEq, Prod.mk.injEq] at h
          obtain ⟨rfl, rfl, rfl⟩ := h
          obtain ⟨rfl, h3⟩ := knowP_ok hk0 hp
          exact ⟨rfl, hw, h3⟩
        · cases h
      · cases h
      · cases h
      · cases h
    · cases h

section
variable (c : Cfg) (ev : Ev) (lv : List Nat) (lo base n : Nat) (hs : Hints)
def freshP (c : Cfg) (ev : Ev) (lo : Nat) (g : FuncId) (slot : Nat) (args : List AVal) (S1 : List AObj) (r : Fr) : Option (AVal × List AObj × List Prop) :=
  if (c.givenS g).isNone = true ∧ c.mode g = 3 then (match mapO (peek S1 deep) args with
    | some ps => match r with
      | .val p => some (up p, S1, [freshOf c ev g ps = some (.val p)])
      | .row sz off len ys => some (.row slot 0 sz off len, setObj S1 slot (.row sz 0 none (upL ys)), [freshOf c ev g ps = some (.row sz off len ys)])
    | none => none) else none
def stepP (id i : Nat) (T : List AVal) (S : List AObj) (slot : Nat) (o : Oper) : Option (AVal × List AObj × List Prop) :=
  match hintOf c.P hs T S id i o with
  | none => match stepOp c ev lo T S slot o with
    | some (x, S') => some (x, S', [])
    | none => none
  | some h => match isCall o with
    | some (f, xs) => match h, opd T f with
      | .call r S', .fn g caps => some (r, S', [callA c ev lo g (xs.map (opd T) ++ caps) S = some (r, S')])
      | .pcall r, .fn g caps => if (c.givenS g).isNone = true ∧ c.mode g = 0 then (match mapO (peek ((xs.map (opd T) ++ caps).foldl (mark lo deep) S) deep) (xs.map (opd T) ++ caps) with
        | some ps => some (up r, (xs.map (opd T) ++ caps).foldl (mark lo deep) S, [pureCall c ev g ps = some r])
        | none => none) else none
      | .callS f, .fn g caps => some ((f (xs.map (opd T) ++ caps) S).1, (f (xs.map (opd T) ++ caps) S).2, [callA c ev lo g (xs.map (opd T) ++ caps) S = some ((f (xs.map (opd T) ++ caps) S).1, (f (xs.map (opd T) ++ caps) S).2)])
      | .pcallV ps r fS, .fn g caps => if (c.givenS g).isNone = true ∧ c.mode g = 0 then some (up r, fS S, [(xs.map (opd T) ++ caps).foldl (mark lo deep) S = fS S, mapO (peek (fS S) deep) (xs.map (opd T) ++ caps) = some ps, pureCall c ev g ps = some r]) else none
      | .fcall r, .fn g caps => freshP c ev lo g (slotOf lo ((xs.map (opd T) ++ caps).foldl (mark lo deep) S)) (xs.map (opd T) ++ caps) ((xs.map (opd T) ++ caps).foldl (mark lo deep) S) r
      | .callS f, .yld q => some ((f (xs.map (opd T)) S).1, (f (xs.map (opd T)) S).2, [ev.yld lo q (xs.map (opd T)) S = some ((f (xs.map (opd T)) S).1, (f (xs.map (opd T)) S).2)])
      | _, _ => none
    | none => match evalH c.P T S slot o h with
      | some (x, e, ps) => if e.all (fun p => lo ≤ p.1) then some (x, applyEff S e, ps) else none
      | none => none
def opsP (id : Nat) (ops : Array Oper) : Nat → List Oper → List AVal → List AObj → PSt → Pth (List AVal × List AObj × PSt)
  | _, [], T, S, st => .ok (T, S, st)
  | i, o :: rest, T, S, st => match wantedP ops T o st with
    | .ok (true, T, st) => match stepP c ev lo hs id i T S (slotOf lo S) o with
      | some (x, S', ps) => opsP id ops (i + 1) rest (putT T o.dst x) S' ⟨st.bs, st.ls, knAfter o st.kn, ps ++ st.ob⟩
      | none => .bad id i
    | .ok (false, T, st) => opsP id ops (i + 1) rest (putT T o.dst (.v undef)) S (st.after o)
    | .more ob => .more ob
    | .loop T S => .loop T S
    | .bad id i => .bad id i
def drawOpP (id i : Nat) (T : List AVal) (S : List AObj) (slot : Nat) (o : Oper) : Option (AVal × Eff × List Prop) :=
  match hintOf c.P hs T S id i o with
  | none => match drawOp c ev lo T S slot o with
    | some (x, e) => some (x, e, [])
    | none => none
  | some h => match isCall o with
    | some (f, xs) => match h, opd T f with
      | .call r _, .fn g caps => some (r, [], [peekCall c ev g (xs.map (opd T) ++ caps) S = some r])
      | .pcall r, .fn g caps => if (c.givenS g).isNone = true ∧ c.mode g = 0 ∧ (frzU S (xs.map (opd T) ++ caps)).all (fun p => lo ≤ p.1) = true then (match mapO (peek (applyEff S (frzU S (xs.map (opd T) ++ caps))) deep) (xs.map (opd T) ++ caps) with
        | some ps => some (up r, frzU S (xs.map (opd T) ++ caps), [pureCall c ev g ps = some r])
        | none => none) else none
      | .callS f, .fn g caps => some ((f (xs.map (opd T) ++ caps) S).1, [], [peekCall c ev g (xs.map (opd T) ++ caps) S = some (f (xs.map (opd T) ++ caps) S).1])
      | .pcallV ps r _, .fn g caps => if (c.givenS g).isNone = true ∧ c.mode g = 0 then some (up r, [], [mapO (peek S deep) (xs.map (opd T) ++ caps) = some ps, pureCall c ev g ps = some r]) else none
      | .fcall r, .fn g caps => if Nat.beq (c.mode g) 3 = true ∧ (c.givenS g).isNone = true then (match mapO (peek S deep) (xs.map (opd T) ++ caps) with
        | some ps => match r with
          | .val p => some (up p, [], [freshOf c ev g ps = some (.val p)])
          | .row sz off len ys => if lo ≤ slot then some (.row slot 0 sz off len, [(slot, .row sz 0 none (upL ys))], [freshOf c ev g ps = some (.row sz off len ys)]) else none
        | none => none) else none
      | _, _ => none
    | none => match evalH c.P T S slot o h with
      | some (x, e, ps) => if e.all (fun p => lo ≤ p.1) then some (x, e, ps) else none
      | none => none
def pass2P (id : Nat) (ops : Array Oper) (pr W : List (List Nat)) (n0 : Nat) : Nat → List Oper → List AVal → List AObj → PSt → Pth (List AVal × List AObj × PSt)
  | _, [], T, S, st => .ok (T, S, st)
  | i, o :: rest, T, S, st => match wantedP ops T o st with
    | .ok (true, T, st) =>
      match drawOpP c ev lo hs id i T (hideAll ((unordered pr ops.size i).flatMap fun j => W.getD j []) S) (n0 + i) o with
      | some (x, e, ps) =>
        if e.all (fun p => (W.getD i []).contains p.1 && !((unordered pr ops.size i).flatMap fun j => W.getD j []).contains p.1 && (p.1 < n0 || p.1 == n0 + i || ((pr.getD i []).any fun j => p.1 == n0 + j))) then
          pass2P id ops pr W n0 (i + 1) rest (putT T o.dst x) (applyEff S e) ⟨st.bs, st.ls, knAfter o st.kn, ps ++ st.ob⟩
        else .bad id i
      | none => .bad id i
    | .ok (false, T, st) => pass2P id ops pr W n0 (i + 1) rest (putT T o.dst (.v undef)) S (st.after o)
    | .more ob => .more ob
    | .loop T S => .loop T S
    | .bad id i => .bad id i
def drawP (id : Nat) (ops : Array Oper) (T : List AVal) (S : List AObj) (st : PSt) : Pth (List AVal × List AObj × PSt) :=
  let pr := predsAll ops.toList []
  if apartT ops pr && aheadOk ops then
    match pass1 c ev lo S.length 0 ops.toList T (S ++ List.replicate ops.size .free) with
    | (S1, W) => pass2P c ev lo hs id ops pr W S.length 0 ops.toList T (freezeAs lo S S1 ++ List.replicate ops.size .free) st
  else .bad id 1000
def evalP : Code → List AVal → List AObj → PSt → Pth (AExit × List AVal × List AObj × PSt)
  | .skip, T, S, st => .ok (.normal, T, S, st)
  | .label _, T, S, st => .ok (.normal, T, S, st)
  | .region id ops false, T, S, st => match opsP c ev lo hs id ops 0 ops.toList T S st with
    | .ok (T', S', st) => .ok (.normal, forgetAt lv id T', S', st)
    | .more ob => .more ob
    | .loop T S => .loop T S
    | .bad id i => .bad id i
  | .region id ops true, T, S, st => match drawP c ev lo hs id ops T S st with
    | .ok (T', S', st) => .ok (.normal, forgetAt lv id T', S', st)
    | .more ob => .more ob
    | .loop T S => .loop T S
    | .bad id i => .bad id i
  | .seq a b, T, S, st => match evalP a T S st with
    | .ok (.normal, T', S', st) => evalP b T' S' st
    | r => r
  | .cond x a b, T, S, st => match knowX x T st with
    | .ok (T, st) => match opd T x with
      | .v (.bool true) => evalP a T S st
      | .v (.bool false) => evalP b T S st
      | _ => .bad 1000 0
    | .more ob => .more ob
    | .loop T S => .loop T S
    | .bad id i => .bad id i
  | .block id a, T, S, st => match evalP a T S st with
    | .ok (.exit j, T', S', st) => .ok (bif Nat.beq j id then .normal else .exit j, T', S', st)
    | r => r
  | .loop a, T, S, st => match st.ls with
    | (x, T', S') :: ls => .ok (x, T', S', ⟨st.bs, ls, [], (iterC base (evalC c ev lv lo base n a) n T S = some (x, T', S')) :: st.ob⟩)
    | [] => .loop T S
  | .exit id, T, S, st => .ok (.exit id, T, S, st)
  | .scope a, T, S, st => evalP a T S st
  | .ret, T, S, st => .ok (.ret, T, S, st)
  | _, _, _, _ => .bad 1000 1
end
section
variable {c : Cfg} {ev : Ev} {lv : List Nat} {lo base n : Nat} {hs : Hints}
theorem allOb_append {ps qs : List Prop} (h : allOb (ps ++ qs)) : allOb ps ∧ allOb qs := ⟨fun p hp => h p (by simp [hp]), fun p hp => h p (by simp [hp])⟩
theorem stepP_ok {id i : Nat} {T : List AVal} {S : List AObj} {slot : Nat} {o : Oper} {x : AVal} {S' : List AObj} {ps : List Prop} (h : stepP c ev lo hs id i T S slot o = some (x, S', ps)) (hp : allOb ps) : stepOp c ev lo T S slot o = some (x, S') := by
  unfold stepP at h
  split at h
  · split at h
    · rename_i hx
      simp only [Option.some.injEq, Prod.mk.injEq] at h
      obtain ⟨rfl, rfl, rfl⟩ := h
      exact hx
    · cases h
  · split at h
    · rename_i f xs hcall
      split at h
      · rename_i r S2 g caps hf hq
        simp only [Option.some.injEq, Prod.mk.injEq] at h
        obtain ⟨rfl, rfl, rfl⟩ := h
        unfold stepOp
        simp only [hcall, hf]
        exact hp _ (List.mem_singleton.2 rfl)
      · rename_i r g caps hf hq
        split at h
        · rename_i hc
          split at h
          · rename_i ps hps
            simp only [Option.some.injEq, Prod.mk.injEq] at h
            obtain ⟨rfl, rfl, rfl⟩ := h
            have hpc := hp _ (List.mem_singleton.2 rfl)
            have h0 : c.givenS g = none := by simpa using hc.1
            unfold stepOp
            simp only [hcall, hf, callA, h0, hc.2, hps, hpc, Option.map_some]
          · cases h
        · cases h
      · rename_i f2 g caps hf hq
        simp only [Option.some.injEq, Prod.mk.injEq] at h
        obtain ⟨rfl, rfl, rfl⟩ := h
        unfold stepOp
        simp only [hcall, hf]
        exact hp _ (List.mem_singleton.2 rfl)
      · rename_i ps r fS g caps hf hq
        split at h
        · rename_i hc
          simp only [Option.some.injEq, Prod.mk.injEq] at h
          obtain ⟨rfl, rfl, rfl⟩ := h
          have h0 : c.givenS g = none := by simpa using hc.1
          have h1 : (xs.map (opd T) ++ caps).foldl (mark lo deep) S = fS S := hp _ (List.mem_cons_self ..)
          have h2 : mapO (peek (fS S) deep) (xs.map (opd T) ++ caps) = some ps := hp _ (List.mem_cons_of_mem _ (List.mem_cons_self ..))
          have h3 : pureCall c ev g ps = some r := hp _ (List.mem_cons_of_mem _ (List.mem_cons_of_mem _ (List.mem_cons_self ..)))
          unfold stepOp
          simp only [hcall, hf, callA, h0, hc.2, h1, h2, h3, Option.map_some]
        · cases h
      · rename_i r g caps hf hq
        unfold freshP at h
        split at h
        · rename_i hc
          have h0 : c.givenS g = none := by simpa using hc.1
          split at h
          · rename_i ps hps
            split at h
            · simp only [Option.some.injEq, Prod.mk.injEq] at h
              obtain ⟨rfl, rfl, rfl⟩ := h
              have hpc := hp _ (List.mem_singleton.2 rfl)
              unfold stepOp
              simp only [hcall, hf, callA, h0, hc.2, freshCall, hps, hpc, Option.map_some, applyEff, Option.isNone_none, and_self, if_true]
            · simp only [Option.some.injEq, Prod.mk.injEq] at h
              obtain ⟨rfl, rfl, rfl⟩ := h
              have hpc := hp _ (List.mem_singleton.2 rfl)
              unfold stepOp
              simp only [hcall, hf, callA, h0, hc.2, freshCall, hps, hpc, Option.map_some, applyEff, Option.isNone_none, and_self, if_true]
          · cases h
        · cases h
      · rename_i f2 g hf hq
        simp only [Option.some.injEq, Prod.mk.injEq] at h
        obtain ⟨rfl, rfl, rfl⟩ := h
        unfold stepOp
        simp only [hcall, hf]
        exact hp _ (List.mem_singleton.2 rfl)
      · cases h
    · rename_i hcall
      split at h
      · rename_i y e qs he
        split at h
        · rename_i hlo
          simp only [Option.some.injEq, Prod.mk.injEq] at h
          obtain ⟨rfl, rfl, rfl⟩ := h
          unfold stepOp
          simp only [hcall, evalH_ok he hp]
          rw [if_pos hlo]
        · cases h
      · cases h
theorem opsP_ok {id : Nat} {ops : Array Oper} : ∀ (rest : List Oper) (i : Nat) (T : List AVal) (S : List AObj) (st : PSt) (T' : List AVal) (S' : List AObj) (st' : PSt), opsP c ev lo hs id ops i rest T S st = .ok (T', S', st') → allOb st'.ob → runOps c ev lo ops rest T S = some (T', S') ∧ allOb st.ob
  | [], i, T, S, st, T', S', st', h, hp => by
    simp only [opsP, Pth.ok.injEq, Prod.mk.injEq] at h
    obtain ⟨rfl, rfl, rfl⟩ := h
    exact ⟨rfl, hp⟩
  | o :: rest, i, T, S, st, T', S', st', h, hp => by
    simp only [opsP] at h
    simp only [runOps, putK_eq]
    split at h
    · rename_i T1 st1 hw
      split at h
      · rename_i x S1 ps hx
        obtain ⟨h1, h2⟩ := opsP_ok rest _ _ _ _ _ _ _ h hp
        obtain ⟨h3, h4⟩ := allOb_append h2
        obtain ⟨rfl, h5, h6⟩ := wantedP_ok hw h4
        simp only [h5, stepP_ok hx h3]
        exact ⟨h1, h6⟩
      · cases h
    · rename_i T1 st1 hw
      obtain ⟨h1, h2⟩ := opsP_ok rest _ _ _ _ _ _ _ h hp
      obtain ⟨rfl, h5, h6⟩ := wantedP_ok hw h2
      simp only [h5]
      exact ⟨h1, h6⟩
    · cases h
    · cases h
    · cases h
theorem frzU_nil {S : List AObj} {args : List AVal} {ps : List PVal} (h : mapO (peek S deep) args = some ps) : frzU S args = [] := by
  have : args.filter (unfB S) = [] := by
    rw [List.filter_eq_nil_iff]
    intro x hx hu
    obtain ⟨k, hk, rfl⟩ := List.getElem_of_mem hx
    have hp : ∃ p, peek S deep args[k] = some p := by
      have key : ∀ (xs : List AVal) (ys : List PVal), mapO (peek S deep) xs = some ys → ∀ x ∈ xs, ∃ p, peek S deep x = some p := by
        intro xs
        induction xs with
        | nil => intro ys _ x hx; cases hx
        | cons y xs ih =>
          intro ys hy x hx
          simp only [mapO] at hy
          split at hy
          · rename_i z zs e1 e2
            rcases List.mem_cons.1 hx with rfl | hx
            · exact ⟨z, e1⟩
            · exact ih zs e2 x hx
          · cases hy
      exact key _ _ h _ hx
    obtain ⟨p, hp⟩ := hp
    unfold unfB at hu
    split at hu
    · rename_i o ep sz off len hr
      split at hu
      · rename_i s e xs ho
        rw [hr] at hp
        simp only [deep, peek, ho] at hp
        cases hp
      · cases hu
    · cases hu
  unfold frzU
  rw [this]
  rfl
theorem peekCall_args {c : Cfg} {ev : Ev} {g : FuncId} {args : List AVal} {S : List AObj} {r : AVal} (h : peekCall c ev g args S = some r) : frzU S args = [] := by
  unfold peekCall at h
  split at h
  · split at h
    · rename_i ps hps
      exact frzU_nil hps
    · cases h
  · cases h
theorem drawCall_of {c : Cfg} {ev : Ev} {lo : Nat} {g : FuncId} {args : List AVal} {S : List AObj} {r : AVal} (h : peekCall c ev g args S = some r) : drawCall c ev lo g args S = some (r, []) := by
  have hm : c.mode g = 0 ∨ c.mode g = 2 := by
    unfold peekCall at h
    split at h
    · rename_i hc
      exact hc.2
    · cases h
  have hd : drawCall c ev lo g args S = drawCall0 c ev lo g args S := by
    unfold drawCall
    rcases hm with hm | hm <;> rw [hm] <;> rfl
  rw [hd]
  unfold drawCall0
  rw [peekCall_args h]
  simp only [applyEff, h, List.all_nil, if_true]
theorem drawOpP_ok {id i : Nat} {T : List AVal} {S : List AObj} {slot : Nat} {o : Oper} {x : AVal} {e : Eff} {ps : List Prop} (h : drawOpP c ev lo hs id i T S slot o = some (x, e, ps)) (hp : allOb ps) : drawOp c ev lo T S slot o = some (x, e) := by
  unfold drawOpP at h
  split at h
  · split at h
    · rename_i hx
      simp only [Option.some.injEq, Prod.mk.injEq] at h
      obtain ⟨rfl, rfl, rfl⟩ := h
      exact hx
    · cases h
  · split at h
    · rename_i f xs hcall
      split at h
      · rename_i r S2 g caps hf hq
        simp only [Option.some.injEq, Prod.mk.injEq] at h
        obtain ⟨rfl, rfl, rfl⟩ := h
        unfold drawOp
        have := hp _ (List.mem_singleton.2 rfl)
        have hm : Nat.beq (c.mode g) 3 = false := by
          unfold peekCall at this
          split at this
          · rename_i hc
            rcases hc.2 with hh | hh <;> rw [hh] <;> rfl
          · cases this
        simp only [hcall, hf, hm, cond_false, drawCall_of this]
      · rename_i r g caps hf hq
        split at h
        · rename_i hc
          split at h
          · rename_i ps hps
            simp only [Option.some.injEq, Prod.mk.injEq] at h
            obtain ⟨rfl, rfl, rfl⟩ := h
            have hpc := hp _ (List.mem_singleton.2 rfl)
            have hk : peekCall c ev g (xs.map (opd T) ++ caps) (applyEff S (frzU S (xs.map (opd T) ++ caps))) = some (up r) := by
              unfold peekCall
              rw [if_pos ⟨hc.1, .inl hc.2.1⟩]
              simp only [hps, hpc, Option.map_some]
            have hm : Nat.beq (c.mode g) 3 = false := by rw [hc.2.1]; rfl
            unfold drawOp
            simp only [hcall, hf, hm, cond_false]
            unfold drawCall
            simp only [hc.2.1]
            unfold drawCall0
            simp only [hk]
            rw [if_pos hc.2.2]
          · cases h
        · cases h
      · rename_i f2 g caps hf hq
        simp only [Option.some.injEq, Prod.mk.injEq] at h
        obtain ⟨rfl, rfl, rfl⟩ := h
        unfold drawOp
        have := hp _ (List.mem_singleton.2 rfl)
        have hm : Nat.beq (c.mode g) 3 = false := by
          unfold peekCall at this
          split at this
          · rename_i hc
            rcases hc.2 with hh | hh <;> rw [hh] <;> rfl
          · cases this
        simp only [hcall, hf, hm, cond_false, drawCall_of this]
      · rename_i ps r fS g caps hf hq
        split at h
        · rename_i hc
          simp only [Option.some.injEq, Prod.mk.injEq] at h
          obtain ⟨rfl, rfl, rfl⟩ := h
          have h2 : mapO (peek S deep) (xs.map (opd T) ++ caps) = some ps := hp _ (List.mem_cons_self ..)
          have h3 : pureCall c ev g ps = some r := hp _ (List.mem_cons_of_mem _ (List.mem_cons_self ..))
          have hk : peekCall c ev g (xs.map (opd T) ++ caps) S = some (up r) := by
            unfold peekCall
            rw [if_pos ⟨hc.1, .inl hc.2⟩]
            simp only [h2, h3, Option.map_some]
          have hm : Nat.beq (c.mode g) 3 = false := by rw [hc.2]; rfl
          unfold drawOp
          simp only [hcall, hf, hm, cond_false, drawCall_of hk]
        · cases h
      · rename_i r g caps hf hq
        split at h
        · rename_i hc
          have hm3 : c.mode g = 3 := Nat.eq_of_beq_eq_true hc.1
          split at h
          · rename_i ps hps
            split at h
            · simp only [Option.some.injEq, Prod.mk.injEq] at h
              obtain ⟨rfl, rfl, rfl⟩ := h
              have hpc := hp _ (List.mem_singleton.2 rfl)
              unfold drawOp
              simp only [hcall, hf, freshCall, hm3, hc.2, hps, hpc, and_self, if_true, List.all_nil]
              rfl
            · split at h
              · rename_i hlo
                simp only [Option.some.injEq, Prod.mk.injEq] at h
                obtain ⟨rfl, rfl, rfl⟩ := h
                have hpc := hp _ (List.mem_singleton.2 rfl)
                unfold drawOp
                simp only [hcall, hf, freshCall, hm3, hc.2, hps, hpc, and_self, if_true, List.all_cons, List.all_nil, hlo, decide_true, Bool.and_true]
                rfl
              · cases h
          · cases h
        · cases h
      · cases h
    · rename_i hcall
      split at h
      · rename_i y e' qs he
        split at h
        · rename_i hlo
          simp only [Option.some.injEq, Prod.mk.injEq] at h
          obtain ⟨rfl, rfl, rfl⟩ := h
          unfold drawOp
          simp only [hcall, evalH_ok he hp]
          rw [if_pos hlo]
        · cases h
      · cases h
theorem pass2P_ok {id : Nat} {ops : Array Oper} {pr W : List (List Nat)} {n0 : Nat} : ∀ (rest : List Oper) (i : Nat) (T : List AVal) (S : List AObj) (st : PSt) (T' : List AVal) (S' : List AObj) (st' : PSt), pass2P c ev lo hs id ops pr W n0 i rest T S st = .ok (T', S', st') → allOb st'.ob → pass2 c ev lo ops pr W n0 i rest T S = some (T', S') ∧ allOb st.ob
  | [], i, T, S, st, T', S', st', h, hp => by
    simp only [pass2P, Pth.ok.injEq, Prod.mk.injEq] at h
    obtain ⟨rfl, rfl, rfl⟩ := h
    exact ⟨rfl, hp⟩
  | o :: rest, i, T, S, st, T', S', st', h, hp => by
    simp only [pass2P] at h
    simp only [pass2, putK_eq]
    split at h
    · rename_i T1 st1 hw
      split at h
      · rename_i x e ps hx
        split at h
        · rename_i hf
          obtain ⟨h1, h2⟩ := pass2P_ok rest _ _ _ _ _ _ _ h hp
          obtain ⟨h3, h4⟩ := allOb_append h2
          obtain ⟨rfl, h5, h6⟩ := wantedP_ok hw h4
          simp only [h5, drawOpP_ok hx h3]
          rw [if_pos hf]
          exact ⟨h1, h6⟩
        · cases h
      · cases h
    · rename_i T1 st1 hw
      obtain ⟨h1, h2⟩ := pass2P_ok rest _ _ _ _ _ _ _ h hp
      obtain ⟨rfl, h5, h6⟩ := wantedP_ok hw h2
      simp only [h5]
      exact ⟨h1, h6⟩
    · cases h
    · cases h
    · cases h
theorem drawP_ok {id : Nat} {ops : Array Oper} {T : List AVal} {S : List AObj} {st : PSt} {T' : List AVal} {S' : List AObj} {st' : PSt} (h : drawP c ev lo hs id ops T S st = .ok (T', S', st')) (hp : allOb st'.ob) : runDraw c ev lo ops T S = some (T', S') ∧ allOb st.ob := by
  unfold drawP at h
  unfold runDraw
  dsimp only at h ⊢
  split at h
  · rename_i hok
    rw [if_pos hok]
    generalize pass1 c ev lo S.length 0 ops.toList T (S ++ List.replicate ops.size .free) = q at h ⊢
    obtain ⟨S1, W⟩ := q
    exact pass2P_ok _ _ _ _ _ _ _ _ h hp
  · cases h
theorem evalP_ok : ∀ (code : Code) (T : List AVal) (S : List AObj) (st : PSt) (x : AExit) (T' : List AVal) (S' : List AObj) (st' : PSt), evalP c ev lv lo base n hs code T S st = .ok (x, T', S', st') → allOb st'.ob → evalC c ev lv lo base n code T S = some (x, T', S') ∧ allOb st.ob := by
  intro code
  induction code with
  | skip | label | exit | ret =>
    intro T S st x T' S' st' h hp
    simp only [evalP, Pth.ok.injEq, Prod.mk.injEq] at h
    obtain ⟨rfl, rfl, rfl, rfl⟩ := h
    exact ⟨rfl, hp⟩
  | region id ops draw =>
    intro T S st x T' S' st' h hp
    cases draw with
    | false =>
      simp only [evalP] at h
      split at h
      · rename_i T1 S1 st1 h1
        simp only [Pth.ok.injEq, Prod.mk.injEq] at h
        obtain ⟨rfl, rfl, rfl, rfl⟩ := h
        obtain ⟨h2, h3⟩ := opsP_ok _ _ _ _ _ _ _ _ h1 hp
        exact ⟨by simp only [evalC, h2, Option.map_some], h3⟩
      · cases h
      · cases h
      · cases h
    | true =>
      simp only [evalP] at h
      split at h
      · rename_i T1 S1 st1 h1
        simp only [Pth.ok.injEq, Prod.mk.injEq] at h
        obtain ⟨rfl, rfl, rfl, rfl⟩ := h
        obtain ⟨h2, h3⟩ := drawP_ok h1 hp
        exact ⟨by simp only [evalC, h2, Option.map_some], h3⟩
      · cases h
      · cases h
      · cases h
  | seq p q ihp ihq =>
    intro T S st x T' S' st' h hp
    simp only [evalP] at h
    split at h
    · rename_i T1 S1 st1 h1
      obtain ⟨h2, h3⟩ := ihq _ _ _ _ _ _ _ h hp
      obtain ⟨h4, h5⟩ := ihp _ _ _ _ _ _ _ h1 h3
      exact ⟨by simp only [evalC, h4, h2], h5⟩
    · rename_i hne
      obtain ⟨h4, h5⟩ := ihp _ _ _ _ _ _ _ h hp
      refine ⟨?_, h5⟩
      cases x with
      | normal => exact (hne _ _ _ h).elim
      | exit j => simp only [evalC, h4]
      | ret => simp only [evalC, h4]
  | cond y p q ihp ihq =>
    intro T S st x T' S' st' h hp
    simp only [evalP] at h
    split at h
    · rename_i T1 st1 hk
      split at h
      · rename_i ht
        obtain ⟨h1, h2⟩ := ihp _ _ _ _ _ _ _ h hp
        obtain ⟨rfl, h3⟩ := knowX_ok hk h2
        exact ⟨by simp only [evalC, ht, if_true, h1], h3⟩
      · rename_i ht
        obtain ⟨h1, h2⟩ := ihq _ _ _ _ _ _ _ h hp
        obtain ⟨rfl, h3⟩ := knowX_ok hk h2
        exact ⟨by simp only [evalC, ht, Bool.false_eq_true, if_false, h1], h3⟩
      · cases h
    · cases h
    · cases h
    · cases h
  | block id p ih =>
    intro T S st x T' S' st' h hp
    simp only [evalP] at h
    split at h
    · rename_i j T1 S1 st1 h1
      simp only [Pth.ok.injEq, Prod.mk.injEq] at h
      obtain ⟨rfl, rfl, rfl, rfl⟩ := h
      obtain ⟨h4, h5⟩ := ih _ _ _ _ _ _ _ h1 hp
      refine ⟨?_, h5⟩
      simp only [evalC, h4]
      by_cases hj : j = id
      · subst hj; simp
      · have : Nat.beq j id = false := by
          cases hb : Nat.beq j id with
          | false => rfl
          | true => exact absurd (Nat.eq_of_beq_eq_true hb) hj
        simp [hj, this]
    · rename_i hne
      obtain ⟨h4, h5⟩ := ih _ _ _ _ _ _ _ h hp
      refine ⟨?_, h5⟩
      cases x with
      | exit j => exact (hne _ _ _ _ h).elim
      | normal => simp only [evalC, h4]
      | ret => simp only [evalC, h4]
  | loop p ih =>
    intro T S st x T' S' st' h hp
    simp only [evalP] at h
    split at h
    · simp only [Pth.ok.injEq, Prod.mk.injEq] at h
      obtain ⟨rfl, rfl, rfl, rfl⟩ := h
      refine ⟨?_, fun p hp' => hp p (by simp [hp'])⟩
      simp only [evalC]
      exact hp _ (by simp)
    · cases h
  | scope p ih =>
    intro T S st x T' S' st' h hp
    simp only [evalP] at h
    obtain ⟨h4, h5⟩ := ih _ _ _ _ _ _ _ h hp
    exact ⟨by simp only [evalC, h4], h5⟩
  | _ => intro T S st x T' S' st' h hp; simp [evalP] at h
end
end
end Go.Proofs.YtkkgimhbliocoaaGreat.Vm
/- What is known of functions, one upon the other: a function whose answers are told in plain terms is called by them. -/
namespace Go.Proofs.YtkkgimhbliocoaaGreat.Vm
open Go Go.RowKit
noncomputable section
set_option linter.unusedVariables false
set_option linter.unusedSimpArgs false
set_option linter.unnecessarySimpa false

theorem callsP_of {c : Cfg} {ev : Ev} (he : EvOk c ev) {f : FuncId} {ps : List PVal} {r0 : AVal} {S : List AObj} {r : PVal} (hev : ev 0 f (upL ps) [] = some (r0, S)) (h : peek (mark 0 deep S r0) deep r0 = some r) : CallsP c.P f ps r := by
  intro ok w vs hin hs hr
  let C : Ctx := ⟨fun _ => ⟨0, 0, 0⟩, [], ok, w⟩
  have hS : St C := ⟨fun o x hx => by simp [C] at hx, fun o o' x x' e e' hx => by simp [C] at hx, hin, fun b j hb o x e hx => by simp [C] at hx⟩
  refine (he.calls _ _ _ _ _ _ hev C vs rfl hS (by simp [hs]) ((Rvs_up ps _ 0).2 hr)).mono ?_
  rintro e w' ⟨v, C', rfl, rfl, hCS, hS', hE, hrv⟩
  obtain ⟨C2, hm, hm2⟩ := mark_ok 0 deep r0 C' hS'
  have hrv2 := Rv_mono hm.ext.grows _ _ hrv
  have hE2 := hE.trans hm.ext
  have hp := peek_ok hm.st deep r0 r v (by rw [hm2, hCS]; exact h) hrv2
  refine ⟨v, C2.ok, rfl, ?_, fun b j hb => ?_, fun b j hb => ?_, fun b j hb => ?_, ?_⟩
  · rw [← hm.w]; exact hE2.below rfl
  · exact hE2.ok b j hb
  · rcases hE2.okNew b j hb with h1 | h1 | ⟨o, x, e, h1, _⟩
    · exact .inl h1
    · exact .inr h1
    · simp [C] at h1
  · rw [← hm.w]; exact hm.st.okIn b j hb
  · rw [← hm.w]; exact hp

/-- A function from its entry to its end, along one path; 'out': what its result is, if it can't be seen. -/
def funP (c : Cfg) (ev : Ev) (k : Nat) (hs : Hints) (f : FuncId) (lo : Nat) (args : List AVal) (S : List AObj) (bs : List Bool) (ls : List (AExit × List AVal × List AObj)) : Pth (AVal × List AObj × List Prop) :=
  match c.tab f with
  | some a => match evalP c ev a.live lo S.length k hs a.body (args ++ List.replicate (a.ntmps - args.length) (.v undef)) S ⟨bs, ls, [], []⟩ with
    | .ok (.exit j, _, _, _) => .bad 1001 j
    | .ok (_, T, S', st) => match resultsA c.P a.results T S' with
      | some r => .ok (r, S', st.ob)
      | none => .bad 1002 0
    | .more ob => .more ob
    | .loop T S => .loop T S
    | .bad id i => .bad id i
  | none => .bad 1003 f
theorem funP_ok {c : Cfg} {k : Nat} {hs : Hints} {f : FuncId} {lo : Nat} {args : List AVal} {S : List AObj} {bs : List Bool} {ls : List (AExit × List AVal × List AObj)} {r : AVal} {S' : List AObj} {ob : List Prop}
    (h : funP c (evalF c k) k hs f lo args S bs ls = .ok (r, S', ob)) (hp : allOb ob) : evalF c (k + 1) lo f args S = some (r, S') := by
  unfold funP at h
  simp only [evalF]
  split at h
  · rename_i a ha
    simp only [ha]
    split at h
    · cases h
    · rename_i x T S1 st hne h1
      split at h
      · rename_i r' hr
        simp only [Pth.ok.injEq, Prod.mk.injEq] at h
        obtain ⟨rfl, rfl, rfl⟩ := h
        obtain ⟨h2, _⟩ := evalP_ok _ _ _ _ _ _ _ _ h1 hp
        rw [h2]
        cases x with
        | exit j => exact (hne j rfl).elim
        | normal => simp only [hr, Option.map_some]
        | ret => simp only [hr, Option.map_some]
      · cases h
    · cases h
    · cases h
    · cases h
  · cases h
def callP (c : Cfg) (ev : Ev) (k : Nat) (hs : Hints) (f : FuncId) (ps : List PVal) (bs : List Bool) (ls : List (AExit × List AVal × List AObj)) (out : Option PVal) : Pth (PVal × List Prop) :=
  match funP c ev k hs f 0 (upL ps) [] bs ls with
  | .ok (r, S, ob) => match out with
    | some p => .ok (p, (peek (mark 0 deep S r) deep r = some p) :: ob)
    | none => match peek (mark 0 deep S r) deep r with
      | some p => .ok (p, ob)
      | none => .bad 1004 0
  | .more ob => .more ob
  | .loop T S => .loop T S
  | .bad id i => .bad id i
theorem callP_ok {c : Cfg} (hc : CfgOk c) {k : Nat} {hs : Hints} {f : FuncId} {ps : List PVal} {bs : List Bool} {ls : List (AExit × List AVal × List AObj)} {out : Option PVal} {r : PVal} {ob : List Prop}
    (h : callP c (evalF c k) k hs f ps bs ls out = .ok (r, ob)) (hp : allOb ob) : CallsP c.P f ps r := by
  unfold callP at h
  split at h
  · rename_i r0 S ob0 h0
    split at h
    · simp only [Pth.ok.injEq, Prod.mk.injEq] at h
      obtain ⟨rfl, rfl⟩ := h
      exact callsP_of (evalF_ok hc (k + 1)) (funP_ok h0 fun p hq => hp p (by simp [hq])) (hp _ (by simp))
    · split at h
      · rename_i p hpk
        simp only [Pth.ok.injEq, Prod.mk.injEq] at h
        obtain ⟨rfl, rfl⟩ := h
        exact callsP_of (evalF_ok hc (k + 1)) (funP_ok h0 hp) hpk
      · cases h
  · cases h
  · cases h
  · cases h

/-- A piece of code along one path. -/
def pathP (c : Cfg) (ev : Ev) (lv : List Nat) (lo base n : Nat) (hs : Hints) (code : Code) (T : List AVal) (S : List AObj) (bs : List Bool) (ls : List (AExit × List AVal × List AObj)) : Pth (AExit × List AVal × List AObj × List Prop) :=
  match evalP c ev lv lo base n hs code T S ⟨bs, ls, [], []⟩ with
  | .ok (x, T, S, st) => .ok (x, T, S, st.ob)
  | .more ob => .more ob
  | .loop T S => .loop T S
  | .bad id i => .bad id i
theorem pathP_ok {c : Cfg} {ev : Ev} {lv : List Nat} {lo base n : Nat} {hs : Hints} {code : Code} {T : List AVal} {S : List AObj} {bs : List Bool} {ls : List (AExit × List AVal × List AObj)} {x : AExit} {T' : List AVal} {S' : List AObj} {ob : List Prop}
    (h : pathP c ev lv lo base n hs code T S bs ls = .ok (x, T', S', ob)) (hp : allOb ob) : evalC c ev lv lo base n code T S = some (x, T', S') := by
  unfold pathP at h
  split at h
  · rename_i h1
    simp only [Pth.ok.injEq, Prod.mk.injEq] at h
    obtain ⟨rfl, rfl, rfl, rfl⟩ := h
    exact (evalP_ok _ _ _ _ _ _ _ _ h1 hp).1
  · cases h
  · cases h
  · cases h
theorem canon_eq {base : Nat} {T : List AVal} {S : List AObj} {r : List AVal × List AObj} (hp : S.all plainO = true) (h : canonTS base T S = some r) : canon base T S = some r := by
  unfold canon
  rw [hp]
  unfold canonTS at h
  rw [show (fun _ : Nat => !true) = fun _ => false from rfl, h]
theorem iterC_round {base : Nat} {body : List AVal → List AObj → Res} {n : Nat} {T T1 T2 : List AVal} {S S1 S2 : List AObj} (hc : canon base T S = some (T1, S1)) (hb : body T1 S1 = some (.normal, T2, S2)) : iterC base body (n + 1) T S = iterC base body n T2 S2 := by
  simp only [iterC, hc, hb]
theorem iterC_leave {base : Nat} {body : List AVal → List AObj → Res} {n : Nat} {T T1 T2 T3 : List AVal} {S S1 S2 S3 : List AObj} {x : AExit} (hc : canon base T S = some (T1, S1)) (hb : body T1 S1 = some (x, T2, S2)) (hx : x ≠ .normal) (hc2 : canon base T2 S2 = some (T3, S3)) :
    iterC base body (n + 1) T S = some (x, T3, S3) := by
  simp only [iterC, hc, hb]
  cases x with
  | normal => exact absurd rfl hx
  | exit j => simp only [hc2, Option.map_some]
  | ret => simp only [hc2, Option.map_some]
/-- What is known of a program's functions. -/
structure Lib (P : Program) where
  given : FuncId → Option (List PVal → Option PVal)
  ok : ∀ f g, given f = some g → Enters P f ∧ ∀ ps r, g ps = some r → CallsP P f ps r
def Lib.none (P : Program) : Lib P := ⟨fun _ => .none, fun _ _ h => by cases h⟩
def Lib.add {P : Program} (L : Lib P) (f : FuncId) (g : List PVal → Option PVal) (he : Enters P f) (h : ∀ ps r, g ps = some r → CallsP P f ps r) : Lib P :=
  ⟨fun x => bif Nat.beq x f then some g else L.given x, fun x g' hx => by
    cases hb : Nat.beq x f with
    | true =>
      rw [hb] at hx
      simp only [cond_true, Option.some.injEq] at hx
      rw [Nat.eq_of_beq_eq_true hb, ← hx]
      exact ⟨he, h⟩
    | false => rw [hb] at hx; exact L.ok x g' hx⟩
/-- The functions' code, if their names are no name that the model takes for another thing. -/
def tabOf (P : Program) (lives : List (FuncId × List Nat)) (f : FuncId) : Option FnA :=
  match P.funcs[f]? with
  | some fn => match fn.body with
    | some b => some ⟨fn.ntmps, fn.results, b, (lives.lookup f).getD []⟩
    | none => none
  | none => none
def named (P : Program) : Bool := P.funcs.all fun fn => !(fn.name == "runtime.NumGoroutine")
theorem tabOf_ok {P : Program} (hn : named P = true) {lives : List (FuncId × List Nat)} {f : FuncId} {a : FnA} (h : tabOf P lives f = some a) {c : Cfg} (hP : c.P = P) : TabOk c f a := by
  unfold tabOf at h
  split at h
  · rename_i fn hfn
    split at h
    · rename_i b hb
      simp only [Option.some.injEq] at h
      subst h
      have := Array.all_eq_true_iff_forall_mem.1 hn fn (Array.mem_of_getElem? hfn)
      exact ⟨fn, by rw [hP]; exact hfn, by simpa using this, hb, rfl, rfl⟩
    · cases h
  · cases h
theorem enters_of {P : Program} (hn : named P = true) {f : FuncId} {fn : Func} (hf : P.funcs[f]? = some fn) (hb : fn.body.isNone = false) : Enters P f := by
  have := Array.all_eq_true_iff_forall_mem.1 hn fn (Array.mem_of_getElem? hf)
  exact ⟨fn, hf, by simpa using this, hb⟩
/-- Loops of code, the outer ones first. -/
def loopsOf : Code → List Code
  | .seq a b => loopsOf a ++ loopsOf b
  | .cond _ a b => loopsOf a ++ loopsOf b
  | .block _ a => loopsOf a
  | .scope a => loopsOf a
  | .loop a => a :: loopsOf a
  | _ => []
def loopAt (fn : Func) (j : Nat) : Code := match fn.body with
  | some b => (loopsOf b).getD j .skip
  | none => .skip
end
end Go.Proofs.YtkkgimhbliocoaaGreat.Vm
/- Rounds of loops: each put in order behind itself. -/
namespace Go.Proofs.YtkkgimhbliocoaaGreat.Vm
open Go Go.RowKit
noncomputable section
set_option linter.unusedVariables false
def roundC (base : Nat) (body : List AVal → List AObj → Res) (T : List AVal) (S : List AObj) : Res :=
  match body T S with
  | some (x, T', S') => (canon base T' S').map fun r => (x, r.1, r.2)
  | none => none
/-- From this state on the loop comes to r. -/
def At (base : Nat) (body : List AVal → List AObj → Res) (n : Nat) (T1 : List AVal) (S1 : List AObj) (r : Res) : Prop :=
  ∀ T S, canon base T S = some (T1, S1) → iterC base body n T S = r
theorem At.step {base : Nat} {body : List AVal → List AObj → Res} {n : Nat} {T1 T2 : List AVal} {S1 S2 : List AObj} {r : Res} (h : roundC base body T1 S1 = some (.normal, T2, S2)) (k : At base body n T2 S2 r) : At base body (n + 1) T1 S1 r := by
  intro T S hc
  unfold roundC at h
  split at h
  · rename_i x T' S' hb
    simp only [Option.map_eq_some_iff, Prod.mk.injEq] at h
    obtain ⟨⟨T3, S3⟩, h1, rfl, rfl, rfl⟩ := h
    rw [iterC_round hc hb]
    exact k _ _ h1
  · cases h
theorem At.leave {base : Nat} {body : List AVal → List AObj → Res} {n : Nat} {T1 T2 : List AVal} {S1 S2 : List AObj} {x : AExit} (h : roundC base body T1 S1 = some (x, T2, S2)) (hx : x ≠ .normal) : At base body (n + 1) T1 S1 (some (x, T2, S2)) := by
  intro T S hc
  unfold roundC at h
  split at h
  · rename_i x' T' S' hb
    simp only [Option.map_eq_some_iff, Prod.mk.injEq] at h
    obtain ⟨⟨T3, S3⟩, h1, rfl, rfl, rfl⟩ := h
    exact iterC_leave hc hb hx h1
  · cases h
theorem At.use {base : Nat} {body : List AVal → List AObj → Res} {n : Nat} {T1 : List AVal} {S1 : List AObj} {r : Res} (h : At base body n T1 S1 r) {T : List AVal} {S : List AObj} (hp : S.all plainO = true) (hc : canonTS base T S = some (T1, S1)) : iterC base body n T S = r :=
  h T S (canon_eq hp hc)
def Plain (S : List AObj) : Prop := S.all plainO = true
def roundP (c : Cfg) (ev : Ev) (lv : List Nat) (lo base n : Nat) (hs : Hints) (code : Code) (T : List AVal) (S : List AObj) (bs : List Bool) (ls : List (AExit × List AVal × List AObj)) : Pth (AExit × List AVal × List AObj × List Prop) :=
  match pathP c ev lv lo base n hs code T S bs ls with
  | .ok (x, T, S, ob) => match canonTS base T S with
    | some (T', S') => .ok (x, T', S', Plain S :: ob)
    | none => .bad 3000 0
  | .more ob => .more ob
  | .loop T S => .loop T S
  | .bad id i => .bad id i
theorem roundP_ok {c : Cfg} {ev : Ev} {lv : List Nat} {lo base n : Nat} {hs : Hints} {code : Code} {T : List AVal} {S : List AObj} {bs : List Bool} {ls : List (AExit × List AVal × List AObj)} {x : AExit} {T' : List AVal} {S' : List AObj} {ob : List Prop}
    (h : roundP c ev lv lo base n hs code T S bs ls = .ok (x, T', S', ob)) (hp : allOb ob) : roundC base (evalC c ev lv lo base n code) T S = some (x, T', S') := by
  unfold roundP at h
  split at h
  · rename_i x1 T1 S1 ob1 h1
    split at h
    · rename_i T2 S2 h2
      simp only [Pth.ok.injEq, Prod.mk.injEq] at h
      obtain ⟨rfl, rfl, rfl, rfl⟩ := h
      unfold roundC
      rw [pathP_ok h1 fun p hq => hp p (by simp [hq])]
      simp only
      rw [canon_eq (hp (Plain S1) (List.mem_cons_self ..)) h2]
      rfl
    · cases h
  · cases h
  · cases h
  · cases h
end
end Go.Proofs.YtkkgimhbliocoaaGreat.Vm
