/- Operations in a row, code, and functions of the abstract machine are the model's (regions that draw their order: the next text but one). -/
import Derived.Test.YtmopbegmdegooaaVmCall
namespace Go.Proofs.Ytmopbegmdegooaa.Vm
open Go Go.RowKit
set_option linter.unusedVariables false
set_option linter.unusedSimpArgs false
set_option linter.unnecessarySimpa false

theorem Stays.refl (lo : Nat) (S : List AObj) : Stays lo S S := ⟨Nat.le_refl _, fun _ _ _ => rfl⟩
theorem Stays.trans {lo : Nat} {A B D : List AObj} (h : Stays lo A B) (k : Stays lo B D) : Stays lo A D :=
  ⟨Nat.le_trans h.1 k.1, fun q hq hl => (k.2 q hq (Nat.lt_of_lt_of_le hl h.1)).trans (h.2 q hq hl)⟩
theorem Stays.set {lo : Nat} (S : List AObj) {q : Nat} (h : lo ≤ q) (x : AObj) : Stays lo S (setObj S q x) := by
  unfold setObj
  split
  · refine ⟨by simp, fun p hp hl => ?_⟩
    rw [List.getElem?_set, if_neg (by omega)]
  · refine ⟨by simp, fun p hp hl => ?_⟩
    rw [List.getElem?_append_left hl]
theorem Stays.eff {lo : Nat} : ∀ (e : Eff) (S : List AObj), (e.all fun p => decide (lo ≤ p.1)) = true → Stays lo S (applyEff S e)
  | [], S, _ => Stays.refl lo S
  | (q, x) :: e, S, h => by
    simp only [List.all_cons, Bool.and_eq_true, decide_eq_true_eq] at h
    exact (Stays.set S h.1 x).trans (Stays.eff e _ h.2)
theorem mark_stays (lo : Nat) : ∀ (n : Nat) (x : AVal) (S : List AObj), (mark lo n S x).length = S.length ∧ ∀ q, q < lo → (mark lo n S x)[q]? = S[q]? := by
  have fold : ∀ n, (∀ (x : AVal) (S : List AObj), (mark lo n S x).length = S.length ∧ ∀ q, q < lo → (mark lo n S x)[q]? = S[q]?) →
      ∀ (xs : List AVal) (S : List AObj), (xs.foldl (mark lo n) S).length = S.length ∧ ∀ q, q < lo → (xs.foldl (mark lo n) S)[q]? = S[q]? := by
    intro n ih xs
    induction xs with
    | nil => intro S; exact ⟨rfl, fun _ _ => rfl⟩
    | cons x xs ihx =>
      intro S
      obtain ⟨h1, h2⟩ := ihx (mark lo n S x)
      obtain ⟨k1, k2⟩ := ih x S
      exact ⟨h1.trans k1, fun q hq => (h2 q hq).trans (k2 q hq)⟩
  intro n
  induction n with
  | zero => intro x S; exact ⟨rfl, fun _ _ => rfl⟩
  | succ n ih =>
    intro x S
    cases x with
    | agg xs => simpa only [mark] using fold n ih xs S
    | tup xs => simpa only [mark] using fold n ih xs S
    | fn f xs => simpa only [mark] using fold n ih xs S
    | row o ep sz off len =>
      simp only [mark]
      split
      · split
        · rename_i hlo
          obtain ⟨h1, h2⟩ := fold n ih _ (S.set o _)
          refine ⟨by rw [h1]; simp, fun q hq => ?_⟩
          rw [h2 q hq, List.getElem?_set, if_neg (by omega)]
        · exact ⟨rfl, fun _ _ => rfl⟩
      · exact ⟨rfl, fun _ _ => rfl⟩
    | _ => exact ⟨rfl, fun _ _ => rfl⟩
theorem marks_stays (lo n : Nat) : ∀ (xs : List AVal) (S : List AObj), (xs.foldl (mark lo n) S).length = S.length ∧ ∀ q, q < lo → (xs.foldl (mark lo n) S)[q]? = S[q]?
  | [], S => ⟨rfl, fun _ _ => rfl⟩
  | x :: xs, S => by
    obtain ⟨h1, h2⟩ := marks_stays lo n xs (mark lo n S x)
    obtain ⟨k1, k2⟩ := mark_stays lo n x S
    exact ⟨h1.trans k1, fun q hq => (h2 q hq).trans (k2 q hq)⟩

/-- A call by values, among objects that stand. -/
theorem byValue {P : Program} {f : FuncId} {ps : List PVal} {r : PVal} (h : CallsP P f ps r) {C : Ctx} (hS : St C) {vs : Array Value} (hs : vs.size = ps.length) (hr : Rps (sees C.ok C.w) ps (fun i y => vs[i]? = some y) 0) :
    Calls P f vs C.w fun e w' => ∃ v C', e = .returned v ∧ C'.w = w' ∧ C'.S = C.S ∧ St C' ∧ Ext C C' ∧ Rv C' (up r) v ∧ C'.ρ = C.ρ := by
  refine (h C.ok C.w vs hS.okIn hs hr).mono ?_
  rintro e w' ⟨v, ok', rfl, hb, h1, h2, h3, h4⟩
  have g : Grows C ⟨C.ρ, C.S, ok', w'⟩ := ⟨fun a x ⟨hx1, hx2⟩ => ⟨h1 _ _ hx1, (hb.cell (hS.okIn _ _ hx1)).trans hx2⟩, fun o x e hx he => ⟨x, e, hx, he, .inl ⟨rfl, rfl⟩⟩⟩
  refine ⟨v, ⟨C.ρ, C.S, ok', w'⟩, rfl, rfl, rfl, ⟨fun o x hx => ?_, hS.inj, h3, fun b j hj o x e hx he hbo => ?_⟩, ⟨g, hb.os, hb.tape, hb.output, hb.size, h1, fun b hb' _ => hb.block b hb', fun b j hj => ?_, fun o x e hx he => .inr ⟨o, x, e, hx, he, rfl⟩⟩, (Rv_up _ _).2 h4, rfl⟩
  · exact (hS.obj o x hx).keep g h1 rfl fun e he => hb.block _ ((hS.obj o x hx).lt he)
  · rcases h2 b j hj with h5 | h5
    · exact hS.okRow b j h5 o x e hx he hbo
    · have := (hS.obj o x hx).lt he
      simp only at hbo; omega
  · rcases h2 b j hj with h5 | h5
    · exact .inl h5
    · exact .inr (.inl h5)
theorem callA_ok {c : Cfg} {ev : Ev} (hc : CfgOk c) (he : EvOk c ev) {lo : Nat} {f : FuncId} {args : List AVal} {S S' : List AObj} {r : AVal} (h : callA c ev lo f args S = some (r, S')) :
    Enters c.P f ∧ CallsA c.P f args S r S' ∧ Stays lo S S' := by
  unfold callA at h
  split at h
  · rename_i g hg
    obtain ⟨h1, h2⟩ := hc.givenS f g hg
    obtain ⟨h3, h4⟩ := h2 _ _ _ _ _ h
    exact ⟨h1, h3, h4⟩
  · split at h
    · split at h
      · rename_i ps hps
        simp only [Option.map_eq_some_iff, Prod.mk.injEq] at h
        obtain ⟨r', h1, rfl, rfl⟩ := h
        obtain ⟨k1, k2⟩ := pureCall_ok hc he h1
        obtain ⟨m1, m2⟩ := marks_stays lo deep args S
        refine ⟨k1, fun C vs hCS hS hs hr => ?_, ⟨by rw [m1]; exact Nat.le_refl _, fun q hq _ => m2 q hq⟩⟩
        subst hCS
        obtain ⟨C1, hm, hm2⟩ := marks_ok lo deep args C hS
        have hr1 := Rvs_mono hm.ext.grows _ _ _ _ (fun _ _ h => h) hr
        have hps' : mapO (peek C1.S deep) args = some ps := by rw [hm2]; exact hps
        have hp := peeks_ok hm.st args ps _ 0 hps' hr1
        have := byValue k2 hm.st (vs := vs) (by rw [hs, (mapO_get hps).1]) hp
        rw [hm.w] at this
        refine this.mono ?_
        rintro e w' ⟨v, C', rfl, rfl, h5, h6, h7, h8, _⟩
        exact ⟨v, C', rfl, rfl, h5.trans hm2, h6, hm.ext.trans h7, h8⟩
      · cases h
    · split at h
      · rename_i r0 S2 hev
        simp only [Option.map_eq_some_iff, Prod.mk.injEq] at h
        obtain ⟨r', h1, rfl, rfl⟩ := h
        refine ⟨he.enters _ _ _ _ _ _ hev, fun C vs hCS hS hs hr => ?_, Stays.refl _ _⟩
        subst hCS
        refine (he.calls _ _ _ _ _ _ hev C vs rfl hS hs hr).mono ?_
        rintro e w' ⟨v, C2, rfl, rfl, h2, h3, h4, h5⟩
        obtain ⟨C3, hm, hm2⟩ := mark_ok C.S.length deep r0 C2 h3
        have hst := he.stays _ _ _ _ _ _ hev
        have hpre : ∀ (o : Nat) (x : AObj), C.S[o]? = some x → C3.S[o]? = some x := by
          intro o x hx
          have hlt := (List.getElem?_eq_some_iff.1 hx).1
          rw [hm.keep o hlt, h2, hst.2 o hlt hlt]; exact hx
        obtain ⟨k1, k2⟩ := shrink hS hm.st (h4.trans hm.ext) hpre
        have hp := peek_ok hm.st deep r0 r' v (by rw [hm2, h2]; exact h1) (Rv_mono hm.ext.grows _ _ h5)
        exact ⟨v, ⟨C3.ρ, C.S, C3.ok, C3.w⟩, rfl, hm.w, rfl, k1, k2, (Rv_up _ _).2 hp⟩
      · cases h
    · exact ⟨he.enters _ _ _ _ _ _ h, he.calls _ _ _ _ _ _ h, he.stays _ _ _ _ _ _ h⟩
theorem peekCall_ok {c : Cfg} {ev : Ev} (hc : CfgOk c) (he : EvOk c ev) {f : FuncId} {args : List AVal} {S : List AObj} {r : AVal} (h : peekCall c ev f args S = some r) :
    Enters c.P f ∧ ∀ (C : Ctx) (vs : Array Value), Less S C.S → St C → vs.size = args.length → Rvs C args (fun i y => vs[i]? = some y) 0 →
      Calls c.P f vs C.w fun e w' => ∃ v C', e = .returned v ∧ C'.w = w' ∧ C'.S = C.S ∧ St C' ∧ Ext C C' ∧ Rv C' r v := by
  unfold peekCall at h
  split at h
  · split at h
    · rename_i ps hps
      simp only [Option.map_eq_some_iff] at h
      obtain ⟨r', h1, rfl⟩ := h
      obtain ⟨k1, k2⟩ := pureCall_ok hc he h1
      refine ⟨k1, fun C vs hL hS hs hr => ?_⟩
      have hps' : mapO (peek C.S deep) args = some ps := by
        have : ∀ (xs : List AVal) (ys : List PVal), mapO (peek S deep) xs = some ys → mapO (peek C.S deep) xs = some ys := by
          intro xs
          induction xs with
          | nil => intro ys hy; simpa [mapO] using hy
          | cons x xs ih =>
            intro ys hy
            simp only [mapO] at hy ⊢
            split at hy
            · rename_i y zs e1 e2
              rw [peek_less hL _ _ _ e1, ih _ e2]; exact hy
            · cases hy
        exact this _ _ hps
      have hp := peeks_ok hS args ps _ 0 hps' hr
      refine (byValue k2 hS (vs := vs) (by rw [hs, (mapO_get hps).1]) hp).mono ?_
      rintro e w' ⟨v, C', h2, h3, h4, h5, h6, h7, _⟩
      exact ⟨v, C', h2, h3, h4, h5, h6, h7⟩
    · cases h
  · cases h

/-! ## operations -/
theorem isCall_some {o : Oper} {f : Operand} {xs : List Operand} (h : isCall o = some (f, xs)) : ∃ args ts, o.op = .call { callee := .value f, args, argTypes := ts } ∧ xs = args.toList := by
  unfold isCall at h
  split at h
  · rename_i g args ts ho
    simp only [Option.some.injEq, Prod.mk.injEq] at h
    obtain ⟨rfl, rfl⟩ := h
    exact ⟨args, ts, ho, rfl⟩
  · cases h
theorem exec_call {P : Program} {o : Oper} {a : Act} {f : Operand} {args : Array Operand} {ts : Array TypeId} {g : FuncId} {cs : Array Value} (ho : o.op = .call { callee := .value f, args, argTypes := ts })
    (hf : a.eval f = .func (.func g) #[] cs) (hg : Enters P g) (w : World) : (execOp a.eval o).run P w = .ok (.enter g (args.map a.eval ++ cs)) w := by
  obtain ⟨fn, h1, h2, h3⟩ := hg
  have h2' : ¬ fn.name = "runtime.NumGoroutine" := by simpa using h2
  have h3' : ¬ fn.body = none := fun h => by simp [h] at h3
  simp [execOp, ho, resolve, hf, Deferred.ofValue, invoke, callFunc, h1, h2', h3']
theorem args_rel {C : Ctx} {T : List AVal} {a : Act} (hT : RT C T a.tmps) (args : Array Operand) {caps : List AVal} {cs : Array Value} (hs : cs.size = caps.length) (hr : Rvs C caps (fun i y => cs[i]? = some y) 0) :
    (args.map a.eval ++ cs).size = (args.toList.map (opd T) ++ caps).length ∧ Rvs C (args.toList.map (opd T) ++ caps) (fun i y => (args.map a.eval ++ cs)[i]? = some y) 0 := by
  refine ⟨by simp [hs], Rvs_append (Rvs_mono (Grows.refl C) _ _ _ _ (fun i y hy => ?_) (opds_rel hT args.toList)) (Rvs_mono (Grows.refl C) _ _ _ _ (fun i y hy => ?_) hr)⟩
  · have hlt : i < args.size := by
      have := (List.getElem?_eq_some_iff.1 hy).1
      simpa using this
    rw [Array.getElem?_append_left (by simpa using hlt), ← Array.getElem?_toList, Array.toList_map]
    exact hy
  · rw [Array.getElem?_append_right (by simp)]
    simpa using hy
/-- What stands behind an operation. -/
def After (C : Ctx) (x : AVal) (S' : List AObj) (K : Value → World → Prop) : Prop := ∀ u C', C'.S = S' → St C' → Ext C C' → Rv C' x u → K u C'.w
theorem stepOp_ok {c : Cfg} {ev : Ev} (hc : CfgOk c) (he : EvOk c ev) {lo slot : Nat} {o : Oper} {a : Act} {C : Ctx} {T : List AVal} {x : AVal} {S' : List AObj} {K : Act → World → Prop} {Q : Exit → Act → World → Prop}
    (hS : St C) (hT : RT C T a.tmps) (hslot : slot = C.S.length ∨ C.S[slot]? = some .free) (h : stepOp c ev lo T C.S slot o = some (x, S')) (hK : After C x S' fun u w => K (a.put o.dst u) w) :
    o.wp c.P a C.w K Q ∧ Stays lo C.S S' := by
  unfold stepOp at h
  split at h
  · rename_i f xs hcall
    obtain ⟨args, ts, ho, rfl⟩ := isCall_some hcall
    split at h
    · rename_i g caps hf
      obtain ⟨h1, h2, h3⟩ := callA_ok hc he h
      have hrf := opd_rel hT f
      rw [hf] at hrf
      simp only [Rv] at hrf
      obtain ⟨cs, hv, hcs, hcr⟩ := hrf
      obtain ⟨k1, k2⟩ := args_rel hT args hcs hcr
      refine ⟨?_, h3⟩
      unfold Oper.wp
      rw [exec_call ho hv h1, Oper.upon_enter]
      refine (h2 C _ rfl hS k1 k2).mono ?_
      rintro e w' ⟨v, C', rfl, rfl, h5, h6, h7, h8⟩
      exact hK v C' h5 h6 h7 h8
    · cases h
  · split at h
    · rename_i x' e hev
      split at h
      · rename_i hlo
        simp only [Option.some.injEq, Prod.mk.injEq] at h
        obtain ⟨rfl, rfl⟩ := h
        obtain ⟨nx, u, C', h1, h2, h3, h4, h5, h6⟩ := evalOp_ok hS hT hslot hev
        refine ⟨?_, Stays.eff e _ hlo⟩
        unfold Oper.wp
        rw [h1]
        have hk := hK u C' h3 h4 h5 h6
        cases nx <;> simp only [nextVal, Option.some.injEq, reduceCtorEq] at h2
        · subst h2; exact hk
        · subst h2; exact hk
      · cases h
    · cases h
theorem wanted_ok {C : Ctx} {T : List AVal} {a : Act} {ops : Array Oper} {o : Oper} {b : Bool} (hT : RT C T a.tmps) (h : wantedA ops T o = some b) : Region.wanted o (yielded ops a.tmps) = b := by
  unfold wantedA at h
  unfold Region.wanted
  split at h
  · rename_i hg
    simp only [Option.some.injEq] at h
    rw [hg]; exact h
  · rename_i j want hg
    rw [hg]
    simp only [yielded]
    split at h
    · rename_i d hd
      rw [hd]
      simp only [Option.bind_some]
      split at h
      · rename_i t ht
        simp only [Option.some.injEq] at h
        obtain ⟨y, hy, hr⟩ := Rvs_get hT.2 d _ ht
        simp only [Nat.zero_add, Rv_v] at hy hr
        subst hr
        rw [hy]
        simp only
        subst h
        cases want <;> cases t <;> rfl
      · cases h
      · rename_i hn1 hn2
        simp only [Option.some.injEq] at h
        subst h
        cases ht : T[d]? with
        | none =>
          have : a.tmps[d]? = none := by
            rw [Array.getElem?_eq_none]
            rw [hT.1]
            exact List.getElem?_eq_none_iff.1 ht
          rw [this]
          cases want <;> rfl
        | some z =>
          obtain ⟨y, hy, hr⟩ := Rvs_get hT.2 d _ ht
          simp only [Nat.zero_add] at hy
          rw [hy]
          split
          · rename_i t hyt
            simp only [Option.some.injEq] at hyt
            exfalso
            subst hyt
            cases z with
            | v q => rw [Rv_v] at hr; subst hr; exact hn1 _ ht
            | agg xs => simp [Rv] at hr
            | tup xs => simp [Rv] at hr
            | list n xs => simp [Rv] at hr
            | clip => simp [Rv] at hr
            | row o ep sz off len => simp [Rv] at hr
            | ptr o ep off => simp [Rv] at hr
            | eptr xs => simp [Rv] at hr
            | fn f xs => simp [Rv] at hr
            | mp o => simp [Rv] at hr
            | junk => exact hn2 ht
          · cases want <;> rfl
    · rename_i hd
      simp only [Option.some.injEq] at h
      rw [hd]
      simp [← h]

end Go.Proofs.Ytmopbegmdegooaa.Vm
