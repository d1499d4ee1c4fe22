/- Code and functions of the abstract machine are the model's. -/
import Derived.Test.YtmopbegmdegooaaVmCanon
namespace Go.Proofs.Ytmopbegmdegooaa.Vm
open Go Go.RowKit
set_option linter.unusedVariables false
set_option linter.unusedSimpArgs false
set_option linter.unnecessarySimpa false

/-! ## regions in the text's order -/
theorem stepOp_defers {a : Act} {d : Option Tmp} {u : Value} : (a.put d u).defers = a.defers := by cases d <;> rfl
theorem runOps_ok {c : Cfg} {ev : Ev} (hc : CfgOk c) (he : EvOk c ev) {lo : Nat} {ops : Array Oper} {C0 : Ctx} {d0 : List Deferred} {Q : Exit → Act → World → Prop} : ∀ (rest : List Oper) (i : Nat) (T : List AVal) (a : Act) (C : Ctx) (T' : List AVal) (S' : List AObj),
    ops.toList.drop i = rest → St C → Ext C0 C → RT C T a.tmps → a.defers = d0 → runOps c ev lo ops rest T C.S = some (T', S') →
    (∀ a' C', C'.S = S' → St C' → Ext C0 C' → RT C' T' a'.tmps → a'.defers = d0 → Q .normal a' C'.w) → wpOps c.P ops Q (List.range' i (ops.size - i)) a C.w
  | [], i, T, a, C, T', S', hd, hS, hE, hT, hda, h, hQ => by
    simp only [runOps, Option.some.injEq, Prod.mk.injEq] at h
    obtain ⟨rfl, rfl⟩ := h
    have : ops.size ≤ i := by simpa using hd
    rw [show ops.size - i = 0 by omega]
    exact hQ a C rfl hS hE hT hda
  | o :: rest, i, T, a, C, T', S', hd, hS, hE, hT, hda, h, hQ => by
    have hi : i < ops.size := by
      rcases Nat.lt_or_ge i ops.size with h1 | h1
      · exact h1
      · rw [List.drop_eq_nil_of_le (by simpa using h1)] at hd; cases hd
    rw [List.drop_eq_getElem_cons (by simpa using hi)] at hd
    obtain ⟨ho, hrest⟩ := List.cons.inj hd
    have ho' : ops[i]? = some o := by rw [Array.getElem?_eq_getElem hi]; simpa using ho
    rw [show ops.size - i = (ops.size - (i + 1)) + 1 by omega, List.range'_succ]
    simp only [wpOps, ho']
    simp only [runOps] at h
    split at h
    · rename_i hw
      rw [wanted_ok hT hw, if_pos rfl]
      split at h
      · rename_i x S1 hx
        refine .inl (stepOp_ok hc he hS hT (slotOf_ok lo C.S) hx fun u C1 h1 h2 h3 h4 => ?_).1
        rw [← h1] at h
        exact runOps_ok hc he rest (i + 1) _ _ C1 T' S' hrest h2 (hE.trans h3) ((hT.mono h3.grows).put _ h4) (stepOp_defers.trans hda) h hQ
      · cases h
    · rename_i hw
      rw [wanted_ok hT hw, if_neg (by simp)]
      exact runOps_ok hc he rest (i + 1) _ _ C T' S' hrest hS hE (hT.put _ (by simp [Rv])) (stepOp_defers.trans hda) h hQ
    · cases h
theorem stepOp_stays {c : Cfg} {ev : Ev} (hc : CfgOk c) (he : EvOk c ev) {lo slot : Nat} {o : Oper} {T : List AVal} {S : List AObj} {x : AVal} {S' : List AObj} (h : stepOp c ev lo T S slot o = some (x, S')) : Stays lo S S' := by
  unfold stepOp at h
  split at h
  · split at h
    · exact (callA_ok hc he h).2.2
    · cases h
  · split at h
    · split at h
      · rename_i hlo
        simp only [Option.some.injEq, Prod.mk.injEq] at h
        obtain ⟨_, rfl⟩ := h
        exact Stays.eff _ _ hlo
      · cases h
    · cases h
theorem runOps_stays {c : Cfg} {ev : Ev} (hc : CfgOk c) (he : EvOk c ev) {lo : Nat} {ops : Array Oper} : ∀ (rest : List Oper) (T : List AVal) (S : List AObj) (T' : List AVal) (S' : List AObj), runOps c ev lo ops rest T S = some (T', S') → Stays lo S S'
  | [], T, S, T', S', h => by
    simp only [runOps, Option.some.injEq, Prod.mk.injEq] at h
    obtain ⟨_, rfl⟩ := h
    exact Stays.refl _ _
  | o :: rest, T, S, T', S', h => by
    simp only [runOps] at h
    split at h
    · split at h
      · rename_i x S1 hx
        exact (stepOp_stays hc he hx).trans (runOps_stays hc he rest _ _ _ _ h)
      · cases h
    · exact runOps_stays hc he rest _ _ _ _ h
    · cases h

/-! ## code -/
def AExit.is : AExit → Exit → Prop
  | .normal, .normal => True
  | .exit i, .exit j => i = j
  | .ret, .ret => True
  | _, _ => False
/-- Where code has come to. -/
def Post (C0 : Ctx) (x : AExit) (T' : List AVal) (S' : List AObj) (d0 : List Deferred) (e : Exit) (a' : Act) (w' : World) : Prop :=
  ∃ C', C'.w = w' ∧ C'.S = S' ∧ St C' ∧ Ext C0 C' ∧ RT C' T' a'.tmps ∧ a'.defers = d0 ∧ x.is e
theorem forget_rel {C : Ctx} : ∀ (T : List AVal) (m : Nat) (f : Nat → Value → Prop) (i : Nat), Rvs C T f i → Rvs C (forget m T) f i
  | [], m, f, i, h => by simpa [forget] using h
  | x :: xs, m, f, i, h => by
    simp only [forget, Rvs] at h ⊢
    obtain ⟨⟨y, hy, hr⟩, h2⟩ := h
    refine ⟨⟨y, hy, ?_⟩, forget_rel xs (m / 2) f (i + 1) h2⟩
    cases Nat.beq (m % 2) 1
    · simp [Rv]
    · exact hr
theorem forget_length : ∀ (T : List AVal) (m : Nat), (forget m T).length = T.length
  | [], _ => rfl
  | x :: xs, m => by simp [forget, forget_length xs]
theorem RT.forget {C : Ctx} {T : List AVal} {tmps : Array Value} (h : RT C T tmps) (lv : List Nat) (id : Nat) : RT C (forgetAt lv id T) tmps := by
  unfold forgetAt
  split
  · exact ⟨by rw [forget_length]; exact h.1, forget_rel _ _ _ _ h.2⟩
  · exact h
theorem evalC_ok {c : Cfg} {ev : Ev} (hc : CfgOk c) (he : EvOk c ev) {lv : List Nat} {lo base n : Nat} {C0 : Ctx} {d0 : List Deferred} (hb : C0.S.length ≤ base) : ∀ (code : Code) (T : List AVal) (a : Act) (C : Ctx) (x : AExit) (T' : List AVal) (S' : List AObj),
    St C → Ext C0 C → RT C T a.tmps → a.defers = d0 → evalC c ev lv lo base n code T C.S = some (x, T', S') → code.wp c.P (Post C0 x T' S' d0) a C.w := by
  intro code
  induction code with
  | skip =>
    intro T a C x T' S' hS hE hT hd h
    simp only [evalC, Option.some.injEq, Prod.mk.injEq] at h
    obtain ⟨rfl, rfl, rfl⟩ := h
    exact wp_skip ⟨C, rfl, rfl, hS, hE, hT, hd, trivial⟩
  | label l =>
    intro T a C x T' S' hS hE hT hd h
    simp only [evalC, Option.some.injEq, Prod.mk.injEq] at h
    obtain ⟨rfl, rfl, rfl⟩ := h
    exact wp_label ⟨C, rfl, rfl, hS, hE, hT, hd, trivial⟩
  | region id ops draw =>
    intro T a C x T' S' hS hE hT hd h
    cases draw with
    | false =>
      simp only [evalC, Option.map_eq_some_iff, Prod.mk.injEq] at h
      obtain ⟨⟨T1, S1⟩, h1, rfl, rfl, rfl⟩ := h
      refine wp_region ?_
      rw [List.range_eq_range']
      exact runOps_ok (C0 := C0) (d0 := d0) hc he ops.toList 0 T a C _ _ rfl hS hE hT hd h1 fun a' C' h1 h2 h3 h4 h5 => ⟨C', rfl, h1, h2, h3, h4.forget lv id, h5, trivial⟩
    | true =>
      simp only [evalC, Option.map_eq_some_iff, Prod.mk.injEq] at h
      obtain ⟨⟨T1, S1⟩, h1, rfl, rfl, rfl⟩ := h
      exact runDraw_ok hc he hS hT h1 fun a' C' h1 h2 h3 h4 h5 => ⟨C', rfl, h1, h2, hE.trans h3, h4.forget lv id, h5.trans hd, trivial⟩
  | seq p q ihp ihq =>
    intro T a C x T' S' hS hE hT hd h
    simp only [evalC] at h
    split at h
    · rename_i T1 S1 h1
      refine wp_seq (wp_mono (ihp T a C _ _ _ hS hE hT hd h1) ?_)
      rintro e a1 w1 ⟨C1, rfl, rfl, k1, k2, k3, k4, k5⟩
      cases e <;> simp only [AExit.is] at k5
      exact ihq T1 a1 C1 x T' S' k1 k2 k3 k4 h
    · rename_i hne
      refine wp_seq (wp_mono (ihp T a C _ _ _ hS hE hT hd h) ?_)
      rintro e a1 w1 ⟨C1, rfl, rfl, k1, k2, k3, k4, k5⟩
      cases e with
      | normal =>
        cases x <;> simp only [AExit.is] at k5
        exact (hne _ _ h).elim
      | _ => exact ⟨C1, rfl, rfl, k1, k2, k3, k4, k5⟩
  | cond y p q ihp ihq =>
    intro T a C x T' S' hS hE hT hd h
    simp only [evalC] at h
    split at h
    · rename_i t ht
      have hr := opd_rel hT y
      rw [ht] at hr
      simp only [Rv] at hr
      refine wp_cond hr ?_
      cases t
      · exact ihq T a C x T' S' hS hE hT hd (by simpa using h)
      · exact ihp T a C x T' S' hS hE hT hd (by simpa using h)
    · cases h
  | block id p ih =>
    intro T a C x T' S' hS hE hT hd h
    simp only [evalC] at h
    split at h
    · rename_i j T1 S1 h1
      simp only [Option.some.injEq, Prod.mk.injEq] at h
      obtain ⟨rfl, rfl, rfl⟩ := h
      refine wp_block (wp_mono (ih T a C _ _ _ hS hE hT hd h1) ?_)
      rintro e a1 w1 ⟨C1, rfl, rfl, k1, k2, k3, k4, k5⟩
      cases e <;> simp only [AExit.is] at k5
      subst k5
      simp only [Exit.inBlock]
      by_cases hj : j = id
      · rw [if_pos hj]
        exact ⟨C1, rfl, rfl, k1, k2, k3, k4, by simp [hj, AExit.is]⟩
      · rw [if_neg hj]
        exact ⟨C1, rfl, rfl, k1, k2, k3, k4, by simp [hj, AExit.is]⟩
    · rename_i hne
      refine wp_block (wp_mono (ih T a C _ _ _ hS hE hT hd h) ?_)
      rintro e a1 w1 ⟨C1, rfl, rfl, k1, k2, k3, k4, k5⟩
      cases e with
      | exit j =>
        cases x <;> simp only [AExit.is] at k5
        exact (hne _ _ _ h).elim
      | _ => exact ⟨C1, rfl, rfl, k1, k2, k3, k4, k5⟩
  | loop p ih =>
    intro T a C x T' S' hS hE hT hd h
    simp only [evalC] at h
    refine wp_loop_rounds n ?_
    have key : ∀ (m : Nat) (T : List AVal) (a : Act) (C : Ctx), St C → Ext C0 C → RT C T a.tmps → a.defers = d0 → iterC base (evalC c ev lv lo base n p) m T C.S = some (x, T', S') → Code.rounds c.P p (Post C0 x T' S' d0) m a C.w := by
      intro m
      induction m with
      | zero => intro T a C _ _ _ _ h; simp [iterC] at h
      | succ m ihm =>
        intro T a C hS hE hT hd h
        rw [rounds_succ]
        simp only [iterC] at h
        split at h
        · rename_i T1 S1 hcn
          obtain ⟨C1, hw, rfl, hS1, hE1, hT1⟩ := canon_ok hS hE hT hb hcn
          rw [← hw]
          split at h
          · rename_i T2 S2 h1
            refine wp_mono (ih T1 a C1 _ _ _ hS1 hE1 hT1 hd h1) ?_
            rintro e a1 w1 ⟨C2, rfl, rfl, k1, k2, k3, k4, k5⟩
            cases e <;> simp only [AExit.is] at k5
            exact ihm T2 a1 C2 k1 k2 k3 k4 h
          · rename_i x2 T2 S2 hne h1
            simp only [Option.map_eq_some_iff, Prod.mk.injEq] at h
            obtain ⟨⟨T3, S3⟩, h2, rfl, rfl, rfl⟩ := h
            refine wp_mono (ih T1 a C1 _ _ _ hS1 hE1 hT1 hd h1) ?_
            rintro e a1 w1 ⟨C2, rfl, rfl, k1, k2, k3, k4, k5⟩
            obtain ⟨C3, hw3, rfl, k6, k7, k8⟩ := canon_ok k1 k2 k3 hb h2
            have post : Post C0 x2 T3 C3.S d0 e a1 C2.w := ⟨C3, hw3, rfl, k6, k7, k8, k4, k5⟩
            cases e with
            | normal =>
              cases x2 <;> simp only [AExit.is] at k5
              exact (hne rfl).elim
            | _ => exact post
          · cases h
        · cases h
    exact key n T a C hS hE hT hd h
  | exit id =>
    intro T a C x T' S' hS hE hT hd h
    simp only [evalC, Option.some.injEq, Prod.mk.injEq] at h
    obtain ⟨rfl, rfl, rfl⟩ := h
    exact wp_exit ⟨C, rfl, rfl, hS, hE, hT, hd, rfl⟩
  | scope p ih =>
    intro T a C x T' S' hS hE hT hd h
    simp only [evalC] at h
    refine wp_scope_straight (wp_mono (ih T a C _ _ _ hS hE hT hd h) ?_)
    rintro e a1 w1 ⟨C1, rfl, rfl, k1, k2, k3, k4, k5⟩
    cases e with
    | goto l => cases x <;> exact k5.elim
    | _ => exact ⟨C1, rfl, rfl, k1, k2, k3, k4, k5⟩
  | ret =>
    intro T a C x T' S' hS hE hT hd h
    simp only [evalC, Option.some.injEq, Prod.mk.injEq] at h
    obtain ⟨rfl, rfl, rfl⟩ := h
    exact wp_ret ⟨C, rfl, rfl, hS, hE, hT, hd, trivial⟩
  | _ => intro T a C x T' S' hS hE hT hd h; simp [evalC] at h
/-- What stays while code runs: objects below lo and below base; none below base goes. -/
def StaysB (lo base : Nat) (S S' : List AObj) : Prop := base ≤ S'.length ∧ ∀ q, q < lo → q < base → S'[q]? = S[q]?
theorem Stays.toB {lo base : Nat} {S S' : List AObj} (hb : base ≤ S.length) (h : Stays lo S S') : StaysB lo base S S' := ⟨Nat.le_trans hb h.1, fun q hq hqb => h.2 q hq (by omega)⟩
theorem StaysB.trans {lo base : Nat} {A B D : List AObj} (h : StaysB lo base A B) (k : StaysB lo base B D) : StaysB lo base A D := ⟨k.1, fun q hq hqb => (k.2 q hq hqb).trans (h.2 q hq hqb)⟩
theorem evalC_stays {c : Cfg} {ev : Ev} (hc : CfgOk c) (he : EvOk c ev) {lv : List Nat} {lo base n : Nat} : ∀ (code : Code) (T : List AVal) (S : List AObj) (x : AExit) (T' : List AVal) (S' : List AObj), base ≤ S.length → evalC c ev lv lo base n code T S = some (x, T', S') → StaysB lo base S S' := by
  intro code
  induction code with
  | region id ops draw =>
    intro T S x T' S' hb h
    cases draw with
    | false =>
      simp only [evalC, Option.map_eq_some_iff, Prod.mk.injEq] at h
      obtain ⟨⟨T1, S1⟩, h1, rfl, rfl, rfl⟩ := h
      exact (runOps_stays hc he _ _ _ _ _ h1).toB hb
    | true =>
      simp only [evalC, Option.map_eq_some_iff, Prod.mk.injEq] at h
      obtain ⟨⟨T1, S1⟩, h1, rfl, rfl, rfl⟩ := h
      exact (runDraw_stays h1).toB hb
  | seq p q ihp ihq =>
    intro T S x T' S' hb h
    simp only [evalC] at h
    split at h
    · rename_i T1 S1 h1
      have k := ihp _ _ _ _ _ hb h1
      exact k.trans (ihq _ _ _ _ _ k.1 h)
    · exact ihp _ _ _ _ _ hb h
  | cond y p q ihp ihq =>
    intro T S x T' S' hb h
    simp only [evalC] at h
    split at h
    · rename_i t ht
      cases t
      · exact ihq _ _ _ _ _ hb (by simpa using h)
      · exact ihp _ _ _ _ _ hb (by simpa using h)
    · cases h
  | block id p ih =>
    intro T S x T' S' hb h
    simp only [evalC] at h
    split at h
    · rename_i j T1 S1 h1
      simp only [Option.some.injEq, Prod.mk.injEq] at h
      obtain ⟨rfl, rfl, rfl⟩ := h
      exact ih _ _ _ _ _ hb h1
    · exact ih _ _ _ _ _ hb h
  | loop p ih =>
    intro T S x T' S' hb h
    simp only [evalC] at h
    have key : ∀ (m : Nat) (T : List AVal) (S : List AObj), base ≤ S.length → iterC base (evalC c ev lv lo base n p) m T S = some (x, T', S') → StaysB lo base S S' := by
      intro m
      induction m with
      | zero => intro T S _ h; simp [iterC] at h
      | succ m ihm =>
        intro T S hb h
        simp only [iterC] at h
        split at h
        · rename_i T1 S1 hcn
          obtain ⟨c1, c2⟩ := canon_stays (lo := lo) hb hcn
          have k0 : StaysB lo base S S1 := ⟨c1, fun q _ hq => c2 q hq⟩
          split at h
          · rename_i T2 S2 h1
            have k := ih _ _ _ _ _ c1 h1
            exact k0.trans (k.trans (ihm _ _ k.1 h))
          · rename_i x2 T2 S2 hne h1
            simp only [Option.map_eq_some_iff, Prod.mk.injEq] at h
            obtain ⟨⟨T3, S3⟩, h2, rfl, rfl, rfl⟩ := h
            have k := ih _ _ _ _ _ c1 h1
            obtain ⟨d1, d2⟩ := canon_stays (lo := lo) k.1 h2
            exact k0.trans (k.trans ⟨d1, fun q _ hq => d2 q hq⟩)
          · cases h
        · cases h
    exact key n T S hb h
  | scope p ih =>
    intro T S x T' S' hb h
    simp only [evalC] at h
    exact ih _ _ _ _ _ hb h
  | skip | label | exit | ret =>
    intro T S x T' S' hb h
    simp only [evalC, Option.some.injEq, Prod.mk.injEq] at h
    obtain ⟨_, _, rfl⟩ := h
    exact ⟨hb, fun _ _ _ => rfl⟩
  | _ => intro T S x T' S' hb h; simp [evalC] at h
end Go.Proofs.Ytmopbegmdegooaa.Vm
