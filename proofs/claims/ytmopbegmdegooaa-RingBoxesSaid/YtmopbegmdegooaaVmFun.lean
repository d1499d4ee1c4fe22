/- Functions of the abstract machine are the model's, however deep they call. -/
import Derived.Test.YtmopbegmdegooaaVmEval
namespace Go.Proofs.Ytmopbegmdegooaa.Vm
open Go Go.RowKit
set_option linter.unusedVariables false
set_option linter.unusedSimpArgs false
set_option linter.unnecessarySimpa false

def resultV (tmps : Array Value) : ResultVar → Sem Value
  | .tmp t => pure (tmps.getD t undef)
  | .cell a t => do loadVar t (← asAddr (tmps.getD a undef))
theorem resultA_ok {P : Program} {C : Ctx} {T : List AVal} {tmps : Array Value} (hS : St C) (hT : RT C T tmps) {rv : ResultVar} {x : AVal} (h : resultA P T C.S rv = some x) : ∃ v, (resultV tmps rv).run P C.w = .ok v C.w ∧ Rv C x v := by
  cases rv with
  | tmp t =>
    simp only [resultA, Option.some.injEq] at h
    subst h
    exact ⟨_, rfl, hT.get t⟩
  | cell a t =>
    simp only [resultA] at h
    have hr := hT.get a
    obtain ⟨v, h1, h2⟩ := load_ok hS h hr
    have hp : ∃ ad, tmps.getD a undef = .pointer (some ad) := by
      unfold loadA at h
      split at h
      · rename_i o ep off hx
        rw [hx] at hr; simp only [Rv] at hr
        obtain ⟨ad, h, _⟩ := hr
        exact ⟨ad, h⟩
      · rename_i xs hx
        rw [hx] at hr; simp only [Rv] at hr
        obtain ⟨ad, h, _⟩ := hr
        exact ⟨ad, h⟩
      · cases h
    obtain ⟨ad, hp⟩ := hp
    refine ⟨v, ?_, h2⟩
    rw [hp] at h1
    simp only [resultV, hp]
    exact h1
theorem resultsL_ok {P : Program} {C : Ctx} {T : List AVal} {tmps : Array Value} (hS : St C) (hT : RT C T tmps) : ∀ {rs : List ResultVar} {xs : List AVal}, mapO (resultA P T C.S) rs = some xs →
    ∃ vs : List Value, (rs.mapM (resultV tmps)).run P C.w = .ok vs C.w ∧ vs.length = xs.length ∧ Rvs C xs (fun i y => vs[i]? = some y) 0
  | [], xs, h => by
    simp only [mapO, Option.some.injEq] at h
    subst h
    exact ⟨[], rfl, rfl, by simp [Rvs]⟩
  | r :: rs, xs, h => by
    simp only [mapO] at h
    split at h
    · rename_i y ys h1 h2
      simp only [Option.some.injEq] at h
      subst h
      obtain ⟨v, k1, k2⟩ := resultA_ok hS hT h1
      obtain ⟨vs, l1, l2, l3⟩ := resultsL_ok hS hT h2
      refine ⟨v :: vs, ?_, by simp [l2], ?_⟩
      · rw [List.mapM_cons]
        simp [k1, l1]
      · simp only [Rvs]
        refine ⟨⟨v, rfl, k2⟩, Rvs_mk fun j x hx => ?_⟩
        obtain ⟨u, hu, hr⟩ := Rvs_get l3 j x hx
        simp only [Nat.zero_add] at hu
        exact ⟨u, by rw [show 0 + 1 + j = j + 1 by omega]; simpa using hu, hr⟩
    · cases h
theorem results_ok {P : Program} {C : Ctx} {T : List AVal} {tmps : Array Value} (hS : St C) (hT : RT C T tmps) {fn : Func} {x : AVal} (h : resultsA P fn.results T C.S = some x) : ∃ v, (results fn tmps).run P C.w = .ok v C.w ∧ Rv C x v := by
  have e1 : results fn tmps = (do let vs ← fn.results.mapM (resultV tmps); pure (if h : vs.size = 1 then vs[0] else .tuple vs)) := by
    unfold results
    congr 1
  rw [e1, Array.mapM_eq_mapM_toList]
  unfold resultsA at h
  have key : ∀ xs, mapO (resultA P T C.S) fn.results.toList = some xs → ∃ vs : List Value, (fn.results.toList.mapM (resultV tmps)).run P C.w = .ok vs C.w ∧ vs.length = xs.length ∧ Rvs C xs (fun i y => vs[i]? = some y) 0 := fun xs hx => resultsL_ok hS hT hx
  split at h
  · rename_i y hy
    simp only [Option.some.injEq] at h
    subst h
    obtain ⟨vs, h1, h2, h3⟩ := key _ hy
    match vs, h2, h1, h3 with
    | [v], _, h1, h3 =>
      simp only [Rvs] at h3
      obtain ⟨⟨u, hu, hr⟩, _⟩ := h3
      simp only [List.getElem?_cons_zero, Option.some.injEq] at hu
      subst hu
      exact ⟨v, by simp [h1], hr⟩
  · rename_i ys hne hy
    simp only [Option.some.injEq] at h
    subst h
    obtain ⟨vs, h1, h2, h3⟩ := key _ hy
    have hl : vs.length ≠ 1 := by
      intro hl
      rw [h2] at hl
      match ys, hl with
      | [z], _ => exact hne z rfl
    refine ⟨.tuple vs.toArray, by simp [h1, hl], ?_⟩
    simp only [Rv]
    exact ⟨_, rfl, by simp [h2], Rvs_mono (Grows.refl C) _ _ _ _ (fun i y hy => by simpa using hy) h3⟩
  · cases h

theorem enter_rel {C : Ctx} {args : List AVal} {vs : Array Value} (hs : vs.size = args.length) (hr : Rvs C args (fun i y => vs[i]? = some y) 0) (n : Nat) :
    RT C (args ++ List.replicate (n - args.length) (.v undef)) (vs ++ Array.replicate (n - vs.size) undef) := by
  refine ⟨by simp [hs], Rvs_append (Rvs_mono (Grows.refl C) _ _ _ _ (fun i y hy => ?_) hr) (Rvs_mk fun j x hx => ?_)⟩
  · have hlt := (Array.getElem?_eq_some_iff.1 hy).1
    rw [Array.getElem?_append_left hlt]; exact hy
  · have := List.mem_of_getElem? hx
    simp only [List.mem_replicate] at this
    refine ⟨undef, ?_, by rw [this.2]; simp [Rv]⟩
    have hlt := (List.getElem?_eq_some_iff.1 hx).1
    simp only [List.length_replicate] at hlt
    rw [Array.getElem?_append_right (by omega)]
    simp [hs, hlt]
theorem evalF_ok {c : Cfg} (hc : CfgOk c) : ∀ k, EvOk c (evalF c k)
  | 0 => ⟨fun _ _ _ _ _ _ h => by simp [evalF] at h, fun _ _ _ _ _ _ h => by simp [evalF] at h, fun _ _ _ _ _ _ h => by simp [evalF] at h⟩
  | k + 1 => by
    have ih := evalF_ok hc k
    have inv : ∀ lo f args S r S', evalF c (k + 1) lo f args S = some (r, S') → ∃ a x T, c.tab f = some a ∧ (x = .normal ∨ x = .ret) ∧
        evalC c (evalF c k) a.live lo S.length k a.body (args ++ List.replicate (a.ntmps - args.length) (.v undef)) S = some (x, T, S') ∧ resultsA c.P a.results T S' = some r := by
      intro lo f args S r S' h
      simp only [evalF] at h
      split at h
      · rename_i a ha
        split at h
        · rename_i T S1 h1
          simp only [Option.map_eq_some_iff, Prod.mk.injEq] at h
          obtain ⟨r', h2, rfl, rfl⟩ := h
          exact ⟨a, _, T, ha, .inl rfl, h1, h2⟩
        · rename_i T S1 h1
          simp only [Option.map_eq_some_iff, Prod.mk.injEq] at h
          obtain ⟨r', h2, rfl, rfl⟩ := h
          exact ⟨a, _, T, ha, .inr rfl, h1, h2⟩
        · cases h
      · cases h
    refine ⟨fun lo f args S r S' h => ?_, fun lo f args S r S' h => ?_, fun lo f args S r S' h => ?_⟩
    · obtain ⟨a, x, T, h1, h2, h3, h4⟩ := inv _ _ _ _ _ _ h
      obtain ⟨fn, f1, f2, f3, f4, f5⟩ := (hc.tab f a h1).fn
      intro C vs hCS hS hs hr
      subst hCS
      refine calls_of_wp f1 f3 (wp_mono (evalC_ok (C0 := C) (d0 := []) hc ih (Nat.le_refl _) a.body _ _ C x T S' hS (Ext.refl C) ?_ rfl h3) ?_)
      · rw [f4]
        exact enter_rel hs hr a.ntmps
      · rintro e a1 w1 ⟨C1, rfl, rfl, k1, k2, k3, k4, k5⟩
        have h4' : resultsA c.P fn.results T C1.S = some r := by rw [f5]; exact h4
        obtain ⟨v, r1, r2⟩ := results_ok k1 k3 h4'
        rcases h2 with rfl | rfl
        · cases e <;> simp only [AExit.is] at k5
          exact ⟨k4, v, r1, v, C1, rfl, rfl, rfl, k1, k2, r2⟩
        · cases e <;> simp only [AExit.is] at k5
          exact ⟨k4, v, r1, v, C1, rfl, rfl, rfl, k1, k2, r2⟩
    · obtain ⟨a, x, T, h1, h2, h3, h4⟩ := inv _ _ _ _ _ _ h
      obtain ⟨fn, f1, f2, f3, f4, f5⟩ := (hc.tab f a h1).fn
      exact ⟨fn, f1, f2, by rw [f3]; rfl⟩
    · obtain ⟨a, x, T, h1, h2, h3, h4⟩ := inv _ _ _ _ _ _ h
      have := evalC_stays hc ih _ _ _ _ _ _ (Nat.le_refl _) h3
      exact ⟨this.1, fun q hq hl => this.2 q hq hl⟩
end Go.Proofs.Ytmopbegmdegooaa.Vm
