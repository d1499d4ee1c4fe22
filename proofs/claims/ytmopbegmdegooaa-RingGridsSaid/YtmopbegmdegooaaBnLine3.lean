/- Texts put together: VmLib, VmRound. What is proved stands at the head of each part. -/
import Derived.Test.YtmopbegmdegooaaBnLine2
/- What is known of functions, one upon the other: a function whose answers are told in plain terms is called by them. -/
namespace Go.Proofs.Ytmopbegmdegooaa.Vm
open Go Go.RowKit
set_option linter.unusedVariables false
set_option linter.unusedSimpArgs false
set_option linter.unnecessarySimpa false

theorem callsP_of {c : Cfg} {ev : Ev} (he : EvOk c ev) {f : FuncId} {ps : List PVal} {r0 : AVal} {S : List AObj} {r : PVal} (hev : ev 0 f (upL ps) [] = some (r0, S)) (h : peek (mark 0 deep S r0) deep r0 = some r) : CallsP c.P f ps r := by
  intro ok w vs hin hs hr
  let C : Ctx := ⟨fun _ => ⟨0, 0, 0⟩, [], ok, w⟩
  have hS : St C := ⟨fun o x hx => by simp [C] at hx, fun o o' x x' e e' hx => by simp [C] at hx, hin, fun b j hb o x e hx => by simp [C] at hx⟩
  refine (he.calls _ _ _ _ _ _ hev C vs rfl hS (by simp [hs]) ((Rvs_up ps _ 0).2 hr)).mono ?_
  rintro e w' ⟨v, C', rfl, rfl, hCS, hS', hE, hrv⟩
  obtain ⟨C2, hm, hm2⟩ := mark_ok 0 deep r0 C' hS'
  have hrv2 := Rv_mono hm.ext.grows _ _ hrv
  have hE2 := hE.trans hm.ext
  have hp := peek_ok hm.st deep r0 r v (by rw [hm2, hCS]; exact h) hrv2
  refine ⟨v, C2.ok, rfl, ?_, fun b j hb => ?_, fun b j hb => ?_, fun b j hb => ?_, ?_⟩
  · rw [← hm.w]; exact hE2.below rfl
  · exact hE2.ok b j hb
  · rcases hE2.okNew b j hb with h1 | h1 | ⟨o, x, e, h1, _⟩
    · exact .inl h1
    · exact .inr h1
    · simp [C] at h1
  · rw [← hm.w]; exact hm.st.okIn b j hb
  · rw [← hm.w]; exact hp

/-- A function from its entry to its end, along one path; 'out': what its result is, if it can't be seen. -/
def funP (c : Cfg) (ev : Ev) (k : Nat) (hs : Hints) (f : FuncId) (lo : Nat) (args : List AVal) (S : List AObj) (bs : List Bool) (ls : List (AExit × List AVal × List AObj)) : Pth (AVal × List AObj × List Prop) :=
  match c.tab f with
  | some a => match evalP c ev a.live lo S.length k hs a.body (args ++ List.replicate (a.ntmps - args.length) (.v undef)) S ⟨bs, ls, [], []⟩ with
    | .ok (.exit j, _, _, _) => .bad 1001 j
    | .ok (_, T, S', st) => match resultsA c.P a.results T S' with
      | some r => .ok (r, S', st.ob)
      | none => .bad 1002 0
    | .more ob => .more ob
    | .loop T S => .loop T S
    | .bad id i => .bad id i
  | none => .bad 1003 f
theorem funP_ok {c : Cfg} {k : Nat} {hs : Hints} {f : FuncId} {lo : Nat} {args : List AVal} {S : List AObj} {bs : List Bool} {ls : List (AExit × List AVal × List AObj)} {r : AVal} {S' : List AObj} {ob : List Prop}
    (h : funP c (evalF c k) k hs f lo args S bs ls = .ok (r, S', ob)) (hp : allOb ob) : evalF c (k + 1) lo f args S = some (r, S') := by
  unfold funP at h
  simp only [evalF]
  split at h
  · rename_i a ha
    simp only [ha]
    split at h
    · cases h
    · rename_i x T S1 st hne h1
      split at h
      · rename_i r' hr
        simp only [Pth.ok.injEq, Prod.mk.injEq] at h
        obtain ⟨rfl, rfl, rfl⟩ := h
        obtain ⟨h2, _⟩ := evalP_ok _ _ _ _ _ _ _ _ h1 hp
        rw [h2]
        cases x with
        | exit j => exact (hne j rfl).elim
        | normal => simp only [hr, Option.map_some]
        | ret => simp only [hr, Option.map_some]
      · cases h
    · cases h
    · cases h
    · cases h
  · cases h
def callP (c : Cfg) (ev : Ev) (k : Nat) (hs : Hints) (f : FuncId) (ps : List PVal) (bs : List Bool) (ls : List (AExit × List AVal × List AObj)) (out : Option PVal) : Pth (PVal × List Prop) :=
  match funP c ev k hs f 0 (upL ps) [] bs ls with
  | .ok (r, S, ob) => match out with
    | some p => .ok (p, (peek (mark 0 deep S r) deep r = some p) :: ob)
    | none => match peek (mark 0 deep S r) deep r with
      | some p => .ok (p, ob)
      | none => .bad 1004 0
  | .more ob => .more ob
  | .loop T S => .loop T S
  | .bad id i => .bad id i
theorem callP_ok {c : Cfg} (hc : CfgOk c) {k : Nat} {hs : Hints} {f : FuncId} {ps : List PVal} {bs : List Bool} {ls : List (AExit × List AVal × List AObj)} {out : Option PVal} {r : PVal} {ob : List Prop}
    (h : callP c (evalF c k) k hs f ps bs ls out = .ok (r, ob)) (hp : allOb ob) : CallsP c.P f ps r := by
  unfold callP at h
  split at h
  · rename_i r0 S ob0 h0
    split at h
    · simp only [Pth.ok.injEq, Prod.mk.injEq] at h
      obtain ⟨rfl, rfl⟩ := h
      exact callsP_of (evalF_ok hc (k + 1)) (funP_ok h0 fun p hq => hp p (by simp [hq])) (hp _ (by simp))
    · split at h
      · rename_i p hpk
        simp only [Pth.ok.injEq, Prod.mk.injEq] at h
        obtain ⟨rfl, rfl⟩ := h
        exact callsP_of (evalF_ok hc (k + 1)) (funP_ok h0 hp) hpk
      · cases h
  · cases h
  · cases h
  · cases h

/-- A piece of code along one path. -/
def pathP (c : Cfg) (ev : Ev) (lv : List Nat) (lo base n : Nat) (hs : Hints) (code : Code) (T : List AVal) (S : List AObj) (bs : List Bool) (ls : List (AExit × List AVal × List AObj)) : Pth (AExit × List AVal × List AObj × List Prop) :=
  match evalP c ev lv lo base n hs code T S ⟨bs, ls, [], []⟩ with
  | .ok (x, T, S, st) => .ok (x, T, S, st.ob)
  | .more ob => .more ob
  | .loop T S => .loop T S
  | .bad id i => .bad id i
theorem pathP_ok {c : Cfg} {ev : Ev} {lv : List Nat} {lo base n : Nat} {hs : Hints} {code : Code} {T : List AVal} {S : List AObj} {bs : List Bool} {ls : List (AExit × List AVal × List AObj)} {x : AExit} {T' : List AVal} {S' : List AObj} {ob : List Prop}
    (h : pathP c ev lv lo base n hs code T S bs ls = .ok (x, T', S', ob)) (hp : allOb ob) : evalC c ev lv lo base n code T S = some (x, T', S') := by
  unfold pathP at h
  split at h
  · rename_i h1
    simp only [Pth.ok.injEq, Prod.mk.injEq] at h
    obtain ⟨rfl, rfl, rfl, rfl⟩ := h
    exact (evalP_ok _ _ _ _ _ _ _ _ h1 hp).1
  · cases h
  · cases h
  · cases h
theorem canon_eq {base : Nat} {T : List AVal} {S : List AObj} {r : Option (List AVal × List AObj)} (hp : S.all plainO = true) (h : canonTS base T S = r) : canon base T S = r := by
  unfold canon
  rw [hp]
  exact h
theorem iterC_round {base : Nat} {body : List AVal → List AObj → Res} {n : Nat} {T T1 T2 : List AVal} {S S1 S2 : List AObj} (hc : canon base T S = some (T1, S1)) (hb : body T1 S1 = some (.normal, T2, S2)) : iterC base body (n + 1) T S = iterC base body n T2 S2 := by
  simp only [iterC, hc, hb]
theorem iterC_leave {base : Nat} {body : List AVal → List AObj → Res} {n : Nat} {T T1 T2 T3 : List AVal} {S S1 S2 S3 : List AObj} {x : AExit} (hc : canon base T S = some (T1, S1)) (hb : body T1 S1 = some (x, T2, S2)) (hx : x ≠ .normal) (hc2 : canon base T2 S2 = some (T3, S3)) :
    iterC base body (n + 1) T S = some (x, T3, S3) := by
  simp only [iterC, hc, hb]
  cases x with
  | normal => exact absurd rfl hx
  | exit j => simp only [hc2, Option.map_some]
  | ret => simp only [hc2, Option.map_some]
/-- What is known of a program's functions. -/
structure Lib (P : Program) where
  given : FuncId → Option (List PVal → Option PVal)
  ok : ∀ f g, given f = some g → Enters P f ∧ ∀ ps r, g ps = some r → CallsP P f ps r
def Lib.none (P : Program) : Lib P := ⟨fun _ => .none, fun _ _ h => by cases h⟩
def Lib.add {P : Program} (L : Lib P) (f : FuncId) (g : List PVal → Option PVal) (he : Enters P f) (h : ∀ ps r, g ps = some r → CallsP P f ps r) : Lib P :=
  ⟨fun x => bif Nat.beq x f then some g else L.given x, fun x g' hx => by
    cases hb : Nat.beq x f with
    | true =>
      rw [hb] at hx
      simp only [cond_true, Option.some.injEq] at hx
      rw [Nat.eq_of_beq_eq_true hb, ← hx]
      exact ⟨he, h⟩
    | false => rw [hb] at hx; exact L.ok x g' hx⟩
/-- The functions' code, if their names are no name that the model takes for another thing. -/
def tabOf (P : Program) (lives : List (FuncId × List Nat)) (f : FuncId) : Option FnA :=
  match P.funcs[f]? with
  | some fn => match fn.body with
    | some b => some ⟨fn.ntmps, fn.results, b, (lives.lookup f).getD []⟩
    | none => none
  | none => none
def named (P : Program) : Bool := P.funcs.all fun fn => !(fn.name == "runtime.NumGoroutine")
theorem tabOf_ok {P : Program} (hn : named P = true) {lives : List (FuncId × List Nat)} {f : FuncId} {a : FnA} (h : tabOf P lives f = some a) {c : Cfg} (hP : c.P = P) : TabOk c f a := by
  unfold tabOf at h
  split at h
  · rename_i fn hfn
    split at h
    · rename_i b hb
      simp only [Option.some.injEq] at h
      subst h
      have := Array.all_eq_true_iff_forall_mem.1 hn fn (Array.mem_of_getElem? hfn)
      exact ⟨fn, by rw [hP]; exact hfn, by simpa using this, hb, rfl, rfl⟩
    · cases h
  · cases h
theorem enters_of {P : Program} (hn : named P = true) {f : FuncId} {fn : Func} (hf : P.funcs[f]? = some fn) (hb : fn.body.isNone = false) : Enters P f := by
  have := Array.all_eq_true_iff_forall_mem.1 hn fn (Array.mem_of_getElem? hf)
  exact ⟨fn, hf, by simpa using this, hb⟩
/-- Loops of code, the outer ones first. -/
def loopsOf : Code → List Code
  | .seq a b => loopsOf a ++ loopsOf b
  | .cond _ a b => loopsOf a ++ loopsOf b
  | .block _ a => loopsOf a
  | .scope a => loopsOf a
  | .loop a => a :: loopsOf a
  | _ => []
def loopAt (fn : Func) (j : Nat) : Code := match fn.body with
  | some b => (loopsOf b).getD j .skip
  | none => .skip
end Go.Proofs.Ytmopbegmdegooaa.Vm
/- Rounds of loops: each put in order behind itself. -/
namespace Go.Proofs.Ytmopbegmdegooaa.Vm
open Go Go.RowKit
set_option linter.unusedVariables false
def roundC (base : Nat) (body : List AVal → List AObj → Res) (T : List AVal) (S : List AObj) : Res :=
  match body T S with
  | some (x, T', S') => (canon base T' S').map fun r => (x, r.1, r.2)
  | none => none
/-- From this state on the loop comes to r. -/
def At (base : Nat) (body : List AVal → List AObj → Res) (n : Nat) (T1 : List AVal) (S1 : List AObj) (r : Res) : Prop :=
  ∀ T S, canon base T S = some (T1, S1) → iterC base body n T S = r
theorem At.step {base : Nat} {body : List AVal → List AObj → Res} {n : Nat} {T1 T2 : List AVal} {S1 S2 : List AObj} {r : Res} (h : roundC base body T1 S1 = some (.normal, T2, S2)) (k : At base body n T2 S2 r) : At base body (n + 1) T1 S1 r := by
  intro T S hc
  unfold roundC at h
  split at h
  · rename_i x T' S' hb
    simp only [Option.map_eq_some_iff, Prod.mk.injEq] at h
    obtain ⟨⟨T3, S3⟩, h1, rfl, rfl, rfl⟩ := h
    rw [iterC_round hc hb]
    exact k _ _ h1
  · cases h
theorem At.leave {base : Nat} {body : List AVal → List AObj → Res} {n : Nat} {T1 T2 : List AVal} {S1 S2 : List AObj} {x : AExit} (h : roundC base body T1 S1 = some (x, T2, S2)) (hx : x ≠ .normal) : At base body (n + 1) T1 S1 (some (x, T2, S2)) := by
  intro T S hc
  unfold roundC at h
  split at h
  · rename_i x' T' S' hb
    simp only [Option.map_eq_some_iff, Prod.mk.injEq] at h
    obtain ⟨⟨T3, S3⟩, h1, rfl, rfl, rfl⟩ := h
    exact iterC_leave hc hb hx h1
  · cases h
theorem At.use {base : Nat} {body : List AVal → List AObj → Res} {n : Nat} {T1 : List AVal} {S1 : List AObj} {r : Res} (h : At base body n T1 S1 r) {T : List AVal} {S : List AObj} (hp : S.all plainO = true) (hc : canonTS base T S = some (T1, S1)) : iterC base body n T S = r :=
  h T S (canon_eq hp hc)
def Plain (S : List AObj) : Prop := S.all plainO = true
def roundP (c : Cfg) (ev : Ev) (lv : List Nat) (lo base n : Nat) (hs : Hints) (code : Code) (T : List AVal) (S : List AObj) (bs : List Bool) (ls : List (AExit × List AVal × List AObj)) : Pth (AExit × List AVal × List AObj × List Prop) :=
  match pathP c ev lv lo base n hs code T S bs ls with
  | .ok (x, T, S, ob) => match canonTS base T S with
    | some (T', S') => .ok (x, T', S', Plain S :: ob)
    | none => .bad 3000 0
  | .more ob => .more ob
  | .loop T S => .loop T S
  | .bad id i => .bad id i
theorem roundP_ok {c : Cfg} {ev : Ev} {lv : List Nat} {lo base n : Nat} {hs : Hints} {code : Code} {T : List AVal} {S : List AObj} {bs : List Bool} {ls : List (AExit × List AVal × List AObj)} {x : AExit} {T' : List AVal} {S' : List AObj} {ob : List Prop}
    (h : roundP c ev lv lo base n hs code T S bs ls = .ok (x, T', S', ob)) (hp : allOb ob) : roundC base (evalC c ev lv lo base n code) T S = some (x, T', S') := by
  unfold roundP at h
  split at h
  · rename_i x1 T1 S1 ob1 h1
    split at h
    · rename_i T2 S2 h2
      simp only [Pth.ok.injEq, Prod.mk.injEq] at h
      obtain ⟨rfl, rfl, rfl, rfl⟩ := h
      unfold roundC
      rw [pathP_ok h1 fun p hq => hp p (by simp [hq])]
      simp only
      rw [canon_eq (hp (Plain S1) (List.mem_cons_self ..)) h2]
      rfl
    · cases h
  · cases h
  · cases h
  · cases h
end Go.Proofs.Ytmopbegmdegooaa.Vm
