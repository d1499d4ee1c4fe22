/- Rounds of loops: each put in order behind itself. -/
import Derived.Test.YtmopbegmdegooaaVmLib
namespace Go.Proofs.Ytmopbegmdegooaa.Vm
open Go Go.RowKit
set_option linter.unusedVariables false
def roundC (base : Nat) (body : List AVal → List AObj → Res) (T : List AVal) (S : List AObj) : Res :=
  match body T S with
  | some (x, T', S') => (canon base T' S').map fun r => (x, r.1, r.2)
  | none => none
/-- From this state on the loop comes to r. -/
def At (base : Nat) (body : List AVal → List AObj → Res) (n : Nat) (T1 : List AVal) (S1 : List AObj) (r : Res) : Prop :=
  ∀ T S, canon base T S = some (T1, S1) → iterC base body n T S = r
theorem At.step {base : Nat} {body : List AVal → List AObj → Res} {n : Nat} {T1 T2 : List AVal} {S1 S2 : List AObj} {r : Res} (h : roundC base body T1 S1 = some (.normal, T2, S2)) (k : At base body n T2 S2 r) : At base body (n + 1) T1 S1 r := by
  intro T S hc
  unfold roundC at h
  split at h
  · rename_i x T' S' hb
    simp only [Option.map_eq_some_iff, Prod.mk.injEq] at h
    obtain ⟨⟨T3, S3⟩, h1, rfl, rfl, rfl⟩ := h
    rw [iterC_round hc hb]
    exact k _ _ h1
  · cases h
theorem At.leave {base : Nat} {body : List AVal → List AObj → Res} {n : Nat} {T1 T2 : List AVal} {S1 S2 : List AObj} {x : AExit} (h : roundC base body T1 S1 = some (x, T2, S2)) (hx : x ≠ .normal) : At base body (n + 1) T1 S1 (some (x, T2, S2)) := by
  intro T S hc
  unfold roundC at h
  split at h
  · rename_i x' T' S' hb
    simp only [Option.map_eq_some_iff, Prod.mk.injEq] at h
    obtain ⟨⟨T3, S3⟩, h1, rfl, rfl, rfl⟩ := h
    exact iterC_leave hc hb hx h1
  · cases h
theorem At.use {base : Nat} {body : List AVal → List AObj → Res} {n : Nat} {T1 : List AVal} {S1 : List AObj} {r : Res} (h : At base body n T1 S1 r) {T : List AVal} {S : List AObj} (hp : S.all plainO = true) (hc : canonTS base T S = some (T1, S1)) : iterC base body n T S = r :=
  h T S (canon_eq hp hc)
def Plain (S : List AObj) : Prop := S.all plainO = true
def roundP (c : Cfg) (ev : Ev) (lv : List Nat) (lo base n : Nat) (hs : Hints) (code : Code) (T : List AVal) (S : List AObj) (bs : List Bool) (ls : List (AExit × List AVal × List AObj)) : Pth (AExit × List AVal × List AObj × List Prop) :=
  match pathP c ev lv lo base n hs code T S bs ls with
  | .ok (x, T, S, ob) => match canonTS base T S with
    | some (T', S') => .ok (x, T', S', Plain S :: ob)
    | none => .bad 3000 0
  | .more ob => .more ob
  | .loop T S => .loop T S
  | .bad id i => .bad id i
theorem roundP_ok {c : Cfg} {ev : Ev} {lv : List Nat} {lo base n : Nat} {hs : Hints} {code : Code} {T : List AVal} {S : List AObj} {bs : List Bool} {ls : List (AExit × List AVal × List AObj)} {x : AExit} {T' : List AVal} {S' : List AObj} {ob : List Prop}
    (h : roundP c ev lv lo base n hs code T S bs ls = .ok (x, T', S', ob)) (hp : allOb ob) : roundC base (evalC c ev lv lo base n code) T S = some (x, T', S') := by
  unfold roundP at h
  split at h
  · rename_i x1 T1 S1 ob1 h1
    split at h
    · rename_i T2 S2 h2
      simp only [Pth.ok.injEq, Prod.mk.injEq] at h
      obtain ⟨rfl, rfl, rfl, rfl⟩ := h
      unfold roundC
      rw [pathP_ok h1 fun p hq => hp p (by simp [hq])]
      simp only
      rw [canon_eq (hp (Plain S1) (List.mem_cons_self ..)) h2]
      rfl
    · cases h
  · cases h
  · cases h
  · cases h
end Go.Proofs.Ytmopbegmdegooaa.Vm
