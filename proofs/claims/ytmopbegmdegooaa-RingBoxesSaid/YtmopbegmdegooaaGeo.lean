/- What the functions on points answer: told in plain numbers, each from its code. -/
import Derived.Test.YtmopbegmdegooaaLives
import Derived.Test.YtmopbegmdegooaaMath
namespace Go.Proofs.Ytmopbegmdegooaa
open Go Vm M
set_option linter.unusedVariables false
set_option linter.unusedSimpArgs false

def unPt : PVal → Option P2
  | .agg [.v (.int .i64 a), .v (.int .i64 b)] => some (a, b)
  | _ => none
def ptP (p : P2) : PVal := .agg [.v (.int .i64 p.1), .v (.int .i64 p.2)]
def iP (n : Int) : PVal := .v (.int .i64 n)
def bP (b : Bool) : PVal := .v (.bool b)
theorem unPt_some {x : PVal} {p : P2} (h : unPt x = some p) : x = ptP p := by
  unfold unPt at h
  split at h
  · simp only [Option.some.injEq] at h
    subst h
    rfl
  · cases h
def g1 (f : P2 → PVal) : List PVal → Option PVal
  | [x] => match unPt x with
    | some a => some (f a)
    | _ => none
  | _ => none
def g3 (f : P2 → P2 → P2 → PVal) : List PVal → Option PVal
  | [x, y, z] => match unPt x, unPt y, unPt z with
    | some a, some b, some c => some (f a b c)
    | _, _, _ => none
  | _ => none
def g4 (f : P2 → P2 → P2 → P2 → PVal) : List PVal → Option PVal
  | [x, y, z, u] => match unPt x, unPt y, unPt z, unPt u with
    | some a, some b, some c, some d => some (f a b c d)
    | _, _, _, _ => none
  | _ => none
theorem g1_spec {P : Program} {F : FuncId} {f : P2 → PVal} (h : ∀ a, CallsP P F [ptP a] (f a)) : ∀ ps r, g1 f ps = some r → CallsP P F ps r := by
  intro ps r hg
  unfold g1 at hg
  split at hg
  · split at hg
    · rename_i a ha
      simp only [Option.some.injEq] at hg
      subst hg
      rw [unPt_some ha]
      exact h a
    · cases hg
  · cases hg
theorem g3_spec {P : Program} {F : FuncId} {f : P2 → P2 → P2 → PVal} (h : ∀ a b c, CallsP P F [ptP a, ptP b, ptP c] (f a b c)) : ∀ ps r, g3 f ps = some r → CallsP P F ps r := by
  intro ps r hg
  unfold g3 at hg
  split at hg
  · split at hg
    · rename_i a b c ha hb hc
      simp only [Option.some.injEq] at hg
      subst hg
      rw [unPt_some ha, unPt_some hb, unPt_some hc]
      exact h a b c
    · cases hg
  · cases hg
theorem g4_spec {P : Program} {F : FuncId} {f : P2 → P2 → P2 → P2 → PVal} (h : ∀ a b c d, CallsP P F [ptP a, ptP b, ptP c, ptP d] (f a b c d)) : ∀ ps r, g4 f ps = some r → CallsP P F ps r := by
  intro ps r hg
  unfold g4 at hg
  split at hg
  · split at hg
    · rename_i a b c d ha hb hc hd
      simp only [Option.some.injEq] at hg
      subst hg
      rw [unPt_some ha, unPt_some hb, unPt_some hc, unPt_some hd]
      exact h a b c d
    · cases hg
  · cases hg
abbrev mode0 : FuncId → Nat := fun _ => 0
noncomputable def cf (L : Lib Try.prog) : Cfg := cfgOf lives mode0 L
theorem cf_ok (L : Lib Try.prog) : CfgOk (cf L) := cfgOf_ok lives mode0 L
theorem allOb_nil : allOb [] := fun p h => by simp at h
theorem allOb_cons {p : Prop} {ps : List Prop} (h : p) (k : allOb ps) : allOb (p :: ps) := fun q hq => by
  rcases List.mem_cons.1 hq with rfl | hq
  · exact h
  · exact k q hq

/-! ## pt -/
noncomputable def L0 : Lib Try.prog := Lib.none _
theorem near_calls (a : P2) : CallsP Try.prog 56 [ptP a] (ptP (nearP a)) := by
  have h := callP_ok (cf_ok L0) (k := 0) (hs := []) (f := 56) (ps := [ptP a]) (bs := []) (ls := []) (out := none)
    (r := ptP (if 1048576 < (if -1048576 > a.1 then -1048576 else a.1) then (1048576 : Int) else (if -1048576 > a.1 then -1048576 else a.1), if 1048576 < (if -1048576 > a.2 then -1048576 else a.2) then (1048576 : Int) else (if -1048576 > a.2 then -1048576 else a.2))) (ob := []) (by kernel_rfl) allOb_nil
  rw [near1_go, near1_go] at h
  exact h
noncomputable def L1 : Lib Try.prog := L0.add 56 (g1 fun a => ptP (nearP a)) (enters_of named_prog Try.func56 (by kernel_rfl)) (g1_spec near_calls)
theorem area2_calls (a b c : P2) : CallsP Try.prog 75 [ptP a, ptP b, ptP c] (iP (area (nearP a) (nearP b) (nearP c))) := by
  have h := callP_ok (cf_ok L1) (k := 0) (hs := []) (f := 75) (ps := [ptP a, ptP b, ptP c]) (bs := []) (ls := []) (out := none)
    (r := iP (IntKind.i64.wrap (IntKind.i64.wrap (IntKind.i64.wrap ((nearP b).1 - (nearP a).1) * IntKind.i64.wrap ((nearP c).2 - (nearP a).2)) - IntKind.i64.wrap (IntKind.i64.wrap ((nearP b).2 - (nearP a).2) * IntKind.i64.wrap ((nearP c).1 - (nearP a).1))))) (ob := []) (by kernel_rfl) allOb_nil
  rw [wrap_area] at h
  exact h
noncomputable def L2 : Lib Try.prog := L1.add 75 (g3 fun a b c => iP (area (nearP a) (nearP b) (nearP c))) (enters_of named_prog Try.func75 (by kernel_rfl)) (g3_spec area2_calls)
def gi2 (f : Int → Int → PVal) : List PVal → Option PVal
  | [.v (.int .i64 x), .v (.int .i64 y)] => some (f x y)
  | _ => none
theorem gi2_spec {P : Program} {F : FuncId} {f : Int → Int → PVal} (h : ∀ a b, CallsP P F [iP a, iP b] (f a b)) : ∀ ps r, gi2 f ps = some r → CallsP P F ps r := by
  intro ps r hg
  unfold gi2 at hg
  split at hg
  · simp only [Option.some.injEq] at hg
    subst hg
    exact h _ _
  · cases hg
theorem compare_calls (x y : Int) : CallsP Try.prog 74 [iP x, iP y] (iP (cmpI x y)) := by
  have key := fun (bs : List Bool) (r : PVal) (ob : List Prop) (h : callP (cf L2) (evalF (cf L2) 1) 1 [] 74 [iP x, iP y] bs [] none = .ok (r, ob)) (hp : allOb ob) => callP_ok (cf_ok L2) h hp
  unfold cmpI
  by_cases h1 : x < y
  · rw [if_pos h1]
    exact key [false, false, true] (iP (-1)) [decide (x < y) = true, (y != y) = false, (x != x) = false] (by kernel_rfl) (by simp [allOb, h1])
  · rw [if_neg h1]
    by_cases h2 : y < x
    · rw [if_pos h2]
      exact key [false, false, false, true] (iP 1) [decide (x > y) = true, decide (x < y) = false, (y != y) = false, (x != x) = false] (by kernel_rfl) (by simp [allOb, h2, Int.not_lt.1 h1])
    · rw [if_neg h2]
      exact key [false, false, false, false] (iP 0) [decide (x > y) = false, decide (x < y) = false, (y != y) = false, (x != x) = false] (by kernel_rfl) (by simp [allOb, Int.not_lt.1 h2, Int.not_lt.1 h1])
noncomputable def L3 : Lib Try.prog := L2.add 74 (gi2 fun x y => iP (cmpI x y)) (enters_of named_prog Try.func74 (by kernel_rfl)) (gi2_spec compare_calls)
theorem turn_calls (a b c : P2) : CallsP Try.prog 48 [ptP a, ptP b, ptP c] (iP (turn a b c)) :=
  callP_ok (cf_ok L3) (k := 0) (hs := []) (f := 48) (ps := [ptP a, ptP b, ptP c]) (bs := []) (ls := []) (out := none) (r := iP (cmpI (area (nearP a) (nearP b) (nearP c)) 0)) (ob := []) (by kernel_rfl) allOb_nil
noncomputable def L4 : Lib Try.prog := L3.add 48 (g3 fun a b c => iP (turn a b c)) (enters_of named_prog Try.func48 (by kernel_rfl)) (g3_spec turn_calls)
theorem on_calls (a b p : P2) : CallsP Try.prog 54 [ptP a, ptP b, ptP p] (bP (on a b p)) := by
  have key := fun (bs : List Bool) (r : PVal) (ob : List Prop) (h : callP (cf L4) (evalF (cf L4) 0) 0 [] 54 [ptP a, ptP b, ptP p] bs [] none = .ok (r, ob)) (hp : allOb ob) => callP_ok (cf_ok L4) h hp
  have e : on a b p = ((turn (nearP a) (nearP b) (nearP p) == 0) && onX (nearP a) (nearP b) (nearP p) && onX2 (nearP a) (nearP b) (nearP p) && onY (nearP a) (nearP b) (nearP p) && onY2 (nearP a) (nearP b) (nearP p)) := by
    rw [turn_near]; exact onR_eq _ _ _
  rw [e]
  cases h1 : (turn (nearP a) (nearP b) (nearP p) == 0) with
  | false => exact key [false, false, false, false] (bP false) [false = false, false = false, false = false, (turn (nearP a) (nearP b) (nearP p) == 0) = false] (by kernel_rfl) (by simp [allOb, h1])
  | true =>
    cases h2 : onX (nearP a) (nearP b) (nearP p) with
    | false => exact key [true, false, false, false] (bP false) [false = false, false = false, onX (nearP a) (nearP b) (nearP p) = false, (turn (nearP a) (nearP b) (nearP p) == 0) = true] (by kernel_rfl) (by simp [allOb, h1, h2])
    | true =>
      cases h3 : onX2 (nearP a) (nearP b) (nearP p) with
      | false => exact key [true, true, false, false] (bP false) [false = false, onX2 (nearP a) (nearP b) (nearP p) = false, onX (nearP a) (nearP b) (nearP p) = true, (turn (nearP a) (nearP b) (nearP p) == 0) = true] (by kernel_rfl) (by simp [allOb, h1, h2, h3])
      | true =>
        cases h4 : onY (nearP a) (nearP b) (nearP p) with
        | false => exact key [true, true, true, false] (bP false) [onY (nearP a) (nearP b) (nearP p) = false, onX2 (nearP a) (nearP b) (nearP p) = true, onX (nearP a) (nearP b) (nearP p) = true, (turn (nearP a) (nearP b) (nearP p) == 0) = true] (by kernel_rfl) (by simp [allOb, h1, h2, h3, h4])
        | true => exact key [true, true, true, true] (bP (onY2 (nearP a) (nearP b) (nearP p))) [onY (nearP a) (nearP b) (nearP p) = true, onX2 (nearP a) (nearP b) (nearP p) = true, onX (nearP a) (nearP b) (nearP p) = true, (turn (nearP a) (nearP b) (nearP p) == 0) = true] (by kernel_rfl) (by simp [allOb, h1, h2, h3, h4])
noncomputable def L5 : Lib Try.prog := L4.add 54 (g3 fun a b c => bP (on a b c)) (enters_of named_prog Try.func54 (by kernel_rfl)) (g3_spec on_calls)
end Go.Proofs.Ytmopbegmdegooaa
