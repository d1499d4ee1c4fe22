/- A ray, and what else is asked of points of a ring: told in plain numbers. -/
import Derived.Test.YtmopbegmdegooaaRef9
namespace Go.Proofs.Ytmopbegmdegooaa
open Go Vm M
set_option linter.unusedVariables false
set_option linter.unusedSimpArgs false
def rayF (a : P2) (b : P2) (p : P2) : PVal :=
  (bif decide (Prod.snd (nearP (Prod.fst a, Prod.snd a)) > Prod.snd (nearP (Prod.fst b, Prod.snd b))) then (bif decide (Prod.snd (nearP (Prod.fst a, Prod.snd a)) > Prod.snd (nearP (Prod.fst p, Prod.snd p))) then (bif decide (Prod.snd (nearP (Prod.fst b, Prod.snd b)) ≤ Prod.snd (nearP (Prod.fst p, Prod.snd p))) then PVal.v (Value.bool (decide (turn (Prod.fst (nearP (Prod.fst b, Prod.snd b)), Prod.snd (nearP (Prod.fst b, Prod.snd b))) (Prod.fst (nearP (Prod.fst a, Prod.snd a)), Prod.snd (nearP (Prod.fst a, Prod.snd a))) (Prod.fst (nearP (Prod.fst p, Prod.snd p)), Prod.snd (nearP (Prod.fst p, Prod.snd p))) > 0))) else PVal.v (Value.bool false)) else PVal.v (Value.bool false)) else (bif decide (Prod.snd (nearP (Prod.fst b, Prod.snd b)) > Prod.snd (nearP (Prod.fst p, Prod.snd p))) then (bif decide (Prod.snd (nearP (Prod.fst a, Prod.snd a)) ≤ Prod.snd (nearP (Prod.fst p, Prod.snd p))) then PVal.v (Value.bool (decide (turn (Prod.fst (nearP (Prod.fst a, Prod.snd a)), Prod.snd (nearP (Prod.fst a, Prod.snd a))) (Prod.fst (nearP (Prod.fst b, Prod.snd b)), Prod.snd (nearP (Prod.fst b, Prod.snd b))) (Prod.fst (nearP (Prod.fst p, Prod.snd p)), Prod.snd (nearP (Prod.fst p, Prod.snd p))) > 0))) else PVal.v (Value.bool false)) else PVal.v (Value.bool false)))
theorem rayF_calls (a : P2) (b : P2) (p : P2) : CallsP Try.prog 55 [ptP a, ptP b, ptP p] (rayF a b p) := by
  have key := fun (bs : List Bool) (r : PVal) (ob : List Prop) (h : callP (cf N8) (evalF (cf N8) 0) 0 [] 55 [ptP a, ptP b, ptP p] bs [] (none) = .ok (r, ob)) (hp : allOb ob) => callP_ok (cf_ok N8) h hp
  unfold rayF
  exact bif_case (P := fun r => CallsP Try.prog 55 [ptP a, ptP b, ptP p] r)
    (fun h0 => bif_case (P := fun r => CallsP Try.prog 55 [ptP a, ptP b, ptP p] r)
     (fun h1 => bif_case (P := fun r => CallsP Try.prog 55 [ptP a, ptP b, ptP p] r)
      (fun h2 => key [true, true, true] (PVal.v (Value.bool (decide (turn (Prod.fst (nearP (Prod.fst b, Prod.snd b)), Prod.snd (nearP (Prod.fst b, Prod.snd b))) (Prod.fst (nearP (Prod.fst a, Prod.snd a)), Prod.snd (nearP (Prod.fst a, Prod.snd a))) (Prod.fst (nearP (Prod.fst p, Prod.snd p)), Prod.snd (nearP (Prod.fst p, Prod.snd p))) > 0)))) _ (by kernel_rfl) (allOb_cons h2 (allOb_cons h1 (allOb_cons h0 allOb_nil))))
      (fun h2 => key [true, true, false] (PVal.v (Value.bool false)) _ (by kernel_rfl) (allOb_cons h2 (allOb_cons h1 (allOb_cons h0 allOb_nil)))))
     (fun h1 => key [true, false, false] (PVal.v (Value.bool false)) _ (by kernel_rfl) (allOb_cons lit_f (allOb_cons h1 (allOb_cons h0 allOb_nil)))))
    (fun h0 => bif_case (P := fun r => CallsP Try.prog 55 [ptP a, ptP b, ptP p] r)
     (fun h1 => bif_case (P := fun r => CallsP Try.prog 55 [ptP a, ptP b, ptP p] r)
      (fun h2 => key [false, true, true] (PVal.v (Value.bool (decide (turn (Prod.fst (nearP (Prod.fst a, Prod.snd a)), Prod.snd (nearP (Prod.fst a, Prod.snd a))) (Prod.fst (nearP (Prod.fst b, Prod.snd b)), Prod.snd (nearP (Prod.fst b, Prod.snd b))) (Prod.fst (nearP (Prod.fst p, Prod.snd p)), Prod.snd (nearP (Prod.fst p, Prod.snd p))) > 0)))) _ (by kernel_rfl) (allOb_cons h2 (allOb_cons h1 (allOb_cons h0 allOb_nil))))
      (fun h2 => key [false, true, false] (PVal.v (Value.bool false)) _ (by kernel_rfl) (allOb_cons h2 (allOb_cons h1 (allOb_cons h0 allOb_nil)))))
     (fun h1 => key [false, false, false] (PVal.v (Value.bool false)) _ (by kernel_rfl) (allOb_cons lit_f (allOb_cons h1 (allOb_cons h0 allOb_nil)))))
def rayR (a b p : P2) : Bool :=
  bif decide (a.2 > b.2) then decide (a.2 > p.2) && decide (b.2 ≤ p.2) && decide (turnR b a p > 0) else decide (b.2 > p.2) && decide (a.2 ≤ p.2) && decide (turnR a b p > 0)
def ray (a b p : P2) : Bool := rayR (nearP a) (nearP b) (nearP p)
theorem ray_calls (a b p : P2) : CallsP Try.prog 55 [ptP a, ptP b, ptP p] (bP (ray a b p)) := by
  have h := rayF_calls a b p
  have e : rayF a b p = bP (ray a b p) := by
    have t1 : ∀ x y z : P2, turn ((nearP x).1, (nearP x).2) ((nearP y).1, (nearP y).2) ((nearP z).1, (nearP z).2) = turnR (nearP x) (nearP y) (nearP z) := fun x y z => turn_near x y z
    unfold rayF ray rayR
    simp only [t1]
    show (bif decide ((nearP a).2 > (nearP b).2) then _ else _) = _
    cases decide ((nearP a).2 > (nearP b).2) with
    | true => cases decide ((nearP a).2 > (nearP p).2) <;> cases decide ((nearP b).2 ≤ (nearP p).2) <;> rfl
    | false => cases decide ((nearP b).2 > (nearP p).2) <;> cases decide ((nearP a).2 ≤ (nearP p).2) <;> rfl
  rw [e] at h
  exact h
noncomputable def N10 : Lib Try.prog := N8.add 55 (g3 fun a b c => bP (ray a b c)) (enters_of named_prog Try.func55 (by kernel_rfl)) (g3_spec ray_calls)
end Go.Proofs.Ytmopbegmdegooaa
