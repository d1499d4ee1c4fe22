/- What the document's answers on points are: told in plain numbers, each from its code. -/
import Derived.Test.YtmopbegmdegooaaGen
namespace Go.Proofs.Ytmopbegmdegooaa
open Go Vm M
set_option linter.unusedVariables false
set_option linter.unusedSimpArgs false
def rnearF (x : Int) : PVal :=
  PVal.v (Value.int IntKind.i64 (if 1048576 < if -1048576 > x then -1048576 else x then 1048576 else if -1048576 > x then -1048576 else x))
theorem rnearF_calls (x : Int) : CallsP Try.prog 76 [iP x] (rnearF x) := by
  have key := fun (bs : List Bool) (r : PVal) (ob : List Prop) (h : callP (cf L7) (evalF (cf L7) 0) 0 [] 76 [iP x] bs [] (none) = .ok (r, ob)) (hp : allOb ob) => callP_ok (cf_ok L7) h hp
  unfold rnearF
  exact key [] (PVal.v (Value.int IntKind.i64 (if 1048576 < if -1048576 > x then -1048576 else x then 1048576 else if -1048576 > x then -1048576 else x))) _ (by kernel_rfl) allOb_nil
theorem rnear_calls (x : Int) : CallsP Try.prog 76 [iP x] (iP (near1 x)) := by
  have h := rnearF_calls x
  unfold rnearF at h
  rw [near1_go] at h
  exact h
noncomputable def N1 : Lib Try.prog := L7.add 76 (gi1 fun x => iP (near1 x)) (enters_of named_prog Try.func76 (by kernel_rfl)) (gi1_spec rnear_calls)
def rcleanF (p : P2) : PVal :=
  PVal.agg [PVal.v (Value.int IntKind.i64 (near1 (Prod.fst p))), PVal.v (Value.int IntKind.i64 (near1 (Prod.snd p)))]
theorem rcleanF_calls (p : P2) : CallsP Try.prog 50 [ptP p] (rcleanF p) := by
  have key := fun (bs : List Bool) (r : PVal) (ob : List Prop) (h : callP (cf N1) (evalF (cf N1) 0) 0 [] 50 [ptP p] bs [] (none) = .ok (r, ob)) (hp : allOb ob) => callP_ok (cf_ok N1) h hp
  unfold rcleanF
  exact key [] (PVal.agg [PVal.v (Value.int IntKind.i64 (near1 (Prod.fst p))), PVal.v (Value.int IntKind.i64 (near1 (Prod.snd p)))]) _ (by kernel_rfl) allOb_nil
theorem rclean_calls (p : P2) : CallsP Try.prog 50 [ptP p] (ptP (nearP p)) := rcleanF_calls p
noncomputable def N2 : Lib Try.prog := N1.add 50 (g1 fun p => ptP (nearP p)) (enters_of named_prog Try.func50 (by kernel_rfl)) (g1_spec rclean_calls)
def rsignF (x : Int) : PVal :=
  (bif decide (x > 0) then PVal.v (Value.int IntKind.i64 1) else (bif decide (x < 0) then PVal.v (Value.int IntKind.i64 (-1)) else PVal.v (Value.int IntKind.i64 0)))
theorem rsignF_calls (x : Int) : CallsP Try.prog 77 [iP x] (rsignF x) := by
  have key := fun (bs : List Bool) (r : PVal) (ob : List Prop) (h : callP (cf N2) (evalF (cf N2) 0) 0 [] 77 [iP x] bs [] (none) = .ok (r, ob)) (hp : allOb ob) => callP_ok (cf_ok N2) h hp
  unfold rsignF
  exact bif_case (P := fun r => CallsP Try.prog 77 [iP x] r)
    (fun h0 => key [true] (PVal.v (Value.int IntKind.i64 1)) _ (by kernel_rfl) (allOb_cons h0 allOb_nil))
    (fun h0 => bif_case (P := fun r => CallsP Try.prog 77 [iP x] r)
     (fun h1 => key [false, true] (PVal.v (Value.int IntKind.i64 (-1))) _ (by kernel_rfl) (allOb_cons h1 (allOb_cons h0 allOb_nil)))
     (fun h1 => key [false, false] (PVal.v (Value.int IntKind.i64 0)) _ (by kernel_rfl) (allOb_cons h1 (allOb_cons h0 allOb_nil))))
theorem rsign_calls (x : Int) : CallsP Try.prog 77 [iP x] (iP (sgn x)) := by
  have h := rsignF_calls x
  have e : rsignF x = iP (sgn x) := by
    unfold rsignF sgn
    by_cases h1 : 0 < x
    · rw [decide_eq_true h1, if_neg (by omega), if_pos h1]; rfl
    · rw [decide_eq_false h1]
      by_cases h2 : x < 0
      · rw [decide_eq_true h2, if_pos h2]; rfl
      · rw [decide_eq_false h2, if_neg h2, if_neg h1]; rfl
  rw [e] at h
  exact h
noncomputable def N3 : Lib Try.prog := N2.add 77 (gi1 fun x => iP (sgn x)) (enters_of named_prog Try.func77 (by kernel_rfl)) (gi1_spec rsign_calls)
def rareaF (a : P2) (b : P2) (c : P2) : PVal :=
  PVal.v (Value.int IntKind.i64 (IntKind.wrap IntKind.i64 (IntKind.wrap IntKind.i64 (IntKind.wrap IntKind.i64 (Prod.fst (nearP (Prod.fst b, Prod.snd b)) - Prod.fst (nearP (Prod.fst a, Prod.snd a))) * IntKind.wrap IntKind.i64 (Prod.snd (nearP (Prod.fst c, Prod.snd c)) - Prod.snd (nearP (Prod.fst a, Prod.snd a)))) - IntKind.wrap IntKind.i64 (IntKind.wrap IntKind.i64 (Prod.fst (nearP (Prod.fst c, Prod.snd c)) - Prod.fst (nearP (Prod.fst a, Prod.snd a))) * IntKind.wrap IntKind.i64 (Prod.snd (nearP (Prod.fst b, Prod.snd b)) - Prod.snd (nearP (Prod.fst a, Prod.snd a)))))))
theorem rareaF_calls (a : P2) (b : P2) (c : P2) : CallsP Try.prog 78 [ptP a, ptP b, ptP c] (rareaF a b c) := by
  have key := fun (bs : List Bool) (r : PVal) (ob : List Prop) (h : callP (cf N3) (evalF (cf N3) 0) 0 [] 78 [ptP a, ptP b, ptP c] bs [] (none) = .ok (r, ob)) (hp : allOb ob) => callP_ok (cf_ok N3) h hp
  unfold rareaF
  exact key [] (PVal.v (Value.int IntKind.i64 (IntKind.wrap IntKind.i64 (IntKind.wrap IntKind.i64 (IntKind.wrap IntKind.i64 (Prod.fst (nearP (Prod.fst b, Prod.snd b)) - Prod.fst (nearP (Prod.fst a, Prod.snd a))) * IntKind.wrap IntKind.i64 (Prod.snd (nearP (Prod.fst c, Prod.snd c)) - Prod.snd (nearP (Prod.fst a, Prod.snd a)))) - IntKind.wrap IntKind.i64 (IntKind.wrap IntKind.i64 (Prod.fst (nearP (Prod.fst c, Prod.snd c)) - Prod.fst (nearP (Prod.fst a, Prod.snd a))) * IntKind.wrap IntKind.i64 (Prod.snd (nearP (Prod.fst b, Prod.snd b)) - Prod.snd (nearP (Prod.fst a, Prod.snd a)))))))) _ (by kernel_rfl) allOb_nil
theorem rarea_calls (a b c : P2) : CallsP Try.prog 78 [ptP a, ptP b, ptP c] (iP (area (nearP a) (nearP b) (nearP c))) := by
  have h := rareaF_calls a b c
  have e : rareaF a b c = iP (area (nearP a) (nearP b) (nearP c)) := by
    unfold rareaF
    rw [Int.mul_comm (IntKind.i64.wrap ((nearP c).1 - (nearP a).1)), wrap_area]
    rfl
  rw [e] at h
  exact h
noncomputable def N4 : Lib Try.prog := N3.add 78 (g3 fun a b c => iP (area (nearP a) (nearP b) (nearP c))) (enters_of named_prog Try.func78 (by kernel_rfl)) (g3_spec rarea_calls)
def rturnF (a : P2) (b : P2) (c : P2) : PVal :=
  PVal.v (Value.int IntKind.i64 (sgn (area (nearP (Prod.fst a, Prod.snd a)) (nearP (Prod.fst b, Prod.snd b)) (nearP (Prod.fst c, Prod.snd c)))))
theorem rturnF_calls (a : P2) (b : P2) (c : P2) : CallsP Try.prog 51 [ptP a, ptP b, ptP c] (rturnF a b c) := by
  have key := fun (bs : List Bool) (r : PVal) (ob : List Prop) (h : callP (cf N4) (evalF (cf N4) 0) 0 [] 51 [ptP a, ptP b, ptP c] bs [] (none) = .ok (r, ob)) (hp : allOb ob) => callP_ok (cf_ok N4) h hp
  unfold rturnF
  exact key [] (PVal.v (Value.int IntKind.i64 (sgn (area (nearP (Prod.fst a, Prod.snd a)) (nearP (Prod.fst b, Prod.snd b)) (nearP (Prod.fst c, Prod.snd c)))))) _ (by kernel_rfl) allOb_nil
theorem rturn_calls (a b c : P2) : CallsP Try.prog 51 [ptP a, ptP b, ptP c] (iP (turn a b c)) := rturnF_calls a b c
noncomputable def N5 : Lib Try.prog := N4.add 51 (g3 fun a b c => iP (turn a b c)) (enters_of named_prog Try.func51 (by kernel_rfl)) (g3_spec rturn_calls)
def rbetwF (x : Int) (a : Int) (b : Int) : PVal :=
  (bif decide (x ≥ if b < a then b else a) then PVal.v (Value.bool (decide (x ≤ if b > a then b else a))) else PVal.v (Value.bool false))
theorem rbetwF_calls (x : Int) (a : Int) (b : Int) : CallsP Try.prog 52 [iP x, iP a, iP b] (rbetwF x a b) := by
  have key := fun (bs : List Bool) (r : PVal) (ob : List Prop) (h : callP (cf N5) (evalF (cf N5) 0) 0 [] 52 [iP x, iP a, iP b] bs [] (none) = .ok (r, ob)) (hp : allOb ob) => callP_ok (cf_ok N5) h hp
  unfold rbetwF
  exact bif_case (P := fun r => CallsP Try.prog 52 [iP x, iP a, iP b] r)
    (fun h0 => key [true] (PVal.v (Value.bool (decide (x ≤ if b > a then b else a)))) _ (by kernel_rfl) (allOb_cons h0 allOb_nil))
    (fun h0 => key [false] (PVal.v (Value.bool false)) _ (by kernel_rfl) (allOb_cons h0 allOb_nil))
def betwB (x a b : Int) : Bool := decide (min a b ≤ x) && decide (x ≤ max a b)
theorem rbetw_calls (x a b : Int) : CallsP Try.prog 52 [iP x, iP a, iP b] (bP (betwB x a b)) := by
  have h := rbetwF_calls x a b
  have e : rbetwF x a b = bP (betwB x a b) := by
    unfold rbetwF betwB
    have e1 : decide (x ≥ if b < a then b else a) = decide (min a b ≤ x) := by congr 1; apply propext; split <;> omega
    have e2 : decide (x ≤ if b > a then b else a) = decide (x ≤ max a b) := by congr 1; apply propext; split <;> omega
    rw [e1, e2]
    cases decide (min a b ≤ x) <;> rfl
  rw [e] at h
  exact h
noncomputable def N6 : Lib Try.prog := N5.add 52 (gi3 fun x a b => bP (betwB x a b)) (enters_of named_prog Try.func52 (by kernel_rfl)) (gi3_spec rbetw_calls)
def ronF (a : P2) (b : P2) (p : P2) : PVal :=
  (bif turn (Prod.fst (nearP (Prod.fst a, Prod.snd a)), Prod.snd (nearP (Prod.fst a, Prod.snd a))) (Prod.fst (nearP (Prod.fst b, Prod.snd b)), Prod.snd (nearP (Prod.fst b, Prod.snd b))) (Prod.fst (nearP (Prod.fst p, Prod.snd p)), Prod.snd (nearP (Prod.fst p, Prod.snd p))) == 0 then (bif betwB (Prod.fst (nearP (Prod.fst p, Prod.snd p))) (Prod.fst (nearP (Prod.fst a, Prod.snd a))) (Prod.fst (nearP (Prod.fst b, Prod.snd b))) then PVal.v (Value.bool (betwB (Prod.snd (nearP (Prod.fst p, Prod.snd p))) (Prod.snd (nearP (Prod.fst a, Prod.snd a))) (Prod.snd (nearP (Prod.fst b, Prod.snd b))))) else PVal.v (Value.bool false)) else PVal.v (Value.bool false))
theorem ronF_calls (a : P2) (b : P2) (p : P2) : CallsP Try.prog 20 [ptP a, ptP b, ptP p] (ronF a b p) := by
  have key := fun (bs : List Bool) (r : PVal) (ob : List Prop) (h : callP (cf N6) (evalF (cf N6) 0) 0 [] 20 [ptP a, ptP b, ptP p] bs [] (none) = .ok (r, ob)) (hp : allOb ob) => callP_ok (cf_ok N6) h hp
  unfold ronF
  exact bif_case (P := fun r => CallsP Try.prog 20 [ptP a, ptP b, ptP p] r)
    (fun h0 => bif_case (P := fun r => CallsP Try.prog 20 [ptP a, ptP b, ptP p] r)
     (fun h1 => key [true, true] (PVal.v (Value.bool (betwB (Prod.snd (nearP (Prod.fst p, Prod.snd p))) (Prod.snd (nearP (Prod.fst a, Prod.snd a))) (Prod.snd (nearP (Prod.fst b, Prod.snd b)))))) _ (by kernel_rfl) (allOb_cons h1 (allOb_cons h0 allOb_nil)))
     (fun h1 => key [true, false] (PVal.v (Value.bool false)) _ (by kernel_rfl) (allOb_cons h1 (allOb_cons h0 allOb_nil))))
    (fun h0 => key [false, false] (PVal.v (Value.bool false)) _ (by kernel_rfl) (allOb_cons lit_f (allOb_cons h0 allOb_nil)))
theorem ron_calls (a b p : P2) : CallsP Try.prog 20 [ptP a, ptP b, ptP p] (bP (on a b p)) := by
  have h := ronF_calls a b p
  have e : ronF a b p = bP (on a b p) := by
    unfold ronF on onR
    rw [turn_near]
    unfold betwB turn
    cases (turnR (nearP a) (nearP b) (nearP p) == 0) <;> simp only [cond_true, cond_false, Bool.true_and, Bool.false_and, Bool.and_assoc]
    · rfl
    · cases decide (min (nearP a).1 (nearP b).1 ≤ (nearP p).1) <;> cases decide ((nearP p).1 ≤ max (nearP a).1 (nearP b).1) <;> rfl
  rw [e] at h
  exact h
noncomputable def N7 : Lib Try.prog := N6.add 20 (g3 fun a b c => bP (on a b c)) (enters_of named_prog Try.func20 (by kernel_rfl)) (g3_spec ron_calls)
def rokF (p : P2) : PVal :=
  (bif decide (Prod.fst p ≥ -1048576) then (bif decide (Prod.fst p ≤ 1048576) then (bif decide (Prod.snd p ≥ -1048576) then PVal.v (Value.bool (decide (Prod.snd p ≤ 1048576))) else PVal.v (Value.bool false)) else PVal.v (Value.bool false)) else PVal.v (Value.bool false))
theorem rokF_calls (p : P2) : CallsP Try.prog 25 [ptP p] (rokF p) := by
  have key := fun (bs : List Bool) (r : PVal) (ob : List Prop) (h : callP (cf N7) (evalF (cf N7) 0) 0 [] 25 [ptP p] bs [] (none) = .ok (r, ob)) (hp : allOb ob) => callP_ok (cf_ok N7) h hp
  unfold rokF
  exact bif_case (P := fun r => CallsP Try.prog 25 [ptP p] r)
    (fun h0 => bif_case (P := fun r => CallsP Try.prog 25 [ptP p] r)
     (fun h1 => bif_case (P := fun r => CallsP Try.prog 25 [ptP p] r)
      (fun h2 => key [true, true, true] (PVal.v (Value.bool (decide (Prod.snd p ≤ 1048576)))) _ (by kernel_rfl) (allOb_cons h2 (allOb_cons h1 (allOb_cons h0 allOb_nil))))
      (fun h2 => key [true, true, false] (PVal.v (Value.bool false)) _ (by kernel_rfl) (allOb_cons h2 (allOb_cons h1 (allOb_cons h0 allOb_nil)))))
     (fun h1 => key [true, false, false] (PVal.v (Value.bool false)) _ (by kernel_rfl) (allOb_cons lit_f (allOb_cons h1 (allOb_cons h0 allOb_nil)))))
    (fun h0 => key [false, false, false] (PVal.v (Value.bool false)) _ (by kernel_rfl) (allOb_cons lit_f (allOb_cons lit_f (allOb_cons h0 allOb_nil))))
def okP (p : P2) : Bool := decide (-1048576 ≤ p.1) && decide (p.1 ≤ 1048576) && decide (-1048576 ≤ p.2) && decide (p.2 ≤ 1048576)
theorem rok_calls (p : P2) : CallsP Try.prog 25 [ptP p] (bP (okP p)) := by
  have h := rokF_calls p
  have e : rokF p = bP (okP p) := by
    unfold rokF okP
    simp only [GE.ge]
    cases decide (-1048576 ≤ p.1) <;> cases decide (p.1 ≤ 1048576) <;> cases decide (-1048576 ≤ p.2) <;> rfl
  rw [e] at h
  exact h
noncomputable def N8 : Lib Try.prog := N7.add 25 (g1 fun p => bP (okP p)) (enters_of named_prog Try.func25 (by kernel_rfl)) (g1_spec rok_calls)
end Go.Proofs.Ytmopbegmdegooaa
