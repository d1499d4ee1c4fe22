/- Points, areas, turns: plain numbers, no program in sight. -/
import Derived.IntWalk
namespace Go.Proofs.Ytmopbegmdegooaa.M
set_option linter.unusedVariables false
set_option linter.unusedSimpArgs false
abbrev P2 := Int × Int
def near1 (x : Int) : Int := if x < -1048576 then -1048576 else if 1048576 < x then 1048576 else x
def nearP (p : P2) : P2 := (near1 p.1, near1 p.2)
def area (a b c : P2) : Int := (b.1 - a.1) * (c.2 - a.2) - (b.2 - a.2) * (c.1 - a.1)
def sgn (x : Int) : Int := if x < 0 then -1 else if 0 < x then 1 else 0
def turnR (a b c : P2) : Int := sgn (area a b c)
def onR (a b p : P2) : Bool :=
  turnR a b p == 0 && decide (min a.1 b.1 ≤ p.1) && decide (p.1 ≤ max a.1 b.1) && decide (min a.2 b.2 ≤ p.2) && decide (p.2 ≤ max a.2 b.2)
def turn (a b c : P2) : Int := turnR (nearP a) (nearP b) (nearP c)
def on (a b p : P2) : Bool := onR (nearP a) (nearP b) (nearP p)
theorem near1_bound (x : Int) : -1048576 ≤ near1 x ∧ near1 x ≤ 1048576 := by unfold near1; split <;> (try split) <;> omega
theorem near1_id {x : Int} (h : -1048576 ≤ x ∧ x ≤ 1048576) : near1 x = x := by unfold near1; rw [if_neg (by omega), if_neg (by omega)]
theorem near1_near1 (x : Int) : near1 (near1 x) = near1 x := near1_id (near1_bound x)
theorem nearP_nearP (p : P2) : nearP (nearP p) = nearP p := by simp [nearP, near1_near1]
theorem near1_go (x : Int) : (if 1048576 < (if -1048576 > x then -1048576 else x) then (1048576 : Int) else (if -1048576 > x then -1048576 else x)) = near1 x := by
  unfold near1; split <;> split <;> (try split) <;> omega
theorem mul_bound {a b A B : Int} (h1 : -A ≤ a) (h2 : a ≤ A) (h3 : -B ≤ b) (h4 : b ≤ B) : -(A * B) ≤ a * b ∧ a * b ≤ A * B := by
  have hA : 0 ≤ A := by omega
  have hB : 0 ≤ B := by omega
  have e1 : 0 ≤ (A - a) * (B - b) := Int.mul_nonneg (by omega) (by omega)
  have e2 : 0 ≤ (A + a) * (B + b) := Int.mul_nonneg (by omega) (by omega)
  have e3 : 0 ≤ (A - a) * (B + b) := Int.mul_nonneg (by omega) (by omega)
  have e4 : 0 ≤ (A + a) * (B - b) := Int.mul_nonneg (by omega) (by omega)
  simp only [Int.sub_mul, Int.mul_sub, Int.add_mul, Int.mul_add] at e1 e2 e3 e4
  omega
theorem wrap_area (a b c : P2) : IntKind.i64.wrap (IntKind.i64.wrap (IntKind.i64.wrap ((nearP b).1 - (nearP a).1) * IntKind.i64.wrap ((nearP c).2 - (nearP a).2)) - IntKind.i64.wrap (IntKind.i64.wrap ((nearP b).2 - (nearP a).2) * IntKind.i64.wrap ((nearP c).1 - (nearP a).1))) = area (nearP a) (nearP b) (nearP c) := by
  have a1 := near1_bound a.1
  have a2 := near1_bound a.2
  have b1 := near1_bound b.1
  have b2 := near1_bound b.2
  have c1 := near1_bound c.1
  have c2 := near1_bound c.2
  simp only [nearP, area]
  have m1 := mul_bound (a := near1 b.1 - near1 a.1) (b := near1 c.2 - near1 a.2) (A := 2097152) (B := 2097152) (by omega) (by omega) (by omega) (by omega)
  have m2 := mul_bound (a := near1 b.2 - near1 a.2) (b := near1 c.1 - near1 a.1) (A := 2097152) (B := 2097152) (by omega) (by omega) (by omega) (by omega)
  rw [IntWalk.i64_in (near1 b.1 - near1 a.1) (by omega), IntWalk.i64_in (near1 c.2 - near1 a.2) (by omega), IntWalk.i64_in (near1 b.2 - near1 a.2) (by omega), IntWalk.i64_in (near1 c.1 - near1 a.1) (by omega)]
  rw [IntWalk.i64_in ((near1 b.1 - near1 a.1) * (near1 c.2 - near1 a.2)) (by omega), IntWalk.i64_in ((near1 b.2 - near1 a.2) * (near1 c.1 - near1 a.1)) (by omega), IntWalk.i64_in _ (by omega)]
def cmpI (x y : Int) : Int := if x < y then -1 else if y < x then 1 else 0
theorem cmpI_zero (x : Int) : cmpI x 0 = sgn x := rfl
def onX (A B P : P2) : Bool := decide (P.1 ≥ if B.1 < A.1 then B.1 else A.1)
def onX2 (A B P : P2) : Bool := decide (P.1 ≤ if B.1 > A.1 then B.1 else A.1)
def onY (A B P : P2) : Bool := decide (P.2 ≥ if B.2 < A.2 then B.2 else A.2)
def onY2 (A B P : P2) : Bool := decide (P.2 ≤ if B.2 > A.2 then B.2 else A.2)
theorem onR_eq (a b p : P2) : onR a b p = ((turnR a b p == 0) && onX a b p && onX2 a b p && onY a b p && onY2 a b p) := by
  have e1 : onX a b p = decide (min a.1 b.1 ≤ p.1) := by unfold onX; congr 1; apply propext; split <;> omega
  have e2 : onX2 a b p = decide (p.1 ≤ max a.1 b.1) := by unfold onX2; congr 1; apply propext; split <;> omega
  have e3 : onY a b p = decide (min a.2 b.2 ≤ p.2) := by unfold onY; congr 1; apply propext; split <;> omega
  have e4 : onY2 a b p = decide (p.2 ≤ max a.2 b.2) := by unfold onY2; congr 1; apply propext; split <;> omega
  rw [e1, e2, e3, e4, onR]
theorem turn_near (a b c : P2) : turn (nearP a) (nearP b) (nearP c) = turn a b c := by simp only [turn, nearP_nearP]
theorem on_near (a b c : P2) : on (nearP a) (nearP b) (nearP c) = on a b c := by simp only [on, nearP_nearP]
end Go.Proofs.Ytmopbegmdegooaa.M
