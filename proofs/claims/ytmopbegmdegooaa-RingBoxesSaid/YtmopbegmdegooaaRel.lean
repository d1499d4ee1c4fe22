/- seg.Relate, and what the laws of two segments ask beside. -/
import Derived.Test.YtmopbegmdegooaaSeg3
namespace Go.Proofs.Ytmopbegmdegooaa
open Go Vm M
set_option linter.unusedVariables false
set_option linter.unusedSimpArgs false
def relate (a b c d : P2) : Int :=
  if 1 < (endsR a b c d).1 then 4 else if (endsR a b c d).2.1 = 1 then 1 else if (endsR a b c d).1 = 1 then 2
  else if turn a b c * turn a b d < 0 ∧ turn c d a * turn c d b < 0 then 3 else 0
theorem turn_bound (a b c : P2) : -1 ≤ turn a b c ∧ turn a b c ≤ 1 := by
  unfold turn turnR sgn
  split
  · omega
  · split <;> omega
theorem wrap_turns (a b c d e f : P2) : IntKind.i64.wrap (turn a b c * turn d e f) = turn a b c * turn d e f := by
  have h1 := turn_bound a b c
  have h2 := turn_bound d e f
  have := mul_bound (A := 1) (B := 1) h1.1 h1.2 h2.1 h2.2
  exact IntWalk.i64_in _ (by omega)
theorem relate_calls (a b c d : P2) : CallsP Try.prog 18 [ptP a, ptP b, ptP c, ptP d] (iP (relate a b c d)) := by
  have key := fun (bs : List Bool) (r : PVal) (ob : List Prop) (h : callP (cf L6) (evalF (cf L6) 0) 0 [] 18 [ptP a, ptP b, ptP c, ptP d] bs [] none = .ok (r, ob)) (hp : allOb ob) => callP_ok (cf_ok L6) h hp
  unfold relate
  by_cases h1 : 1 < (endsR a b c d).1
  · rw [if_pos h1]
    exact key [true] (iP 4) [decide ((endsR a b c d).1 > 1) = true] (by kernel_rfl) (allOb_cons (decide_eq_true h1) allOb_nil)
  · rw [if_neg h1]
    have n1 : decide ((endsR a b c d).1 > 1) = false := decide_eq_false h1
    by_cases h2 : (endsR a b c d).2.1 = 1
    · rw [if_pos h2]
      exact key [false, true] (iP 1) [((endsR a b c d).2.1 == 1) = true, decide ((endsR a b c d).1 > 1) = false] (by kernel_rfl) (allOb_cons (by simp [h2]) (allOb_cons n1 allOb_nil))
    · rw [if_neg h2]
      have n2 : ((endsR a b c d).2.1 == 1) = false := by simpa using h2
      by_cases h3 : (endsR a b c d).1 = 1
      · rw [if_pos h3]
        exact key [false, false, true] (iP 2) [((endsR a b c d).1 == 1) = true, ((endsR a b c d).2.1 == 1) = false, decide ((endsR a b c d).1 > 1) = false] (by kernel_rfl) (allOb_cons (by simp [h3]) (allOb_cons n2 (allOb_cons n1 allOb_nil)))
      · rw [if_neg h3]
        have n3 : ((endsR a b c d).1 == 1) = false := by simpa using h3
        by_cases h4 : turn a b c * turn a b d < 0
        · have p4 : decide (IntKind.i64.wrap (turn a b c * turn a b d) < 0) = true := by rw [wrap_turns]; exact decide_eq_true h4
          by_cases h5 : turn c d a * turn c d b < 0
          · rw [if_pos ⟨h4, h5⟩]
            have p5 : decide (IntKind.i64.wrap (turn c d a * turn c d b) < 0) = true := by rw [wrap_turns]; exact decide_eq_true h5
            exact key [false, false, false, true, true] (iP 3) [decide (IntKind.i64.wrap (turn c d a * turn c d b) < 0) = true, decide (IntKind.i64.wrap (turn a b c * turn a b d) < 0) = true, ((endsR a b c d).1 == 1) = false, ((endsR a b c d).2.1 == 1) = false, decide ((endsR a b c d).1 > 1) = false] (by kernel_rfl)
              (allOb_cons p5 (allOb_cons p4 (allOb_cons n3 (allOb_cons n2 (allOb_cons n1 allOb_nil)))))
          · rw [if_neg (fun h => h5 h.2)]
            have p5 : decide (IntKind.i64.wrap (turn c d a * turn c d b) < 0) = false := by rw [wrap_turns]; exact decide_eq_false h5
            exact key [false, false, false, true, false] (iP 0) [decide (IntKind.i64.wrap (turn c d a * turn c d b) < 0) = false, decide (IntKind.i64.wrap (turn a b c * turn a b d) < 0) = true, ((endsR a b c d).1 == 1) = false, ((endsR a b c d).2.1 == 1) = false, decide ((endsR a b c d).1 > 1) = false] (by kernel_rfl)
              (allOb_cons p5 (allOb_cons p4 (allOb_cons n3 (allOb_cons n2 (allOb_cons n1 allOb_nil)))))
        · rw [if_neg (fun h => h4 h.1)]
          have p4 : decide (IntKind.i64.wrap (turn a b c * turn a b d) < 0) = false := by rw [wrap_turns]; exact decide_eq_false h4
          exact key [false, false, false, false, false] (iP 0) [false = false, decide (IntKind.i64.wrap (turn a b c * turn a b d) < 0) = false, ((endsR a b c d).1 == 1) = false, ((endsR a b c d).2.1 == 1) = false, decide ((endsR a b c d).1 > 1) = false] (by kernel_rfl)
            (allOb_cons rfl (allOb_cons p4 (allOb_cons n3 (allOb_cons n2 (allOb_cons n1 allOb_nil)))))
noncomputable def L7 : Lib Try.prog := L6.add 18 (g4 fun a b c d => iP (relate a b c d)) (enters_of named_prog Try.func18 (by kernel_rfl)) (g4_spec relate_calls)
end Go.Proofs.Ytmopbegmdegooaa
