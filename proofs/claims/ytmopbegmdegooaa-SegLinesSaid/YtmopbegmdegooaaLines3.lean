/- The law SegLines: true whatever the input. -/
import Derived.Test.YtmopbegmdegooaaLines2
namespace Go.Proofs.Ytmopbegmdegooaa
open Go Vm M
set_option linter.unusedVariables false
set_option linter.unusedSimpArgs false
theorem btI_bound (w i : Int) : 0 ≤ btI w i ∧ btI w i ≤ 15 := by
  unfold btI
  have h : (BitVec.ofInt IntKind.i64.bits (w.fdiv (2 ^ min (IntKind.i64.wrap (4 * i)).toNat IntKind.i64.bits)) &&& BitVec.ofInt IntKind.i64.bits 15).toNat ≤ 15 := by
    rw [BitVec.toNat_and]
    exact Nat.le_trans Nat.and_le_right (by decide)
  rw [IntWalk.i64_in _ (by omega)]
  omega
theorem lnP_eq {w x y : Int} (hx : -50 < x ∧ x < 50) (hy : -50 < y ∧ y < 50) (i : Int) : lnP w x y i = (btI w i * x, btI w i * y) := by
  have hb := btI_bound w i
  have m1 := mul_bound (a := btI w i) (b := x) (A := 15) (B := 50) (by omega) (by omega) (by omega) (by omega)
  have m2 := mul_bound (a := btI w i) (b := y) (A := 15) (B := 50) (by omega) (by omega) (by omega) (by omega)
  unfold lnP
  rw [IntWalk.i64_in _ (by omega), IntWalk.i64_in _ (by omega)]
theorem loI_eq (a b c d : Int) : loI a b c d = max (min a b) (min c d) := by
  unfold loI mxI mnI
  split <;> split <;> split <;> omega
theorem hiI_eq (a b c d : Int) : hiI a b c d = min (max a b) (max c d) := by
  unfold hiI mxI mnI
  split <;> split <;> split <;> omega
theorem lines_told {w x y : Int} (hxy : x ≠ 0 ∨ y ≠ 0) (hx : -50 < x ∧ x < 50) (hy : -50 < y ∧ y < 50) : relate (lnP w x y 0) (lnP w x y 1) (lnP w x y 2) (lnP w x y 3) = lineWant (btI w 0) (btI w 1) (btI w 2) (btI w 3) := by
  rw [lnP_eq hx hy, lnP_eq hx hy, lnP_eq hx hy, lnP_eq hx hy]
  refine line_told hxy hx hy fun t ht => ?_
  simp only [List.mem_cons, List.not_mem_nil, or_false] at ht
  rcases ht with rfl | rfl | rfl | rfl <;> exact btI_bound w _
/-- The nine ways behind the loop. -/
theorem lines_ways {r t0 t1 t2 t3 : Int} {G : Prop} (hr : r = lineWant t0 t1 t2 t3)
    (w0 : (r == 0) = true → decide (loI t0 t1 t2 t3 > hiI t0 t1 t2 t3) = true → G)
    (w1 : (r == 4) = true → decide (loI t0 t1 t2 t3 < hiI t0 t1 t2 t3) = true → decide (loI t0 t1 t2 t3 > hiI t0 t1 t2 t3) = false → G)
    (w2 : (r == 1) = true → (loI t0 t1 t2 t3 == t2) = true → (loI t0 t1 t2 t3 == t0) = true → decide (loI t0 t1 t2 t3 < hiI t0 t1 t2 t3) = false → decide (loI t0 t1 t2 t3 > hiI t0 t1 t2 t3) = false → G)
    (w3 : (r == 1) = true → (loI t0 t1 t2 t3 == t3) = true → (loI t0 t1 t2 t3 == t2) = false → (loI t0 t1 t2 t3 == t0) = true → decide (loI t0 t1 t2 t3 < hiI t0 t1 t2 t3) = false → decide (loI t0 t1 t2 t3 > hiI t0 t1 t2 t3) = false → G)
    (w4 : (r == 2) = true → (loI t0 t1 t2 t3 == t3) = false → (loI t0 t1 t2 t3 == t2) = false → (loI t0 t1 t2 t3 == t0) = true → decide (loI t0 t1 t2 t3 < hiI t0 t1 t2 t3) = false → decide (loI t0 t1 t2 t3 > hiI t0 t1 t2 t3) = false → G)
    (w5 : (r == 1) = true → (loI t0 t1 t2 t3 == t2) = true → (loI t0 t1 t2 t3 == t1) = true → (loI t0 t1 t2 t3 == t0) = false → decide (loI t0 t1 t2 t3 < hiI t0 t1 t2 t3) = false → decide (loI t0 t1 t2 t3 > hiI t0 t1 t2 t3) = false → G)
    (w6 : (r == 1) = true → (loI t0 t1 t2 t3 == t3) = true → (loI t0 t1 t2 t3 == t2) = false → (loI t0 t1 t2 t3 == t1) = true → (loI t0 t1 t2 t3 == t0) = false → decide (loI t0 t1 t2 t3 < hiI t0 t1 t2 t3) = false → decide (loI t0 t1 t2 t3 > hiI t0 t1 t2 t3) = false → G)
    (w7 : (r == 2) = true → (loI t0 t1 t2 t3 == t3) = false → (loI t0 t1 t2 t3 == t2) = false → (loI t0 t1 t2 t3 == t1) = true → (loI t0 t1 t2 t3 == t0) = false → decide (loI t0 t1 t2 t3 < hiI t0 t1 t2 t3) = false → decide (loI t0 t1 t2 t3 > hiI t0 t1 t2 t3) = false → G)
    (w8 : (r == 2) = true → (loI t0 t1 t2 t3 == t1) = false → (loI t0 t1 t2 t3 == t0) = false → decide (loI t0 t1 t2 t3 < hiI t0 t1 t2 t3) = false → decide (loI t0 t1 t2 t3 > hiI t0 t1 t2 t3) = false → G) : G := by
  unfold lineWant at hr
  rw [← loI_eq, ← hiI_eq] at hr
  generalize loI t0 t1 t2 t3 = lo at *
  generalize hiI t0 t1 t2 t3 = hi at *
  by_cases h1 : hi < lo
  · rw [if_pos h1] at hr
    exact w0 (by simp [hr]) (decide_eq_true h1)
  · rw [if_neg h1] at hr
    have n1 : decide (lo > hi) = false := decide_eq_false h1
    by_cases h2 : lo < hi
    · rw [if_pos h2] at hr
      exact w1 (by simp [hr]) (decide_eq_true h2) n1
    · rw [if_neg h2] at hr
      have n2 : decide (lo < hi) = false := decide_eq_false h2
      by_cases e0 : lo = t0 <;> by_cases e1 : lo = t1 <;> by_cases e2 : lo = t2 <;> by_cases e3 : lo = t3 <;> simp only [e0, e1, e2, e3] at hr <;> simp_all
theorem segLines_calls (w dx dy : Int) : CallsP Try.prog 4 [iP w, iP dx, iP dy] (bP true) := by
  have bx : -50 < dx.tmod 50 ∧ dx.tmod 50 < 50 := by
    have h1 := Int.tmod_lt_of_pos dx (b := 50) (by omega)
    have h2 := Int.tmod_lt_of_pos (-dx) (b := 50) (by omega)
    rw [Int.neg_tmod] at h2
    omega
  have by' : -50 < dy.tmod 50 ∧ dy.tmod 50 < 50 := by
    have h1 := Int.tmod_lt_of_pos dy (b := 50) (by omega)
    have h2 := Int.tmod_lt_of_pos (-dy) (b := 50) (by omega)
    rw [Int.neg_tmod] at h2
    omega
  cases p0 : (dx.tmod 50 == 0) with
  | false =>
    have hn : dx.tmod 50 ≠ 0 := by simpa using p0
    exact lines_ways (lines_told (w := w) (.inl hn) bx by') (fun a b => ln_C0 w dx dy a b p0) (fun a b c => ln_C1 w dx dy a b c p0) (fun a b c d e => ln_C2 w dx dy a b c d e p0) (fun a b c d e f => ln_C3 w dx dy a b c d e f p0) (fun a b c d e f => ln_C4 w dx dy a b c d e f p0)
      (fun a b c d e f => ln_C5 w dx dy a b c d e f p0) (fun a b c d e f g => ln_C6 w dx dy a b c d e f g p0) (fun a b c d e f g => ln_C7 w dx dy a b c d e f g p0) (fun a b c d e => ln_C8 w dx dy a b c d e p0)
  | true =>
    have hx0 : dx.tmod 50 = 0 := by simpa using p0
    cases p1 : (dy.tmod 50 == 0) with
    | true =>
      exact lines_ways (lines_told (w := w) (x := 1) (.inl (by omega)) (by omega) by') (fun a b => ln_A0 w dx dy a b p1 p0) (fun a b c => ln_A1 w dx dy a b c p1 p0) (fun a b c d e => ln_A2 w dx dy a b c d e p1 p0) (fun a b c d e f => ln_A3 w dx dy a b c d e f p1 p0) (fun a b c d e f => ln_A4 w dx dy a b c d e f p1 p0)
        (fun a b c d e f => ln_A5 w dx dy a b c d e f p1 p0) (fun a b c d e f g => ln_A6 w dx dy a b c d e f g p1 p0) (fun a b c d e f g => ln_A7 w dx dy a b c d e f g p1 p0) (fun a b c d e => ln_A8 w dx dy a b c d e p1 p0)
    | false =>
      have hn : dy.tmod 50 ≠ 0 := by simpa using p1
      exact lines_ways (lines_told (w := w) (.inr hn) bx by') (fun a b => ln_B0 w dx dy a b p1 p0) (fun a b c => ln_B1 w dx dy a b c p1 p0) (fun a b c d e => ln_B2 w dx dy a b c d e p1 p0) (fun a b c d e f => ln_B3 w dx dy a b c d e f p1 p0) (fun a b c d e f => ln_B4 w dx dy a b c d e f p1 p0)
        (fun a b c d e f => ln_B5 w dx dy a b c d e f p1 p0) (fun a b c d e f g => ln_B6 w dx dy a b c d e f g p1 p0) (fun a b c d e f g => ln_B7 w dx dy a b c d e f g p1 p0) (fun a b c d e => ln_B8 w dx dy a b c d e p1 p0)
end Go.Proofs.Ytmopbegmdegooaa
