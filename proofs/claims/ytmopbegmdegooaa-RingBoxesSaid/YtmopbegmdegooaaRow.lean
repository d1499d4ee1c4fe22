/- Rows of points and of numbers in the abstract machine. -/
import Derived.Test.YtmopbegmdegooaaGeo
namespace Go.Proofs.Ytmopbegmdegooaa
open Go Vm M
set_option linter.unusedVariables false
set_option linter.unusedSimpArgs false
def ptA (p : P2) : AVal := .agg [.v (.int .i64 p.1), .v (.int .i64 p.2)]
def iA (n : Int) : AVal := .v (.int .i64 n)
def bA (b : Bool) : AVal := .v (.bool b)
def jk (n : Nat) : List AVal := List.replicate n .junk
def cellsP (p : P2) : List AVal := [.v (.int .i64 p.1), .v (.int .i64 p.2)]
def flatP : List P2 → List AVal
  | [] => []
  | p :: ps => .v (.int .i64 p.1) :: .v (.int .i64 p.2) :: flatP ps
theorem flatP_length : ∀ ps : List P2, (flatP ps).length = ps.length * 2
  | [] => rfl
  | p :: ps => by simp [flatP, flatP_length ps]; omega
theorem flatP_plain : ∀ ps : List P2, (flatP ps).all plainV = true
  | [] => rfl
  | p :: ps => by simp [flatP, plainV, flatP_plain ps]
theorem flatP_append : ∀ (ps qs : List P2), flatP (ps ++ qs) = flatP ps ++ flatP qs
  | [], qs => rfl
  | p :: ps, qs => by simp [flatP, flatP_append ps qs]
theorem flatP_drop : ∀ (ps : List P2) (k : Nat), (flatP ps).drop (k * 2) = flatP (ps.drop k)
  | ps, 0 => by simp
  | [], k + 1 => by simp [flatP]
  | p :: ps, k + 1 => by
    rw [show (k + 1) * 2 = k * 2 + 1 + 1 by omega]
    simp only [flatP, List.drop_succ_cons]
    exact flatP_drop ps k
/-- The element at a place. -/
theorem flatP_part {ps : List P2} {k : Nat} {p : P2} (h : ps[k]? = some p) (ha : aggT Try.prog 23 = some true) (hs : szOf Try.prog 23 = some 2) : partA Try.prog 23 (flatP ps) (k * 2) = some (ptA p) := by
  have hk := (List.getElem?_eq_some_iff.1 h).1
  unfold partA
  rw [ha, hs]
  simp only []
  rw [if_pos (by rw [flatP_length]; omega), flatP_drop, List.drop_eq_getElem_cons hk]
  have : ps[k] = p := (List.getElem?_eq_some_iff.1 h).2
  rw [this]
  rfl
theorem agg23 : aggT Try.prog 23 = some true := by kernel_rfl
theorem sz23 : szOf Try.prog 23 = some 2 := by kernel_rfl
def eqB (p q : P2) : Bool := p.1 == q.1 && (p.2 == q.2 && true)
theorem eqB_iff {p q : P2} : eqB p q = true ↔ p = q := by
  obtain ⟨a, b⟩ := p
  obtain ⟨c, d⟩ := q
  simp [eqB]
end Go.Proofs.Ytmopbegmdegooaa
