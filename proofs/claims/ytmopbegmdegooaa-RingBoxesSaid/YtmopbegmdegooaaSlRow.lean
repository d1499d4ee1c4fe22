/- Calls that are handed rows of the caller's own. -/
import Derived.Test.YtmopbegmdegooaaSl
namespace Go.Proofs.Ytmopbegmdegooaa
open Go Vm M
set_option linter.unusedVariables false
set_option linter.unusedSimpArgs false
theorem mark_flat (lo n : Nat) : ∀ (ps : List P2) (S : List AObj), (flatP ps).foldl (Vm.mark lo n) S = S
  | [], S => rfl
  | p :: ps, S => by
    simp only [flatP, List.foldl_cons]
    have e : ∀ (x : Int) (S : List AObj), Vm.mark lo n S (.v (.int .i64 x)) = S := fun x S => by cases n <;> rfl
    rw [e, e, mark_flat lo n ps]
theorem mark_row {S : List AObj} {o sz e ep off len n : Nat} {fz : Option Nat} {ps : List P2} (h : S[o]? = some (.row sz e fz (flatP ps))) : Vm.mark 0 (n + 1) S (.row o ep sz off len) = S.set o (.row sz e (some (flatP ps).length) (flatP ps)) := by
  simp only [Vm.mark, h]
  rw [if_pos (Nat.zero_le _), mark_flat]
theorem peek_flat (S : List AObj) (n : Nat) : ∀ ps : List P2, mapO (peek S (n + 1)) (flatP ps) = some (flatPP ps)
  | [] => rfl
  | p :: ps => by simp [flatP, flatPP, mapO, peek, peek_flat S n ps]
theorem peek_row {S : List AObj} {o n : Nat} {ps : List P2} (h : S[o]? = some (.row 2 0 (some (flatP ps).length) (flatP ps))) : peek S (n + 2) (.row o 0 2 0 ps.length) = some (slP ps) := by
  simp only [peek, h]
  rw [if_pos ⟨trivial, trivial, by rw [flatP_length]; omega⟩]
  have e : cutA (flatP ps) 2 0 (0 + ps.length) = flatP ps := by
    unfold cutA
    rw [Nat.zero_mul, List.drop_zero, List.take_of_length_le (by rw [flatP_length]; omega)]
  rw [e, peek_flat]
  rfl
theorem callA_row {c : Cfg} {ev : Ev} {F : FuncId} {S : List AObj} {o : Nat} {fz : Option Nat} {ps : List P2} {r : PVal} {g : List PVal → Option PVal} (h0 : c.givenS F = none) (hm : c.mode F = 0) (hg : c.givenP F = some g)
    (h : S[o]? = some (.row 2 0 fz (flatP ps))) (hr : g [slP ps] = some r) : callA c ev 0 F [.row o 0 2 0 ps.length] S = some (up r, S.set o (.row 2 0 (some (flatP ps).length) (flatP ps))) := by
  have ho := (List.getElem?_eq_some_iff.1 h).1
  refine callA_given h0 hm (mark_row (n := 5) (ep := 0) (off := 0) (len := ps.length) h) ?_ hg hr
  simp only [mapO]
  rw [show deep = 4 + 2 from rfl, peek_row (by rw [List.getElem?_set_self ho])]
theorem callA_rowPt {c : Cfg} {ev : Ev} {F : FuncId} {S : List AObj} {o : Nat} {fz : Option Nat} {ps : List P2} {p : P2} {r : PVal} {g : List PVal → Option PVal} (h0 : c.givenS F = none) (hm : c.mode F = 0) (hg : c.givenP F = some g)
    (h : S[o]? = some (.row 2 0 fz (flatP ps))) (hr : g [slP ps, ptP p] = some r) : callA c ev 0 F [.row o 0 2 0 ps.length, ptA p] S = some (up r, S.set o (.row 2 0 (some (flatP ps).length) (flatP ps))) := by
  have ho := (List.getElem?_eq_some_iff.1 h).1
  refine callA_given (ps := [slP ps, ptP p]) h0 hm (S' := S.set o (.row 2 0 (some (flatP ps).length) (flatP ps))) ?_ ?_ hg hr
  · simp only [List.foldl_cons, List.foldl_nil]
    rw [show deep = 5 + 1 from rfl, mark_row h]
    rfl
  · simp only [mapO]
    rw [show deep = 4 + 2 from rfl, peek_row (by rw [List.getElem?_set_self ho])]
    rfl
/-- A cell of a row of points. -/
theorem part_int (xs : List AVal) (off : Nat) : partA Try.prog 2 xs off = xs[off]? := by
  unfold partA
  rw [show aggT Try.prog 2 = some false by kernel_rfl, show szOf Try.prog 2 = some 1 by kernel_rfl]
theorem flatP_get : ∀ (ps : List P2) (j : Nat) (p : P2), ps[j]? = some p → (flatP ps)[j * 2]? = some (iA p.1) ∧ (flatP ps)[j * 2 + 1]? = some (iA p.2)
  | [], j, p, h => by simp at h
  | q :: ps, 0, p, h => by
    simp only [List.getElem?_cons_zero, Option.some.injEq] at h
    subst h
    exact ⟨rfl, rfl⟩
  | q :: ps, j + 1, p, h => by
    have := flatP_get ps j p (by simpa using h)
    rw [show (j + 1) * 2 = j * 2 + 1 + 1 by omega]
    simpa [flatP] using this
theorem flatP_snoc (ps : List P2) (p : P2) : (flatP ps).drop (0 * 2) ++ [iA p.1, iA p.2] = flatP (ps ++ [p]) := by
  rw [flatP_append]
  rfl
theorem load_x {ps : List P2} {i : Nat} {p : P2} (h : ps[i]? = some p) : partA Try.prog 2 (upL (((flatPP ps).drop (i * 2)).drop 0)) 0 = some (iA p.1) := by
  rw [part_int, List.drop_drop, upL_drop, upL_flatPP, List.getElem?_drop]
  exact (flatP_get ps i p h).1
theorem load_y {ps : List P2} {i : Nat} {p : P2} (h : ps[i]? = some p) : partA Try.prog 2 (upL (((flatPP ps).drop (i * 2)).drop 1)) 0 = some (iA p.2) := by
  rw [part_int, List.drop_drop, upL_drop, upL_flatPP, List.getElem?_drop]
  exact (flatP_get ps i p h).2
theorem binA_rem (a b : Int) (x y : Operand) (hb : b ≠ 0) : binA Try.prog BinOp.rem 3 x y (iA a) (iA b) = some (iA (a.tmod b)) := by
  cases b with
  | ofNat n =>
    cases n with
    | zero => exact absurd rfl hb
    | succ n => show binA _ _ _ _ _ _ _ = some (AVal.v (Value.int IntKind.i64 (a.tmod (Int.ofNat (n + 1))))); kernel_rfl
  | negSucc n => show binA _ _ _ _ _ _ _ = some (AVal.v (Value.int IntKind.i64 (a.tmod (Int.negSucc n)))); kernel_rfl
end Go.Proofs.Ytmopbegmdegooaa
