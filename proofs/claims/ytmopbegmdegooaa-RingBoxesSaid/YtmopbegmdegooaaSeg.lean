/- seg.ends and seg.Relate: what their code answers. -/
import Derived.Test.YtmopbegmdegooaaRow
namespace Go.Proofs.Ytmopbegmdegooaa
open Go Vm M
set_option linter.unusedVariables false
set_option linter.unusedSimpArgs false

/-! ## ends: the inner loop -/
abbrev lvE : List Nat := (lives.lookup 47).getD []
def endsIn (on both i : Int) (seen : AVal) (old : Bool) (len j : Int) (d : AVal) (ar : List AVal) : List AVal :=
  jk 4 ++ [.ptr 0 0 0, .ptr 1 0 0, .ptr 2 0 0, .ptr 3 0 0, iA on, iA both, seen, .junk, .ptr 4 0 0, bA old] ++ jk 14 ++ [.agg ar, iA i, .junk, .junk, seen, iA len, iA j, d] ++ jk 53
def bx4 (a b c d : P2) : List AObj := [.box (cellsP a), .box (cellsP b), .box (cellsP c), .box (cellsP d)]
def ar4 (a b c d : P2) : List AVal := cellsP a ++ cellsP b ++ cellsP c ++ cellsP d
section
variable {ev : Ev} (a b c d l0 l1 l2 l3 : P2) (on both i : Int) (p : P2) (qs : List P2)
noncomputable abbrev bodyIn (ev : Ev) : List AVal → List AObj → Res := evalC (cf L5) ev lvE 0 0 8 (loopAt Try.f47 1)
theorem endsIn_canon (old : Bool) (j : Int) (dd : AVal) (hd : dd = .junk ∨ dd = bA false) (x5 : AObj) (hx : x5 = .free ∨ ∃ q, x5 = .box (cellsP q)) :
    canon 0 (endsIn on both i (.row 6 0 2 0 qs.length) old qs.length j dd (ar4 l0 l1 l2 l3)) (bx4 a b c d ++ [.box (cellsP p), x5, .row 2 0 none (flatP qs)]) =
      some (endsIn on both i (.row 6 0 2 0 qs.length) old qs.length j dd (ar4 l0 l1 l2 l3), bx4 a b c d ++ [.box (cellsP p), .free, .row 2 0 none (flatP qs)]) := by
  refine canon_eq ?_ ?_
  · rcases hx with rfl | ⟨q, rfl⟩ <;> simp [bx4, plainO, flatP_plain]
  · rcases hx with rfl | ⟨q, rfl⟩ <;> rcases hd with rfl | rfl <;> kernel_rfl
theorem endsIn_round (old : Bool) (k : Nat) (q : P2) (hq : qs[k]? = some q) (hk : (k : Int) < 9223372036854775807) :
    bodyIn ev (endsIn on both i (.row 6 0 2 0 qs.length) old qs.length k .junk (ar4 l0 l1 l2 l3)) (bx4 a b c d ++ [.box (cellsP p), .free, .row 2 0 none (flatP qs)]) =
      some (.normal, endsIn on both i (.row 6 0 2 0 qs.length) (old || eqB q p) qs.length (k + 1 : Nat) .junk (ar4 l0 l1 l2 l3), bx4 a b c d ++ [.box (cellsP p), .box (cellsP q), .row 2 0 none (flatP qs)]) := by
  have hlt := (List.getElem?_eq_some_iff.1 hq).1
  have hl : partA Try.prog 23 (flatP qs) (k * 2) = some (ptA q) := flatP_part hq agg23 sz23
  have hw : IntKind.i64.wrap ((k : Int) + 1) = ((k + 1 : Nat) : Int) := by rw [IntWalk.i64_in _ (by omega)]; omega
  rw [← hw]
  cases old with
  | true =>
    exact pathP_ok (hs := [(9, 0, .idx), (9, 1, .load (ptA q))]) (bs := [true, true]) (ls := [])
      (ob := [true = true, partA Try.prog 23 (flatP qs) ((0 + k) * 2) = some (ptA q), 0 ≤ (k : Int) ∧ (k : Int) < (qs.length : Nat), decide ((k : Int) < (qs.length : Nat)) = true]) (by kernel_rfl) (by simp [allOb, hl, hlt])
  | false =>
    exact pathP_ok (hs := [(9, 0, .idx), (9, 1, .load (ptA q))]) (bs := [true, false]) (ls := [])
      (ob := [false = false, partA Try.prog 23 (flatP qs) ((0 + k) * 2) = some (ptA q), 0 ≤ (k : Int) ∧ (k : Int) < (qs.length : Nat), decide ((k : Int) < (qs.length : Nat)) = true]) (by kernel_rfl) (by simp [allOb, hl, hlt])
theorem endsIn_end (old : Bool) (j : Int) (hj : ¬ j < qs.length) :
    bodyIn ev (endsIn on both i (.row 6 0 2 0 qs.length) old qs.length j .junk (ar4 l0 l1 l2 l3)) (bx4 a b c d ++ [.box (cellsP p), .free, .row 2 0 none (flatP qs)]) =
      some (.exit 2, endsIn on both i (.row 6 0 2 0 qs.length) old qs.length j (bA false) (ar4 l0 l1 l2 l3), bx4 a b c d ++ [.box (cellsP p), .free, .row 2 0 none (flatP qs)]) :=
  pathP_ok (hs := [(9, 0, .idx)]) (bs := [false]) (ls := []) (ob := [decide (j < (qs.length : Nat)) = false]) (by kernel_rfl) (by simp [allOb, Int.not_lt.1 hj])
theorem endsIn_loop (hlen : (qs.length : Int) < 9223372036854775807) : ∀ (m k : Nat) (old : Bool) (x5 : AObj), k ≤ qs.length → qs.length - k < m → (x5 = .free ∨ ∃ q, x5 = .box (cellsP q)) →
    iterC 0 (bodyIn ev) m (endsIn on both i (.row 6 0 2 0 qs.length) old qs.length k .junk (ar4 l0 l1 l2 l3)) (bx4 a b c d ++ [.box (cellsP p), x5, .row 2 0 none (flatP qs)]) =
      some (.exit 2, endsIn on both i (.row 6 0 2 0 qs.length) (old || (qs.drop k).any (eqB · p)) qs.length qs.length (bA false) (ar4 l0 l1 l2 l3), bx4 a b c d ++ [.box (cellsP p), .free, .row 2 0 none (flatP qs)])
  | 0, k, old, x5, hk, hm, hx => by omega
  | m + 1, k, old, x5, hk, hm, hx => by
    by_cases hlt : k < qs.length
    · rw [iterC_round (endsIn_canon a b c d l0 l1 l2 l3 on both i p qs old k .junk (.inl rfl) x5 hx) (endsIn_round a b c d l0 l1 l2 l3 on both i p qs old k qs[k] (List.getElem?_eq_getElem hlt) (by omega))]
      rw [endsIn_loop hlen m (k + 1) (old || eqB qs[k] p) (.box (cellsP qs[k])) (by omega) (by omega) (.inr ⟨_, rfl⟩)]
      rw [List.drop_eq_getElem_cons hlt, List.any_cons, Bool.or_assoc]
    · have hke : k = qs.length := by omega
      subst hke
      rw [iterC_leave (endsIn_canon a b c d l0 l1 l2 l3 on both i p qs old qs.length .junk (.inl rfl) x5 hx) (endsIn_end a b c d l0 l1 l2 l3 on both i p qs old qs.length (by omega)) (by simp) (endsIn_canon a b c d l0 l1 l2 l3 on both i p qs old qs.length (bA false) (.inr rfl) .free (.inl rfl))]
      simp
end
end Go.Proofs.Ytmopbegmdegooaa
