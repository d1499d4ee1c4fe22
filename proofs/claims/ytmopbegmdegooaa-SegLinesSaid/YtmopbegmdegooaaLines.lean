/- The law SegLines: what its code answers. -/
import Derived.Test.YtmopbegmdegooaaLinesMath3
namespace Go.Proofs.Ytmopbegmdegooaa
open Go Vm M
set_option linter.unusedVariables false
set_option linter.unusedSimpArgs false
def lnT (w x y i : Int) : List AVal := [iA w, iA x, iA y] ++ jk 4 ++ [.ptr 0 0 0, .ptr 1 0 0, iA i] ++ jk 118
def lnE (w x y i : Int) : List AVal := [iA w, iA x, iA y] ++ jk 4 ++ [.ptr 0 0 0, .ptr 1 0 0, iA i] ++ jk 14 ++ [bA false] ++ jk 103
def lnS (t0 t1 t2 t3 : Int) (l0 l1 l2 l3 : P2) : List AObj := [.box [iA t0, iA t1, iA t2, iA t3], .box (flatP [l0, l1, l2, l3])]
def btI (w i : Int) : Int := IntKind.i64.wrap ((BitVec.ofInt IntKind.i64.bits (w.fdiv (2 ^ min (IntKind.i64.wrap (4 * i)).toNat IntKind.i64.bits)) &&& BitVec.ofInt IntKind.i64.bits 15).toNat : Nat)
def lnP (w x y i : Int) : P2 := (IntKind.i64.wrap (btI w i * x), IntKind.i64.wrap (btI w i * y))
noncomputable abbrev bodyLn (ev : Ev) : List AVal → List AObj → Res := evalC (cf L7) ev ((lives.lookup 4).getD []) 0 0 8 (loopAt Try.f4 0)
section
variable (ev : Ev) (w x y t0 t1 t2 t3 : Int) (l0 l1 l2 l3 : P2)
theorem ln_canon (i : Int) (k : Nat) (h : k = 0 ∨ k = 14) : canon 0 (lnT w x y i) (lnS t0 t1 t2 t3 l0 l1 l2 l3 ++ List.replicate k .free) = some (lnT w x y i, lnS t0 t1 t2 t3 l0 l1 l2 l3) := by
  rcases h with rfl | rfl
  · exact canon_eq (by rfl) (by kernel_rfl)
  · exact canon_eq (by rfl) (by kernel_rfl)
theorem ln_round0 : bodyLn ev (lnT w x y 0) (lnS t0 t1 t2 t3 l0 l1 l2 l3) = some (.normal, lnT w x y (IntKind.i64.wrap (0 + 1)), lnS (btI w 0) t1 t2 t3 (lnP w x y 0) l1 l2 l3 ++ List.replicate 14 .free) :=
  pathP_ok (hs := []) (bs := [true]) (ls := []) (ob := [true = true]) (by kernel_rfl) (allOb_cons rfl allOb_nil)
theorem ln_round1 : bodyLn ev (lnT w x y 1) (lnS t0 t1 t2 t3 l0 l1 l2 l3) = some (.normal, lnT w x y (IntKind.i64.wrap (1 + 1)), lnS t0 (btI w 1) t2 t3 l0 (lnP w x y 1) l2 l3 ++ List.replicate 14 .free) :=
  pathP_ok (hs := []) (bs := [true]) (ls := []) (ob := [true = true]) (by kernel_rfl) (allOb_cons rfl allOb_nil)
theorem ln_round2 : bodyLn ev (lnT w x y 2) (lnS t0 t1 t2 t3 l0 l1 l2 l3) = some (.normal, lnT w x y (IntKind.i64.wrap (2 + 1)), lnS t0 t1 (btI w 2) t3 l0 l1 (lnP w x y 2) l3 ++ List.replicate 14 .free) :=
  pathP_ok (hs := []) (bs := [true]) (ls := []) (ob := [true = true]) (by kernel_rfl) (allOb_cons rfl allOb_nil)
theorem ln_round3 : bodyLn ev (lnT w x y 3) (lnS t0 t1 t2 t3 l0 l1 l2 l3) = some (.normal, lnT w x y (IntKind.i64.wrap (3 + 1)), lnS t0 t1 t2 (btI w 3) l0 l1 l2 (lnP w x y 3) ++ List.replicate 14 .free) :=
  pathP_ok (hs := []) (bs := [true]) (ls := []) (ob := [true = true]) (by kernel_rfl) (allOb_cons rfl allOb_nil)
theorem ln_end : bodyLn ev (lnT w x y 4) (lnS t0 t1 t2 t3 l0 l1 l2 l3) = some (.exit 0, lnE w x y 4, lnS t0 t1 t2 t3 l0 l1 l2 l3) :=
  pathP_ok (hs := []) (bs := [false]) (ls := []) (ob := [false = false]) (by kernel_rfl) (allOb_cons rfl allOb_nil)
end
theorem ln_loop (ev : Ev) (w x y : Int) :
    iterC 0 (bodyLn ev) 8 (lnT w x y 0) (lnS 0 0 0 0 (0, 0) (0, 0) (0, 0) (0, 0)) =
      some (.exit 0, lnE w x y 4, lnS (btI w 0) (btI w 1) (btI w 2) (btI w 3) (lnP w x y 0) (lnP w x y 1) (lnP w x y 2) (lnP w x y 3)) := by
  have wr : ∀ n : Int, -10 ≤ n ∧ n ≤ 10 → IntKind.i64.wrap n = n := fun n h => IntWalk.i64_in n (by omega)
  have e0 : canon 0 (lnT w x y 0) (lnS 0 0 0 0 (0, 0) (0, 0) (0, 0) (0, 0)) = some (lnT w x y 0, lnS 0 0 0 0 (0, 0) (0, 0) (0, 0) (0, 0)) := canon_eq (by rfl) (by kernel_rfl)
  rw [iterC_round e0 (ln_round0 ev w x y ..), wr (0 + 1) (by omega), show (0 : Int) + 1 = 1 by rfl,
    iterC_round (ln_canon w x y _ _ _ _ _ _ _ _ 1 14 (.inr rfl)) (ln_round1 ev w x y ..), wr (1 + 1) (by omega), show (1 : Int) + 1 = 2 by rfl,
    iterC_round (ln_canon w x y _ _ _ _ _ _ _ _ 2 14 (.inr rfl)) (ln_round2 ev w x y ..), wr (2 + 1) (by omega), show (2 : Int) + 1 = 3 by rfl,
    iterC_round (ln_canon w x y _ _ _ _ _ _ _ _ 3 14 (.inr rfl)) (ln_round3 ev w x y ..), wr (3 + 1) (by omega), show (3 : Int) + 1 = 4 by rfl]
  exact iterC_leave (ln_canon w x y _ _ _ _ _ _ _ _ 4 14 (.inr rfl)) (ln_end ev w x y ..) (by simp) (canon_eq (by rfl) (by kernel_rfl))
end Go.Proofs.Ytmopbegmdegooaa
