/- The law RingShifts: of too many points, and of none. -/
import Derived.Test.YtmopbegmdegooaaShiftsC
namespace Go.Proofs.Ytmopbegmdegooaa
open Go Vm M
set_option linter.unusedVariables false
set_option linter.unusedSimpArgs false
def rsN0 (f x y : Int) : List AVal := [slA []] ++ jk 3 ++ [iA f, .junk, .ptr 0 0 0] ++ jk 4 ++ [nilA, nilA, nilA, iA x, iA y, iA 0] ++ jk 14 ++ [bA false] ++ jk 103
def rsNU (f x y : Int) : List AVal := jk 4 ++ [iA f, .junk, .ptr 0 0 0] ++ jk 4 ++ [nilA, nilA, nilA, iA x, iA y, .junk, iA 0] ++ jk 117
def rsN1 (f x y : Int) : List AVal := jk 4 ++ [iA f, .junk, .ptr 0 0 0] ++ jk 4 ++ [nilA, nilA, nilA, iA x, iA y, .junk, iA 0] ++ jk 53 ++ [bA false] ++ jk 63
def rsNil (p : P2) (dx : Int) (dy : Int) (f : Int) : PVal :=
  PVal.v (Value.bool true)
theorem rsNil_calls (p : P2) (dx : Int) (dy : Int) (f : Int) (e0 : iterC 0 (evalC (cf R3) (evalF (cf R3) 61) ((lives.lookup 6).getD []) 0 0 61 (loopAt Try.f6 0)) 61 (rsT [] f (dx.tmod 10000) (dy.tmod 10000) 0 nilA nilA nilA) (rsS0 p) = some (.exit 0, rsN0 f (dx.tmod 10000) (dy.tmod 10000), rsS0 p)) (e1 : iterC 0 (evalC (cf R3) (evalF (cf R3) 61) ((lives.lookup 6).getD []) 0 0 61 (loopAt Try.f6 1)) 61 (rsNU f (dx.tmod 10000) (dy.tmod 10000)) (rsS0 p) = some (.exit 2, rsN1 f (dx.tmod 10000) (dy.tmod 10000), rsS0 p)) : CallsP Try.prog 6 [slP [], ptP p, iP dx, iP dy, iP f] (rsNil p dx dy f) := by
  have key := fun (bs : List Bool) (r : PVal) (ob : List Prop) (h : callP (cf R3) (evalF (cf R3) 61) 61 [] 6 [slP [], ptP p, iP dx, iP dy, iP f] bs [(AExit.exit 0, rsN0 f (Int.tmod dx 10000) (Int.tmod dy 10000), rsS0 p), (AExit.exit 2, rsN1 f (Int.tmod dx 10000) (Int.tmod dy 10000), rsS0 p)] (none) = .ok (r, ob)) (hp : allOb ob) => callP_ok (cf_ok R3) h hp
  unfold rsNil
  exact key [false, true, true, true, true] (PVal.v (Value.bool true)) _ (by kernel_rfl) (allOb_cons lit_t (allOb_cons lit_t (allOb_cons lit_t (allOb_cons lit_t (allOb_cons (by exact e1) (allOb_cons (by exact e0) (allOb_cons lit_f allOb_nil)))))))
theorem rsNil_all (p : P2) (dx dy f : Int) : CallsP Try.prog 6 [slP [], ptP p, iP dx, iP dy, iP f] (bP true) := rsNil_calls p dx dy f (by kernel_rfl) (by kernel_rfl)
theorem rsLong (ps : List P2) (p : P2) (dx dy f : Int) (h : ps.length > 60) : CallsP Try.prog 6 [slP ps, ptP p, iP dx, iP dy, iP f] (bP true) :=
  callP_ok (cf_ok R3) (k := 61) (hs := []) (f := 6) (ps := [slP ps, ptP p, iP dx, iP dy, iP f]) (bs := [true]) (ls := []) (out := none) (r := bP true) (ob := [decide ((ps.length : Int) > 60) = true]) (by kernel_rfl) (allOb_cons (decide_eq_true (by omega)) allOb_nil)
end Go.Proofs.Ytmopbegmdegooaa
