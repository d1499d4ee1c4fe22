/- The law RingBoxes: its path. -/
import Derived.Test.YtmopbegmdegooaaBoxes
import Derived.Test.YtmopbegmdegooaaShiftsB
namespace Go.Proofs.Ytmopbegmdegooaa
open Go Vm M
set_option linter.unusedVariables false
set_option linter.unusedSimpArgs false
def bxW (w : Int) : Int := IntKind.i64.wrap (and255 w + 3)
def and511 (f : Int) : Int := IntKind.i64.wrap ((BitVec.ofInt IntKind.i64.bits f &&& BitVec.ofInt IntKind.i64.bits 511).toNat : Nat)
def bxQ (p : P2) : P2 := (and511 p.1, and511 p.2)
def bxO (w h : Int) : List P2 := [(0, 0), (bxW w, 0), (bxW w, bxW h), (0, bxW h)]
def bxI (w h : Int) : List P2 := [(1, 1), (IntKind.i64.wrap (bxW w - 1), 1), (IntKind.i64.wrap (bxW w - 1), IntKind.i64.wrap (bxW h - 1)), (1, IntKind.i64.wrap (bxW h - 1))]
def bxG (ls ms : List P2) : Bool := decide (0 < ms.length) && !ms.any (badP ls)
def bxAll (w : Int) (h : Int) (k0 : Int) (k1 : Int) (p : P2) : PVal :=
  (bif insideP (bxO w h) (bxQ p) != k0 then PVal.v (Value.bool false) else (bif insideP (bxI w h) (bxQ p) != k1 then PVal.v (Value.bool false) else (bif areaP (bxO w h) != IntKind.wrap IntKind.i64 (IntKind.wrap IntKind.i64 (2 * bxW w) * bxW h) then PVal.v (Value.bool false) else (bif bxG (bxO w h) (bxI w h) then (bif !bxG (bxI w h) (bxO w h) then (bif !bxG (bxO w h) (bxO w h) then PVal.v (Value.bool true) else PVal.v (Value.bool false)) else PVal.v (Value.bool false)) else PVal.v (Value.bool false)))))
theorem bxAll_calls (w : Int) (h : Int) (k0 : Int) (k1 : Int) (p : P2) (e0 : callA (cfB R4) (evalF (cfB R4) 10) 0 27 [iA 0, iA 0, iA (bxW w), iA (bxW h), .ptr 0 0 0] [.box (cellsP (bxQ p))] = some (iA k0, [.box (cellsP (bxQ p))])) (e1 : callA (cfB R4) (evalF (cfB R4) 10) 0 27 [iA 1, iA 1, iA (IntKind.i64.wrap (bxW w - 1)), iA (IntKind.i64.wrap (bxW h - 1)), .ptr 0 0 0] [.box (cellsP (bxQ p))] = some (iA k1, [.box (cellsP (bxQ p))])) : CallsP Try.prog 9 [iP w, iP h, ptP p] (bxAll w h k0 k1 p) := by
  have key := fun (bs : List Bool) (r : PVal) (ob : List Prop) (h : callP (cfB R4) (evalF (cfB R4) 10) 10 [(6, 6, Hint.call (iA k0) [AObj.box (cellsP (bxQ p))]), (6, 17, Hint.call (iA k1) [AObj.box (cellsP (bxQ p))])] 9 [iP w, iP h, ptP p] bs [] (none) = .ok (r, ob)) (hp : allOb ob) => callP_ok (cfB_ok R4) h hp
  unfold bxAll
  exact bif_case (P := fun r => CallsP Try.prog 9 [iP w, iP h, ptP p] r)
    (fun h0 => key [true, true, true] (PVal.v (Value.bool false)) _ (by kernel_rfl) (allOb_cons lit_t (allOb_cons lit_t (allOb_cons h0 (allOb_cons (by exact e0) allOb_nil)))))
    (fun h0 => bif_case (P := fun r => CallsP Try.prog 9 [iP w, iP h, ptP p] r)
     (fun h1 => key [false, true, true] (PVal.v (Value.bool false)) _ (by kernel_rfl) (allOb_cons lit_t (allOb_cons h1 (allOb_cons (by exact e1) (allOb_cons h0 (allOb_cons (by exact e0) allOb_nil))))))
     (fun h1 => bif_case (P := fun r => CallsP Try.prog 9 [iP w, iP h, ptP p] r)
      (fun h2 => key [false, false, true] (PVal.v (Value.bool false)) _ (by kernel_rfl) (allOb_cons h2 (allOb_cons h1 (allOb_cons (by exact e1) (allOb_cons h0 (allOb_cons (by exact e0) allOb_nil))))))
      (fun h2 => bif_case (P := fun r => CallsP Try.prog 9 [iP w, iP h, ptP p] r)
       (fun h3 => bif_case (P := fun r => CallsP Try.prog 9 [iP w, iP h, ptP p] r)
        (fun h4 => bif_case (P := fun r => CallsP Try.prog 9 [iP w, iP h, ptP p] r)
         (fun h5 => key [false, false, false, true, true, true] (PVal.v (Value.bool true)) _ (by kernel_rfl) (allOb_cons h5 (allOb_cons h4 (allOb_cons h3 (allOb_cons h2 (allOb_cons h1 (allOb_cons (by exact e1) (allOb_cons h0 (allOb_cons (by exact e0) allOb_nil)))))))))
         (fun h5 => key [false, false, false, true, true, false] (PVal.v (Value.bool false)) _ (by kernel_rfl) (allOb_cons h5 (allOb_cons h4 (allOb_cons h3 (allOb_cons h2 (allOb_cons h1 (allOb_cons (by exact e1) (allOb_cons h0 (allOb_cons (by exact e0) allOb_nil))))))))))
        (fun h4 => key [false, false, false, true, false, false] (PVal.v (Value.bool false)) _ (by kernel_rfl) (allOb_cons lit_f (allOb_cons h4 (allOb_cons h3 (allOb_cons h2 (allOb_cons h1 (allOb_cons (by exact e1) (allOb_cons h0 (allOb_cons (by exact e0) allOb_nil))))))))))
       (fun h3 => key [false, false, false, false, false, false] (PVal.v (Value.bool false)) _ (by kernel_rfl) (allOb_cons lit_f (allOb_cons lit_f (allOb_cons h3 (allOb_cons h2 (allOb_cons h1 (allOb_cons (by exact e1) (allOb_cons h0 (allOb_cons (by exact e0) allOb_nil))))))))))))
end Go.Proofs.Ytmopbegmdegooaa
