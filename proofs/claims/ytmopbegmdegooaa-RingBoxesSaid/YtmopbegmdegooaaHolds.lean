/- ring.Holds: its closure, and the search through the points. -/
import Derived.Test.YtmopbegmdegooaaShifts
import Derived.Test.YtmopbegmdegooaaSlRow
namespace Go.Proofs.Ytmopbegmdegooaa
open Go Vm M
set_option linter.unusedVariables false
set_option linter.unusedSimpArgs false
/-- Closures that read what they have captured are called among the caller's objects. -/
def modeB : FuncId → Nat := fun f => bif Nat.beq f 58 || Nat.beq f 57 || Nat.beq f 80 || Nat.beq f 27 then 1 else 0
noncomputable def cfB (L : Lib Try.prog) : Cfg := cfgOf lives modeB L
theorem cfB_ok (L : Lib Try.prog) : CfgOk (cfB L) := cfgOf_ok lives modeB L
def hoS (ls : List P2) : List AObj := [.box [slA ls]]
def ho58 (ls : List P2) (q : P2) (k : Int) : AVal × List AObj :=
  (AVal.v (Value.bool (k != 1)), ([AObj.box [AVal.list (List.length ls) (flatPP ls)], AObj.box [AVal.v (Value.int IntKind.i64 (Prod.fst q)), AVal.v (Value.int IntKind.i64 (Prod.snd q))]]))
theorem ho58_eq (ls : List P2) (q : P2) (k : Int) (e0 : callA (cfB R3) (evalF (cfB R3) 200) 1 22 [slA ls, ptA q] [.box [slA ls], .box (cellsP q)] = some (iA k, [.box [slA ls], .box (cellsP q)])) : evalF (cfB R3) (200 + 1) (1) 58 ([ptA q, AVal.ptr 0 0 0]) (hoS ls) = some (ho58 ls q k) := by
  have key := fun (bs : List Bool) (r : AVal × List AObj) (ob : List Prop) (h : funP (cfB R3) (evalF (cfB R3) 200) 200 [(1, 2, Hint.call (iA k) [AObj.box [slA ls], AObj.box (cellsP q)])] 58 (1) ([ptA q, AVal.ptr 0 0 0]) (hoS ls) bs [] = .ok (r.1, r.2, ob)) (hp : allOb ob) => funP_ok h hp
  unfold ho58
  exact key [] ((AVal.v (Value.bool (k != 1)), ([AObj.box [AVal.list (List.length ls) (flatPP ls)], AObj.box [AVal.v (Value.int IntKind.i64 (Prod.fst q)), AVal.v (Value.int IntKind.i64 (Prod.snd q))]]))) _ (by kernel_rfl) (allOb_cons (by exact e0) allOb_nil)
def hoT (ms : List P2) (i : Int) : List AVal := [slA ms, .fn 58 [.ptr 0 0 0]] ++ jk 5 ++ [iA ms.length, iA i] ++ jk 10
def ho80r (ls : List P2) (ms : List P2) (i : Int) (q : P2) (j : Bool) : AExit × List AVal × List AObj :=
  (bif decide (i < (↑(List.length ms) : Int)) then (bif j then (AExit.ret, ((jk 4 ++ [AVal.v (Value.int IntKind.i64 i)] ++ jk 14), ([AObj.box [AVal.list (List.length ls) (flatPP ls)]]))) else (AExit.normal, (([AVal.list (List.length ms) (flatPP ms), AVal.fn 58 [AVal.ptr 0 0 0]] ++ jk 5 ++ [AVal.v (Value.int IntKind.i64 (↑(List.length ms) : Int)), AVal.v (Value.int IntKind.i64 (IntKind.wrap IntKind.i64 (i + 1)))] ++ jk 10), ([AObj.box [AVal.list (List.length ls) (flatPP ls)]])))) else (AExit.exit 0, (([AVal.list (List.length ms) (flatPP ms), AVal.fn 58 [AVal.ptr 0 0 0]] ++ jk 5 ++ [AVal.v (Value.int IntKind.i64 (↑(List.length ms) : Int)), AVal.v (Value.int IntKind.i64 i), AVal.v (Value.bool false)] ++ jk 9), ([AObj.box [AVal.list (List.length ls) (flatPP ls)]]))))
theorem ho80r_eq (ls : List P2) (ms : List P2) (i : Int) (q : P2) (j : Bool) (e0 : 0 ≤ i ∧ i < (ms.length : Int) ∧ 0 < 2 ∧ (flatPP ms).length = ms.length * 2) (e1 : partA Try.prog 23 (upL ((flatPP ms).drop (i.toNat * 2))) 0 = some (ptA q)) (e2 : callA (cfB R3) (evalF (cfB R3) 201) 1 58 [ptA q, .ptr 0 0 0] (hoS ls) = some (bA j, hoS ls)) : roundC 1 (evalC (cfB R3) (evalF (cfB R3) 201) (Option.getD (List.lookup 80 lives) []) 1 1 201 (loopAt Try.f80 0)) (hoT ms i) (hoS ls) = some (ho80r ls ms i q j) := by
  have key := fun (bs : List Bool) (r : AExit × List AVal × List AObj) (ob : List Prop) (h : roundP (cfB R3) (evalF (cfB R3) 201) (Option.getD (List.lookup 80 lives) []) 1 1 201 [(4, 3, Hint.idx), (4, 4, Hint.load (ptA q)), (4, 5, Hint.call (bA j) (hoS ls))] (loopAt Try.f80 0) (hoT ms i) (hoS ls) bs [] = .ok (r.1, r.2.1, r.2.2, ob)) (hp : allOb ob) => roundP_ok h hp
  unfold ho80r
  exact bif_case (P := fun r => roundC 1 (evalC (cfB R3) (evalF (cfB R3) 201) (Option.getD (List.lookup 80 lives) []) 1 1 201 (loopAt Try.f80 0)) (hoT ms i) (hoS ls) = some r)
    (fun h0 => bif_case (P := fun r => roundC 1 (evalC (cfB R3) (evalF (cfB R3) 201) (Option.getD (List.lookup 80 lives) []) 1 1 201 (loopAt Try.f80 0)) (hoT ms i) (hoS ls) = some r)
     (fun h1 => key [true, true] ((AExit.ret, ((jk 4 ++ [AVal.v (Value.int IntKind.i64 i)] ++ jk 14), ([AObj.box [AVal.list (List.length ls) (flatPP ls)]])))) _ (by kernel_rfl) (allOb_cons (show Plain ([AObj.box [AVal.list (List.length ls) (flatPP ls)]]) from by simp only [Plain, List.all_append, List.all_cons, List.all_nil, plainO, flatP_plain, Nat.zero_mul, List.drop_zero] <;> rfl) (allOb_cons h1 (allOb_cons (by exact e2) (allOb_cons (by exact e1) (allOb_cons (by exact e0) (allOb_cons h0 allOb_nil)))))))
     (fun h1 => key [true, false] ((AExit.normal, (([AVal.list (List.length ms) (flatPP ms), AVal.fn 58 [AVal.ptr 0 0 0]] ++ jk 5 ++ [AVal.v (Value.int IntKind.i64 (↑(List.length ms) : Int)), AVal.v (Value.int IntKind.i64 (IntKind.wrap IntKind.i64 (i + 1)))] ++ jk 10), ([AObj.box [AVal.list (List.length ls) (flatPP ls)]])))) _ (by kernel_rfl) (allOb_cons (show Plain ([AObj.box [AVal.list (List.length ls) (flatPP ls)]]) from by simp only [Plain, List.all_append, List.all_cons, List.all_nil, plainO, flatP_plain, Nat.zero_mul, List.drop_zero] <;> rfl) (allOb_cons h1 (allOb_cons (by exact e2) (allOb_cons (by exact e1) (allOb_cons (by exact e0) (allOb_cons h0 allOb_nil))))))))
    (fun h0 => key [false] ((AExit.exit 0, (([AVal.list (List.length ms) (flatPP ms), AVal.fn 58 [AVal.ptr 0 0 0]] ++ jk 5 ++ [AVal.v (Value.int IntKind.i64 (↑(List.length ms) : Int)), AVal.v (Value.int IntKind.i64 i), AVal.v (Value.bool false)] ++ jk 9), ([AObj.box [AVal.list (List.length ls) (flatPP ls)]])))) _ (by kernel_rfl) (allOb_cons (show Plain ([AObj.box [AVal.list (List.length ls) (flatPP ls)]]) from by simp only [Plain, List.all_append, List.all_cons, List.all_nil, plainO, flatP_plain, Nat.zero_mul, List.drop_zero] <;> rfl) (allOb_cons h0 allOb_nil)))
def hoR (i : Int) : List AVal := jk 4 ++ [iA i] ++ jk 14
def hoE (ms : List P2) (i : Int) : List AVal := [slA ms, .fn 58 [.ptr 0 0 0]] ++ jk 5 ++ [iA ms.length, iA i, bA false] ++ jk 9
def ho80f (ls : List P2) (ms : List P2) (j : Int) : AVal × List AObj :=
  (AVal.v (Value.int IntKind.i64 j), ([AObj.box [AVal.list (List.length ls) (flatPP ls)]]))
theorem ho80f_eq (ls : List P2) (ms : List P2) (j : Int) (e0 : iterC 1 (evalC (cfB R3) (evalF (cfB R3) 201) ((lives.lookup 80).getD []) 1 1 201 (loopAt Try.f80 0)) 201 (hoT ms 0) (hoS ls) = some (.ret, hoR j, hoS ls)) : evalF (cfB R3) (201 + 1) (1) 80 ([slA ms, AVal.fn 58 [AVal.ptr 0 0 0]]) (hoS ls) = some (ho80f ls ms j) := by
  have key := fun (bs : List Bool) (r : AVal × List AObj) (ob : List Prop) (h : funP (cfB R3) (evalF (cfB R3) 201) 201 [] 80 (1) ([slA ms, AVal.fn 58 [AVal.ptr 0 0 0]]) (hoS ls) bs [(AExit.ret, hoR j, hoS ls)] = .ok (r.1, r.2, ob)) (hp : allOb ob) => funP_ok h hp
  unfold ho80f
  exact key [] ((AVal.v (Value.int IntKind.i64 j), ([AObj.box [AVal.list (List.length ls) (flatPP ls)]]))) _ (by kernel_rfl) (allOb_cons (by exact e0) allOb_nil)
def ho80n (ls : List P2) (ms : List P2) (j : Int) : AVal × List AObj :=
  (AVal.v (Value.int IntKind.i64 (-1)), ([AObj.box [AVal.list (List.length ls) (flatPP ls)]]))
theorem ho80n_eq (ls : List P2) (ms : List P2) (j : Int) (e0 : iterC 1 (evalC (cfB R3) (evalF (cfB R3) 201) ((lives.lookup 80).getD []) 1 1 201 (loopAt Try.f80 0)) 201 (hoT ms 0) (hoS ls) = some (.exit 0, hoE ms j, hoS ls)) : evalF (cfB R3) (201 + 1) (1) 80 ([slA ms, AVal.fn 58 [AVal.ptr 0 0 0]]) (hoS ls) = some (ho80n ls ms j) := by
  have key := fun (bs : List Bool) (r : AVal × List AObj) (ob : List Prop) (h : funP (cfB R3) (evalF (cfB R3) 201) 201 [] 80 (1) ([slA ms, AVal.fn 58 [AVal.ptr 0 0 0]]) (hoS ls) bs [(AExit.exit 0, hoE ms j, hoS ls)] = .ok (r.1, r.2, ob)) (hp : allOb ob) => funP_ok h hp
  unfold ho80n
  exact key [] ((AVal.v (Value.int IntKind.i64 (-1)), ([AObj.box [AVal.list (List.length ls) (flatPP ls)]]))) _ (by kernel_rfl) (allOb_cons (by exact e0) allOb_nil)
def ho57 (ls : List P2) (ms : List P2) (j : Int) : AVal × List AObj :=
  (AVal.v (Value.bool (decide (j ≥ 0))), ([AObj.box [AVal.list (List.length ls) (flatPP ls)]]))
theorem ho57_eq (ls : List P2) (ms : List P2) (j : Int) (e0 : callA (cfB R3) (evalF (cfB R3) 202) 1 80 [slA ms, .fn 58 [.ptr 0 0 0]] (hoS ls) = some (iA j, hoS ls)) : evalF (cfB R3) (202 + 1) (1) 57 ([slA ms, AVal.fn 58 [AVal.ptr 0 0 0]]) (hoS ls) = some (ho57 ls ms j) := by
  have key := fun (bs : List Bool) (r : AVal × List AObj) (ob : List Prop) (h : funP (cfB R3) (evalF (cfB R3) 202) 202 [(1, 2, Hint.call (iA j) (hoS ls))] 57 (1) ([slA ms, AVal.fn 58 [AVal.ptr 0 0 0]]) (hoS ls) bs [] = .ok (r.1, r.2, ob)) (hp : allOb ob) => funP_ok h hp
  unfold ho57
  exact key [] ((AVal.v (Value.bool (decide (j ≥ 0))), ([AObj.box [AVal.list (List.length ls) (flatPP ls)]]))) _ (by kernel_rfl) (allOb_cons (by exact e0) allOb_nil)
def ho28 (ls : List P2) (ms : List P2) (j : Bool) : PVal :=
  (bif decide ((↑(List.length ms) : Int) > 0) then PVal.v (Value.bool !j) else PVal.v (Value.bool false))
theorem ho28_calls (ls : List P2) (ms : List P2) (j : Bool) (e0 : callA (cfB R3) (evalF (cfB R3) 203) 0 57 [slA ms, .fn 58 [.ptr 0 0 0]] (hoS ls) = some (bA j, hoS ls)) : CallsP Try.prog 28 [slP ls, slP ms] (ho28 ls ms j) := by
  have key := fun (bs : List Bool) (r : PVal) (ob : List Prop) (h : callP (cfB R3) (evalF (cfB R3) 203) 203 [(1, 6, Hint.call (bA j) (hoS ls))] 28 [slP ls, slP ms] bs [] (none) = .ok (r, ob)) (hp : allOb ob) => callP_ok (cfB_ok R3) h hp
  unfold ho28
  exact bif_case (P := fun r => CallsP Try.prog 28 [slP ls, slP ms] r)
    (fun h0 => key [true] (PVal.v (Value.bool !j)) _ (by kernel_rfl) (allOb_cons (by exact e0) (allOb_cons h0 allOb_nil)))
    (fun h0 => key [false] (PVal.v (Value.bool false)) _ (by kernel_rfl) (allOb_cons h0 allOb_nil))
end Go.Proofs.Ytmopbegmdegooaa
