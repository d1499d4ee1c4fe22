/- FindGrids: the row. Proved: whatever the input, the law answers true and leaves its arguments as they were. -/
import Derived.Test.YtkkgimhbliocoaaGreatBnLawFindGrids14
/- terrierref14.SameInts of equal lists; FindGrids: its rounds. -/
namespace Go.Proofs.YtkkgimhbliocoaaGreat
open Go Vm M
set_option linter.unusedVariables false
set_option linter.unusedSimpArgs false
set_option maxRecDepth 100000
noncomputable def siLv : List Nat := (lives.lookup 25).getD []
def siT (l : List Int) (i : Int) : List AVal := [slJ l, slJ l] ++ jk 3 ++ [iA i] ++ jk 20
def siK (L : Lib Tryz.prog) (l : List Int) (i : Int) (x : Int) : AExit × List AVal × List AObj :=
  (bif decide (i < (↑(List.length l) : Int)) then (bif x != x then (AExit.ret, ((jk 4 ++ [bA false] ++ jk 21), (List.replicate 9 AObj.free))) else (AExit.normal, (([AVal.list (List.length l) (intP l), AVal.list (List.length l) (intP l), AVal.junk, AVal.junk, AVal.junk, iA (IntKind.i64.wrap (i + 1))] ++ jk 20), (List.replicate 9 AObj.free)))) else (AExit.exit 0, (([AVal.list (List.length l) (intP l), AVal.list (List.length l) (intP l), AVal.junk, AVal.junk, AVal.junk, iA i] ++ jk 8 ++ [bA false] ++ jk 11), [])))
theorem siK_eq (L : Lib Tryz.prog) (l : List Int) (i : Int) (x : Int) (b0 : (decide (i < (↑(List.length l) : Int))) = true → (0 : Int) ≤ i ∧ (i : Int) < (↑(List.length l) : Int)) (e0 : (decide (i < (↑(List.length l) : Int))) = true → partA (Cfg.P (cfM L)) 3 (upL (List.drop (Int.toNat i * 1) (intP l))) 0 = some (iA x)) : evalC (cfM L) (evalF (cfM L) 60) (siLv) 0 0 60 (loopAt Tryz.f25 0) (siT l i) ([]) = some (siK L l i x) := by
  have key := fun (bs : List Bool) (r : AExit × List AVal × List AObj) (ob : List Prop) (h : pathP (cfM L) (evalF (cfM L) 60) (siLv) 0 0 60 [(6, 2, Hint.idx), (6, 3, Hint.load (iA x)), (6, 6, Hint.idx), (6, 7, Hint.load (iA x))] (loopAt Tryz.f25 0) (siT l i) ([]) bs [] = .ok (r.1, r.2.1, r.2.2, ob)) (hp : allOb ob) => pathP_ok h hp
  unfold siK
  exact bif_case (P := fun r => evalC (cfM L) (evalF (cfM L) 60) (siLv) 0 0 60 (loopAt Tryz.f25 0) (siT l i) ([]) = some r)
    (fun h0 => bif_case (P := fun r => evalC (cfM L) (evalF (cfM L) 60) (siLv) 0 0 60 (loopAt Tryz.f25 0) (siT l i) ([]) = some r)
     (fun h1 => key [true, true] ((AExit.ret, ((jk 4 ++ [bA false] ++ jk 21), (List.replicate 9 AObj.free)))) _ (by kernel_rfl) (allOb_cons h1 (allOb_cons (by exact (e0 h0)) (allOb_cons (idx_okI (b0 h0)) (allOb_cons (by exact (e0 h0)) (allOb_cons (idx_okI (b0 h0)) (allOb_cons h0 allOb_nil)))))))
     (fun h1 => key [true, false] ((AExit.normal, (([AVal.list (List.length l) (intP l), AVal.list (List.length l) (intP l), AVal.junk, AVal.junk, AVal.junk, iA (IntKind.i64.wrap (i + 1))] ++ jk 20), (List.replicate 9 AObj.free)))) _ (by kernel_rfl) (allOb_cons h1 (allOb_cons (by exact (e0 h0)) (allOb_cons (idx_okI (b0 h0)) (allOb_cons (by exact (e0 h0)) (allOb_cons (idx_okI (b0 h0)) (allOb_cons h0 allOb_nil))))))))
    (fun h0 => key [false] ((AExit.exit 0, (([AVal.list (List.length l) (intP l), AVal.list (List.length l) (intP l), AVal.junk, AVal.junk, AVal.junk, iA i] ++ jk 8 ++ [bA false] ++ jk 11), []))) _ (by kernel_rfl) (allOb_cons h0 allOb_nil))
noncomputable def fgLv : List Nat := (lives.lookup 10).getD []
def fgT (n a b i : Int) : List AVal := [iA n, iA a, iA b] ++ jk 4 ++ [.ptr 0 0 0, iA i] ++ jk 115
def fgS (k j : Nat) (xs ys : List AVal) : List AObj := [.box [.row 2 0 4 0 k, .row 5 0 6 0 j], .free, .row 4 0 none xs, .free, .free, .row 6 0 none ys]
def fgF (L : Lib Tryz.prog) (n : Int) (a : Int) (b : Int) (i : Int) : AExit × List AVal × List AObj :=
  (bif decide (i < n) then (AExit.normal, (([iA n, iA a, iA b] ++ jk 4 ++ [AVal.ptr 0 0 0, iA (IntKind.i64.wrap (i + 1))] ++ jk 115), ([AObj.box [AVal.row 2 0 4 0 2, AVal.row 5 0 6 0 1], AObj.row 4 0 none [iA (IntKind.i64.wrap (IntKind.i64.wrap (2 * i) + 1)), iA (IntKind.i64.wrap (10 * i)), iA (Int.ofNat 0), iA (Int.negSucc 0), iA (IntKind.i64.wrap (IntKind.i64.wrap (2 * i) + 2)), iA (IntKind.i64.wrap (IntKind.i64.wrap (10 * i) + 5)), iA (Int.ofNat 7), iA (Int.negSucc 0)], AObj.row 4 0 none [iA (IntKind.i64.wrap (IntKind.i64.wrap (2 * i) + 1)), iA (IntKind.i64.wrap (10 * i)), iA (Int.ofNat 0), iA (Int.negSucc 0), iA (IntKind.i64.wrap (IntKind.i64.wrap (2 * i) + 2)), iA (IntKind.i64.wrap (IntKind.i64.wrap (10 * i) + 5)), iA (Int.ofNat 7), iA (Int.negSucc 0)], AObj.row 2 0 (some 4) [iA (IntKind.i64.wrap (10 * i)), iA (Int.ofNat 0), iA (IntKind.i64.wrap (IntKind.i64.wrap (10 * i) + 5)), iA (Int.ofNat 7)], AObj.row 6 0 none [iA (IntKind.i64.wrap (i + 1)), iA (IntKind.i64.wrap (IntKind.i64.wrap (2 * i) + 1)), iA (IntKind.i64.wrap (IntKind.i64.wrap (2 * i) + 2)), AVal.list 2 [iP (IntKind.i64.wrap (10 * i)), iP (Int.ofNat 0), iP (IntKind.i64.wrap (IntKind.i64.wrap (10 * i) + 5)), iP (Int.ofNat 7)], iA (Int.ofNat 0), iA (Int.ofNat 0)], AObj.row 6 0 none [iA (IntKind.i64.wrap (i + 1)), iA (IntKind.i64.wrap (IntKind.i64.wrap (2 * i) + 1)), iA (IntKind.i64.wrap (IntKind.i64.wrap (2 * i) + 2)), AVal.list 2 [iP (IntKind.i64.wrap (10 * i)), iP (Int.ofNat 0), iP (IntKind.i64.wrap (IntKind.i64.wrap (10 * i) + 5)), iP (Int.ofNat 7)], iA (Int.ofNat 0), iA (Int.ofNat 0)]]))) else (AExit.exit 0, (([iA n, iA a, iA b] ++ jk 4 ++ [AVal.ptr 0 0 0, iA i] ++ jk 15 ++ [bA false] ++ jk 99), ([AObj.box [AVal.v (Value.slice none 0 0), AVal.v (Value.slice none 0 0)]]))))
theorem fgF_eq (L : Lib Tryz.prog) (n : Int) (a : Int) (b : Int) (i : Int) : evalC (cfM L) (evalF (cfM L) 60) (fgLv) 0 0 60 (loopAt Tryz.f10 0) (fgT n a b i) ([AObj.box [nilA, nilA]]) = some (fgF L n a b i) := by
  have key := fun (bs : List Bool) (r : AExit × List AVal × List AObj) (ob : List Prop) (h : pathP (cfM L) (evalF (cfM L) 60) (fgLv) 0 0 60 [] (loopAt Tryz.f10 0) (fgT n a b i) ([AObj.box [nilA, nilA]]) bs [] = .ok (r.1, r.2.1, r.2.2, ob)) (hp : allOb ob) => pathP_ok h hp
  unfold fgF
  exact bif_case (P := fun r => evalC (cfM L) (evalF (cfM L) 60) (fgLv) 0 0 60 (loopAt Tryz.f10 0) (fgT n a b i) ([AObj.box [nilA, nilA]]) = some r)
    (fun h0 => key [true] ((AExit.normal, (([iA n, iA a, iA b] ++ jk 4 ++ [AVal.ptr 0 0 0, iA (IntKind.i64.wrap (i + 1))] ++ jk 115), ([AObj.box [AVal.row 2 0 4 0 2, AVal.row 5 0 6 0 1], AObj.row 4 0 none [iA (IntKind.i64.wrap (IntKind.i64.wrap (2 * i) + 1)), iA (IntKind.i64.wrap (10 * i)), iA (Int.ofNat 0), iA (Int.negSucc 0), iA (IntKind.i64.wrap (IntKind.i64.wrap (2 * i) + 2)), iA (IntKind.i64.wrap (IntKind.i64.wrap (10 * i) + 5)), iA (Int.ofNat 7), iA (Int.negSucc 0)], AObj.row 4 0 none [iA (IntKind.i64.wrap (IntKind.i64.wrap (2 * i) + 1)), iA (IntKind.i64.wrap (10 * i)), iA (Int.ofNat 0), iA (Int.negSucc 0), iA (IntKind.i64.wrap (IntKind.i64.wrap (2 * i) + 2)), iA (IntKind.i64.wrap (IntKind.i64.wrap (10 * i) + 5)), iA (Int.ofNat 7), iA (Int.negSucc 0)], AObj.row 2 0 (some 4) [iA (IntKind.i64.wrap (10 * i)), iA (Int.ofNat 0), iA (IntKind.i64.wrap (IntKind.i64.wrap (10 * i) + 5)), iA (Int.ofNat 7)], AObj.row 6 0 none [iA (IntKind.i64.wrap (i + 1)), iA (IntKind.i64.wrap (IntKind.i64.wrap (2 * i) + 1)), iA (IntKind.i64.wrap (IntKind.i64.wrap (2 * i) + 2)), AVal.list 2 [iP (IntKind.i64.wrap (10 * i)), iP (Int.ofNat 0), iP (IntKind.i64.wrap (IntKind.i64.wrap (10 * i) + 5)), iP (Int.ofNat 7)], iA (Int.ofNat 0), iA (Int.ofNat 0)], AObj.row 6 0 none [iA (IntKind.i64.wrap (i + 1)), iA (IntKind.i64.wrap (IntKind.i64.wrap (2 * i) + 1)), iA (IntKind.i64.wrap (IntKind.i64.wrap (2 * i) + 2)), AVal.list 2 [iP (IntKind.i64.wrap (10 * i)), iP (Int.ofNat 0), iP (IntKind.i64.wrap (IntKind.i64.wrap (10 * i) + 5)), iP (Int.ofNat 7)], iA (Int.ofNat 0), iA (Int.ofNat 0)]])))) _ (by kernel_rfl) (allOb_cons h0 allOb_nil))
    (fun h0 => key [false] ((AExit.exit 0, (([iA n, iA a, iA b] ++ jk 4 ++ [AVal.ptr 0 0 0, iA i] ++ jk 15 ++ [bA false] ++ jk 99), ([AObj.box [AVal.v (Value.slice none 0 0), AVal.v (Value.slice none 0 0)]])))) _ (by kernel_rfl) (allOb_cons h0 allOb_nil))
def fgG (L : Lib Tryz.prog) (n : Int) (a : Int) (b : Int) (i : Int) (k : Nat) (j : Nat) (xs : List AVal) (ys : List AVal) (us : List AVal) (vs : List AVal) : AExit × List AVal × List AObj :=
  (bif decide (i < n) then (AExit.normal, (([iA n, iA a, iA b] ++ jk 4 ++ [AVal.ptr 0 0 0, iA (IntKind.i64.wrap (i + 1))] ++ jk 115), ([AObj.box [AVal.row 2 1 4 0 (k + 2), AVal.row 5 1 6 0 (j + 1)], AObj.row 4 0 none [iA (IntKind.i64.wrap (IntKind.i64.wrap (2 * i) + 1)), iA (IntKind.i64.wrap (10 * i)), iA (Int.ofNat 0), iA (Int.negSucc 0), iA (IntKind.i64.wrap (IntKind.i64.wrap (2 * i) + 2)), iA (IntKind.i64.wrap (IntKind.i64.wrap (10 * i) + 5)), iA (Int.ofNat 7), iA (Int.negSucc 0)], AObj.row 4 1 none us, AObj.row 2 0 (some 4) [iA (IntKind.i64.wrap (10 * i)), iA (Int.ofNat 0), iA (IntKind.i64.wrap (IntKind.i64.wrap (10 * i) + 5)), iA (Int.ofNat 7)], AObj.row 6 0 none [iA (IntKind.i64.wrap (i + 1)), iA (IntKind.i64.wrap (IntKind.i64.wrap (2 * i) + 1)), iA (IntKind.i64.wrap (IntKind.i64.wrap (2 * i) + 2)), AVal.list 2 [iP (IntKind.i64.wrap (10 * i)), iP (Int.ofNat 0), iP (IntKind.i64.wrap (IntKind.i64.wrap (10 * i) + 5)), iP (Int.ofNat 7)], iA (Int.ofNat 0), iA (Int.ofNat 0)], AObj.row 6 1 none vs]))) else (AExit.exit 0, (([iA n, iA a, iA b] ++ jk 4 ++ [AVal.ptr 0 0 0, iA i] ++ jk 15 ++ [bA false] ++ jk 99), ([AObj.box [AVal.row 2 0 4 0 k, AVal.row 5 0 6 0 j], AObj.free, AObj.row 4 0 none xs, AObj.free, AObj.free, AObj.row 6 0 none ys]))))
theorem fgG_eq (L : Lib Tryz.prog) (n : Int) (a : Int) (b : Int) (i : Int) (k : Nat) (j : Nat) (xs : List AVal) (ys : List AVal) (us : List AVal) (vs : List AVal) (e0 : (decide (i < n)) = true → (0 + k) * 4 = List.length xs ∧ (k + 2) * 32 ≤ 140737488355328 ∧ k + 2 ≤ 9223372036854775807) (e1 : (decide (i < n)) = true → Ones [iA (IntKind.i64.wrap (IntKind.i64.wrap (2 * i) + 1)), iA (IntKind.i64.wrap (10 * i)), iA (Int.ofNat 0), iA (Int.negSucc 0), iA (IntKind.i64.wrap (IntKind.i64.wrap (2 * i) + 2)), iA (IntKind.i64.wrap (IntKind.i64.wrap (10 * i) + 5)), iA (Int.ofNat 7), iA (Int.negSucc 0)]) (e2 : (decide (i < n)) = true → List.drop 0 xs ++ [iA (IntKind.i64.wrap (IntKind.i64.wrap (2 * i) + 1)), iA (IntKind.i64.wrap (10 * i)), iA (Int.ofNat 0), iA (Int.negSucc 0), iA (IntKind.i64.wrap (IntKind.i64.wrap (2 * i) + 2)), iA (IntKind.i64.wrap (IntKind.i64.wrap (10 * i) + 5)), iA (Int.ofNat 7), iA (Int.negSucc 0)] = us) (e3 : (decide (i < n)) = true → (0 + j) * 6 = List.length ys ∧ (j + 1) * 64 ≤ 140737488355328 ∧ j + 1 ≤ 9223372036854775807) (e4 : (decide (i < n)) = true → Ones [iA (IntKind.i64.wrap (i + 1)), iA (IntKind.i64.wrap (IntKind.i64.wrap (2 * i) + 1)), iA (IntKind.i64.wrap (IntKind.i64.wrap (2 * i) + 2)), AVal.list 2 [iP (IntKind.i64.wrap (10 * i)), iP (Int.ofNat 0), iP (IntKind.i64.wrap (IntKind.i64.wrap (10 * i) + 5)), iP (Int.ofNat 7)], iA (Int.ofNat 0), iA (Int.ofNat 0)]) (e5 : (decide (i < n)) = true → List.drop 0 ys ++ [iA (IntKind.i64.wrap (i + 1)), iA (IntKind.i64.wrap (IntKind.i64.wrap (2 * i) + 1)), iA (IntKind.i64.wrap (IntKind.i64.wrap (2 * i) + 2)), AVal.list 2 [iP (IntKind.i64.wrap (10 * i)), iP (Int.ofNat 0), iP (IntKind.i64.wrap (IntKind.i64.wrap (10 * i) + 5)), iP (Int.ofNat 7)], iA (Int.ofNat 0), iA (Int.ofNat 0)] = vs) : evalC (cfM L) (evalF (cfM L) 60) (fgLv) 0 0 60 (loopAt Tryz.f10 0) (fgT n a b i) (fgS k j xs ys) = some (fgG L n a b i k j xs ys us vs) := by
  have key := fun (bs : List Bool) (r : AExit × List AVal × List AObj) (ob : List Prop) (h : pathP (cfM L) (evalF (cfM L) 60) (fgLv) 0 0 60 [(7, 16, Hint.appY us), (8, 18, Hint.appY vs)] (loopAt Tryz.f10 0) (fgT n a b i) (fgS k j xs ys) bs [] = .ok (r.1, r.2.1, r.2.2, ob)) (hp : allOb ob) => pathP_ok h hp
  unfold fgG
  exact bif_case (P := fun r => evalC (cfM L) (evalF (cfM L) 60) (fgLv) 0 0 60 (loopAt Tryz.f10 0) (fgT n a b i) (fgS k j xs ys) = some r)
    (fun h0 => key [true] ((AExit.normal, (([iA n, iA a, iA b] ++ jk 4 ++ [AVal.ptr 0 0 0, iA (IntKind.i64.wrap (i + 1))] ++ jk 115), ([AObj.box [AVal.row 2 1 4 0 (k + 2), AVal.row 5 1 6 0 (j + 1)], AObj.row 4 0 none [iA (IntKind.i64.wrap (IntKind.i64.wrap (2 * i) + 1)), iA (IntKind.i64.wrap (10 * i)), iA (Int.ofNat 0), iA (Int.negSucc 0), iA (IntKind.i64.wrap (IntKind.i64.wrap (2 * i) + 2)), iA (IntKind.i64.wrap (IntKind.i64.wrap (10 * i) + 5)), iA (Int.ofNat 7), iA (Int.negSucc 0)], AObj.row 4 1 none us, AObj.row 2 0 (some 4) [iA (IntKind.i64.wrap (10 * i)), iA (Int.ofNat 0), iA (IntKind.i64.wrap (IntKind.i64.wrap (10 * i) + 5)), iA (Int.ofNat 7)], AObj.row 6 0 none [iA (IntKind.i64.wrap (i + 1)), iA (IntKind.i64.wrap (IntKind.i64.wrap (2 * i) + 1)), iA (IntKind.i64.wrap (IntKind.i64.wrap (2 * i) + 2)), AVal.list 2 [iP (IntKind.i64.wrap (10 * i)), iP (Int.ofNat 0), iP (IntKind.i64.wrap (IntKind.i64.wrap (10 * i) + 5)), iP (Int.ofNat 7)], iA (Int.ofNat 0), iA (Int.ofNat 0)], AObj.row 6 1 none vs])))) _ (by kernel_rfl) (allOb_cons (by exact (e5 h0)) (allOb_cons (show 6 ≤ 6 from by decide) (allOb_cons (show 0 < 1 from by decide) (allOb_cons (by exact (e4 h0)) (allOb_cons (by exact (e3 h0)) (allOb_cons (by exact (e2 h0)) (allOb_cons (show 8 ≤ 8 from by decide) (allOb_cons (show 0 < 2 from by decide) (allOb_cons (by exact (e1 h0)) (allOb_cons (by exact (e0 h0)) (allOb_cons h0 allOb_nil))))))))))))
    (fun h0 => key [false] ((AExit.exit 0, (([iA n, iA a, iA b] ++ jk 4 ++ [AVal.ptr 0 0 0, iA i] ++ jk 15 ++ [bA false] ++ jk 99), ([AObj.box [AVal.row 2 0 4 0 k, AVal.row 5 0 6 0 j], AObj.free, AObj.row 4 0 none xs, AObj.free, AObj.free, AObj.row 6 0 none ys])))) _ (by kernel_rfl) (allOb_cons h0 allOb_nil))
end Go.Proofs.YtkkgimhbliocoaaGreat
/- FindGrids: the rounds of its second loop, its end. -/
namespace Go.Proofs.YtkkgimhbliocoaaGreat
open Go Vm M
set_option linter.unusedVariables false
set_option linter.unusedSimpArgs false
set_option maxRecDepth 100000
def fwT (n lo hi : Int) (l : List Int) (x : AVal) (i : Int) : List AVal := [iA n] ++ jk 10 ++ [iA lo, iA hi, nilA, slJ l, x, iA i] ++ jk 107
def fwX (n lo hi : Int) (l : List Int) (x : AVal) (i : Int) : List AVal := [iA n] ++ jk 10 ++ [iA lo, iA hi, nilA, slJ l, x, iA i] ++ jk 77 ++ [bA false] ++ jk 29
def fwN (L : Lib Tryz.prog) (n : Int) (lo : Int) (hi : Int) (i : Int) (l : List Int) : AExit × List AVal × List AObj :=
  (bif decide (i < n) then (bif decide (IntKind.i64.wrap (10 * i) ≤ hi) then (bif decide (IntKind.i64.wrap (IntKind.i64.wrap (10 * i) + 5) ≥ lo) then (AExit.normal, (([iA n] ++ jk 10 ++ [iA lo, iA hi, AVal.v (Value.slice none 0 0), AVal.list (List.length l) (intP l), AVal.row 1 0 1 0 1, iA (IntKind.i64.wrap (i + 1))] ++ jk 107), ([AObj.row 1 0 none [iA (IntKind.i64.wrap (i + 1))], AObj.row 1 0 none [iA (IntKind.i64.wrap (i + 1))]]))) else (AExit.normal, (([iA n] ++ jk 10 ++ [iA lo, iA hi, AVal.v (Value.slice none 0 0), AVal.list (List.length l) (intP l), AVal.v (Value.slice none 0 0), iA (IntKind.i64.wrap (i + 1))] ++ jk 107), []))) else (AExit.normal, (([iA n] ++ jk 10 ++ [iA lo, iA hi, AVal.v (Value.slice none 0 0), AVal.list (List.length l) (intP l), AVal.v (Value.slice none 0 0), iA (IntKind.i64.wrap (i + 1))] ++ jk 107), []))) else (AExit.exit 2, (([iA n] ++ jk 10 ++ [iA lo, iA hi, AVal.v (Value.slice none 0 0), AVal.list (List.length l) (intP l), AVal.v (Value.slice none 0 0), iA i] ++ jk 77 ++ [bA false] ++ jk 29), [])))
theorem fwN_eq (L : Lib Tryz.prog) (n : Int) (lo : Int) (hi : Int) (i : Int) (l : List Int) : evalC (cfM L) (evalF (cfM L) 60) (fgLv) 0 0 60 (loopAt Tryz.f10 1) (fwT n lo hi l nilA i) ([]) = some (fwN L n lo hi i l) := by
  have key := fun (bs : List Bool) (r : AExit × List AVal × List AObj) (ob : List Prop) (h : pathP (cfM L) (evalF (cfM L) 60) (fgLv) 0 0 60 [] (loopAt Tryz.f10 1) (fwT n lo hi l nilA i) ([]) bs [] = .ok (r.1, r.2.1, r.2.2, ob)) (hp : allOb ob) => pathP_ok h hp
  unfold fwN
  exact bif_case (P := fun r => evalC (cfM L) (evalF (cfM L) 60) (fgLv) 0 0 60 (loopAt Tryz.f10 1) (fwT n lo hi l nilA i) ([]) = some r)
    (fun h0 => bif_case (P := fun r => evalC (cfM L) (evalF (cfM L) 60) (fgLv) 0 0 60 (loopAt Tryz.f10 1) (fwT n lo hi l nilA i) ([]) = some r)
     (fun h1 => bif_case (P := fun r => evalC (cfM L) (evalF (cfM L) 60) (fgLv) 0 0 60 (loopAt Tryz.f10 1) (fwT n lo hi l nilA i) ([]) = some r)
      (fun h2 => key [true, true, true] ((AExit.normal, (([iA n] ++ jk 10 ++ [iA lo, iA hi, AVal.v (Value.slice none 0 0), AVal.list (List.length l) (intP l), AVal.row 1 0 1 0 1, iA (IntKind.i64.wrap (i + 1))] ++ jk 107), ([AObj.row 1 0 none [iA (IntKind.i64.wrap (i + 1))], AObj.row 1 0 none [iA (IntKind.i64.wrap (i + 1))]])))) _ (by kernel_rfl) (allOb_cons h2 (allOb_cons h1 (allOb_cons h0 allOb_nil))))
      (fun h2 => key [true, true, false] ((AExit.normal, (([iA n] ++ jk 10 ++ [iA lo, iA hi, AVal.v (Value.slice none 0 0), AVal.list (List.length l) (intP l), AVal.v (Value.slice none 0 0), iA (IntKind.i64.wrap (i + 1))] ++ jk 107), []))) _ (by kernel_rfl) (allOb_cons h2 (allOb_cons h1 (allOb_cons h0 allOb_nil)))))
     (fun h1 => key [true, false, false] ((AExit.normal, (([iA n] ++ jk 10 ++ [iA lo, iA hi, AVal.v (Value.slice none 0 0), AVal.list (List.length l) (intP l), AVal.v (Value.slice none 0 0), iA (IntKind.i64.wrap (i + 1))] ++ jk 107), []))) _ (by kernel_rfl) (allOb_cons lit_f (allOb_cons h1 (allOb_cons h0 allOb_nil)))))
    (fun h0 => key [false] ((AExit.exit 2, (([iA n] ++ jk 10 ++ [iA lo, iA hi, AVal.v (Value.slice none 0 0), AVal.list (List.length l) (intP l), AVal.v (Value.slice none 0 0), iA i] ++ jk 77 ++ [bA false] ++ jk 29), []))) _ (by kernel_rfl) (allOb_cons h0 allOb_nil))
def fwR (L : Lib Tryz.prog) (n : Int) (lo : Int) (hi : Int) (i : Int) (l : List Int) (k : Nat) (xs : List AVal) (us : List AVal) : AExit × List AVal × List AObj :=
  (bif decide (i < n) then (bif decide (IntKind.i64.wrap (10 * i) ≤ hi) then (bif decide (IntKind.i64.wrap (IntKind.i64.wrap (10 * i) + 5) ≥ lo) then (AExit.normal, (([iA n] ++ jk 10 ++ [iA lo, iA hi, AVal.v (Value.slice none 0 0), AVal.list (List.length l) (intP l), AVal.row 1 1 1 0 (k + 1), iA (IntKind.i64.wrap (i + 1))] ++ jk 107), ([AObj.row 1 0 none [iA (IntKind.i64.wrap (i + 1))], AObj.row 1 1 none us]))) else (AExit.normal, (([iA n] ++ jk 10 ++ [iA lo, iA hi, AVal.v (Value.slice none 0 0), AVal.list (List.length l) (intP l), AVal.row 1 0 1 0 k, iA (IntKind.i64.wrap (i + 1))] ++ jk 107), ([AObj.free, AObj.row 1 0 none xs])))) else (AExit.normal, (([iA n] ++ jk 10 ++ [iA lo, iA hi, AVal.v (Value.slice none 0 0), AVal.list (List.length l) (intP l), AVal.row 1 0 1 0 k, iA (IntKind.i64.wrap (i + 1))] ++ jk 107), ([AObj.free, AObj.row 1 0 none xs])))) else (AExit.exit 2, (([iA n] ++ jk 10 ++ [iA lo, iA hi, AVal.v (Value.slice none 0 0), AVal.list (List.length l) (intP l), AVal.row 1 0 1 0 k, iA i] ++ jk 77 ++ [bA false] ++ jk 29), ([AObj.free, AObj.row 1 0 none xs]))))
theorem fwR_eq (L : Lib Tryz.prog) (n : Int) (lo : Int) (hi : Int) (i : Int) (l : List Int) (k : Nat) (xs : List AVal) (us : List AVal) (e0 : (decide (i < n)) = true → (decide (IntKind.i64.wrap (10 * i) ≤ hi)) = true → (decide (IntKind.i64.wrap (IntKind.i64.wrap (10 * i) + 5) ≥ lo)) = true → (0 + k) * 1 = List.length xs ∧ (k + 1) * 8 ≤ 140737488355328 ∧ k + 1 ≤ 9223372036854775807) (e1 : (decide (i < n)) = true → (decide (IntKind.i64.wrap (10 * i) ≤ hi)) = true → (decide (IntKind.i64.wrap (IntKind.i64.wrap (10 * i) + 5) ≥ lo)) = true → Ones [iA (IntKind.i64.wrap (i + 1))]) (e2 : (decide (i < n)) = true → (decide (IntKind.i64.wrap (10 * i) ≤ hi)) = true → (decide (IntKind.i64.wrap (IntKind.i64.wrap (10 * i) + 5) ≥ lo)) = true → List.drop 0 xs ++ [iA (IntKind.i64.wrap (i + 1))] = us) : evalC (cfM L) (evalF (cfM L) 60) (fgLv) 0 0 60 (loopAt Tryz.f10 1) (fwT n lo hi l (AVal.row 1 0 1 0 k) i) ([AObj.free, AObj.row 1 0 none xs]) = some (fwR L n lo hi i l k xs us) := by
  have key := fun (bs : List Bool) (r : AExit × List AVal × List AObj) (ob : List Prop) (h : pathP (cfM L) (evalF (cfM L) 60) (fgLv) 0 0 60 [(20, 4, Hint.appY us)] (loopAt Tryz.f10 1) (fwT n lo hi l (AVal.row 1 0 1 0 k) i) ([AObj.free, AObj.row 1 0 none xs]) bs [] = .ok (r.1, r.2.1, r.2.2, ob)) (hp : allOb ob) => pathP_ok h hp
  unfold fwR
  exact bif_case (P := fun r => evalC (cfM L) (evalF (cfM L) 60) (fgLv) 0 0 60 (loopAt Tryz.f10 1) (fwT n lo hi l (AVal.row 1 0 1 0 k) i) ([AObj.free, AObj.row 1 0 none xs]) = some r)
    (fun h0 => bif_case (P := fun r => evalC (cfM L) (evalF (cfM L) 60) (fgLv) 0 0 60 (loopAt Tryz.f10 1) (fwT n lo hi l (AVal.row 1 0 1 0 k) i) ([AObj.free, AObj.row 1 0 none xs]) = some r)
     (fun h1 => bif_case (P := fun r => evalC (cfM L) (evalF (cfM L) 60) (fgLv) 0 0 60 (loopAt Tryz.f10 1) (fwT n lo hi l (AVal.row 1 0 1 0 k) i) ([AObj.free, AObj.row 1 0 none xs]) = some r)
      (fun h2 => key [true, true, true] ((AExit.normal, (([iA n] ++ jk 10 ++ [iA lo, iA hi, AVal.v (Value.slice none 0 0), AVal.list (List.length l) (intP l), AVal.row 1 1 1 0 (k + 1), iA (IntKind.i64.wrap (i + 1))] ++ jk 107), ([AObj.row 1 0 none [iA (IntKind.i64.wrap (i + 1))], AObj.row 1 1 none us])))) _ (by kernel_rfl) (allOb_cons (by exact (e2 h0 h1 h2)) (allOb_cons (show 1 ≤ 1 from by decide) (allOb_cons (show 0 < 1 from by decide) (allOb_cons (by exact (e1 h0 h1 h2)) (allOb_cons (by exact (e0 h0 h1 h2)) (allOb_cons h2 (allOb_cons h1 (allOb_cons h0 allOb_nil)))))))))
      (fun h2 => key [true, true, false] ((AExit.normal, (([iA n] ++ jk 10 ++ [iA lo, iA hi, AVal.v (Value.slice none 0 0), AVal.list (List.length l) (intP l), AVal.row 1 0 1 0 k, iA (IntKind.i64.wrap (i + 1))] ++ jk 107), ([AObj.free, AObj.row 1 0 none xs])))) _ (by kernel_rfl) (allOb_cons h2 (allOb_cons h1 (allOb_cons h0 allOb_nil)))))
     (fun h1 => key [true, false, false] ((AExit.normal, (([iA n] ++ jk 10 ++ [iA lo, iA hi, AVal.v (Value.slice none 0 0), AVal.list (List.length l) (intP l), AVal.row 1 0 1 0 k, iA (IntKind.i64.wrap (i + 1))] ++ jk 107), ([AObj.free, AObj.row 1 0 none xs])))) _ (by kernel_rfl) (allOb_cons lit_f (allOb_cons h1 (allOb_cons h0 allOb_nil)))))
    (fun h0 => key [false] ((AExit.exit 2, (([iA n] ++ jk 10 ++ [iA lo, iA hi, AVal.v (Value.slice none 0 0), AVal.list (List.length l) (intP l), AVal.row 1 0 1 0 k, iA i] ++ jk 77 ++ [bA false] ++ jk 29), ([AObj.free, AObj.row 1 0 none xs])))) _ (by kernel_rfl) (allOb_cons h0 allOb_nil))
noncomputable def fgB : Code := Tryz.f10.body.getD .skip
noncomputable def fgZ : Code := c2 (c2 (c2 (c2 fgB)))
noncomputable def fgX0 : Code := c2 fgZ
noncomputable def fgX1 : Code := c2 fgX0
noncomputable def fgX2 : Code := c2 fgX1
noncomputable def fgX3 : Code := c2 fgX2
noncomputable def fgX4 : Code := c2 fgX3
noncomputable def fgX5 : Code := c2 fgX4
noncomputable def fgX6 : Code := c2 fgX5
noncomputable abbrev fgK : Code := loopAt Tryz.f10 0
noncomputable abbrev fwK : Code := loopAt Tryz.f10 1
theorem fg_body : fgB = .seq (c1 fgB) (.seq (c1 (c2 fgB)) (.seq (c1 (c2 (c2 fgB))) (.seq (.seq (c1 (c1 (c2 (c2 (c2 fgB))))) (.block 0 (.loop fgK))) (.seq (c1 fgZ) (.seq (c1 fgX0) (.seq (c1 fgX1) (.seq (c1 fgX2) (.seq (c1 fgX3) (.seq (c1 fgX4) (.seq (.seq (c1 (c1 fgX5)) (.block 2 (.loop fwK))) fgX6)))))))))) := by kernel_rfl
def fzN (L : Lib Tryz.prog) (n : Int) (lo : Int) (hi : Int) (i : Int) (l : List Int) (s : Bool) : AExit × List AVal × List AObj :=
  (bif s then (AExit.ret, ((jk 6 ++ [bA true] ++ jk 117), [])) else (AExit.ret, ((jk 6 ++ [bA false] ++ jk 117), [])))
theorem fzN_eq (L : Lib Tryz.prog) (n : Int) (lo : Int) (hi : Int) (i : Int) (l : List Int) (s : Bool) (e0 : pureCall (cfM L) (evalF (cfM L) 60) 25 [PVal.list (List.length l) (intP l), PVal.v (Value.slice none 0 0)] = some (bP s)) (e1 : (s) = true → pureCall (cfM L) (evalF (cfM L) 60) 34 [] = some (bP true)) : evalC (cfM L) (evalF (cfM L) 60) (fgLv) 0 0 60 (fgX6) (fwX n lo hi l nilA i) ([]) = some (fzN L n lo hi i l s) := by
  have key := fun (bs : List Bool) (r : AExit × List AVal × List AObj) (ob : List Prop) (h : pathP (cfM L) (evalF (cfM L) 60) (fgLv) 0 0 60 [(21, 6, Hint.pcall (bP s)), (21, 9, Hint.pcall (bP true))] (fgX6) (fwX n lo hi l nilA i) ([]) bs [] = .ok (r.1, r.2.1, r.2.2, ob)) (hp : allOb ob) => pathP_ok h hp
  unfold fzN
  exact bif_case (P := fun r => evalC (cfM L) (evalF (cfM L) 60) (fgLv) 0 0 60 (fgX6) (fwX n lo hi l nilA i) ([]) = some r)
    (fun h0 => key [true, true] ((AExit.ret, ((jk 6 ++ [bA true] ++ jk 117), []))) _ (by kernel_rfl) (allOb_cons (by exact (e1 h0)) (allOb_cons h0 (allOb_cons (by exact e0) (allOb_cons lit_t allOb_nil)))))
    (fun h0 => key [true, false] ((AExit.ret, ((jk 6 ++ [bA false] ++ jk 117), []))) _ (by kernel_rfl) (allOb_cons h0 (allOb_cons (by exact e0) (allOb_cons lit_t allOb_nil))))
def fzR (L : Lib Tryz.prog) (n : Int) (lo : Int) (hi : Int) (i : Int) (l : List Int) (s : Bool) (ms : List Int) : AExit × List AVal × List AObj :=
  (bif s then (AExit.ret, ((jk 6 ++ [bA true] ++ jk 117), ([AObj.free, AObj.row 1 0 (some (List.length (intA ms))) (intA ms)]))) else (AExit.ret, ((jk 6 ++ [bA false] ++ jk 117), ([AObj.free, AObj.row 1 0 (some (List.length (intA ms))) (intA ms)]))))
theorem fzR_eq (L : Lib Tryz.prog) (n : Int) (lo : Int) (hi : Int) (i : Int) (l : List Int) (s : Bool) (ms : List Int) (e0 : pureCall (cfM L) (evalF (cfM L) 60) 25 [PVal.list (List.length l) (intP l), PVal.list (List.length ms) (intP ms)] = some (bP s)) (e1 : mapO (peek [AObj.free, AObj.row 1 0 (some (List.length (intA ms))) (intA ms)] deep) [AVal.list (List.length l) (intP l), AVal.row 1 0 1 0 (List.length ms)] = some [PVal.list (List.length l) (intP l), PVal.list (List.length ms) (intP ms)]) (e2 : List.foldl (Vm.mark 0 deep) [AObj.free, AObj.row 1 0 none (intA ms)] [AVal.list (List.length l) (intP l), AVal.row 1 0 1 0 (List.length ms)] = [AObj.free, AObj.row 1 0 (some (List.length (intA ms))) (intA ms)]) (e3 : (s) = true → pureCall (cfM L) (evalF (cfM L) 60) 34 [] = some (bP true)) : evalC (cfM L) (evalF (cfM L) 60) (fgLv) 0 0 60 (fgX6) (fwX n lo hi l (AVal.row 1 0 1 0 (List.length ms)) i) ([AObj.free, AObj.row 1 0 none (intA ms)]) = some (fzR L n lo hi i l s ms) := by
  have key := fun (bs : List Bool) (r : AExit × List AVal × List AObj) (ob : List Prop) (h : pathP (cfM L) (evalF (cfM L) 60) (fgLv) 0 0 60 [(21, 6, Hint.pcallV [slI l, slI ms] (bP s) fun S => List.set S 1 (AObj.row 1 0 (some (List.length (intA ms))) (intA ms))), (21, 9, Hint.pcall (bP true))] (fgX6) (fwX n lo hi l (AVal.row 1 0 1 0 (List.length ms)) i) ([AObj.free, AObj.row 1 0 none (intA ms)]) bs [] = .ok (r.1, r.2.1, r.2.2, ob)) (hp : allOb ob) => pathP_ok h hp
  unfold fzR
  exact bif_case (P := fun r => evalC (cfM L) (evalF (cfM L) 60) (fgLv) 0 0 60 (fgX6) (fwX n lo hi l (AVal.row 1 0 1 0 (List.length ms)) i) ([AObj.free, AObj.row 1 0 none (intA ms)]) = some r)
    (fun h0 => key [true, true] ((AExit.ret, ((jk 6 ++ [bA true] ++ jk 117), ([AObj.free, AObj.row 1 0 (some (List.length (intA ms))) (intA ms)])))) _ (by kernel_rfl) (allOb_cons (by exact (e3 h0)) (allOb_cons h0 (allOb_cons (by exact e2) (allOb_cons (by exact e1) (allOb_cons (by exact e0) (allOb_cons lit_t allOb_nil)))))))
    (fun h0 => key [true, false] ((AExit.ret, ((jk 6 ++ [bA false] ++ jk 117), ([AObj.free, AObj.row 1 0 (some (List.length (intA ms))) (intA ms)])))) _ (by kernel_rfl) (allOb_cons h0 (allOb_cons (by exact e2) (allOb_cons (by exact e1) (allOb_cons (by exact e0) (allOb_cons lit_t allOb_nil))))))
def fg9 (L : Lib Tryz.prog) (n : Int) (a : Int) (b : Int) (i : Int) (ns : List Nd) (es : List Ed) (x : PVal) (y : PVal) : AExit × List AVal × List AObj :=
  (AExit.normal, (([iA n, iA a, iA b] ++ jk 7 ++ [AVal.eptr [x, y]] ++ jk 113), ([AObj.box [AVal.row 2 0 4 0 (List.length ns), AVal.row 5 0 6 0 (List.length es)], AObj.free, AObj.row 4 0 (some (List.length (upL (flatN ns)))) (upL (flatN ns)), AObj.free, AObj.free, AObj.row 6 0 (some (List.length (upL (flatE es)))) (upL (flatE es))])))
theorem fg9_eq (L : Lib Tryz.prog) (n : Int) (a : Int) (b : Int) (i : Int) (ns : List Nd) (es : List Ed) (x : PVal) (y : PVal) (e0 : pureCall (cfM L) (evalF (cfM L) 60) 37 [PVal.agg [PVal.list (List.length ns) (flatN ns), PVal.list (List.length es) (flatE es)]] = some (PVal.ptr [x, y])) (e1 : mapO (peek [AObj.box [AVal.row 2 0 4 0 (List.length ns), AVal.row 5 0 6 0 (List.length es)], AObj.free, AObj.row 4 0 (some (List.length (upL (flatN ns)))) (upL (flatN ns)), AObj.free, AObj.free, AObj.row 6 0 (some (List.length (upL (flatE es)))) (upL (flatE es))] deep) [AVal.agg [AVal.row 2 0 4 0 (List.length ns), AVal.row 5 0 6 0 (List.length es)]] = some [PVal.agg [PVal.list (List.length ns) (flatN ns), PVal.list (List.length es) (flatE es)]]) (e2 : List.foldl (Vm.mark 0 deep) [AObj.box [AVal.row 2 0 4 0 (List.length ns), AVal.row 5 0 6 0 (List.length es)], AObj.free, AObj.row 4 0 none (upL (flatN ns)), AObj.free, AObj.free, AObj.row 6 0 none (upL (flatE es))] [AVal.agg [AVal.row 2 0 4 0 (List.length ns), AVal.row 5 0 6 0 (List.length es)]] = [AObj.box [AVal.row 2 0 4 0 (List.length ns), AVal.row 5 0 6 0 (List.length es)], AObj.free, AObj.row 4 0 (some (List.length (upL (flatN ns)))) (upL (flatN ns)), AObj.free, AObj.free, AObj.row 6 0 (some (List.length (upL (flatE es)))) (upL (flatE es))]) : evalC (cfM L) (evalF (cfM L) 60) (fgLv) 0 0 60 (c1 fgZ) ([iA n, iA a, iA b] ++ jk 4 ++ [AVal.ptr 0 0 0, iA i] ++ jk 15 ++ [bA false] ++ jk 99) (fgS (List.length ns) (List.length es) (upL (flatN ns)) (upL (flatE es))) = some (fg9 L n a b i ns es x y) := by
  have key := fun (bs : List Bool) (r : AExit × List AVal × List AObj) (ob : List Prop) (h : pathP (cfM L) (evalF (cfM L) 60) (fgLv) 0 0 60 [(9, 1, Hint.pcallV [plG ns es] (PVal.ptr [x, y]) fun S => List.set (List.set S 2 (AObj.row 4 0 (some (List.length (upL (flatN ns)))) (upL (flatN ns)))) 5 (AObj.row 6 0 (some (List.length (upL (flatE es)))) (upL (flatE es))))] (c1 fgZ) ([iA n, iA a, iA b] ++ jk 4 ++ [AVal.ptr 0 0 0, iA i] ++ jk 15 ++ [bA false] ++ jk 99) (fgS (List.length ns) (List.length es) (upL (flatN ns)) (upL (flatE es))) bs [] = .ok (r.1, r.2.1, r.2.2, ob)) (hp : allOb ob) => pathP_ok h hp
  unfold fg9
  exact key [] ((AExit.normal, (([iA n, iA a, iA b] ++ jk 7 ++ [AVal.eptr [x, y]] ++ jk 113), ([AObj.box [AVal.row 2 0 4 0 (List.length ns), AVal.row 5 0 6 0 (List.length es)], AObj.free, AObj.row 4 0 (some (List.length (upL (flatN ns)))) (upL (flatN ns)), AObj.free, AObj.free, AObj.row 6 0 (some (List.length (upL (flatE es)))) (upL (flatE es))])))) _ (by kernel_rfl) (allOb_cons (by exact e2) (allOb_cons (by exact e1) (allOb_cons (by exact e0) allOb_nil)))
end Go.Proofs.YtkkgimhbliocoaaGreat
/- FindGrids: its plan; its loops. -/
namespace Go.Proofs.YtkkgimhbliocoaaGreat
open Go Vm M
set_option linter.unusedVariables false
set_option linter.unusedSectionVars false
set_option linter.unusedSimpArgs false
set_option maxRecDepth 100000
theorem wrX {x : Int} (h1 : -1000000 ≤ x) (h2 : x ≤ 1000000) : IntKind.i64.wrap x = x := IntWalk.i64_in _ (by omega)
open Classical in
/-- One answer. -/
noncomputable def gOne (ps : List PVal) (r : PVal) (qs : List PVal) : Option PVal := if qs = ps then some r else none
theorem gOne_spec {P : Program} {f : FuncId} {ps : List PVal} {r : PVal} (h : CallsP P f ps r) : ∀ qs v, gOne ps r qs = some v → CallsP P f qs v := by
  intro qs v hv
  unfold gOne at hv
  split at hv
  · rename_i hq
    simp only [Option.some.injEq] at hv
    subst hq hv
    exact h
  · cases hv
theorem gOne_ok (ps : List PVal) (r : PVal) : gOne ps r ps = some r := if_pos rfl
/-! ## SameInts -/
noncomputable abbrev siKK : Code := loopAt Tryz.f25 0
noncomputable def siB : Code := Tryz.f25.body.getD .skip
theorem si_body : siB = .seq (c1 siB) (.seq (c1 (c2 siB)) (.seq (.seq (c1 (c1 (c2 (c2 siB)))) (.block 0 (.loop siKK))) (c2 (c2 (c2 siB))))) := by kernel_rfl
noncomputable def siFn : FnA := (c3X.tab 25).getD ⟨0, #[], .skip, []⟩
theorem siFn_tab : c3X.tab 25 = some siFn := by kernel_rfl
theorem siFn_body : siFn.body = siB := by kernel_rfl
def siX (l : List Int) : List AVal := [slJ l, slJ l] ++ jk 3 ++ [iA l.length] ++ jk 8 ++ [bA false] ++ jk 11
def siZ (l : List Int) : List AVal := [slJ l, slJ l] ++ jk 24
theorem intP_get {l : List Int} {k : Nat} (h : k < l.length) : partA Tryz.prog 3 (upL ((intP l).drop (Int.toNat (k : Int) * 1))) 0 = some (iA (l.getD k 0)) := by
  have e : (upL ((intP l).drop (Int.toNat (k : Int) * 1)))[0]? = some (iA (l.getD k 0)) := by
    rw [Int.toNat_natCast, Nat.mul_one]
    unfold intP
    rw [← List.map_drop, List.drop_eq_getElem_cons h]
    simp only [List.map_cons, upL, List.getElem?_cons_zero, List.getD_eq_getElem?_getD, List.getElem?_eq_getElem h, Option.getD_some]
    rfl
  exact e
theorem same_calls (l : List Int) (hl : l.length ≤ 1000) : CallsP Tryz.prog 25 [slI l, slI l] (bP true) := by
  refine callsP_of_A (r0 := bA true) (S := []) (callsA_of_EV c3X_ok siFn_tab (x := .ret) (.inr rfl) (T' := jk 4 ++ [bA true] ++ jk 21) (by kernel_rfl) ?_) (by rfl)
  rw [siFn_body, si_body]
  refine EV.seq (EV.of c3X_ok ev3X_ok (lv := siLv) (lo := 0) (n := 60) (T' := siZ l) (S' := []) (by kernel_rfl)) ?_
  refine EV.seq (T1 := [slJ l, slJ l] ++ jk 8 ++ [bA false] ++ jk 15) (S1 := []) ?_ ?_
  · have e : evalC c3X ev3X siLv 0 0 60 (c1 (c2 siB)) (siZ l) [] = bif ((l.length : Int) != (l.length : Int)) then some (.ret, jk 4 ++ [bA false] ++ jk 21, []) else some (.normal, [slJ l, slJ l] ++ jk 8 ++ [bA false] ++ jk 15, []) := by
      cases hb : ((l.length : Int) != (l.length : Int)) with
      | true => rw [bne_self_eq_false] at hb; cases hb
      | false =>
        refine (pathP_ok (hs := []) (bs := [false]) (ls := []) (x := .normal) (T' := [slJ l, slJ l] ++ jk 8 ++ [bA false] ++ jk 15) (S' := []) (ob := [((l.length : Int) != (l.length : Int)) = false]) (by kernel_rfl) (allOb_cons hb allOb_nil))
    rw [bne_self_eq_false, cond_false] at e
    exact EV.of c3X_ok ev3X_ok e
  refine EV.seq (EV.seq (EV.of c3X_ok ev3X_ok (lv := siLv) (lo := 0) (n := 60) (T' := siT l (0 : Nat)) (S' := []) (by kernel_rfl)) (EV.block (id := 0) (T' := siX l) (S' := []) ?_)) (EV.of c3X_ok ev3X_ok (lv := siLv) (lo := 0) (n := 60) (by kernel_rfl))
  refine EV.loop (n := l.length) (T := fun k => siT l k) (S := fun _ => []) (fun k hk => ?_) ?_ (by simp)
  · have e := siK_eq KX3 l k (l.getD k 0) (fun _ => by omega) (fun _ => intP_get hk)
    unfold siK at e
    rw [decide_eq_true (by omega : (k : Int) < (l.length : Int)), cond_true, bne_self_eq_false, cond_false, wrS (by omega)] at e
    exact EV.tidy [] (EV.of c3X_ok ev3X_ok e) (fun q hq y hy => by simp at hq) (by kernel_rfl)
  · have hd : decide ((l.length : Int) < (l.length : Int)) = false := decide_eq_false (by omega)
    have e := siK_eq KX3 l l.length 0 (fun h => by rw [hd] at h; cases h) (fun h => by rw [hd] at h; cases h)
    unfold siK at e
    rw [hd, cond_false] at e
    exact EV.of c3X_ok ev3X_ok e
/-! ## the plan -/
def gA (i : Nat) : Nd := ((2 * i + 1 : Nat), (((10 * i : Nat) : Int), 0), -1)
def gB (i : Nat) : Nd := ((2 * i + 2 : Nat), (((10 * i + 5 : Nat) : Int), 7), -1)
def gE (i : Nat) : Ed := ((i + 1 : Nat), (2 * i + 1 : Nat), (2 * i + 2 : Nat), [(((10 * i : Nat) : Int), 0), (((10 * i + 5 : Nat) : Int), 7)], 0, 0)
def nsG : Nat → List Nd
  | 0 => []
  | k + 1 => nsG k ++ [gA k, gB k]
def esG : Nat → List Ed
  | 0 => []
  | k + 1 => esG k ++ [gE k]
theorem nsG_length : ∀ k, (nsG k).length = 2 * k
  | 0 => rfl
  | k + 1 => by simp [nsG, nsG_length k]; omega
theorem esG_length : ∀ k, (esG k).length = k
  | 0 => rfl
  | k + 1 => by simp [esG, esG_length k]
theorem esG_at : ∀ (n : Nat) {k : Nat}, k < n → (esG n)[k]? = some (gE k)
  | n + 1, k, h => by
    unfold esG
    by_cases hk : k < n
    · rw [List.getElem?_append_left (by rw [esG_length]; exact hk)]
      exact esG_at n hk
    · have : k = n := by omega
      subst this
      rw [List.getElem?_append_right (by rw [esG_length]; omega), esG_length, Nat.sub_self]
      rfl
theorem nsG_mem : ∀ (n : Nat) (x : Nd), x ∈ nsG n → ∃ i, i < n ∧ (x = gA i ∨ x = gB i)
  | 0, x, h => by simp [nsG] at h
  | n + 1, x, h => by
    unfold nsG at h
    rw [List.mem_append] at h
    rcases h with h | h
    · obtain ⟨i, h1, h2⟩ := nsG_mem n x h
      exact ⟨i, by omega, h2⟩
    · simp only [List.mem_cons, List.not_mem_nil, or_false] at h
      exact ⟨n, by omega, h⟩
theorem upL_flatN2 (ns : List Nd) (a b : Nd) : upL (flatN (ns ++ [a, b])) = upL (flatN ns) ++ [iA a.1, iA a.2.1.1, iA a.2.1.2, iA a.2.2, iA b.1, iA b.2.1.1, iA b.2.1.2, iA b.2.2] := by
  induction ns with
  | nil => rfl
  | cons m ns ih => simp only [List.cons_append, flatN, upL, ih]
theorem upL_flatE1 (es : List Ed) (e : Ed) : upL (flatE (es ++ [e])) = upL (flatE es) ++ [iA e.1, iA e.2.1, iA e.2.2.1, .list e.2.2.2.1.length (flatPP e.2.2.2.1), iA e.2.2.2.2.1, iA e.2.2.2.2.2] := by
  induction es with
  | nil => rfl
  | cons m es ih => simp only [List.cons_append, flatE, upL, ih]
theorem flatE_plain : ∀ es : List Ed, (upL (flatE es)).all plainV = true
  | [] => rfl
  | e :: es => by simp [flatE, upL, up, iP, plainV, flatE_plain es]
theorem flatE_one : ∀ es : List Ed, (upL (flatE es)).all AVal.one = true
  | [] => rfl
  | e :: es => by simp [flatE, upL, up, iP, AVal.one, Value.oneCell', flatE_one es]
section
variable (L : Lib Tryz.prog) (N : Nat) (a b : Int) (hN : N ≤ 60)
def fgSt (k : Nat) : List AObj := bif Nat.beq k 0 then [.box [nilA, nilA]] else fgS (2 * k) k (upL (flatN (nsG k))) (upL (flatE (esG k)))
theorem fgSt_pos {k : Nat} (h : 1 ≤ k) : fgSt k = fgS (2 * k) k (upL (flatN (nsG k))) (upL (flatE (esG k))) := by unfold fgSt; rw [beq0 h]; rfl
include hN
theorem fg_first (h : 0 < N) : EV (cfM L) 0 fgK (fgT N a b (0 : Nat)) (fgSt 0) .normal (fgT N a b (1 : Nat)) (fgSt 1) := by
  have e := fgF_eq L N a b (0 : Nat)
  unfold fgF at e
  rw [decide_eq_true (by omega : ((0 : Nat) : Int) < (N : Int)), cond_true, wrS (by omega)] at e
  refine EV.tidy [2, 5] (EV.of (cfM_ok L) (evalF_ok (cfM_ok L) 60) e) (fun q hq y hy => ?_) (by kernel_rfl)
  simp only [List.mem_cons, List.not_mem_nil, or_false] at hq
  rcases hq with rfl | rfl
  · have := (Option.some.inj hy).symm
    subst this
    rfl
  · have := (Option.some.inj hy).symm
    subst this
    rfl
theorem fg_round {k : Nat} (h1 : 1 ≤ k) (h : k < N) : EV (cfM L) 0 fgK (fgT N a b k) (fgSt k) .normal (fgT N a b (k + 1 : Nat)) (fgSt (k + 1)) := by
  have w1 : IntKind.i64.wrap (2 * (k : Int)) = ((2 * k : Nat) : Int) := by rw [wrX (by omega) (by omega)]; omega
  have w2 : IntKind.i64.wrap (10 * (k : Int)) = ((10 * k : Nat) : Int) := by rw [wrX (by omega) (by omega)]; omega
  have w3 : IntKind.i64.wrap (((2 * k : Nat) : Int) + 1) = ((2 * k + 1 : Nat) : Int) := by rw [wrX (by omega) (by omega)]; omega
  have w4 : IntKind.i64.wrap (((2 * k : Nat) : Int) + 2) = ((2 * k + 2 : Nat) : Int) := by rw [wrX (by omega) (by omega)]; omega
  have w5 : IntKind.i64.wrap (((10 * k : Nat) : Int) + 5) = ((10 * k + 5 : Nat) : Int) := by rw [wrX (by omega) (by omega)]; omega
  have w6 : IntKind.i64.wrap ((k : Int) + 1) = ((k + 1 : Nat) : Int) := wrS (by omega)
  have e := fgG_eq L N a b k (2 * k) k (upL (flatN (nsG k))) (upL (flatE (esG k))) (upL (flatN (nsG (k + 1)))) (upL (flatE (esG (k + 1))))
    (fun _ => ⟨by rw [upLX, flatN_length, nsG_length]; omega, by omega, by omega⟩) (fun _ => rfl)
    (fun _ => by rw [w1, w2, w3, w4, w5, List.drop_zero, show nsG (k + 1) = nsG k ++ [gA k, gB k] from rfl, upL_flatN2]; rfl)
    (fun _ => ⟨by rw [upLX, flatE_length, esG_length]; omega, by omega, by omega⟩) (fun _ => rfl)
    (fun _ => by rw [w1, w2, w3, w4, w5, w6, List.drop_zero, show esG (k + 1) = esG k ++ [gE k] from rfl, upL_flatE1]; rfl)
  unfold fgG at e
  rw [decide_eq_true (by omega : (k : Int) < (N : Int)), cond_true, w6] at e
  rw [fgSt_pos h1, fgSt_pos (by omega), show 2 * (k + 1) = 2 * k + 2 by omega]
  refine EV.tidy [2, 5] (EV.of (cfM_ok L) (evalF_ok (cfM_ok L) 60) e) (fun q hq y hy => ?_) (by kernel_rfl)
  simp only [List.mem_cons, List.not_mem_nil, or_false] at hq
  rcases hq with rfl | rfl
  · have := (Option.some.inj hy).symm
    subst this
    exact flatN_plain _
  · have := (Option.some.inj hy).symm
    subst this
    exact flatE_plain _
def fgE (n a b i : Int) : List AVal := [iA n, iA a, iA b] ++ jk 4 ++ [AVal.ptr 0 0 0, iA i] ++ jk 15 ++ [bA false] ++ jk 99
theorem fg_end (h : 1 ≤ N) : EV (cfM L) 0 fgK (fgT N a b N) (fgSt N) (.exit 0) (fgE N a b N) (fgS (2 * N) N (upL (flatN (nsG N))) (upL (flatE (esG N)))) := by
  have hd : decide ((N : Int) < (N : Int)) = false := decide_eq_false (by omega)
  have e := fgG_eq L N a b N (2 * N) N (upL (flatN (nsG N))) (upL (flatE (esG N))) [] [] (fun h => by rw [hd] at h; cases h) (fun h => by rw [hd] at h; cases h) (fun h => by rw [hd] at h; cases h) (fun h => by rw [hd] at h; cases h) (fun h => by rw [hd] at h; cases h) (fun h => by rw [hd] at h; cases h)
  unfold fgG at e
  rw [hd, cond_false] at e
  rw [fgSt_pos h]
  exact EV.of (cfM_ok L) (evalF_ok (cfM_ok L) 60) e
theorem fg_loop (h : 1 ≤ N) : EV (cfM L) 0 (.loop fgK) (fgT N a b (0 : Nat)) (fgSt 0) (.exit 0) (fgE N a b N) (fgS (2 * N) N (upL (flatN (nsG N))) (upL (flatE (esG N)))) := by
  refine EV.loop (n := N) (T := fun k => fgT N a b k) (S := fun k => fgSt k) (fun k hk => ?_) (fg_end L N a b hN h) (by simp)
  by_cases h0 : k = 0
  · subst h0; exact fg_first L N a b hN (by omega)
  · exact fg_round L N a b hN (by omega) hk
end
end Go.Proofs.YtkkgimhbliocoaaGreat
/- FindGrids: what is between its loops. -/
namespace Go.Proofs.YtkkgimhbliocoaaGreat
open Go Vm M
set_option linter.unusedVariables false
set_option linter.unusedSimpArgs false
set_option maxRecDepth 100000
def fg14 (L : Lib Tryz.prog) (n : Int) (lo : Int) (hi : Int) (x : PVal) (y : PVal) (l : List Int) : AExit × List AVal × List AObj :=
  (AExit.normal, (([iA n] ++ jk 10 ++ [iA lo, iA hi, AVal.v (Value.slice none 0 0), AVal.list (List.length l) (intP l)] ++ jk 109), []))
theorem fg14_eq (L : Lib Tryz.prog) (n : Int) (lo : Int) (hi : Int) (x : PVal) (y : PVal) (l : List Int) (e0 : pureCall (cfM L) (evalF (cfM L) 60) 38 [PVal.ptr [x, y], PVal.agg [iP lo, iP (Int.ofNat 1)], PVal.agg [iP hi, iP (Int.ofNat 6)]] = some (PVal.tup [PVal.v (Value.slice none 0 0), PVal.list (List.length l) (intP l)])) : evalC (cfM L) (evalF (cfM L) 60) (fgLv) 0 0 60 (c1 fgX3) ([iA n] ++ jk 9 ++ [AVal.eptr [x, y], iA lo, iA hi] ++ jk 111) ([]) = some (fg14 L n lo hi x y l) := by
  have key := fun (bs : List Bool) (r : AExit × List AVal × List AObj) (ob : List Prop) (h : pathP (cfM L) (evalF (cfM L) 60) (fgLv) 0 0 60 [(14, 5, Hint.pcall (PVal.tup [nilP, slI l]))] (c1 fgX3) ([iA n] ++ jk 9 ++ [AVal.eptr [x, y], iA lo, iA hi] ++ jk 111) ([]) bs [] = .ok (r.1, r.2.1, r.2.2, ob)) (hp : allOb ob) => pathP_ok h hp
  unfold fg14
  exact key [] ((AExit.normal, (([iA n] ++ jk 10 ++ [iA lo, iA hi, AVal.v (Value.slice none 0 0), AVal.list (List.length l) (intP l)] ++ jk 109), []))) _ (by kernel_rfl) (allOb_cons (by exact e0) allOb_nil)
end Go.Proofs.YtkkgimhbliocoaaGreat
/- FindGrids: which boxes a window meets; its second loop. -/
namespace Go.Proofs.YtkkgimhbliocoaaGreat
open Go Vm M
set_option linter.unusedVariables false
set_option linter.unusedSectionVars false
set_option linter.unusedSimpArgs false
set_option maxRecDepth 100000
theorem nearQ {p : P2} (h1 : -1048576 ≤ p.1 ∧ p.1 ≤ 1048576) (h2 : -1048576 ≤ p.2 ∧ p.2 ≤ 1048576) : nearP p = p := by
  unfold nearP
  rw [near1_id h1, near1_id h2]
theorem eBx_gE {i : Nat} (h : i ≤ 60) : eBx (gE i) = ((((i + 1 : Nat) : Int), (((10 * i : Nat) : Int), 0), (((10 * i + 5 : Nat) : Int), 7)) : Bx) := by
  have e0 : pAt [(((10 * i : Nat) : Int), (0 : Int)), (((10 * i + 5 : Nat) : Int), 7)] 0 = (((10 * i : Nat) : Int), 0) := by rw [pAt_eq]; rfl
  have e1 : pAt [(((10 * i : Nat) : Int), (0 : Int)), (((10 * i + 5 : Nat) : Int), 7)] 1 = (((10 * i + 5 : Nat) : Int), 7) := by rw [pAt_eq]; rfl
  have n0 : nearP (((10 * i : Nat) : Int), (0 : Int)) = (((10 * i : Nat) : Int), 0) := nearQ ⟨by simp only; omega, by simp only; omega⟩ ⟨by simp only; omega, by simp only; omega⟩
  have n1 : nearP (((10 * i + 5 : Nat) : Int), (7 : Int)) = (((10 * i + 5 : Nat) : Int), 7) := nearQ ⟨by simp only; omega, by simp only; omega⟩ ⟨by simp only; omega, by simp only; omega⟩
  have m1 : min (((10 * i : Nat) : Int)) (((10 * i + 5 : Nat) : Int)) = ((10 * i : Nat) : Int) := by omega
  have m2 : max (((10 * i : Nat) : Int)) (((10 * i + 5 : Nat) : Int)) = ((10 * i + 5 : Nat) : Int) := by omega
  show ((((i + 1 : Nat) : Int), (boxK [(((10 * i : Nat) : Int), (0 : Int)), (((10 * i + 5 : Nat) : Int), 7)] (0 + 1 + 1)).1, (boxK [(((10 * i : Nat) : Int), (0 : Int)), (((10 * i + 5 : Nat) : Int), 7)] (0 + 1 + 1)).2) : Bx) = _
  simp only [boxK, e0, e1, n0, n1, minP, maxP, m1, m2]
  rfl
section
variable (lo hi : Int) (hl : -1000 ≤ lo) (hh : hi ≤ 2000) (hlh : lo ≤ hi)
include hl hh hlh
theorem win_id : nearP (lo, 1) = (lo, 1) ∧ nearP (hi, 6) = (hi, 6) :=
  ⟨nearQ ⟨by simp only; omega, by simp only; omega⟩ ⟨by simp only; omega, by simp only; omega⟩, nearQ ⟨by simp only; omega, by simp only; omega⟩ ⟨by simp only; omega, by simp only; omega⟩⟩
theorem hit_A {i : Nat} (h : i ≤ 60) : hitB (lo, 1) (hi, 6) (nBx (gA i)) = false := by
  obtain ⟨w1, w2⟩ := win_id lo hi hl hh hlh
  have n0 : nearP (((10 * i : Nat) : Int), (0 : Int)) = (((10 * i : Nat) : Int), 0) := nearQ ⟨by simp only; omega, by simp only; omega⟩ ⟨by simp only; omega, by simp only; omega⟩
  show meetB (((10 * i : Nat) : Int), (0 : Int)) (((10 * i : Nat) : Int), 0) (lo, 1) (hi, 6) = false
  unfold meetB
  rw [n0, w1, w2]
  unfold leP
  simp
theorem hit_B {i : Nat} (h : i ≤ 60) : hitB (lo, 1) (hi, 6) (nBx (gB i)) = false := by
  obtain ⟨w1, w2⟩ := win_id lo hi hl hh hlh
  have n0 : nearP (((10 * i + 5 : Nat) : Int), (7 : Int)) = (((10 * i + 5 : Nat) : Int), 7) := nearQ ⟨by simp only; omega, by simp only; omega⟩ ⟨by simp only; omega, by simp only; omega⟩
  show meetB (((10 * i + 5 : Nat) : Int), (7 : Int)) (((10 * i + 5 : Nat) : Int), 7) (lo, 1) (hi, 6) = false
  unfold meetB
  rw [n0, w1, w2]
  unfold leP
  simp
def cnd (lo hi : Int) (i : Nat) : Bool := decide (((10 * i : Nat) : Int) ≤ hi) && decide (((10 * i + 5 : Nat) : Int) ≥ lo)
theorem hit_E {i : Nat} (h : i ≤ 60) : hitB (lo, 1) (hi, 6) (eBx (gE i)) = cnd lo hi i := by
  obtain ⟨w1, w2⟩ := win_id lo hi hl hh hlh
  have n0 : nearP (((10 * i : Nat) : Int), (0 : Int)) = (((10 * i : Nat) : Int), 0) := nearQ ⟨by simp only; omega, by simp only; omega⟩ ⟨by simp only; omega, by simp only; omega⟩
  have n1 : nearP (((10 * i + 5 : Nat) : Int), (7 : Int)) = (((10 * i + 5 : Nat) : Int), 7) := nearQ ⟨by simp only; omega, by simp only; omega⟩ ⟨by simp only; omega, by simp only; omega⟩
  rw [eBx_gE h]
  show meetB (((10 * i : Nat) : Int), (0 : Int)) (((10 * i + 5 : Nat) : Int), 7) (lo, 1) (hi, 6) = _
  unfold meetB
  rw [n0, n1, w1, w2]
  unfold leP cnd
  simp only
  rw [decide_eq_true (by omega : ((10 * i : Nat) : Int) ≤ ((10 * i + 5 : Nat) : Int)), decide_eq_true (by omega : (0 : Int) ≤ 7), decide_eq_true (by omega : (0 : Int) ≤ 6), decide_eq_true (by omega : (1 : Int) ≤ 7), decide_eq_true hlh, decide_eq_true (by omega : (1 : Int) ≤ 6)]
  simp only [Bool.true_and, Bool.and_true]
def wL (lo hi : Int) : Nat → List Int
  | 0 => []
  | k + 1 => wL lo hi k ++ (bif cnd lo hi k then [((k + 1 : Nat) : Int)] else [])
theorem hits_e {N : Nat} (hN : N ≤ 60) : ∀ k, k ≤ N → hitL ((esG N).map eBx) (lo, 1) (hi, 6) k = wL lo hi k := by
  intro k
  induction k with
  | zero => intro _; rfl
  | succ k ih =>
    intro hk
    have hb : bAt ((esG N).map eBx) k = eBx (gE k) := bAt_get (by rw [List.getElem?_map, esG_at N (by omega)]; rfl)
    rw [hitL_succ (lo, 1) (hi, 6) (by rw [List.length_map, esG_length]; omega), ih (by omega), hb, hit_E lo hi hl hh hlh (by omega), eBx_gE (by omega)]
    rfl
theorem hits_n {N : Nat} (hN : N ≤ 60) (k : Nat) : hitL ((nsG N).map nBx) (lo, 1) (hi, 6) k = [] := by
  unfold hitL
  have : (((nsG N).map nBx).take k).filter (hitB (lo, 1) (hi, 6)) = [] := by
    rw [List.filter_eq_nil_iff]
    intro x hx
    obtain ⟨y, hy, rfl⟩ := List.mem_map.1 (List.mem_of_mem_take hx)
    obtain ⟨i, hi', rfl | rfl⟩ := nsG_mem N y hy
    · rw [hit_A lo hi hl hh hlh (by omega)]; simp
    · rw [hit_B lo hi hl hh hlh (by omega)]; simp
  rw [this]
  rfl
end
theorem wL_le (lo hi : Int) : ∀ k, (wL lo hi k).length ≤ k
  | 0 => Nat.le_refl _
  | k + 1 => by
    have := wL_le lo hi k
    simp only [wL, List.length_append]
    cases cnd lo hi k <;> simp <;> omega
section
variable (L : Lib Tryz.prog) (N : Nat) (lo hi : Int) (l : List Int) (hN : N ≤ 60)
def fwX0 (ids : List Int) : AVal := bif Nat.beq ids.length 0 then nilA else .row 1 0 1 0 ids.length
def fwS0 (ids : List Int) : List AObj := bif Nat.beq ids.length 0 then [] else [.free, .row 1 0 none (intA ids)]
theorem fwX0_pos {ids : List Int} (h : 1 ≤ ids.length) : fwX0 ids = .row 1 0 1 0 ids.length ∧ fwS0 ids = [.free, .row 1 0 none (intA ids)] := by
  unfold fwX0 fwS0; rw [beq0 h]; exact ⟨rfl, rfl⟩
include hN
theorem fw_round {k : Nat} (h : k < N) : EV (cfM L) 0 fwK (fwT N lo hi l (fwX0 (wL lo hi k)) k) (fwS0 (wL lo hi k)) .normal (fwT N lo hi l (fwX0 (wL lo hi (k + 1))) (k + 1 : Nat)) (fwS0 (wL lo hi (k + 1))) := by
  have w2 : IntKind.i64.wrap (10 * (k : Int)) = ((10 * k : Nat) : Int) := by rw [wrX (by omega) (by omega)]; omega
  have w5 : IntKind.i64.wrap (((10 * k : Nat) : Int) + 5) = ((10 * k + 5 : Nat) : Int) := by rw [wrX (by omega) (by omega)]; omega
  have w6 : IntKind.i64.wrap ((k : Int) + 1) = ((k + 1 : Nat) : Int) := wrS (by omega)
  have hle := wL_le lo hi k
  show EV _ _ _ _ _ _ (fwT N lo hi l (fwX0 (wL lo hi k ++ (bif cnd lo hi k then [((k + 1 : Nat) : Int)] else []))) (k + 1 : Nat)) (fwS0 (wL lo hi k ++ (bif cnd lo hi k then [((k + 1 : Nat) : Int)] else [])))
  generalize hids : wL lo hi k = ids at *
  by_cases h0 : ids = []
  · subst h0
    have e := fwN_eq L N lo hi k l
    unfold fwN at e
    rw [decide_eq_true (by omega : (k : Int) < (N : Int)), cond_true, w2, w5, w6] at e
    unfold cnd
    cases c1 : decide (((10 * k : Nat) : Int) ≤ hi) with
    | false =>
      rw [c1, cond_false] at e
      exact EV.tidy [] (EV.of (cfM_ok L) (evalF_ok (cfM_ok L) 60) e) (fun q hq y hy => by simp at hq) (by kernel_rfl)
    | true =>
      rw [c1, cond_true] at e
      cases c2 : decide (((10 * k + 5 : Nat) : Int) ≥ lo) with
      | false =>
        rw [c2, cond_false] at e
        exact EV.tidy [] (EV.of (cfM_ok L) (evalF_ok (cfM_ok L) 60) e) (fun q hq y hy => by simp at hq) (by kernel_rfl)
      | true =>
        rw [c2, cond_true] at e
        exact EV.tidy [] (EV.of (cfM_ok L) (evalF_ok (cfM_ok L) 60) e) (fun q hq y hy => by simp at hq) (by kernel_rfl)
  · have h1 := len_pos h0
    obtain ⟨x1, x2⟩ := fwX0_pos h1
    rw [x1, x2]
    have e := fwR_eq L N lo hi k l ids.length (intA ids) (intA (ids ++ [((k + 1 : Nat) : Int)])) (fun _ _ _ => ⟨by rw [intA_length]; omega, by omega, by omega⟩) (fun _ _ _ => rfl) (fun _ _ _ => by rw [w6, List.drop_zero]; unfold intA; rw [List.map_append]; rfl)
    unfold fwR at e
    rw [decide_eq_true (by omega : (k : Int) < (N : Int)), cond_true, w2, w5, w6] at e
    have keep : EV (cfM L) 0 fwK (fwT N lo hi l (.row 1 0 1 0 ids.length) k) [.free, .row 1 0 none (intA ids)] .normal (fwT N lo hi l (.row 1 0 1 0 ids.length) (k + 1 : Nat)) [.free, .row 1 0 none (intA ids)] → EV (cfM L) 0 fwK (fwT N lo hi l (.row 1 0 1 0 ids.length) k) [.free, .row 1 0 none (intA ids)] .normal (fwT N lo hi l (fwX0 (ids ++ [])) (k + 1 : Nat)) (fwS0 (ids ++ [])) := fun h => by rw [List.append_nil, x1, x2]; exact h
    unfold cnd
    cases c1 : decide (((10 * k : Nat) : Int) ≤ hi) with
    | false =>
      rw [c1, cond_false] at e
      exact keep (EV.of (cfM_ok L) (evalF_ok (cfM_ok L) 60) e)
    | true =>
      rw [c1, cond_true] at e
      cases c2 : decide (((10 * k + 5 : Nat) : Int) ≥ lo) with
      | false =>
        rw [c2, cond_false] at e
        exact keep (EV.of (cfM_ok L) (evalF_ok (cfM_ok L) 60) e)
      | true =>
        rw [c2, cond_true] at e
        have hp : 1 ≤ (ids ++ [((k + 1 : Nat) : Int)]).length := by simp
        obtain ⟨y1, y2⟩ := fwX0_pos hp
        show EV _ _ _ _ _ _ (fwT N lo hi l (fwX0 (ids ++ [((k + 1 : Nat) : Int)])) (k + 1 : Nat)) (fwS0 (ids ++ [((k + 1 : Nat) : Int)]))
        rw [y1, y2, List.length_append, List.length_singleton]
        refine EV.tidy [1] (EV.of (cfM_ok L) (evalF_ok (cfM_ok L) 60) e) (fun q hq y hy => ?_) (by kernel_rfl)
        simp only [List.mem_singleton] at hq
        subst hq
        have := (Option.some.inj hy).symm
        subst this
        exact intA_plain _
theorem fw_end : EV (cfM L) 0 fwK (fwT N lo hi l (fwX0 (wL lo hi N)) N) (fwS0 (wL lo hi N)) (.exit 2) (fwX N lo hi l (fwX0 (wL lo hi N)) N) (fwS0 (wL lo hi N)) := by
  have hd : decide ((N : Int) < (N : Int)) = false := decide_eq_false (by omega)
  generalize hids : wL lo hi N = ids at *
  by_cases h0 : ids = []
  · subst h0
    have e := fwN_eq L N lo hi N l
    unfold fwN at e
    rw [hd, cond_false] at e
    exact EV.of (cfM_ok L) (evalF_ok (cfM_ok L) 60) e
  · obtain ⟨x1, x2⟩ := fwX0_pos (len_pos h0)
    rw [x1, x2]
    have e := fwR_eq L N lo hi N l ids.length (intA ids) [] (fun h => by rw [hd] at h; cases h) (fun h => by rw [hd] at h; cases h) (fun h => by rw [hd] at h; cases h)
    unfold fwR at e
    rw [hd, cond_false] at e
    exact EV.of (cfM_ok L) (evalF_ok (cfM_ok L) 60) e
theorem fw_loop : EV (cfM L) 0 (.loop fwK) (fwT N lo hi l nilA (0 : Nat)) [] (.exit 2) (fwX N lo hi l (fwX0 (wL lo hi N)) N) (fwS0 (wL lo hi N)) :=
  EV.loop (n := N) (T := fun k => fwT N lo hi l (fwX0 (wL lo hi k)) k) (S := fun k => fwS0 (wL lo hi k)) (fun k hk => fw_round L N lo hi l hN hk) (fw_end L N lo hi l hN) (by simp)
end
end Go.Proofs.YtkkgimhbliocoaaGreat
/- FindGrids: the whole call. -/
namespace Go.Proofs.YtkkgimhbliocoaaGreat
open Go Vm M
set_option linter.unusedVariables false
set_option linter.unusedSectionVars false
set_option linter.unusedSimpArgs false
set_option maxRecDepth 100000
theorem Rp_nil_list {L : Look} {u : Value} (h : Rp L nilP u) : Rp L (slI []) u := by
  simp only [nilP, Rp] at h
  subst h
  simp only [slI, intP, List.map_nil, List.length_nil, Rp, Rps]
  exact ⟨none, 0, rfl, Nat.le_refl _, trivial⟩
theorem callsP_res {P : Program} {F : FuncId} {ps : List PVal} {r r' : PVal} (h : CallsP P F ps r) (hw : Wk r r') : CallsP P F ps r' :=
  fun ok w vs h1 h2 h3 => (h ok w vs h1 h2 h3).mono fun e w' ⟨v, ok', k1, k2, k3, k4, k5, k6⟩ => ⟨v, ok', k1, k2, k3, k4, k5, hw _ _ k6⟩
theorem idsX_wk (ids : List Int) : Wk (idsX ids) (slI ids) := by
  intro L u hu
  unfold idsX at hu
  cases ids with
  | nil => exact Rp_nil_list hu
  | cons a tl => exact hu
theorem tup2_wk {x y y' : PVal} (h : Wk y y') : Wk (.tup [x, y]) (.tup [x, y']) := by
  intro L u hu
  simp only [Rp, Rps] at hu ⊢
  obtain ⟨cs, h1, h2, ⟨v0, h3, h4⟩, ⟨v1, h5, h6⟩, _⟩ := hu
  exact ⟨cs, h1, h2, ⟨v0, h3, h4⟩, ⟨v1, h5, h _ _ h6⟩, trivial⟩
theorem window_A' (cl el : List Bx) (lo hi : P2) (hl : cl.length ≤ 1000) (hl2 : el.length ≤ 1000) (h1 : hitL cl lo hi cl.length = []) : CallsP Tryz.prog 38 [.ptr [bsP cl, bsP el], ptP lo, ptP hi] (.tup [nilP, slI (hitL el lo hi el.length)]) :=
  callsP_res (window_A cl el lo hi hl hl2 h1) (tup2_wk (idsX_wk _))
theorem same_wk (ids : List Int) (hl : ids.length ≤ 1000) : CallsP Tryz.prog 25 [slI ids, idsX ids] (bP true) := callsP_weak (same_calls ids hl) ⟨Wk.refl _, idsX_wk ids, trivial⟩
def isPL : PVal → Bool
  | .v _ => true
  | .list _ _ => true
  | _ => false
theorem peek_flatL (S : List AObj) (n : Nat) : ∀ {ps : List PVal}, ps.all isPL = true → mapO (peek S (n + 1)) (upL ps) = some ps
  | [], _ => rfl
  | p :: ps, h => by
    simp only [List.all_cons, Bool.and_eq_true] at h
    have ih := peek_flatL S n h.2
    cases p <;> simp only [isPL, Bool.false_eq_true] at h
    · simp only [upL, up, mapO, peek, ih]
    all_goals first | (simp only [upL, up, mapO, peek, ih]; done) | exact absurd h.1 (by simp)
theorem peek_rowL {S : List AObj} {o n e sz len : Nat} {ps : List PVal} (h : S[o]? = some (.row sz e (some (upL ps).length) (upL ps))) (hl : ps.length = len * sz) (hv : ps.all isPL = true) : peek S (n + 2) (.row o e sz 0 len) = some (.list len ps) := by
  simp only [peek, h]
  have hc : cutA (upL ps) sz 0 (0 + len) = upL ps := by
    unfold cutA
    rw [Nat.zero_mul, List.drop_zero, List.take_of_length_le (by rw [upLX, hl, Nat.zero_add, Nat.sub_zero]; exact Nat.le_refl _)]
  rw [if_pos ⟨trivial, trivial, by rw [upLX, hl, Nat.zero_add]; exact Nat.le_refl _⟩, hc, peek_flatL S n hv]
  rfl
theorem flatN_pl : ∀ ns : List Nd, (flatN ns).all isPL = true
  | [] => rfl
  | n :: ns => by simp [flatN, isPL, flatN_pl ns]
theorem flatE_pl : ∀ es : List Ed, (flatE es).all isPL = true
  | [] => rfl
  | e :: es => by simp [flatE, iP, isPL, flatE_pl es]
section
variable (N : Nat) (lo hi : Int)
def clG : List Bx := (nsG N).map nBx
def elG : List Bx := (esG N).map eBx
/-- What is known for these numbers. -/
noncomputable def LG (h1 : 1 ≤ N) (hN : N ≤ 60) (hl : -1000 ≤ lo) (hh : hi ≤ 2000) (hlh : lo ≤ hi) : Lib Tryz.prog :=
  ((((KX3.add 37 (gOne [plG (nsG N) (esG N)] (.ptr [bxP (clG N), bxP (elG N)])) (Vm.enters_of named_prog Tryz.func37 (by kernel_rfl))
      (gOne_spec (build_ne (nsG N) (esG N) (by rw [nsG_length]; omega) (by rw [nsG_length]; omega) (by rw [esG_length]; omega) (by rw [esG_length]; omega) (fun k hk => by
        rw [esG_length] at hk
        rw [eAt_get (esG_at N hk)]
        exact ⟨by show 1 ≤ 2; omega, by show 2 ≤ 200; omega⟩)))).add
    38 (gOne [.ptr [bsP (clG N), bsP (elG N)], ptP (lo, 1), ptP (hi, 6)] (.tup [nilP, slI (wL lo hi N)])) (Vm.enters_of named_prog Tryz.func38 (by kernel_rfl))
      (gOne_spec (by
        have := window_A' (clG N) (elG N) (lo, 1) (hi, 6) (by unfold clG; rw [List.length_map, nsG_length]; omega) (by unfold elG; rw [List.length_map, esG_length]; omega) (hits_n lo hi hl hh hlh hN _)
        rw [show (elG N).length = N by unfold elG; rw [List.length_map, esG_length]] at this
        unfold elG at this
        rw [hits_e lo hi hl hh hlh hN N (Nat.le_refl _)] at this
        exact this))).add
    25 (gOne [slI (wL lo hi N), idsX (wL lo hi N)] (bP true)) (Vm.enters_of named_prog Tryz.func25 (by kernel_rfl))
      (gOne_spec (same_wk _ (by have := wL_le lo hi N; omega)))).add
    34 (gOne [] (bP true)) (Vm.enters_of named_prog Tryz.func34 (by kernel_rfl)) (gOne_spec aw20_calls))
end
def and1023 (f : Int) : Int := IntKind.i64.wrap ((BitVec.ofInt IntKind.i64.bits f &&& BitVec.ofInt IntKind.i64.bits 1023).toNat : Nat)
theorem and1023_le (f : Int) : 0 ≤ and1023 f ∧ and1023 f ≤ 1023 := by
  have h : (BitVec.ofInt IntKind.i64.bits f &&& BitVec.ofInt IntKind.i64.bits 1023).toNat ≤ 1023 := by
    rw [BitVec.toNat_and]
    exact Nat.le_trans Nat.and_le_right (by decide)
  unfold and1023
  rw [IntWalk.i64_in _ (by omega)]
  omega
def a255 (f : Int) : Int := IntKind.i64.wrap ((BitVec.ofInt IntKind.i64.bits f &&& BitVec.ofInt IntKind.i64.bits 255).toNat : Nat)
theorem a255_le (f : Int) : 0 ≤ a255 f ∧ a255 f ≤ 255 := by
  have h : (BitVec.ofInt IntKind.i64.bits f &&& BitVec.ofInt IntKind.i64.bits 255).toNat ≤ 255 := by
    rw [BitVec.toNat_and]
    exact Nat.le_trans Nat.and_le_right (by decide)
  unfold a255
  rw [IntWalk.i64_in _ (by omega)]
  omega
def fgM (a b : Int) : Int := if IntKind.i64.wrap (and1023 b - 20) < IntKind.i64.wrap (and1023 a - 20) then IntKind.i64.wrap (and1023 b - 20) else IntKind.i64.wrap (and1023 a - 20)
def fgH (a b : Int) : Int := if IntKind.i64.wrap (and1023 b - 20) > IntKind.i64.wrap (and1023 a - 20) then IntKind.i64.wrap (and1023 b - 20) else IntKind.i64.wrap (and1023 a - 20)
theorem fgMH (a b : Int) : -1000 ≤ fgM a b ∧ fgH a b ≤ 2000 ∧ fgM a b ≤ fgH a b := by
  obtain ⟨a1, a2⟩ := and1023_le a
  obtain ⟨b1, b2⟩ := and1023_le b
  unfold fgM fgH
  rw [wrX (by omega) (by omega), wrX (by omega) (by omega)]
  refine ⟨?_, ?_, ?_⟩
  · split <;> omega
  · split <;> omega
  · split <;> split <;> omega
theorem fgZ9 (N : Nat) (a b lo hi : Int) (h1 : 1 ≤ N) (hN : N ≤ 60) (hl : -1000 ≤ lo) (hh : hi ≤ 2000) (hlh : lo ≤ hi) : EV (cfM (LG N lo hi h1 hN hl hh hlh)) 0 (c1 fgZ) (fgE N a b N) (fgS (2 * N) N (upL (flatN (nsG N))) (upL (flatE (esG N)))) .normal ([iA N, iA a, iA b] ++ jk 7 ++ [.eptr [bsP (clG N), bsP (elG N)]] ++ jk 113) [] := by
  have hx : bxP (clG N) = bsP (clG N) := by unfold bxP; rw [beq0 (by unfold clG; rw [List.length_map, nsG_length]; omega)]; rfl
  have hy : bxP (elG N) = bsP (elG N) := by unfold bxP; rw [beq0 (by unfold elG; rw [List.length_map, esG_length]; omega)]; rfl
  have mk : ([.agg [.row 2 0 4 0 (nsG N).length, .row 5 0 6 0 (esG N).length]] : List AVal).foldl (Vm.mark 0 deep) [.box [.row 2 0 4 0 (nsG N).length, .row 5 0 6 0 (esG N).length], .free, .row 4 0 none (upL (flatN (nsG N))), .free, .free, .row 6 0 none (upL (flatE (esG N)))] = [.box [.row 2 0 4 0 (nsG N).length, .row 5 0 6 0 (esG N).length], .free, .row 4 0 (some (upL (flatN (nsG N))).length) (upL (flatN (nsG N))), .free, .free, .row 6 0 (some (upL (flatE (esG N))).length) (upL (flatE (esG N)))] := by
    show Vm.mark 0 (4 + 1) (Vm.mark 0 (4 + 1) ([.box [.row 2 0 4 0 (nsG N).length, .row 5 0 6 0 (esG N).length], .free, .row 4 0 none (upL (flatN (nsG N))), .free, .free, .row 6 0 none (upL (flatE (esG N)))] : List AObj) (.row 2 0 4 0 (nsG N).length)) (.row 5 0 6 0 (esG N).length) = _
    rw [mark_rowG (S := ([.box [.row 2 0 4 0 (nsG N).length, .row 5 0 6 0 (esG N).length], .free, .row 4 0 none (upL (flatN (nsG N))), .free, .free, .row 6 0 none (upL (flatE (esG N)))] : List AObj)) (o := 2) (sz := 4) (e := 0) (fz := none) (xs := upL (flatN (nsG N))) rfl (flatN_plain _)]
    rw [mark_rowG (S := (([.box [.row 2 0 4 0 (nsG N).length, .row 5 0 6 0 (esG N).length], .free, .row 4 0 none (upL (flatN (nsG N))), .free, .free, .row 6 0 none (upL (flatE (esG N)))] : List AObj).set 2 (.row 4 0 (some (upL (flatN (nsG N))).length) (upL (flatN (nsG N)))))) (o := 5) (sz := 6) (e := 0) (fz := none) (xs := upL (flatE (esG N))) rfl (flatE_plain _)]
    rfl
  have pk : mapO (peek [.box [.row 2 0 4 0 (nsG N).length, .row 5 0 6 0 (esG N).length], .free, .row 4 0 (some (upL (flatN (nsG N))).length) (upL (flatN (nsG N))), .free, .free, .row 6 0 (some (upL (flatE (esG N))).length) (upL (flatE (esG N)))] deep) [.agg [.row 2 0 4 0 (nsG N).length, .row 5 0 6 0 (esG N).length]] = some [plG (nsG N) (esG N)] := by
    have p1 : peek [.box [.row 2 0 4 0 (nsG N).length, .row 5 0 6 0 (esG N).length], .free, .row 4 0 (some (upL (flatN (nsG N))).length) (upL (flatN (nsG N))), .free, .free, .row 6 0 (some (upL (flatE (esG N))).length) (upL (flatE (esG N)))] (3 + 2) (.row 2 0 4 0 (nsG N).length) = some (.list (nsG N).length (flatN (nsG N))) := peek_rowL rfl (flatN_length _) (flatN_pl _)
    have p2 : peek [.box [.row 2 0 4 0 (nsG N).length, .row 5 0 6 0 (esG N).length], .free, .row 4 0 (some (upL (flatN (nsG N))).length) (upL (flatN (nsG N))), .free, .free, .row 6 0 (some (upL (flatE (esG N))).length) (upL (flatE (esG N)))] (3 + 2) (.row 5 0 6 0 (esG N).length) = some (.list (esG N).length (flatE (esG N))) := peek_rowL rfl (flatE_length _) (flatE_pl _)
    have p3 : peek [.box [.row 2 0 4 0 (nsG N).length, .row 5 0 6 0 (esG N).length], .free, .row 4 0 (some (upL (flatN (nsG N))).length) (upL (flatN (nsG N))), .free, .free, .row 6 0 (some (upL (flatE (esG N))).length) (upL (flatE (esG N)))] deep (.agg [.row 2 0 4 0 (nsG N).length, .row 5 0 6 0 (esG N).length]) = some (plG (nsG N) (esG N)) := by
      show (mapO (peek _ 5) [.row 2 0 4 0 (nsG N).length, .row 5 0 6 0 (esG N).length]).map PVal.agg = _
      simp only [mapO]
      rw [p1, p2]
      rfl
    simp only [mapO, p3]
  have e := fg9_eq (LG N lo hi h1 hN hl hh hlh) N a b N (nsG N) (esG N) (bsP (clG N)) (bsP (elG N)) (pure_given (g := gOne [plG (nsG N) (esG N)] (.ptr [bxP (clG N), bxP (elG N)])) (by kernel_rfl) (by rw [hx, hy]; exact gOne_ok _ _)) pk mk
  rw [nsG_length, esG_length] at e
  unfold fg9 at e
  rw [nsG_length, esG_length] at e
  exact EV.tidy [2, 5] (EV.of (cfM_ok _) (evalF_ok (cfM_ok _) 60) e) (fun q hq y hy => by
    simp only [List.mem_cons, List.not_mem_nil, or_false] at hq
    rcases hq with rfl | rfl
    · have := (Option.some.inj hy).symm
      subst this
      exact flatN_plain _
    · have := (Option.some.inj hy).symm
      subst this
      exact flatE_plain _) (by kernel_rfl)
end Go.Proofs.YtkkgimhbliocoaaGreat
/- FindGrids: the whole call answers true. -/
namespace Go.Proofs.YtkkgimhbliocoaaGreat
open Go Vm M
set_option linter.unusedVariables false
set_option linter.unusedSectionVars false
set_option linter.unusedSimpArgs false
set_option maxRecDepth 100000
noncomputable def fgFn : FnA := (c3X.tab 10).getD ⟨0, #[], .skip, []⟩
theorem fgFn_tab (L : Lib Tryz.prog) : (cfM L).tab 10 = some fgFn := by kernel_rfl
theorem fgFn_body : fgFn.body = fgB := by kernel_rfl
section
variable (L : Lib Tryz.prog)
theorem EVL {code : Code} {T T' : List AVal} {S S' : List AObj} {x : AExit} (h : evalC (cfM L) (evalF (cfM L) 60) fgLv 0 0 60 code T S = some (x, T', S')) : EV (cfM L) 0 code T S x T' S' := EV.of (cfM_ok L) (evalF_ok (cfM_ok L) 60) h
theorem fg_r0 (n a b : Int) : EV (cfM L) 0 (c1 fgB) (upL [iP n, iP a, iP b] ++ List.replicate (fgFn.ntmps - (upL [iP n, iP a, iP b]).length) (.v undef)) [] .normal ([iA n, iA a, iA b] ++ jk 121) [] := EVL L (by kernel_rfl)
theorem fg_r1 (n a b : Int) {N : Nat} (hN : IntKind.i64.wrap ((a255 n).tmod 60 + 1) = (N : Int)) : EV (cfM L) 0 (c1 (c2 fgB)) ([iA n, iA a, iA b] ++ jk 121) [] .normal ([iA N, iA a, iA b] ++ jk 121) [] := by
  have e : evalC (cfM L) (evalF (cfM L) 60) fgLv 0 0 60 (c1 (c2 fgB)) ([iA n, iA a, iA b] ++ jk 121) [] = some (.normal, [iA (IntKind.i64.wrap ((a255 n).tmod 60 + 1)), iA a, iA b] ++ jk 121, []) := by kernel_rfl
  rw [hN] at e
  exact EVL L e
theorem fg_r2 (n a b : Int) : EV (cfM L) 0 (c1 (c2 (c2 fgB))) ([iA n, iA a, iA b] ++ jk 121) [] .normal ([iA n, iA a, iA b] ++ jk 4 ++ [.ptr 0 0 0] ++ jk 116) [.box [nilA, nilA]] := EVL L (by kernel_rfl)
theorem fg_r3 (n a b : Int) : EV (cfM L) 0 (c1 (c1 (c2 (c2 (c2 fgB))))) ([iA n, iA a, iA b] ++ jk 4 ++ [.ptr 0 0 0] ++ jk 116) [.box [nilA, nilA]] .normal (fgT n a b (0 : Nat)) (fgSt 0) := EVL L (by kernel_rfl)
theorem fg_r10 (n a b : Int) (x y : PVal) : EV (cfM L) 0 (c1 fgX0) ([iA n, iA a, iA b] ++ jk 7 ++ [.eptr [x, y]] ++ jk 113) [] .normal ([iA n, iA a, iA b] ++ jk 7 ++ [.eptr [x, y]] ++ jk 59 ++ [bA false] ++ jk 53) [] := EVL L (by kernel_rfl)
theorem fg_r12 (n a b : Int) (x y : PVal) : EV (cfM L) 0 (c1 fgX1) ([iA n, iA a, iA b] ++ jk 7 ++ [.eptr [x, y]] ++ jk 59 ++ [bA false] ++ jk 53) [] .normal ([iA n, iA (IntKind.i64.wrap (and1023 a - 20)), iA (IntKind.i64.wrap (and1023 b - 20))] ++ jk 7 ++ [.eptr [x, y]] ++ jk 113) [] := EVL L (by kernel_rfl)
theorem fg_r13 (n a b : Int) (x y : PVal) : EV (cfM L) 0 (c1 fgX2) ([iA n, iA (IntKind.i64.wrap (and1023 a - 20)), iA (IntKind.i64.wrap (and1023 b - 20))] ++ jk 7 ++ [.eptr [x, y]] ++ jk 113) [] .normal ([iA n] ++ jk 9 ++ [.eptr [x, y], iA (fgM a b), iA (fgH a b)] ++ jk 111) [] := EVL L (by kernel_rfl)
theorem fg_r15 (n lo hi : Int) (l : List Int) : EV (cfM L) 0 (c1 fgX4) ([iA n] ++ jk 10 ++ [iA lo, iA hi, nilA, slJ l] ++ jk 109) [] .normal ([iA n] ++ jk 10 ++ [iA lo, iA hi, nilA, slJ l, nilA] ++ jk 108) [] := EVL L (by kernel_rfl)
theorem fg_r16 (n lo hi : Int) (l : List Int) : EV (cfM L) 0 (c1 (c1 fgX5)) ([iA n] ++ jk 10 ++ [iA lo, iA hi, nilA, slJ l, nilA] ++ jk 108) [] .normal (fwT n lo hi l nilA (0 : Nat)) [] := EVL L (by kernel_rfl)
/-- Its end. -/
theorem fg_last (n lo hi : Int) (ids : List Int) (i : Int) (hs : ∀ {ev : Ev}, pureCall (cfM L) ev 25 [slI ids, idsX ids] = some (bP true)) (ha : ∀ {ev : Ev}, pureCall (cfM L) ev 34 [] = some (bP true)) :
    ∃ S, EV (cfM L) 0 fgX6 (fwX n lo hi ids (fwX0 ids) i) (fwS0 ids) .ret (jk 6 ++ [bA true] ++ jk 117) S := by
  by_cases h0 : ids = []
  · subst h0
    exact ⟨[], EVL L (fzN_eq L n lo hi i [] true hs (fun _ => ha))⟩
  · have h1 := len_pos h0
    obtain ⟨x1, x2⟩ := fwX0_pos h1
    have ex : idsX ids = slI ids := by unfold idsX; rw [beq0 h1]; rfl
    rw [ex] at hs
    rw [x1, x2]
    have mk : ([slJ ids, .row 1 0 1 0 ids.length] : List AVal).foldl (Vm.mark 0 deep) [.free, .row 1 0 none (intA ids)] = [.free, .row 1 0 (some (intA ids).length) (intA ids)] := by
      show Vm.mark 0 (5 + 1) ([.free, .row 1 0 none (intA ids)] : List AObj) (.row 1 0 1 0 ids.length) = _
      rw [mark_int (S := ([.free, .row 1 0 none (intA ids)] : List AObj)) (o := 1) (e := 0) (fz := none) (zs := ids) rfl]
      rfl
    have pk : mapO (peek [.free, .row 1 0 (some (intA ids).length) (intA ids)] deep) [slJ ids, .row 1 0 1 0 ids.length] = some [slI ids, slI ids] := by
      have p1 : peek [.free, .row 1 0 (some (intA ids).length) (intA ids)] deep (.row 1 0 1 0 ids.length) = some (slI ids) := peek_int (n := 4) rfl
      simp only [mapO, p1]
      rfl
    exact ⟨_, EVL L (fzR_eq L n lo hi i ids true ids hs pk mk (fun _ => ha))⟩
end
theorem findGrids_calls (n a b : Int) : CallsP Tryz.prog 10 [iP n, iP a, iP b] (bP true) := by
  obtain ⟨n1, n2⟩ := a255_le n
  obtain ⟨N, hN, h1, h60⟩ : ∃ N : Nat, IntKind.i64.wrap ((a255 n).tmod 60 + 1) = (N : Int) ∧ 1 ≤ N ∧ N ≤ 60 := by
    refine ⟨(a255 n).toNat % 60 + 1, ?_, by omega, by omega⟩
    rw [Int.tmod_eq_emod_of_nonneg n1, wrX (by omega) (by omega)]
    omega
  obtain ⟨hl, hh, hlh⟩ := fgMH a b
  generalize hlo : fgM a b = lo at *
  generalize hhi : fgH a b = hi at *
  have hgS : ∀ {ev : Ev}, pureCall (cfM (LG N lo hi h1 h60 hl hh hlh)) ev 25 [slI (wL lo hi N), idsX (wL lo hi N)] = some (bP true) := pure_given (g := gOne [slI (wL lo hi N), idsX (wL lo hi N)] (bP true)) (by kernel_rfl) (gOne_ok _ _)
  have hgA : ∀ {ev : Ev}, pureCall (cfM (LG N lo hi h1 h60 hl hh hlh)) ev 34 [] = some (bP true) := pure_given (g := gOne [] (bP true)) (by kernel_rfl) (gOne_ok _ _)
  have hgW : ∀ {ev : Ev}, pureCall (cfM (LG N lo hi h1 h60 hl hh hlh)) ev 38 [.ptr [bsP (clG N), bsP (elG N)], ptP (lo, 1), ptP (hi, 6)] = some (.tup [nilP, slI (wL lo hi N)]) := pure_given (g := gOne [.ptr [bsP (clG N), bsP (elG N)], ptP (lo, 1), ptP (hi, 6)] (.tup [nilP, slI (wL lo hi N)])) (by kernel_rfl) (gOne_ok _ _)
  obtain ⟨S, hz⟩ := fg_last (LG N lo hi h1 h60 hl hh hlh) N lo hi (wL lo hi N) N hgS hgA
  have e14 := fg14_eq (LG N lo hi h1 h60 hl hh hlh) N lo hi (bsP (clG N)) (bsP (elG N)) (wL lo hi N) hgW
  have r13 := fg_r13 (LG N lo hi h1 h60 hl hh hlh) N a b (bsP (clG N)) (bsP (elG N))
  rw [hlo, hhi] at r13
  refine callsP_of_A (r0 := bA true) (S := S) (callsA_of_EV (cfM_ok (LG N lo hi h1 h60 hl hh hlh)) (fgFn_tab _) (x := .ret) (.inr rfl) (T' := jk 6 ++ [bA true] ++ jk 117) (by kernel_rfl) ?_) (by rfl)
  rw [fgFn_body, fg_body]
  exact EV.seq (fg_r0 _ n a b) (EV.seq (fg_r1 _ n a b hN) (EV.seq (fg_r2 _ N a b) (EV.seq (EV.seq (fg_r3 _ N a b) (EV.block (fg_loop _ N a b h60 h1)))
    (EV.seq (fgZ9 N a b lo hi h1 h60 hl hh hlh) (EV.seq (fg_r10 _ N a b _ _) (EV.seq (fg_r12 _ N a b _ _) (EV.seq r13 (EV.seq (EVL _ e14) (EV.seq (fg_r15 _ N lo hi _) (EV.seq (EV.seq (fg_r16 _ N lo hi _) (EV.block (fw_loop _ N lo hi _ h60))) hz))))))))))
end Go.Proofs.YtkkgimhbliocoaaGreat
/- FindGrids: the row. Proved: whatever the input, the law answers true and leaves its arguments as they were. -/
namespace Go.Proofs.YtkkgimhbliocoaaGreat
open Go Vm M Go.ChangeShapes Go.WideShapes Go.ChangeAt Go.RowKit
set_option linter.unusedVariables false
set_option maxRecDepth 100000 in
theorem findGrids_lifted (os : Os) (started : os.Started) (H : Type) (enc : TypeId × Value → H) :
    ReturnsInHanded {} Tryz.checked os 10 .any (Rows.findGridsSpec.pre6 enc Tryz.prog Tryz.f10 Rows.findGridsRow.domain false) (Rows.findGridsSpec.post enc Tryz.prog Tryz.f10 false true false false) := by
  refine returnsInHanded_of_change_sized (C := Tryz.checked) own started (by kernel_rfl) Tryz.func10
    (ChangeSpec.witness6 (enc := enc) (C := Tryz.checked) false ⟨#[], #[.int .i64 0, .int .i64 0, .int .i64 0], []⟩ 8 (by kernel_rfl) (by kernel_rfl) (by kernel_rfl) (by kernel_rfl)) ?_
  intro W base args ds gs before hval0 hW hcnd hsz0 _
  have hval : ∀ (j : Nat) t v, Tryz.f10.params[j]? = some t → args[j]? = some v → Value.okWide Tryz.prog W .any base t v := hval0
  have hW' := hW
  obtain ⟨p, q, hA0, hV, rfl, hfz, hnd⟩ := hW
  have hA : DataW.TrodAll enc Tryz.prog W 0 (fun _ => true) true Tryz.f10.params.toList args.toList ds p := hA0
  rw [Tryz.params10] at hA hval
  obtain ⟨v0, vs0, d0, ds0, p0, q0, hargs, rfl, rfl, h0, r0⟩ := trodAll_cons hA
  obtain ⟨v1, vs1, d1, ds1, p1, q1, rfl, rfl, rfl, h1, r1⟩ := trodAll_cons r0
  obtain ⟨v2, vs2, d2, ds2, p2, q2, rfl, rfl, rfl, h2, r2⟩ := trodAll_cons r1
  obtain ⟨rfl, rfl, rfl⟩ := trodAll_nil r2
  obtain rfl : args = #[v0, v1, v2] := by cases args; simp_all
  obtain ⟨rfl, rfl⟩ := trodVars_none hV
  have lt : ∀ {t : TypeId} {v : Value} {d : DataW H} {ps : List MemPlace}, DataW.Trod enc Tryz.prog W 0 (fun _ => true) true t v d ps → ∀ x ∈ ps, x.block < W.heap.size := fun h => by obtain ⟨m, hm⟩ := h; exact DataW.trod_lt m _ _ _ hm
  obtain ⟨a0, rfl, rfl, rfl, w0⟩ := open_int Tryz.underlying3 (hval 0 3 v0 rfl rfl) h0
  obtain ⟨a1, rfl, rfl, rfl, w1⟩ := open_int Tryz.underlying3 (hval 1 3 v1 rfl rfl) h1
  obtain ⟨a2, rfl, rfl, rfl, w2⟩ := open_int Tryz.underlying3 (hval 2 3 v2 rfl rfl) h2
  refine (callsS (findGrids_calls a0 a1 a2) (w := W) (vs := #[.int .i64 a0, .int .i64 a1, .int .i64 a2]) rfl (Rps_cons rfl (Rp_int _ a0) (Rps_cons rfl (Rp_int _ a1) (Rps_cons rfl (Rp_int _ a2) Rps_nil))) (u := .bool true) (fun L x h => Rp_bool h)).mono fun e W' ⟨he, bel⟩ => ?_
  subst he
  exact ⟨_, rfl, _, _, _, [], _, [], hW', trodAll_mk1 (shut_bool Tryz.underlying4 _), (trodAll_cons_mk (shut_int Tryz.underlying3 w0) (trodAll_cons_mk (shut_int Tryz.underlying3 w1) (trodAll_cons_mk (shut_int Tryz.underlying3 w2) trodAll_mk0))), rfl, bel.frame _, fun h => by cases h⟩
theorem findGrids_over : Rows.findGridsRow.holds Tryz.pinned (OpenSpec.ofChange Rows.findGridsSpec) :=
  OpenClaim.holds_of_wide 10 Tryz.f10 rfl rfl rfl rfl rfl rfl rfl ⟨rfl, rfl, rfl, rfl, rfl⟩ rfl rfl rfl rfl rfl (by kernel_rfl) Tryz.func10 (by kernel_rfl)
    (of_decide_eq_true (by kernel_rfl)) (by unfold Func.isWrapper; first | (rw [if_pos (by decide +kernel)]; kernel_rfl) | (rw [if_neg (by decide +kernel)]; exact ⟨rfl, rfl⟩))
    (fun os started H enc _ => findGrids_lifted os started H enc)
theorem findGrids_holds : Rows.FindGridsSaid := findGrids_over
#print axioms findGrids_holds
end Go.Proofs.YtkkgimhbliocoaaGreat
