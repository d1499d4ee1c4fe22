/- FindEmpty: the row. Proved: whatever the input, the law answers true and leaves its arguments as they were. -/
import Derived.Test.YtkkgimhbliocoaaGreatBnLawFindEmpty14
/- find.FaceRings of plans without edges: printed. -/
namespace Go.Proofs.YtkkgimhbliocoaaGreat
open Go Vm M
set_option linter.unusedVariables false
set_option linter.unusedSimpArgs false
set_option maxRecDepth 100000
noncomputable def frLv : List Nat := (lives.lookup 39).getD []
noncomputable def frB : Code := Tryz.f39.body.getD .skip
noncomputable abbrev frK : Code := loopAt Tryz.f39 0
theorem fr_body : frB = .seq (c1 frB) (.seq (c1 (c2 frB)) (.seq (.seq (c1 (c1 (c2 (c2 frB)))) (.block 0 (.loop frK))) (c2 (c2 (c2 frB))))) := by kernel_rfl
def frT0 : List AVal := jk 1 ++ [iA 0, .ptr 0 0 0] ++ jk 51
def frM (ns : List Nd) (x : PVal) : AExit × List AVal × List AObj :=
  (AExit.normal, (([AVal.junk, iA (Int.ofNat 0), AVal.ptr 0 0 0, AVal.junk, AVal.junk, AVal.eptr [PVal.list 1 [PVal.v (Value.slice none 0 0), PVal.v (Value.slice none 0 0), x], PVal.map [] [], PVal.v (Value.slice none 0 0), PVal.map [] []]] ++ jk 48), ([AObj.box [AVal.list (List.length ns) (flatN ns), AVal.v (Value.slice none 0 0)]])))
theorem frM_eq (ns : List Nd) (x : PVal) (e0 : pureCall c3X ev3X 57 [PVal.agg [PVal.list (List.length ns) (flatN ns), PVal.v (Value.slice none 0 0)]] = some (PVal.ptr [PVal.list 1 [PVal.v (Value.slice none 0 0), PVal.v (Value.slice none 0 0), x], PVal.map [] [], PVal.v (Value.slice none 0 0), PVal.map [] []])) : evalC (c3X) (ev3X) (frLv) 0 0 60 (c1 (c2 frB)) (frT0) ([AObj.box [nsA ns, nilA]]) = some (frM ns x) := by
  have key := fun (bs : List Bool) (r : AExit × List AVal × List AObj) (ob : List Prop) (h : pathP (c3X) (ev3X) (frLv) 0 0 60 [(1, 1, Hint.pcall (PVal.ptr [PVal.list 1 [nilP, nilP, x], PVal.map [] [], nilP, PVal.map [] []]))] (c1 (c2 frB)) (frT0) ([AObj.box [nsA ns, nilA]]) bs [] = .ok (r.1, r.2.1, r.2.2, ob)) (hp : allOb ob) => pathP_ok h hp
  unfold frM
  exact key [] ((AExit.normal, (([AVal.junk, iA (Int.ofNat 0), AVal.ptr 0 0 0, AVal.junk, AVal.junk, AVal.eptr [PVal.list 1 [PVal.v (Value.slice none 0 0), PVal.v (Value.slice none 0 0), x], PVal.map [] [], PVal.v (Value.slice none 0 0), PVal.map [] []]] ++ jk 48), ([AObj.box [AVal.list (List.length ns) (flatN ns), AVal.v (Value.slice none 0 0)]])))) _ (by kernel_rfl) (allOb_cons (by exact e0) allOb_nil)
def naS2 (p : P2) : List AObj := [.hidden, .box [iA p.1, iA p.2]]
def naJ (ns : List Nd) (p : P2) (i : Int) (q : Nd) : AExit × List AVal × List AObj :=
  (bif decide (i < (↑(List.length ns) : Int)) then (bif eqB (Prod.fst (Prod.snd q)) p then (AExit.ret, ((jk 4 ++ [iA (Prod.fst q)] ++ jk 16), ([AObj.hidden, AObj.box [iA (Prod.fst p), iA (Prod.snd p)], AObj.box [iA (Prod.fst q), iA (Prod.fst (Prod.fst (Prod.snd q))), iA (Prod.snd (Prod.fst (Prod.snd q))), iA (Prod.snd (Prod.snd q))]]))) else (AExit.normal, (([AVal.junk, AVal.junk, AVal.junk, AVal.ptr 1 0 0] ++ jk 4 ++ [AVal.list (List.length ns) (flatN ns), iA (Int.ofNat (List.length ns)), iA (IntKind.i64.wrap (i + 1))] ++ jk 10), ([AObj.hidden, AObj.box [iA (Prod.fst p), iA (Prod.snd p)], AObj.box [iA (Prod.fst q), iA (Prod.fst (Prod.fst (Prod.snd q))), iA (Prod.snd (Prod.fst (Prod.snd q))), iA (Prod.snd (Prod.snd q))]])))) else (AExit.exit 0, (([AVal.junk, AVal.junk, AVal.junk, AVal.ptr 1 0 0] ++ jk 4 ++ [AVal.list (List.length ns) (flatN ns), iA (Int.ofNat (List.length ns)), iA i, bA false] ++ jk 9), ([AObj.hidden, AObj.box [iA (Prod.fst p), iA (Prod.snd p)]]))))
theorem naJ_eq (ns : List Nd) (p : P2) (i : Int) (q : Nd) (b0 : (decide (i < (↑(List.length ns) : Int))) = true → (0 : Int) ≤ i ∧ (i : Int) < (↑(List.length ns) : Int)) (e0 : (decide (i < (↑(List.length ns) : Int))) = true → partA (Cfg.P (cfM KX3)) 30 (upL (List.drop (Int.toNat i * 4) (flatN ns))) 0 = some (ndA q)) : evalC (cfM KX3) (evalF (cfM KX3) 60) (naLv) 0 0 60 (loopAt Tryz.f33 0) (naT ns i) (naS2 p) = some (naJ ns p i q) := by
  have key := fun (bs : List Bool) (r : AExit × List AVal × List AObj) (ob : List Prop) (h : pathP (cfM KX3) (evalF (cfM KX3) 60) (naLv) 0 0 60 [(3, 0, Hint.idx), (3, 1, Hint.load (ndA q))] (loopAt Tryz.f33 0) (naT ns i) (naS2 p) bs [] = .ok (r.1, r.2.1, r.2.2, ob)) (hp : allOb ob) => pathP_ok h hp
  unfold naJ
  exact bif_case (P := fun r => evalC (cfM KX3) (evalF (cfM KX3) 60) (naLv) 0 0 60 (loopAt Tryz.f33 0) (naT ns i) (naS2 p) = some r)
    (fun h0 => bif_case (P := fun r => evalC (cfM KX3) (evalF (cfM KX3) 60) (naLv) 0 0 60 (loopAt Tryz.f33 0) (naT ns i) (naS2 p) = some r)
     (fun h1 => key [true, true] ((AExit.ret, ((jk 4 ++ [iA (Prod.fst q)] ++ jk 16), ([AObj.hidden, AObj.box [iA (Prod.fst p), iA (Prod.snd p)], AObj.box [iA (Prod.fst q), iA (Prod.fst (Prod.fst (Prod.snd q))), iA (Prod.snd (Prod.fst (Prod.snd q))), iA (Prod.snd (Prod.snd q))]])))) _ (by kernel_rfl) (allOb_cons h1 (allOb_cons (by exact (e0 h0)) (allOb_cons (idx_okN (b0 h0)) (allOb_cons h0 allOb_nil)))))
     (fun h1 => key [true, false] ((AExit.normal, (([AVal.junk, AVal.junk, AVal.junk, AVal.ptr 1 0 0] ++ jk 4 ++ [AVal.list (List.length ns) (flatN ns), iA (Int.ofNat (List.length ns)), iA (IntKind.i64.wrap (i + 1))] ++ jk 10), ([AObj.hidden, AObj.box [iA (Prod.fst p), iA (Prod.snd p)], AObj.box [iA (Prod.fst q), iA (Prod.fst (Prod.fst (Prod.snd q))), iA (Prod.snd (Prod.fst (Prod.snd q))), iA (Prod.snd (Prod.snd q))]])))) _ (by kernel_rfl) (allOb_cons h1 (allOb_cons (by exact (e0 h0)) (allOb_cons (idx_okN (b0 h0)) (allOb_cons h0 allOb_nil))))))
    (fun h0 => key [false] ((AExit.exit 0, (([AVal.junk, AVal.junk, AVal.junk, AVal.ptr 1 0 0] ++ jk 4 ++ [AVal.list (List.length ns) (flatN ns), iA (Int.ofNat (List.length ns)), iA i, bA false] ++ jk 9), ([AObj.hidden, AObj.box [iA (Prod.fst p), iA (Prod.snd p)]])))) _ (by kernel_rfl) (allOb_cons h0 allOb_nil))
end Go.Proofs.YtkkgimhbliocoaaGreat
/- terrierref14.SameInts of equal lists; FindGrids: its rounds. -/
namespace Go.Proofs.YtkkgimhbliocoaaGreat
open Go Vm M
set_option linter.unusedVariables false
set_option linter.unusedSimpArgs false
set_option maxRecDepth 100000
noncomputable def siLv : List Nat := (lives.lookup 25).getD []
def siT (l : List Int) (i : Int) : List AVal := [slJ l, slJ l] ++ jk 3 ++ [iA i] ++ jk 20
def siK (L : Lib Tryz.prog) (l : List Int) (i : Int) (x : Int) : AExit × List AVal × List AObj :=
  (bif decide (i < (↑(List.length l) : Int)) then (bif x != x then (AExit.ret, ((jk 4 ++ [bA false] ++ jk 21), (List.replicate 9 AObj.free))) else (AExit.normal, (([AVal.list (List.length l) (intP l), AVal.list (List.length l) (intP l), AVal.junk, AVal.junk, AVal.junk, iA (IntKind.i64.wrap (i + 1))] ++ jk 20), (List.replicate 9 AObj.free)))) else (AExit.exit 0, (([AVal.list (List.length l) (intP l), AVal.list (List.length l) (intP l), AVal.junk, AVal.junk, AVal.junk, iA i] ++ jk 8 ++ [bA false] ++ jk 11), [])))
theorem siK_eq (L : Lib Tryz.prog) (l : List Int) (i : Int) (x : Int) (b0 : (decide (i < (↑(List.length l) : Int))) = true → (0 : Int) ≤ i ∧ (i : Int) < (↑(List.length l) : Int)) (e0 : (decide (i < (↑(List.length l) : Int))) = true → partA (Cfg.P (cfM L)) 3 (upL (List.drop (Int.toNat i * 1) (intP l))) 0 = some (iA x)) : evalC (cfM L) (evalF (cfM L) 60) (siLv) 0 0 60 (loopAt Tryz.f25 0) (siT l i) ([]) = some (siK L l i x) := by
  have key := fun (bs : List Bool) (r : AExit × List AVal × List AObj) (ob : List Prop) (h : pathP (cfM L) (evalF (cfM L) 60) (siLv) 0 0 60 [(6, 2, Hint.idx), (6, 3, Hint.load (iA x)), (6, 6, Hint.idx), (6, 7, Hint.load (iA x))] (loopAt Tryz.f25 0) (siT l i) ([]) bs [] = .ok (r.1, r.2.1, r.2.2, ob)) (hp : allOb ob) => pathP_ok h hp
  unfold siK
  exact bif_case (P := fun r => evalC (cfM L) (evalF (cfM L) 60) (siLv) 0 0 60 (loopAt Tryz.f25 0) (siT l i) ([]) = some r)
    (fun h0 => bif_case (P := fun r => evalC (cfM L) (evalF (cfM L) 60) (siLv) 0 0 60 (loopAt Tryz.f25 0) (siT l i) ([]) = some r)
     (fun h1 => key [true, true] ((AExit.ret, ((jk 4 ++ [bA false] ++ jk 21), (List.replicate 9 AObj.free)))) _ (by kernel_rfl) (allOb_cons h1 (allOb_cons (by exact (e0 h0)) (allOb_cons (idx_okI (b0 h0)) (allOb_cons (by exact (e0 h0)) (allOb_cons (idx_okI (b0 h0)) (allOb_cons h0 allOb_nil)))))))
     (fun h1 => key [true, false] ((AExit.normal, (([AVal.list (List.length l) (intP l), AVal.list (List.length l) (intP l), AVal.junk, AVal.junk, AVal.junk, iA (IntKind.i64.wrap (i + 1))] ++ jk 20), (List.replicate 9 AObj.free)))) _ (by kernel_rfl) (allOb_cons h1 (allOb_cons (by exact (e0 h0)) (allOb_cons (idx_okI (b0 h0)) (allOb_cons (by exact (e0 h0)) (allOb_cons (idx_okI (b0 h0)) (allOb_cons h0 allOb_nil))))))))
    (fun h0 => key [false] ((AExit.exit 0, (([AVal.list (List.length l) (intP l), AVal.list (List.length l) (intP l), AVal.junk, AVal.junk, AVal.junk, iA i] ++ jk 8 ++ [bA false] ++ jk 11), []))) _ (by kernel_rfl) (allOb_cons h0 allOb_nil))
noncomputable def fgLv : List Nat := (lives.lookup 10).getD []
def fgT (n a b i : Int) : List AVal := [iA n, iA a, iA b] ++ jk 4 ++ [.ptr 0 0 0, iA i] ++ jk 115
def fgS (k j : Nat) (xs ys : List AVal) : List AObj := [.box [.row 2 0 4 0 k, .row 5 0 6 0 j], .free, .row 4 0 none xs, .free, .free, .row 6 0 none ys]
def fgF (L : Lib Tryz.prog) (n : Int) (a : Int) (b : Int) (i : Int) : AExit × List AVal × List AObj :=
  (bif decide (i < n) then (AExit.normal, (([iA n, iA a, iA b] ++ jk 4 ++ [AVal.ptr 0 0 0, iA (IntKind.i64.wrap (i + 1))] ++ jk 115), ([AObj.box [AVal.row 2 0 4 0 2, AVal.row 5 0 6 0 1], AObj.row 4 0 none [iA (IntKind.i64.wrap (IntKind.i64.wrap (2 * i) + 1)), iA (IntKind.i64.wrap (10 * i)), iA (Int.ofNat 0), iA (Int.negSucc 0), iA (IntKind.i64.wrap (IntKind.i64.wrap (2 * i) + 2)), iA (IntKind.i64.wrap (IntKind.i64.wrap (10 * i) + 5)), iA (Int.ofNat 7), iA (Int.negSucc 0)], AObj.row 4 0 none [iA (IntKind.i64.wrap (IntKind.i64.wrap (2 * i) + 1)), iA (IntKind.i64.wrap (10 * i)), iA (Int.ofNat 0), iA (Int.negSucc 0), iA (IntKind.i64.wrap (IntKind.i64.wrap (2 * i) + 2)), iA (IntKind.i64.wrap (IntKind.i64.wrap (10 * i) + 5)), iA (Int.ofNat 7), iA (Int.negSucc 0)], AObj.row 2 0 (some 4) [iA (IntKind.i64.wrap (10 * i)), iA (Int.ofNat 0), iA (IntKind.i64.wrap (IntKind.i64.wrap (10 * i) + 5)), iA (Int.ofNat 7)], AObj.row 6 0 none [iA (IntKind.i64.wrap (i + 1)), iA (IntKind.i64.wrap (IntKind.i64.wrap (2 * i) + 1)), iA (IntKind.i64.wrap (IntKind.i64.wrap (2 * i) + 2)), AVal.list 2 [iP (IntKind.i64.wrap (10 * i)), iP (Int.ofNat 0), iP (IntKind.i64.wrap (IntKind.i64.wrap (10 * i) + 5)), iP (Int.ofNat 7)], iA (Int.ofNat 0), iA (Int.ofNat 0)], AObj.row 6 0 none [iA (IntKind.i64.wrap (i + 1)), iA (IntKind.i64.wrap (IntKind.i64.wrap (2 * i) + 1)), iA (IntKind.i64.wrap (IntKind.i64.wrap (2 * i) + 2)), AVal.list 2 [iP (IntKind.i64.wrap (10 * i)), iP (Int.ofNat 0), iP (IntKind.i64.wrap (IntKind.i64.wrap (10 * i) + 5)), iP (Int.ofNat 7)], iA (Int.ofNat 0), iA (Int.ofNat 0)]]))) else (AExit.exit 0, (([iA n, iA a, iA b] ++ jk 4 ++ [AVal.ptr 0 0 0, iA i] ++ jk 15 ++ [bA false] ++ jk 99), ([AObj.box [AVal.v (Value.slice none 0 0), AVal.v (Value.slice none 0 0)]]))))
theorem fgF_eq (L : Lib Tryz.prog) (n : Int) (a : Int) (b : Int) (i : Int) : evalC (cfM L) (evalF (cfM L) 60) (fgLv) 0 0 60 (loopAt Tryz.f10 0) (fgT n a b i) ([AObj.box [nilA, nilA]]) = some (fgF L n a b i) := by
  have key := fun (bs : List Bool) (r : AExit × List AVal × List AObj) (ob : List Prop) (h : pathP (cfM L) (evalF (cfM L) 60) (fgLv) 0 0 60 [] (loopAt Tryz.f10 0) (fgT n a b i) ([AObj.box [nilA, nilA]]) bs [] = .ok (r.1, r.2.1, r.2.2, ob)) (hp : allOb ob) => pathP_ok h hp
  unfold fgF
  exact bif_case (P := fun r => evalC (cfM L) (evalF (cfM L) 60) (fgLv) 0 0 60 (loopAt Tryz.f10 0) (fgT n a b i) ([AObj.box [nilA, nilA]]) = some r)
    (fun h0 => key [true] ((AExit.normal, (([iA n, iA a, iA b] ++ jk 4 ++ [AVal.ptr 0 0 0, iA (IntKind.i64.wrap (i + 1))] ++ jk 115), ([AObj.box [AVal.row 2 0 4 0 2, AVal.row 5 0 6 0 1], AObj.row 4 0 none [iA (IntKind.i64.wrap (IntKind.i64.wrap (2 * i) + 1)), iA (IntKind.i64.wrap (10 * i)), iA (Int.ofNat 0), iA (Int.negSucc 0), iA (IntKind.i64.wrap (IntKind.i64.wrap (2 * i) + 2)), iA (IntKind.i64.wrap (IntKind.i64.wrap (10 * i) + 5)), iA (Int.ofNat 7), iA (Int.negSucc 0)], AObj.row 4 0 none [iA (IntKind.i64.wrap (IntKind.i64.wrap (2 * i) + 1)), iA (IntKind.i64.wrap (10 * i)), iA (Int.ofNat 0), iA (Int.negSucc 0), iA (IntKind.i64.wrap (IntKind.i64.wrap (2 * i) + 2)), iA (IntKind.i64.wrap (IntKind.i64.wrap (10 * i) + 5)), iA (Int.ofNat 7), iA (Int.negSucc 0)], AObj.row 2 0 (some 4) [iA (IntKind.i64.wrap (10 * i)), iA (Int.ofNat 0), iA (IntKind.i64.wrap (IntKind.i64.wrap (10 * i) + 5)), iA (Int.ofNat 7)], AObj.row 6 0 none [iA (IntKind.i64.wrap (i + 1)), iA (IntKind.i64.wrap (IntKind.i64.wrap (2 * i) + 1)), iA (IntKind.i64.wrap (IntKind.i64.wrap (2 * i) + 2)), AVal.list 2 [iP (IntKind.i64.wrap (10 * i)), iP (Int.ofNat 0), iP (IntKind.i64.wrap (IntKind.i64.wrap (10 * i) + 5)), iP (Int.ofNat 7)], iA (Int.ofNat 0), iA (Int.ofNat 0)], AObj.row 6 0 none [iA (IntKind.i64.wrap (i + 1)), iA (IntKind.i64.wrap (IntKind.i64.wrap (2 * i) + 1)), iA (IntKind.i64.wrap (IntKind.i64.wrap (2 * i) + 2)), AVal.list 2 [iP (IntKind.i64.wrap (10 * i)), iP (Int.ofNat 0), iP (IntKind.i64.wrap (IntKind.i64.wrap (10 * i) + 5)), iP (Int.ofNat 7)], iA (Int.ofNat 0), iA (Int.ofNat 0)]])))) _ (by kernel_rfl) (allOb_cons h0 allOb_nil))
    (fun h0 => key [false] ((AExit.exit 0, (([iA n, iA a, iA b] ++ jk 4 ++ [AVal.ptr 0 0 0, iA i] ++ jk 15 ++ [bA false] ++ jk 99), ([AObj.box [AVal.v (Value.slice none 0 0), AVal.v (Value.slice none 0 0)]])))) _ (by kernel_rfl) (allOb_cons h0 allOb_nil))
def fgG (L : Lib Tryz.prog) (n : Int) (a : Int) (b : Int) (i : Int) (k : Nat) (j : Nat) (xs : List AVal) (ys : List AVal) (us : List AVal) (vs : List AVal) : AExit × List AVal × List AObj :=
  (bif decide (i < n) then (AExit.normal, (([iA n, iA a, iA b] ++ jk 4 ++ [AVal.ptr 0 0 0, iA (IntKind.i64.wrap (i + 1))] ++ jk 115), ([AObj.box [AVal.row 2 1 4 0 (k + 2), AVal.row 5 1 6 0 (j + 1)], AObj.row 4 0 none [iA (IntKind.i64.wrap (IntKind.i64.wrap (2 * i) + 1)), iA (IntKind.i64.wrap (10 * i)), iA (Int.ofNat 0), iA (Int.negSucc 0), iA (IntKind.i64.wrap (IntKind.i64.wrap (2 * i) + 2)), iA (IntKind.i64.wrap (IntKind.i64.wrap (10 * i) + 5)), iA (Int.ofNat 7), iA (Int.negSucc 0)], AObj.row 4 1 none us, AObj.row 2 0 (some 4) [iA (IntKind.i64.wrap (10 * i)), iA (Int.ofNat 0), iA (IntKind.i64.wrap (IntKind.i64.wrap (10 * i) + 5)), iA (Int.ofNat 7)], AObj.row 6 0 none [iA (IntKind.i64.wrap (i + 1)), iA (IntKind.i64.wrap (IntKind.i64.wrap (2 * i) + 1)), iA (IntKind.i64.wrap (IntKind.i64.wrap (2 * i) + 2)), AVal.list 2 [iP (IntKind.i64.wrap (10 * i)), iP (Int.ofNat 0), iP (IntKind.i64.wrap (IntKind.i64.wrap (10 * i) + 5)), iP (Int.ofNat 7)], iA (Int.ofNat 0), iA (Int.ofNat 0)], AObj.row 6 1 none vs]))) else (AExit.exit 0, (([iA n, iA a, iA b] ++ jk 4 ++ [AVal.ptr 0 0 0, iA i] ++ jk 15 ++ [bA false] ++ jk 99), ([AObj.box [AVal.row 2 0 4 0 k, AVal.row 5 0 6 0 j], AObj.free, AObj.row 4 0 none xs, AObj.free, AObj.free, AObj.row 6 0 none ys]))))
theorem fgG_eq (L : Lib Tryz.prog) (n : Int) (a : Int) (b : Int) (i : Int) (k : Nat) (j : Nat) (xs : List AVal) (ys : List AVal) (us : List AVal) (vs : List AVal) (e0 : (decide (i < n)) = true → (0 + k) * 4 = List.length xs ∧ (k + 2) * 32 ≤ 140737488355328 ∧ k + 2 ≤ 9223372036854775807) (e1 : (decide (i < n)) = true → Ones [iA (IntKind.i64.wrap (IntKind.i64.wrap (2 * i) + 1)), iA (IntKind.i64.wrap (10 * i)), iA (Int.ofNat 0), iA (Int.negSucc 0), iA (IntKind.i64.wrap (IntKind.i64.wrap (2 * i) + 2)), iA (IntKind.i64.wrap (IntKind.i64.wrap (10 * i) + 5)), iA (Int.ofNat 7), iA (Int.negSucc 0)]) (e2 : (decide (i < n)) = true → List.drop 0 xs ++ [iA (IntKind.i64.wrap (IntKind.i64.wrap (2 * i) + 1)), iA (IntKind.i64.wrap (10 * i)), iA (Int.ofNat 0), iA (Int.negSucc 0), iA (IntKind.i64.wrap (IntKind.i64.wrap (2 * i) + 2)), iA (IntKind.i64.wrap (IntKind.i64.wrap (10 * i) + 5)), iA (Int.ofNat 7), iA (Int.negSucc 0)] = us) (e3 : (decide (i < n)) = true → (0 + j) * 6 = List.length ys ∧ (j + 1) * 64 ≤ 140737488355328 ∧ j + 1 ≤ 9223372036854775807) (e4 : (decide (i < n)) = true → Ones [iA (IntKind.i64.wrap (i + 1)), iA (IntKind.i64.wrap (IntKind.i64.wrap (2 * i) + 1)), iA (IntKind.i64.wrap (IntKind.i64.wrap (2 * i) + 2)), AVal.list 2 [iP (IntKind.i64.wrap (10 * i)), iP (Int.ofNat 0), iP (IntKind.i64.wrap (IntKind.i64.wrap (10 * i) + 5)), iP (Int.ofNat 7)], iA (Int.ofNat 0), iA (Int.ofNat 0)]) (e5 : (decide (i < n)) = true → List.drop 0 ys ++ [iA (IntKind.i64.wrap (i + 1)), iA (IntKind.i64.wrap (IntKind.i64.wrap (2 * i) + 1)), iA (IntKind.i64.wrap (IntKind.i64.wrap (2 * i) + 2)), AVal.list 2 [iP (IntKind.i64.wrap (10 * i)), iP (Int.ofNat 0), iP (IntKind.i64.wrap (IntKind.i64.wrap (10 * i) + 5)), iP (Int.ofNat 7)], iA (Int.ofNat 0), iA (Int.ofNat 0)] = vs) : evalC (cfM L) (evalF (cfM L) 60) (fgLv) 0 0 60 (loopAt Tryz.f10 0) (fgT n a b i) (fgS k j xs ys) = some (fgG L n a b i k j xs ys us vs) := by
  have key := fun (bs : List Bool) (r : AExit × List AVal × List AObj) (ob : List Prop) (h : pathP (cfM L) (evalF (cfM L) 60) (fgLv) 0 0 60 [(7, 16, Hint.appY us), (8, 18, Hint.appY vs)] (loopAt Tryz.f10 0) (fgT n a b i) (fgS k j xs ys) bs [] = .ok (r.1, r.2.1, r.2.2, ob)) (hp : allOb ob) => pathP_ok h hp
  unfold fgG
  exact bif_case (P := fun r => evalC (cfM L) (evalF (cfM L) 60) (fgLv) 0 0 60 (loopAt Tryz.f10 0) (fgT n a b i) (fgS k j xs ys) = some r)
    (fun h0 => key [true] ((AExit.normal, (([iA n, iA a, iA b] ++ jk 4 ++ [AVal.ptr 0 0 0, iA (IntKind.i64.wrap (i + 1))] ++ jk 115), ([AObj.box [AVal.row 2 1 4 0 (k + 2), AVal.row 5 1 6 0 (j + 1)], AObj.row 4 0 none [iA (IntKind.i64.wrap (IntKind.i64.wrap (2 * i) + 1)), iA (IntKind.i64.wrap (10 * i)), iA (Int.ofNat 0), iA (Int.negSucc 0), iA (IntKind.i64.wrap (IntKind.i64.wrap (2 * i) + 2)), iA (IntKind.i64.wrap (IntKind.i64.wrap (10 * i) + 5)), iA (Int.ofNat 7), iA (Int.negSucc 0)], AObj.row 4 1 none us, AObj.row 2 0 (some 4) [iA (IntKind.i64.wrap (10 * i)), iA (Int.ofNat 0), iA (IntKind.i64.wrap (IntKind.i64.wrap (10 * i) + 5)), iA (Int.ofNat 7)], AObj.row 6 0 none [iA (IntKind.i64.wrap (i + 1)), iA (IntKind.i64.wrap (IntKind.i64.wrap (2 * i) + 1)), iA (IntKind.i64.wrap (IntKind.i64.wrap (2 * i) + 2)), AVal.list 2 [iP (IntKind.i64.wrap (10 * i)), iP (Int.ofNat 0), iP (IntKind.i64.wrap (IntKind.i64.wrap (10 * i) + 5)), iP (Int.ofNat 7)], iA (Int.ofNat 0), iA (Int.ofNat 0)], AObj.row 6 1 none vs])))) _ (by kernel_rfl) (allOb_cons (by exact (e5 h0)) (allOb_cons (show 6 ≤ 6 from by decide) (allOb_cons (show 0 < 1 from by decide) (allOb_cons (by exact (e4 h0)) (allOb_cons (by exact (e3 h0)) (allOb_cons (by exact (e2 h0)) (allOb_cons (show 8 ≤ 8 from by decide) (allOb_cons (show 0 < 2 from by decide) (allOb_cons (by exact (e1 h0)) (allOb_cons (by exact (e0 h0)) (allOb_cons h0 allOb_nil))))))))))))
    (fun h0 => key [false] ((AExit.exit 0, (([iA n, iA a, iA b] ++ jk 4 ++ [AVal.ptr 0 0 0, iA i] ++ jk 15 ++ [bA false] ++ jk 99), ([AObj.box [AVal.row 2 0 4 0 k, AVal.row 5 0 6 0 j], AObj.free, AObj.row 4 0 none xs, AObj.free, AObj.free, AObj.row 6 0 none ys])))) _ (by kernel_rfl) (allOb_cons h0 allOb_nil))
end Go.Proofs.YtkkgimhbliocoaaGreat
/- FindGrids: the rounds of its second loop, its end. -/
namespace Go.Proofs.YtkkgimhbliocoaaGreat
open Go Vm M
set_option linter.unusedVariables false
set_option linter.unusedSimpArgs false
set_option maxRecDepth 100000
def fwT (n lo hi : Int) (l : List Int) (x : AVal) (i : Int) : List AVal := [iA n] ++ jk 10 ++ [iA lo, iA hi, nilA, slJ l, x, iA i] ++ jk 107
def fwX (n lo hi : Int) (l : List Int) (x : AVal) (i : Int) : List AVal := [iA n] ++ jk 10 ++ [iA lo, iA hi, nilA, slJ l, x, iA i] ++ jk 77 ++ [bA false] ++ jk 29
def fwN (L : Lib Tryz.prog) (n : Int) (lo : Int) (hi : Int) (i : Int) (l : List Int) : AExit × List AVal × List AObj :=
  (bif decide (i < n) then (bif decide (IntKind.i64.wrap (10 * i) ≤ hi) then (bif decide (IntKind.i64.wrap (IntKind.i64.wrap (10 * i) + 5) ≥ lo) then (AExit.normal, (([iA n] ++ jk 10 ++ [iA lo, iA hi, AVal.v (Value.slice none 0 0), AVal.list (List.length l) (intP l), AVal.row 1 0 1 0 1, iA (IntKind.i64.wrap (i + 1))] ++ jk 107), ([AObj.row 1 0 none [iA (IntKind.i64.wrap (i + 1))], AObj.row 1 0 none [iA (IntKind.i64.wrap (i + 1))]]))) else (AExit.normal, (([iA n] ++ jk 10 ++ [iA lo, iA hi, AVal.v (Value.slice none 0 0), AVal.list (List.length l) (intP l), AVal.v (Value.slice none 0 0), iA (IntKind.i64.wrap (i + 1))] ++ jk 107), []))) else (AExit.normal, (([iA n] ++ jk 10 ++ [iA lo, iA hi, AVal.v (Value.slice none 0 0), AVal.list (List.length l) (intP l), AVal.v (Value.slice none 0 0), iA (IntKind.i64.wrap (i + 1))] ++ jk 107), []))) else (AExit.exit 2, (([iA n] ++ jk 10 ++ [iA lo, iA hi, AVal.v (Value.slice none 0 0), AVal.list (List.length l) (intP l), AVal.v (Value.slice none 0 0), iA i] ++ jk 77 ++ [bA false] ++ jk 29), [])))
theorem fwN_eq (L : Lib Tryz.prog) (n : Int) (lo : Int) (hi : Int) (i : Int) (l : List Int) : evalC (cfM L) (evalF (cfM L) 60) (fgLv) 0 0 60 (loopAt Tryz.f10 1) (fwT n lo hi l nilA i) ([]) = some (fwN L n lo hi i l) := by
  have key := fun (bs : List Bool) (r : AExit × List AVal × List AObj) (ob : List Prop) (h : pathP (cfM L) (evalF (cfM L) 60) (fgLv) 0 0 60 [] (loopAt Tryz.f10 1) (fwT n lo hi l nilA i) ([]) bs [] = .ok (r.1, r.2.1, r.2.2, ob)) (hp : allOb ob) => pathP_ok h hp
  unfold fwN
  exact bif_case (P := fun r => evalC (cfM L) (evalF (cfM L) 60) (fgLv) 0 0 60 (loopAt Tryz.f10 1) (fwT n lo hi l nilA i) ([]) = some r)
    (fun h0 => bif_case (P := fun r => evalC (cfM L) (evalF (cfM L) 60) (fgLv) 0 0 60 (loopAt Tryz.f10 1) (fwT n lo hi l nilA i) ([]) = some r)
     (fun h1 => bif_case (P := fun r => evalC (cfM L) (evalF (cfM L) 60) (fgLv) 0 0 60 (loopAt Tryz.f10 1) (fwT n lo hi l nilA i) ([]) = some r)
      (fun h2 => key [true, true, true] ((AExit.normal, (([iA n] ++ jk 10 ++ [iA lo, iA hi, AVal.v (Value.slice none 0 0), AVal.list (List.length l) (intP l), AVal.row 1 0 1 0 1, iA (IntKind.i64.wrap (i + 1))] ++ jk 107), ([AObj.row 1 0 none [iA (IntKind.i64.wrap (i + 1))], AObj.row 1 0 none [iA (IntKind.i64.wrap (i + 1))]])))) _ (by kernel_rfl) (allOb_cons h2 (allOb_cons h1 (allOb_cons h0 allOb_nil))))
      (fun h2 => key [true, true, false] ((AExit.normal, (([iA n] ++ jk 10 ++ [iA lo, iA hi, AVal.v (Value.slice none 0 0), AVal.list (List.length l) (intP l), AVal.v (Value.slice none 0 0), iA (IntKind.i64.wrap (i + 1))] ++ jk 107), []))) _ (by kernel_rfl) (allOb_cons h2 (allOb_cons h1 (allOb_cons h0 allOb_nil)))))
     (fun h1 => key [true, false, false] ((AExit.normal, (([iA n] ++ jk 10 ++ [iA lo, iA hi, AVal.v (Value.slice none 0 0), AVal.list (List.length l) (intP l), AVal.v (Value.slice none 0 0), iA (IntKind.i64.wrap (i + 1))] ++ jk 107), []))) _ (by kernel_rfl) (allOb_cons lit_f (allOb_cons h1 (allOb_cons h0 allOb_nil)))))
    (fun h0 => key [false] ((AExit.exit 2, (([iA n] ++ jk 10 ++ [iA lo, iA hi, AVal.v (Value.slice none 0 0), AVal.list (List.length l) (intP l), AVal.v (Value.slice none 0 0), iA i] ++ jk 77 ++ [bA false] ++ jk 29), []))) _ (by kernel_rfl) (allOb_cons h0 allOb_nil))
def fwR (L : Lib Tryz.prog) (n : Int) (lo : Int) (hi : Int) (i : Int) (l : List Int) (k : Nat) (xs : List AVal) (us : List AVal) : AExit × List AVal × List AObj :=
  (bif decide (i < n) then (bif decide (IntKind.i64.wrap (10 * i) ≤ hi) then (bif decide (IntKind.i64.wrap (IntKind.i64.wrap (10 * i) + 5) ≥ lo) then (AExit.normal, (([iA n] ++ jk 10 ++ [iA lo, iA hi, AVal.v (Value.slice none 0 0), AVal.list (List.length l) (intP l), AVal.row 1 1 1 0 (k + 1), iA (IntKind.i64.wrap (i + 1))] ++ jk 107), ([AObj.row 1 0 none [iA (IntKind.i64.wrap (i + 1))], AObj.row 1 1 none us]))) else (AExit.normal, (([iA n] ++ jk 10 ++ [iA lo, iA hi, AVal.v (Value.slice none 0 0), AVal.list (List.length l) (intP l), AVal.row 1 0 1 0 k, iA (IntKind.i64.wrap (i + 1))] ++ jk 107), ([AObj.free, AObj.row 1 0 none xs])))) else (AExit.normal, (([iA n] ++ jk 10 ++ [iA lo, iA hi, AVal.v (Value.slice none 0 0), AVal.list (List.length l) (intP l), AVal.row 1 0 1 0 k, iA (IntKind.i64.wrap (i + 1))] ++ jk 107), ([AObj.free, AObj.row 1 0 none xs])))) else (AExit.exit 2, (([iA n] ++ jk 10 ++ [iA lo, iA hi, AVal.v (Value.slice none 0 0), AVal.list (List.length l) (intP l), AVal.row 1 0 1 0 k, iA i] ++ jk 77 ++ [bA false] ++ jk 29), ([AObj.free, AObj.row 1 0 none xs]))))
theorem fwR_eq (L : Lib Tryz.prog) (n : Int) (lo : Int) (hi : Int) (i : Int) (l : List Int) (k : Nat) (xs : List AVal) (us : List AVal) (e0 : (decide (i < n)) = true → (decide (IntKind.i64.wrap (10 * i) ≤ hi)) = true → (decide (IntKind.i64.wrap (IntKind.i64.wrap (10 * i) + 5) ≥ lo)) = true → (0 + k) * 1 = List.length xs ∧ (k + 1) * 8 ≤ 140737488355328 ∧ k + 1 ≤ 9223372036854775807) (e1 : (decide (i < n)) = true → (decide (IntKind.i64.wrap (10 * i) ≤ hi)) = true → (decide (IntKind.i64.wrap (IntKind.i64.wrap (10 * i) + 5) ≥ lo)) = true → Ones [iA (IntKind.i64.wrap (i + 1))]) (e2 : (decide (i < n)) = true → (decide (IntKind.i64.wrap (10 * i) ≤ hi)) = true → (decide (IntKind.i64.wrap (IntKind.i64.wrap (10 * i) + 5) ≥ lo)) = true → List.drop 0 xs ++ [iA (IntKind.i64.wrap (i + 1))] = us) : evalC (cfM L) (evalF (cfM L) 60) (fgLv) 0 0 60 (loopAt Tryz.f10 1) (fwT n lo hi l (AVal.row 1 0 1 0 k) i) ([AObj.free, AObj.row 1 0 none xs]) = some (fwR L n lo hi i l k xs us) := by
  have key := fun (bs : List Bool) (r : AExit × List AVal × List AObj) (ob : List Prop) (h : pathP (cfM L) (evalF (cfM L) 60) (fgLv) 0 0 60 [(20, 4, Hint.appY us)] (loopAt Tryz.f10 1) (fwT n lo hi l (AVal.row 1 0 1 0 k) i) ([AObj.free, AObj.row 1 0 none xs]) bs [] = .ok (r.1, r.2.1, r.2.2, ob)) (hp : allOb ob) => pathP_ok h hp
  unfold fwR
  exact bif_case (P := fun r => evalC (cfM L) (evalF (cfM L) 60) (fgLv) 0 0 60 (loopAt Tryz.f10 1) (fwT n lo hi l (AVal.row 1 0 1 0 k) i) ([AObj.free, AObj.row 1 0 none xs]) = some r)
    (fun h0 => bif_case (P := fun r => evalC (cfM L) (evalF (cfM L) 60) (fgLv) 0 0 60 (loopAt Tryz.f10 1) (fwT n lo hi l (AVal.row 1 0 1 0 k) i) ([AObj.free, AObj.row 1 0 none xs]) = some r)
     (fun h1 => bif_case (P := fun r => evalC (cfM L) (evalF (cfM L) 60) (fgLv) 0 0 60 (loopAt Tryz.f10 1) (fwT n lo hi l (AVal.row 1 0 1 0 k) i) ([AObj.free, AObj.row 1 0 none xs]) = some r)
      (fun h2 => key [true, true, true] ((AExit.normal, (([iA n] ++ jk 10 ++ [iA lo, iA hi, AVal.v (Value.slice none 0 0), AVal.list (List.length l) (intP l), AVal.row 1 1 1 0 (k + 1), iA (IntKind.i64.wrap (i + 1))] ++ jk 107), ([AObj.row 1 0 none [iA (IntKind.i64.wrap (i + 1))], AObj.row 1 1 none us])))) _ (by kernel_rfl) (allOb_cons (by exact (e2 h0 h1 h2)) (allOb_cons (show 1 ≤ 1 from by decide) (allOb_cons (show 0 < 1 from by decide) (allOb_cons (by exact (e1 h0 h1 h2)) (allOb_cons (by exact (e0 h0 h1 h2)) (allOb_cons h2 (allOb_cons h1 (allOb_cons h0 allOb_nil)))))))))
      (fun h2 => key [true, true, false] ((AExit.normal, (([iA n] ++ jk 10 ++ [iA lo, iA hi, AVal.v (Value.slice none 0 0), AVal.list (List.length l) (intP l), AVal.row 1 0 1 0 k, iA (IntKind.i64.wrap (i + 1))] ++ jk 107), ([AObj.free, AObj.row 1 0 none xs])))) _ (by kernel_rfl) (allOb_cons h2 (allOb_cons h1 (allOb_cons h0 allOb_nil)))))
     (fun h1 => key [true, false, false] ((AExit.normal, (([iA n] ++ jk 10 ++ [iA lo, iA hi, AVal.v (Value.slice none 0 0), AVal.list (List.length l) (intP l), AVal.row 1 0 1 0 k, iA (IntKind.i64.wrap (i + 1))] ++ jk 107), ([AObj.free, AObj.row 1 0 none xs])))) _ (by kernel_rfl) (allOb_cons lit_f (allOb_cons h1 (allOb_cons h0 allOb_nil)))))
    (fun h0 => key [false] ((AExit.exit 2, (([iA n] ++ jk 10 ++ [iA lo, iA hi, AVal.v (Value.slice none 0 0), AVal.list (List.length l) (intP l), AVal.row 1 0 1 0 k, iA i] ++ jk 77 ++ [bA false] ++ jk 29), ([AObj.free, AObj.row 1 0 none xs])))) _ (by kernel_rfl) (allOb_cons h0 allOb_nil))
noncomputable def fgB : Code := Tryz.f10.body.getD .skip
noncomputable def fgZ : Code := c2 (c2 (c2 (c2 fgB)))
noncomputable def fgX0 : Code := c2 fgZ
noncomputable def fgX1 : Code := c2 fgX0
noncomputable def fgX2 : Code := c2 fgX1
noncomputable def fgX3 : Code := c2 fgX2
noncomputable def fgX4 : Code := c2 fgX3
noncomputable def fgX5 : Code := c2 fgX4
noncomputable def fgX6 : Code := c2 fgX5
noncomputable abbrev fgK : Code := loopAt Tryz.f10 0
noncomputable abbrev fwK : Code := loopAt Tryz.f10 1
theorem fg_body : fgB = .seq (c1 fgB) (.seq (c1 (c2 fgB)) (.seq (c1 (c2 (c2 fgB))) (.seq (.seq (c1 (c1 (c2 (c2 (c2 fgB))))) (.block 0 (.loop fgK))) (.seq (c1 fgZ) (.seq (c1 fgX0) (.seq (c1 fgX1) (.seq (c1 fgX2) (.seq (c1 fgX3) (.seq (c1 fgX4) (.seq (.seq (c1 (c1 fgX5)) (.block 2 (.loop fwK))) fgX6)))))))))) := by kernel_rfl
def fzN (L : Lib Tryz.prog) (n : Int) (lo : Int) (hi : Int) (i : Int) (l : List Int) (s : Bool) : AExit × List AVal × List AObj :=
  (bif s then (AExit.ret, ((jk 6 ++ [bA true] ++ jk 117), [])) else (AExit.ret, ((jk 6 ++ [bA false] ++ jk 117), [])))
theorem fzN_eq (L : Lib Tryz.prog) (n : Int) (lo : Int) (hi : Int) (i : Int) (l : List Int) (s : Bool) (e0 : pureCall (cfM L) (evalF (cfM L) 60) 25 [PVal.list (List.length l) (intP l), PVal.v (Value.slice none 0 0)] = some (bP s)) (e1 : (s) = true → pureCall (cfM L) (evalF (cfM L) 60) 34 [] = some (bP true)) : evalC (cfM L) (evalF (cfM L) 60) (fgLv) 0 0 60 (fgX6) (fwX n lo hi l nilA i) ([]) = some (fzN L n lo hi i l s) := by
  have key := fun (bs : List Bool) (r : AExit × List AVal × List AObj) (ob : List Prop) (h : pathP (cfM L) (evalF (cfM L) 60) (fgLv) 0 0 60 [(21, 6, Hint.pcall (bP s)), (21, 9, Hint.pcall (bP true))] (fgX6) (fwX n lo hi l nilA i) ([]) bs [] = .ok (r.1, r.2.1, r.2.2, ob)) (hp : allOb ob) => pathP_ok h hp
  unfold fzN
  exact bif_case (P := fun r => evalC (cfM L) (evalF (cfM L) 60) (fgLv) 0 0 60 (fgX6) (fwX n lo hi l nilA i) ([]) = some r)
    (fun h0 => key [true, true] ((AExit.ret, ((jk 6 ++ [bA true] ++ jk 117), []))) _ (by kernel_rfl) (allOb_cons (by exact (e1 h0)) (allOb_cons h0 (allOb_cons (by exact e0) (allOb_cons lit_t allOb_nil)))))
    (fun h0 => key [true, false] ((AExit.ret, ((jk 6 ++ [bA false] ++ jk 117), []))) _ (by kernel_rfl) (allOb_cons h0 (allOb_cons (by exact e0) (allOb_cons lit_t allOb_nil))))
def fzR (L : Lib Tryz.prog) (n : Int) (lo : Int) (hi : Int) (i : Int) (l : List Int) (s : Bool) (ms : List Int) : AExit × List AVal × List AObj :=
  (bif s then (AExit.ret, ((jk 6 ++ [bA true] ++ jk 117), ([AObj.free, AObj.row 1 0 (some (List.length (intA ms))) (intA ms)]))) else (AExit.ret, ((jk 6 ++ [bA false] ++ jk 117), ([AObj.free, AObj.row 1 0 (some (List.length (intA ms))) (intA ms)]))))
theorem fzR_eq (L : Lib Tryz.prog) (n : Int) (lo : Int) (hi : Int) (i : Int) (l : List Int) (s : Bool) (ms : List Int) (e0 : pureCall (cfM L) (evalF (cfM L) 60) 25 [PVal.list (List.length l) (intP l), PVal.list (List.length ms) (intP ms)] = some (bP s)) (e1 : mapO (peek [AObj.free, AObj.row 1 0 (some (List.length (intA ms))) (intA ms)] deep) [AVal.list (List.length l) (intP l), AVal.row 1 0 1 0 (List.length ms)] = some [PVal.list (List.length l) (intP l), PVal.list (List.length ms) (intP ms)]) (e2 : List.foldl (Vm.mark 0 deep) [AObj.free, AObj.row 1 0 none (intA ms)] [AVal.list (List.length l) (intP l), AVal.row 1 0 1 0 (List.length ms)] = [AObj.free, AObj.row 1 0 (some (List.length (intA ms))) (intA ms)]) (e3 : (s) = true → pureCall (cfM L) (evalF (cfM L) 60) 34 [] = some (bP true)) : evalC (cfM L) (evalF (cfM L) 60) (fgLv) 0 0 60 (fgX6) (fwX n lo hi l (AVal.row 1 0 1 0 (List.length ms)) i) ([AObj.free, AObj.row 1 0 none (intA ms)]) = some (fzR L n lo hi i l s ms) := by
  have key := fun (bs : List Bool) (r : AExit × List AVal × List AObj) (ob : List Prop) (h : pathP (cfM L) (evalF (cfM L) 60) (fgLv) 0 0 60 [(21, 6, Hint.pcallV [slI l, slI ms] (bP s) fun S => List.set S 1 (AObj.row 1 0 (some (List.length (intA ms))) (intA ms))), (21, 9, Hint.pcall (bP true))] (fgX6) (fwX n lo hi l (AVal.row 1 0 1 0 (List.length ms)) i) ([AObj.free, AObj.row 1 0 none (intA ms)]) bs [] = .ok (r.1, r.2.1, r.2.2, ob)) (hp : allOb ob) => pathP_ok h hp
  unfold fzR
  exact bif_case (P := fun r => evalC (cfM L) (evalF (cfM L) 60) (fgLv) 0 0 60 (fgX6) (fwX n lo hi l (AVal.row 1 0 1 0 (List.length ms)) i) ([AObj.free, AObj.row 1 0 none (intA ms)]) = some r)
    (fun h0 => key [true, true] ((AExit.ret, ((jk 6 ++ [bA true] ++ jk 117), ([AObj.free, AObj.row 1 0 (some (List.length (intA ms))) (intA ms)])))) _ (by kernel_rfl) (allOb_cons (by exact (e3 h0)) (allOb_cons h0 (allOb_cons (by exact e2) (allOb_cons (by exact e1) (allOb_cons (by exact e0) (allOb_cons lit_t allOb_nil)))))))
    (fun h0 => key [true, false] ((AExit.ret, ((jk 6 ++ [bA false] ++ jk 117), ([AObj.free, AObj.row 1 0 (some (List.length (intA ms))) (intA ms)])))) _ (by kernel_rfl) (allOb_cons h0 (allOb_cons (by exact e2) (allOb_cons (by exact e1) (allOb_cons (by exact e0) (allOb_cons lit_t allOb_nil))))))
def fg9 (L : Lib Tryz.prog) (n : Int) (a : Int) (b : Int) (i : Int) (ns : List Nd) (es : List Ed) (x : PVal) (y : PVal) : AExit × List AVal × List AObj :=
  (AExit.normal, (([iA n, iA a, iA b] ++ jk 7 ++ [AVal.eptr [x, y]] ++ jk 113), ([AObj.box [AVal.row 2 0 4 0 (List.length ns), AVal.row 5 0 6 0 (List.length es)], AObj.free, AObj.row 4 0 (some (List.length (upL (flatN ns)))) (upL (flatN ns)), AObj.free, AObj.free, AObj.row 6 0 (some (List.length (upL (flatE es)))) (upL (flatE es))])))
theorem fg9_eq (L : Lib Tryz.prog) (n : Int) (a : Int) (b : Int) (i : Int) (ns : List Nd) (es : List Ed) (x : PVal) (y : PVal) (e0 : pureCall (cfM L) (evalF (cfM L) 60) 37 [PVal.agg [PVal.list (List.length ns) (flatN ns), PVal.list (List.length es) (flatE es)]] = some (PVal.ptr [x, y])) (e1 : mapO (peek [AObj.box [AVal.row 2 0 4 0 (List.length ns), AVal.row 5 0 6 0 (List.length es)], AObj.free, AObj.row 4 0 (some (List.length (upL (flatN ns)))) (upL (flatN ns)), AObj.free, AObj.free, AObj.row 6 0 (some (List.length (upL (flatE es)))) (upL (flatE es))] deep) [AVal.agg [AVal.row 2 0 4 0 (List.length ns), AVal.row 5 0 6 0 (List.length es)]] = some [PVal.agg [PVal.list (List.length ns) (flatN ns), PVal.list (List.length es) (flatE es)]]) (e2 : List.foldl (Vm.mark 0 deep) [AObj.box [AVal.row 2 0 4 0 (List.length ns), AVal.row 5 0 6 0 (List.length es)], AObj.free, AObj.row 4 0 none (upL (flatN ns)), AObj.free, AObj.free, AObj.row 6 0 none (upL (flatE es))] [AVal.agg [AVal.row 2 0 4 0 (List.length ns), AVal.row 5 0 6 0 (List.length es)]] = [AObj.box [AVal.row 2 0 4 0 (List.length ns), AVal.row 5 0 6 0 (List.length es)], AObj.free, AObj.row 4 0 (some (List.length (upL (flatN ns)))) (upL (flatN ns)), AObj.free, AObj.free, AObj.row 6 0 (some (List.length (upL (flatE es)))) (upL (flatE es))]) : evalC (cfM L) (evalF (cfM L) 60) (fgLv) 0 0 60 (c1 fgZ) ([iA n, iA a, iA b] ++ jk 4 ++ [AVal.ptr 0 0 0, iA i] ++ jk 15 ++ [bA false] ++ jk 99) (fgS (List.length ns) (List.length es) (upL (flatN ns)) (upL (flatE es))) = some (fg9 L n a b i ns es x y) := by
  have key := fun (bs : List Bool) (r : AExit × List AVal × List AObj) (ob : List Prop) (h : pathP (cfM L) (evalF (cfM L) 60) (fgLv) 0 0 60 [(9, 1, Hint.pcallV [plG ns es] (PVal.ptr [x, y]) fun S => List.set (List.set S 2 (AObj.row 4 0 (some (List.length (upL (flatN ns)))) (upL (flatN ns)))) 5 (AObj.row 6 0 (some (List.length (upL (flatE es)))) (upL (flatE es))))] (c1 fgZ) ([iA n, iA a, iA b] ++ jk 4 ++ [AVal.ptr 0 0 0, iA i] ++ jk 15 ++ [bA false] ++ jk 99) (fgS (List.length ns) (List.length es) (upL (flatN ns)) (upL (flatE es))) bs [] = .ok (r.1, r.2.1, r.2.2, ob)) (hp : allOb ob) => pathP_ok h hp
  unfold fg9
  exact key [] ((AExit.normal, (([iA n, iA a, iA b] ++ jk 7 ++ [AVal.eptr [x, y]] ++ jk 113), ([AObj.box [AVal.row 2 0 4 0 (List.length ns), AVal.row 5 0 6 0 (List.length es)], AObj.free, AObj.row 4 0 (some (List.length (upL (flatN ns)))) (upL (flatN ns)), AObj.free, AObj.free, AObj.row 6 0 (some (List.length (upL (flatE es)))) (upL (flatE es))])))) _ (by kernel_rfl) (allOb_cons (by exact e2) (allOb_cons (by exact e1) (allOb_cons (by exact e0) allOb_nil)))
end Go.Proofs.YtkkgimhbliocoaaGreat
/- FindGrids: its plan; its loops. -/
namespace Go.Proofs.YtkkgimhbliocoaaGreat
open Go Vm M
set_option linter.unusedVariables false
set_option linter.unusedSectionVars false
set_option linter.unusedSimpArgs false
set_option maxRecDepth 100000
theorem wrX {x : Int} (h1 : -1000000 ≤ x) (h2 : x ≤ 1000000) : IntKind.i64.wrap x = x := IntWalk.i64_in _ (by omega)
open Classical in
/-- One answer. -/
noncomputable def gOne (ps : List PVal) (r : PVal) (qs : List PVal) : Option PVal := if qs = ps then some r else none
theorem gOne_spec {P : Program} {f : FuncId} {ps : List PVal} {r : PVal} (h : CallsP P f ps r) : ∀ qs v, gOne ps r qs = some v → CallsP P f qs v := by
  intro qs v hv
  unfold gOne at hv
  split at hv
  · rename_i hq
    simp only [Option.some.injEq] at hv
    subst hq hv
    exact h
  · cases hv
theorem gOne_ok (ps : List PVal) (r : PVal) : gOne ps r ps = some r := if_pos rfl
/-! ## SameInts -/
noncomputable abbrev siKK : Code := loopAt Tryz.f25 0
noncomputable def siB : Code := Tryz.f25.body.getD .skip
theorem si_body : siB = .seq (c1 siB) (.seq (c1 (c2 siB)) (.seq (.seq (c1 (c1 (c2 (c2 siB)))) (.block 0 (.loop siKK))) (c2 (c2 (c2 siB))))) := by kernel_rfl
noncomputable def siFn : FnA := (c3X.tab 25).getD ⟨0, #[], .skip, []⟩
theorem siFn_tab : c3X.tab 25 = some siFn := by kernel_rfl
theorem siFn_body : siFn.body = siB := by kernel_rfl
def siX (l : List Int) : List AVal := [slJ l, slJ l] ++ jk 3 ++ [iA l.length] ++ jk 8 ++ [bA false] ++ jk 11
def siZ (l : List Int) : List AVal := [slJ l, slJ l] ++ jk 24
theorem intP_get {l : List Int} {k : Nat} (h : k < l.length) : partA Tryz.prog 3 (upL ((intP l).drop (Int.toNat (k : Int) * 1))) 0 = some (iA (l.getD k 0)) := by
  have e : (upL ((intP l).drop (Int.toNat (k : Int) * 1)))[0]? = some (iA (l.getD k 0)) := by
    rw [Int.toNat_natCast, Nat.mul_one]
    unfold intP
    rw [← List.map_drop, List.drop_eq_getElem_cons h]
    simp only [List.map_cons, upL, List.getElem?_cons_zero, List.getD_eq_getElem?_getD, List.getElem?_eq_getElem h, Option.getD_some]
    rfl
  exact e
theorem same_calls (l : List Int) (hl : l.length ≤ 1000) : CallsP Tryz.prog 25 [slI l, slI l] (bP true) := by
  refine callsP_of_A (r0 := bA true) (S := []) (callsA_of_EV c3X_ok siFn_tab (x := .ret) (.inr rfl) (T' := jk 4 ++ [bA true] ++ jk 21) (by kernel_rfl) ?_) (by rfl)
  rw [siFn_body, si_body]
  refine EV.seq (EV.of c3X_ok ev3X_ok (lv := siLv) (lo := 0) (n := 60) (T' := siZ l) (S' := []) (by kernel_rfl)) ?_
  refine EV.seq (T1 := [slJ l, slJ l] ++ jk 8 ++ [bA false] ++ jk 15) (S1 := []) ?_ ?_
  · have e : evalC c3X ev3X siLv 0 0 60 (c1 (c2 siB)) (siZ l) [] = bif ((l.length : Int) != (l.length : Int)) then some (.ret, jk 4 ++ [bA false] ++ jk 21, []) else some (.normal, [slJ l, slJ l] ++ jk 8 ++ [bA false] ++ jk 15, []) := by
      cases hb : ((l.length : Int) != (l.length : Int)) with
      | true => rw [bne_self_eq_false] at hb; cases hb
      | false =>
        refine (pathP_ok (hs := []) (bs := [false]) (ls := []) (x := .normal) (T' := [slJ l, slJ l] ++ jk 8 ++ [bA false] ++ jk 15) (S' := []) (ob := [((l.length : Int) != (l.length : Int)) = false]) (by kernel_rfl) (allOb_cons hb allOb_nil))
    rw [bne_self_eq_false, cond_false] at e
    exact EV.of c3X_ok ev3X_ok e
  refine EV.seq (EV.seq (EV.of c3X_ok ev3X_ok (lv := siLv) (lo := 0) (n := 60) (T' := siT l (0 : Nat)) (S' := []) (by kernel_rfl)) (EV.block (id := 0) (T' := siX l) (S' := []) ?_)) (EV.of c3X_ok ev3X_ok (lv := siLv) (lo := 0) (n := 60) (by kernel_rfl))
  refine EV.loop (n := l.length) (T := fun k => siT l k) (S := fun _ => []) (fun k hk => ?_) ?_ (by simp)
  · have e := siK_eq KX3 l k (l.getD k 0) (fun _ => by omega) (fun _ => intP_get hk)
    unfold siK at e
    rw [decide_eq_true (by omega : (k : Int) < (l.length : Int)), cond_true, bne_self_eq_false, cond_false, wrS (by omega)] at e
    exact EV.tidy [] (EV.of c3X_ok ev3X_ok e) (fun q hq y hy => by simp at hq) (by kernel_rfl)
  · have hd : decide ((l.length : Int) < (l.length : Int)) = false := decide_eq_false (by omega)
    have e := siK_eq KX3 l l.length 0 (fun h => by rw [hd] at h; cases h) (fun h => by rw [hd] at h; cases h)
    unfold siK at e
    rw [hd, cond_false] at e
    exact EV.of c3X_ok ev3X_ok e
/-! ## the plan -/
def gA (i : Nat) : Nd := ((2 * i + 1 : Nat), (((10 * i : Nat) : Int), 0), -1)
def gB (i : Nat) : Nd := ((2 * i + 2 : Nat), (((10 * i + 5 : Nat) : Int), 7), -1)
def gE (i : Nat) : Ed := ((i + 1 : Nat), (2 * i + 1 : Nat), (2 * i + 2 : Nat), [(((10 * i : Nat) : Int), 0), (((10 * i + 5 : Nat) : Int), 7)], 0, 0)
def nsG : Nat → List Nd
  | 0 => []
  | k + 1 => nsG k ++ [gA k, gB k]
def esG : Nat → List Ed
  | 0 => []
  | k + 1 => esG k ++ [gE k]
theorem nsG_length : ∀ k, (nsG k).length = 2 * k
  | 0 => rfl
  | k + 1 => by simp [nsG, nsG_length k]; omega
theorem esG_length : ∀ k, (esG k).length = k
  | 0 => rfl
  | k + 1 => by simp [esG, esG_length k]
theorem esG_at : ∀ (n : Nat) {k : Nat}, k < n → (esG n)[k]? = some (gE k)
  | n + 1, k, h => by
    unfold esG
    by_cases hk : k < n
    · rw [List.getElem?_append_left (by rw [esG_length]; exact hk)]
      exact esG_at n hk
    · have : k = n := by omega
      subst this
      rw [List.getElem?_append_right (by rw [esG_length]; omega), esG_length, Nat.sub_self]
      rfl
theorem nsG_mem : ∀ (n : Nat) (x : Nd), x ∈ nsG n → ∃ i, i < n ∧ (x = gA i ∨ x = gB i)
  | 0, x, h => by simp [nsG] at h
  | n + 1, x, h => by
    unfold nsG at h
    rw [List.mem_append] at h
    rcases h with h | h
    · obtain ⟨i, h1, h2⟩ := nsG_mem n x h
      exact ⟨i, by omega, h2⟩
    · simp only [List.mem_cons, List.not_mem_nil, or_false] at h
      exact ⟨n, by omega, h⟩
theorem upL_flatN2 (ns : List Nd) (a b : Nd) : upL (flatN (ns ++ [a, b])) = upL (flatN ns) ++ [iA a.1, iA a.2.1.1, iA a.2.1.2, iA a.2.2, iA b.1, iA b.2.1.1, iA b.2.1.2, iA b.2.2] := by
  induction ns with
  | nil => rfl
  | cons m ns ih => simp only [List.cons_append, flatN, upL, ih]
theorem upL_flatE1 (es : List Ed) (e : Ed) : upL (flatE (es ++ [e])) = upL (flatE es) ++ [iA e.1, iA e.2.1, iA e.2.2.1, .list e.2.2.2.1.length (flatPP e.2.2.2.1), iA e.2.2.2.2.1, iA e.2.2.2.2.2] := by
  induction es with
  | nil => rfl
  | cons m es ih => simp only [List.cons_append, flatE, upL, ih]
theorem flatE_plain : ∀ es : List Ed, (upL (flatE es)).all plainV = true
  | [] => rfl
  | e :: es => by simp [flatE, upL, up, iP, plainV, flatE_plain es]
theorem flatE_one : ∀ es : List Ed, (upL (flatE es)).all AVal.one = true
  | [] => rfl
  | e :: es => by simp [flatE, upL, up, iP, AVal.one, Value.oneCell', flatE_one es]
section
variable (L : Lib Tryz.prog) (N : Nat) (a b : Int) (hN : N ≤ 60)
def fgSt (k : Nat) : List AObj := bif Nat.beq k 0 then [.box [nilA, nilA]] else fgS (2 * k) k (upL (flatN (nsG k))) (upL (flatE (esG k)))
theorem fgSt_pos {k : Nat} (h : 1 ≤ k) : fgSt k = fgS (2 * k) k (upL (flatN (nsG k))) (upL (flatE (esG k))) := by unfold fgSt; rw [beq0 h]; rfl
include hN
theorem fg_first (h : 0 < N) : EV (cfM L) 0 fgK (fgT N a b (0 : Nat)) (fgSt 0) .normal (fgT N a b (1 : Nat)) (fgSt 1) := by
  have e := fgF_eq L N a b (0 : Nat)
  unfold fgF at e
  rw [decide_eq_true (by omega : ((0 : Nat) : Int) < (N : Int)), cond_true, wrS (by omega)] at e
  refine EV.tidy [2, 5] (EV.of (cfM_ok L) (evalF_ok (cfM_ok L) 60) e) (fun q hq y hy => ?_) (by kernel_rfl)
  simp only [List.mem_cons, List.not_mem_nil, or_false] at hq
  rcases hq with rfl | rfl
  · have := (Option.some.inj hy).symm
    subst this
    rfl
  · have := (Option.some.inj hy).symm
    subst this
    rfl
theorem fg_round {k : Nat} (h1 : 1 ≤ k) (h : k < N) : EV (cfM L) 0 fgK (fgT N a b k) (fgSt k) .normal (fgT N a b (k + 1 : Nat)) (fgSt (k + 1)) := by
  have w1 : IntKind.i64.wrap (2 * (k : Int)) = ((2 * k : Nat) : Int) := by rw [wrX (by omega) (by omega)]; omega
  have w2 : IntKind.i64.wrap (10 * (k : Int)) = ((10 * k : Nat) : Int) := by rw [wrX (by omega) (by omega)]; omega
  have w3 : IntKind.i64.wrap (((2 * k : Nat) : Int) + 1) = ((2 * k + 1 : Nat) : Int) := by rw [wrX (by omega) (by omega)]; omega
  have w4 : IntKind.i64.wrap (((2 * k : Nat) : Int) + 2) = ((2 * k + 2 : Nat) : Int) := by rw [wrX (by omega) (by omega)]; omega
  have w5 : IntKind.i64.wrap (((10 * k : Nat) : Int) + 5) = ((10 * k + 5 : Nat) : Int) := by rw [wrX (by omega) (by omega)]; omega
  have w6 : IntKind.i64.wrap ((k : Int) + 1) = ((k + 1 : Nat) : Int) := wrS (by omega)
  have e := fgG_eq L N a b k (2 * k) k (upL (flatN (nsG k))) (upL (flatE (esG k))) (upL (flatN (nsG (k + 1)))) (upL (flatE (esG (k + 1))))
    (fun _ => ⟨by rw [upLX, flatN_length, nsG_length]; omega, by omega, by omega⟩) (fun _ => rfl)
    (fun _ => by rw [w1, w2, w3, w4, w5, List.drop_zero, show nsG (k + 1) = nsG k ++ [gA k, gB k] from rfl, upL_flatN2]; rfl)
    (fun _ => ⟨by rw [upLX, flatE_length, esG_length]; omega, by omega, by omega⟩) (fun _ => rfl)
    (fun _ => by rw [w1, w2, w3, w4, w5, w6, List.drop_zero, show esG (k + 1) = esG k ++ [gE k] from rfl, upL_flatE1]; rfl)
  unfold fgG at e
  rw [decide_eq_true (by omega : (k : Int) < (N : Int)), cond_true, w6] at e
  rw [fgSt_pos h1, fgSt_pos (by omega), show 2 * (k + 1) = 2 * k + 2 by omega]
  refine EV.tidy [2, 5] (EV.of (cfM_ok L) (evalF_ok (cfM_ok L) 60) e) (fun q hq y hy => ?_) (by kernel_rfl)
  simp only [List.mem_cons, List.not_mem_nil, or_false] at hq
  rcases hq with rfl | rfl
  · have := (Option.some.inj hy).symm
    subst this
    exact flatN_plain _
  · have := (Option.some.inj hy).symm
    subst this
    exact flatE_plain _
def fgE (n a b i : Int) : List AVal := [iA n, iA a, iA b] ++ jk 4 ++ [AVal.ptr 0 0 0, iA i] ++ jk 15 ++ [bA false] ++ jk 99
theorem fg_end (h : 1 ≤ N) : EV (cfM L) 0 fgK (fgT N a b N) (fgSt N) (.exit 0) (fgE N a b N) (fgS (2 * N) N (upL (flatN (nsG N))) (upL (flatE (esG N)))) := by
  have hd : decide ((N : Int) < (N : Int)) = false := decide_eq_false (by omega)
  have e := fgG_eq L N a b N (2 * N) N (upL (flatN (nsG N))) (upL (flatE (esG N))) [] [] (fun h => by rw [hd] at h; cases h) (fun h => by rw [hd] at h; cases h) (fun h => by rw [hd] at h; cases h) (fun h => by rw [hd] at h; cases h) (fun h => by rw [hd] at h; cases h) (fun h => by rw [hd] at h; cases h)
  unfold fgG at e
  rw [hd, cond_false] at e
  rw [fgSt_pos h]
  exact EV.of (cfM_ok L) (evalF_ok (cfM_ok L) 60) e
theorem fg_loop (h : 1 ≤ N) : EV (cfM L) 0 (.loop fgK) (fgT N a b (0 : Nat)) (fgSt 0) (.exit 0) (fgE N a b N) (fgS (2 * N) N (upL (flatN (nsG N))) (upL (flatE (esG N)))) := by
  refine EV.loop (n := N) (T := fun k => fgT N a b k) (S := fun k => fgSt k) (fun k hk => ?_) (fg_end L N a b hN h) (by simp)
  by_cases h0 : k = 0
  · subst h0; exact fg_first L N a b hN (by omega)
  · exact fg_round L N a b hN (by omega) hk
end
end Go.Proofs.YtkkgimhbliocoaaGreat
/- FindGrids: what is between its loops. -/
namespace Go.Proofs.YtkkgimhbliocoaaGreat
open Go Vm M
set_option linter.unusedVariables false
set_option linter.unusedSimpArgs false
set_option maxRecDepth 100000
def fg14 (L : Lib Tryz.prog) (n : Int) (lo : Int) (hi : Int) (x : PVal) (y : PVal) (l : List Int) : AExit × List AVal × List AObj :=
  (AExit.normal, (([iA n] ++ jk 10 ++ [iA lo, iA hi, AVal.v (Value.slice none 0 0), AVal.list (List.length l) (intP l)] ++ jk 109), []))
theorem fg14_eq (L : Lib Tryz.prog) (n : Int) (lo : Int) (hi : Int) (x : PVal) (y : PVal) (l : List Int) (e0 : pureCall (cfM L) (evalF (cfM L) 60) 38 [PVal.ptr [x, y], PVal.agg [iP lo, iP (Int.ofNat 1)], PVal.agg [iP hi, iP (Int.ofNat 6)]] = some (PVal.tup [PVal.v (Value.slice none 0 0), PVal.list (List.length l) (intP l)])) : evalC (cfM L) (evalF (cfM L) 60) (fgLv) 0 0 60 (c1 fgX3) ([iA n] ++ jk 9 ++ [AVal.eptr [x, y], iA lo, iA hi] ++ jk 111) ([]) = some (fg14 L n lo hi x y l) := by
  have key := fun (bs : List Bool) (r : AExit × List AVal × List AObj) (ob : List Prop) (h : pathP (cfM L) (evalF (cfM L) 60) (fgLv) 0 0 60 [(14, 5, Hint.pcall (PVal.tup [nilP, slI l]))] (c1 fgX3) ([iA n] ++ jk 9 ++ [AVal.eptr [x, y], iA lo, iA hi] ++ jk 111) ([]) bs [] = .ok (r.1, r.2.1, r.2.2, ob)) (hp : allOb ob) => pathP_ok h hp
  unfold fg14
  exact key [] ((AExit.normal, (([iA n] ++ jk 10 ++ [iA lo, iA hi, AVal.v (Value.slice none 0 0), AVal.list (List.length l) (intP l)] ++ jk 109), []))) _ (by kernel_rfl) (allOb_cons (by exact e0) allOb_nil)
end Go.Proofs.YtkkgimhbliocoaaGreat
/- FindGrids: which boxes a window meets; its second loop. -/
namespace Go.Proofs.YtkkgimhbliocoaaGreat
open Go Vm M
set_option linter.unusedVariables false
set_option linter.unusedSectionVars false
set_option linter.unusedSimpArgs false
set_option maxRecDepth 100000
theorem nearQ {p : P2} (h1 : -1048576 ≤ p.1 ∧ p.1 ≤ 1048576) (h2 : -1048576 ≤ p.2 ∧ p.2 ≤ 1048576) : nearP p = p := by
  unfold nearP
  rw [near1_id h1, near1_id h2]
theorem eBx_gE {i : Nat} (h : i ≤ 60) : eBx (gE i) = ((((i + 1 : Nat) : Int), (((10 * i : Nat) : Int), 0), (((10 * i + 5 : Nat) : Int), 7)) : Bx) := by
  have e0 : pAt [(((10 * i : Nat) : Int), (0 : Int)), (((10 * i + 5 : Nat) : Int), 7)] 0 = (((10 * i : Nat) : Int), 0) := by rw [pAt_eq]; rfl
  have e1 : pAt [(((10 * i : Nat) : Int), (0 : Int)), (((10 * i + 5 : Nat) : Int), 7)] 1 = (((10 * i + 5 : Nat) : Int), 7) := by rw [pAt_eq]; rfl
  have n0 : nearP (((10 * i : Nat) : Int), (0 : Int)) = (((10 * i : Nat) : Int), 0) := nearQ ⟨by simp only; omega, by simp only; omega⟩ ⟨by simp only; omega, by simp only; omega⟩
  have n1 : nearP (((10 * i + 5 : Nat) : Int), (7 : Int)) = (((10 * i + 5 : Nat) : Int), 7) := nearQ ⟨by simp only; omega, by simp only; omega⟩ ⟨by simp only; omega, by simp only; omega⟩
  have m1 : min (((10 * i : Nat) : Int)) (((10 * i + 5 : Nat) : Int)) = ((10 * i : Nat) : Int) := by omega
  have m2 : max (((10 * i : Nat) : Int)) (((10 * i + 5 : Nat) : Int)) = ((10 * i + 5 : Nat) : Int) := by omega
  show ((((i + 1 : Nat) : Int), (boxK [(((10 * i : Nat) : Int), (0 : Int)), (((10 * i + 5 : Nat) : Int), 7)] (0 + 1 + 1)).1, (boxK [(((10 * i : Nat) : Int), (0 : Int)), (((10 * i + 5 : Nat) : Int), 7)] (0 + 1 + 1)).2) : Bx) = _
  simp only [boxK, e0, e1, n0, n1, minP, maxP, m1, m2]
  rfl
section
variable (lo hi : Int) (hl : -1000 ≤ lo) (hh : hi ≤ 2000) (hlh : lo ≤ hi)
include hl hh hlh
theorem win_id : nearP (lo, 1) = (lo, 1) ∧ nearP (hi, 6) = (hi, 6) :=
  ⟨nearQ ⟨by simp only; omega, by simp only; omega⟩ ⟨by simp only; omega, by simp only; omega⟩, nearQ ⟨by simp only; omega, by simp only; omega⟩ ⟨by simp only; omega, by simp only; omega⟩⟩
theorem hit_A {i : Nat} (h : i ≤ 60) : hitB (lo, 1) (hi, 6) (nBx (gA i)) = false := by
  obtain ⟨w1, w2⟩ := win_id lo hi hl hh hlh
  have n0 : nearP (((10 * i : Nat) : Int), (0 : Int)) = (((10 * i : Nat) : Int), 0) := nearQ ⟨by simp only; omega, by simp only; omega⟩ ⟨by simp only; omega, by simp only; omega⟩
  show meetB (((10 * i : Nat) : Int), (0 : Int)) (((10 * i : Nat) : Int), 0) (lo, 1) (hi, 6) = false
  unfold meetB
  rw [n0, w1, w2]
  unfold leP
  simp
theorem hit_B {i : Nat} (h : i ≤ 60) : hitB (lo, 1) (hi, 6) (nBx (gB i)) = false := by
  obtain ⟨w1, w2⟩ := win_id lo hi hl hh hlh
  have n0 : nearP (((10 * i + 5 : Nat) : Int), (7 : Int)) = (((10 * i + 5 : Nat) : Int), 7) := nearQ ⟨by simp only; omega, by simp only; omega⟩ ⟨by simp only; omega, by simp only; omega⟩
  show meetB (((10 * i + 5 : Nat) : Int), (7 : Int)) (((10 * i + 5 : Nat) : Int), 7) (lo, 1) (hi, 6) = false
  unfold meetB
  rw [n0, w1, w2]
  unfold leP
  simp
def cnd (lo hi : Int) (i : Nat) : Bool := decide (((10 * i : Nat) : Int) ≤ hi) && decide (((10 * i + 5 : Nat) : Int) ≥ lo)
theorem hit_E {i : Nat} (h : i ≤ 60) : hitB (lo, 1) (hi, 6) (eBx (gE i)) = cnd lo hi i := by
  obtain ⟨w1, w2⟩ := win_id lo hi hl hh hlh
  have n0 : nearP (((10 * i : Nat) : Int), (0 : Int)) = (((10 * i : Nat) : Int), 0) := nearQ ⟨by simp only; omega, by simp only; omega⟩ ⟨by simp only; omega, by simp only; omega⟩
  have n1 : nearP (((10 * i + 5 : Nat) : Int), (7 : Int)) = (((10 * i + 5 : Nat) : Int), 7) := nearQ ⟨by simp only; omega, by simp only; omega⟩ ⟨by simp only; omega, by simp only; omega⟩
  rw [eBx_gE h]
  show meetB (((10 * i : Nat) : Int), (0 : Int)) (((10 * i + 5 : Nat) : Int), 7) (lo, 1) (hi, 6) = _
  unfold meetB
  rw [n0, n1, w1, w2]
  unfold leP cnd
  simp only
  rw [decide_eq_true (by omega : ((10 * i : Nat) : Int) ≤ ((10 * i + 5 : Nat) : Int)), decide_eq_true (by omega : (0 : Int) ≤ 7), decide_eq_true (by omega : (0 : Int) ≤ 6), decide_eq_true (by omega : (1 : Int) ≤ 7), decide_eq_true hlh, decide_eq_true (by omega : (1 : Int) ≤ 6)]
  simp only [Bool.true_and, Bool.and_true]
def wL (lo hi : Int) : Nat → List Int
  | 0 => []
  | k + 1 => wL lo hi k ++ (bif cnd lo hi k then [((k + 1 : Nat) : Int)] else [])
theorem hits_e {N : Nat} (hN : N ≤ 60) : ∀ k, k ≤ N → hitL ((esG N).map eBx) (lo, 1) (hi, 6) k = wL lo hi k := by
  intro k
  induction k with
  | zero => intro _; rfl
  | succ k ih =>
    intro hk
    have hb : bAt ((esG N).map eBx) k = eBx (gE k) := bAt_get (by rw [List.getElem?_map, esG_at N (by omega)]; rfl)
    rw [hitL_succ (lo, 1) (hi, 6) (by rw [List.length_map, esG_length]; omega), ih (by omega), hb, hit_E lo hi hl hh hlh (by omega), eBx_gE (by omega)]
    rfl
theorem hits_n {N : Nat} (hN : N ≤ 60) (k : Nat) : hitL ((nsG N).map nBx) (lo, 1) (hi, 6) k = [] := by
  unfold hitL
  have : (((nsG N).map nBx).take k).filter (hitB (lo, 1) (hi, 6)) = [] := by
    rw [List.filter_eq_nil_iff]
    intro x hx
    obtain ⟨y, hy, rfl⟩ := List.mem_map.1 (List.mem_of_mem_take hx)
    obtain ⟨i, hi', rfl | rfl⟩ := nsG_mem N y hy
    · rw [hit_A lo hi hl hh hlh (by omega)]; simp
    · rw [hit_B lo hi hl hh hlh (by omega)]; simp
  rw [this]
  rfl
end
theorem wL_le (lo hi : Int) : ∀ k, (wL lo hi k).length ≤ k
  | 0 => Nat.le_refl _
  | k + 1 => by
    have := wL_le lo hi k
    simp only [wL, List.length_append]
    cases cnd lo hi k <;> simp <;> omega
section
variable (L : Lib Tryz.prog) (N : Nat) (lo hi : Int) (l : List Int) (hN : N ≤ 60)
def fwX0 (ids : List Int) : AVal := bif Nat.beq ids.length 0 then nilA else .row 1 0 1 0 ids.length
def fwS0 (ids : List Int) : List AObj := bif Nat.beq ids.length 0 then [] else [.free, .row 1 0 none (intA ids)]
theorem fwX0_pos {ids : List Int} (h : 1 ≤ ids.length) : fwX0 ids = .row 1 0 1 0 ids.length ∧ fwS0 ids = [.free, .row 1 0 none (intA ids)] := by
  unfold fwX0 fwS0; rw [beq0 h]; exact ⟨rfl, rfl⟩
include hN
theorem fw_round {k : Nat} (h : k < N) : EV (cfM L) 0 fwK (fwT N lo hi l (fwX0 (wL lo hi k)) k) (fwS0 (wL lo hi k)) .normal (fwT N lo hi l (fwX0 (wL lo hi (k + 1))) (k + 1 : Nat)) (fwS0 (wL lo hi (k + 1))) := by
  have w2 : IntKind.i64.wrap (10 * (k : Int)) = ((10 * k : Nat) : Int) := by rw [wrX (by omega) (by omega)]; omega
  have w5 : IntKind.i64.wrap (((10 * k : Nat) : Int) + 5) = ((10 * k + 5 : Nat) : Int) := by rw [wrX (by omega) (by omega)]; omega
  have w6 : IntKind.i64.wrap ((k : Int) + 1) = ((k + 1 : Nat) : Int) := wrS (by omega)
  have hle := wL_le lo hi k
  show EV _ _ _ _ _ _ (fwT N lo hi l (fwX0 (wL lo hi k ++ (bif cnd lo hi k then [((k + 1 : Nat) : Int)] else []))) (k + 1 : Nat)) (fwS0 (wL lo hi k ++ (bif cnd lo hi k then [((k + 1 : Nat) : Int)] else [])))
  generalize hids : wL lo hi k = ids at *
  by_cases h0 : ids = []
  · subst h0
    have e := fwN_eq L N lo hi k l
    unfold fwN at e
    rw [decide_eq_true (by omega : (k : Int) < (N : Int)), cond_true, w2, w5, w6] at e
    unfold cnd
    cases c1 : decide (((10 * k : Nat) : Int) ≤ hi) with
    | false =>
      rw [c1, cond_false] at e
      exact EV.tidy [] (EV.of (cfM_ok L) (evalF_ok (cfM_ok L) 60) e) (fun q hq y hy => by simp at hq) (by kernel_rfl)
    | true =>
      rw [c1, cond_true] at e
      cases c2 : decide (((10 * k + 5 : Nat) : Int) ≥ lo) with
      | false =>
        rw [c2, cond_false] at e
        exact EV.tidy [] (EV.of (cfM_ok L) (evalF_ok (cfM_ok L) 60) e) (fun q hq y hy => by simp at hq) (by kernel_rfl)
      | true =>
        rw [c2, cond_true] at e
        exact EV.tidy [] (EV.of (cfM_ok L) (evalF_ok (cfM_ok L) 60) e) (fun q hq y hy => by simp at hq) (by kernel_rfl)
  · have h1 := len_pos h0
    obtain ⟨x1, x2⟩ := fwX0_pos h1
    rw [x1, x2]
    have e := fwR_eq L N lo hi k l ids.length (intA ids) (intA (ids ++ [((k + 1 : Nat) : Int)])) (fun _ _ _ => ⟨by rw [intA_length]; omega, by omega, by omega⟩) (fun _ _ _ => rfl) (fun _ _ _ => by rw [w6, List.drop_zero]; unfold intA; rw [List.map_append]; rfl)
    unfold fwR at e
    rw [decide_eq_true (by omega : (k : Int) < (N : Int)), cond_true, w2, w5, w6] at e
    have keep : EV (cfM L) 0 fwK (fwT N lo hi l (.row 1 0 1 0 ids.length) k) [.free, .row 1 0 none (intA ids)] .normal (fwT N lo hi l (.row 1 0 1 0 ids.length) (k + 1 : Nat)) [.free, .row 1 0 none (intA ids)] → EV (cfM L) 0 fwK (fwT N lo hi l (.row 1 0 1 0 ids.length) k) [.free, .row 1 0 none (intA ids)] .normal (fwT N lo hi l (fwX0 (ids ++ [])) (k + 1 : Nat)) (fwS0 (ids ++ [])) := fun h => by rw [List.append_nil, x1, x2]; exact h
    unfold cnd
    cases c1 : decide (((10 * k : Nat) : Int) ≤ hi) with
    | false =>
      rw [c1, cond_false] at e
      exact keep (EV.of (cfM_ok L) (evalF_ok (cfM_ok L) 60) e)
    | true =>
      rw [c1, cond_true] at e
      cases c2 : decide (((10 * k + 5 : Nat) : Int) ≥ lo) with
      | false =>
        rw [c2, cond_false] at e
        exact keep (EV.of (cfM_ok L) (evalF_ok (cfM_ok L) 60) e)
      | true =>
        rw [c2, cond_true] at e
        have hp : 1 ≤ (ids ++ [((k + 1 : Nat) : Int)]).length := by simp
        obtain ⟨y1, y2⟩ := fwX0_pos hp
        show EV _ _ _ _ _ _ (fwT N lo hi l (fwX0 (ids ++ [((k + 1 : Nat) : Int)])) (k + 1 : Nat)) (fwS0 (ids ++ [((k + 1 : Nat) : Int)]))
        rw [y1, y2, List.length_append, List.length_singleton]
        refine EV.tidy [1] (EV.of (cfM_ok L) (evalF_ok (cfM_ok L) 60) e) (fun q hq y hy => ?_) (by kernel_rfl)
        simp only [List.mem_singleton] at hq
        subst hq
        have := (Option.some.inj hy).symm
        subst this
        exact intA_plain _
theorem fw_end : EV (cfM L) 0 fwK (fwT N lo hi l (fwX0 (wL lo hi N)) N) (fwS0 (wL lo hi N)) (.exit 2) (fwX N lo hi l (fwX0 (wL lo hi N)) N) (fwS0 (wL lo hi N)) := by
  have hd : decide ((N : Int) < (N : Int)) = false := decide_eq_false (by omega)
  generalize hids : wL lo hi N = ids at *
  by_cases h0 : ids = []
  · subst h0
    have e := fwN_eq L N lo hi N l
    unfold fwN at e
    rw [hd, cond_false] at e
    exact EV.of (cfM_ok L) (evalF_ok (cfM_ok L) 60) e
  · obtain ⟨x1, x2⟩ := fwX0_pos (len_pos h0)
    rw [x1, x2]
    have e := fwR_eq L N lo hi N l ids.length (intA ids) [] (fun h => by rw [hd] at h; cases h) (fun h => by rw [hd] at h; cases h) (fun h => by rw [hd] at h; cases h)
    unfold fwR at e
    rw [hd, cond_false] at e
    exact EV.of (cfM_ok L) (evalF_ok (cfM_ok L) 60) e
theorem fw_loop : EV (cfM L) 0 (.loop fwK) (fwT N lo hi l nilA (0 : Nat)) [] (.exit 2) (fwX N lo hi l (fwX0 (wL lo hi N)) N) (fwS0 (wL lo hi N)) :=
  EV.loop (n := N) (T := fun k => fwT N lo hi l (fwX0 (wL lo hi k)) k) (S := fun k => fwS0 (wL lo hi k)) (fun k hk => fw_round L N lo hi l hN hk) (fw_end L N lo hi l hN) (by simp)
end
end Go.Proofs.YtkkgimhbliocoaaGreat
/- FindGrids: the whole call. -/
namespace Go.Proofs.YtkkgimhbliocoaaGreat
open Go Vm M
set_option linter.unusedVariables false
set_option linter.unusedSectionVars false
set_option linter.unusedSimpArgs false
set_option maxRecDepth 100000
theorem Rp_nil_list {L : Look} {u : Value} (h : Rp L nilP u) : Rp L (slI []) u := by
  simp only [nilP, Rp] at h
  subst h
  simp only [slI, intP, List.map_nil, List.length_nil, Rp, Rps]
  exact ⟨none, 0, rfl, Nat.le_refl _, trivial⟩
theorem callsP_res {P : Program} {F : FuncId} {ps : List PVal} {r r' : PVal} (h : CallsP P F ps r) (hw : Wk r r') : CallsP P F ps r' :=
  fun ok w vs h1 h2 h3 => (h ok w vs h1 h2 h3).mono fun e w' ⟨v, ok', k1, k2, k3, k4, k5, k6⟩ => ⟨v, ok', k1, k2, k3, k4, k5, hw _ _ k6⟩
theorem idsX_wk (ids : List Int) : Wk (idsX ids) (slI ids) := by
  intro L u hu
  unfold idsX at hu
  cases ids with
  | nil => exact Rp_nil_list hu
  | cons a tl => exact hu
theorem tup2_wk {x y y' : PVal} (h : Wk y y') : Wk (.tup [x, y]) (.tup [x, y']) := by
  intro L u hu
  simp only [Rp, Rps] at hu ⊢
  obtain ⟨cs, h1, h2, ⟨v0, h3, h4⟩, ⟨v1, h5, h6⟩, _⟩ := hu
  exact ⟨cs, h1, h2, ⟨v0, h3, h4⟩, ⟨v1, h5, h _ _ h6⟩, trivial⟩
theorem window_A' (cl el : List Bx) (lo hi : P2) (hl : cl.length ≤ 1000) (hl2 : el.length ≤ 1000) (h1 : hitL cl lo hi cl.length = []) : CallsP Tryz.prog 38 [.ptr [bsP cl, bsP el], ptP lo, ptP hi] (.tup [nilP, slI (hitL el lo hi el.length)]) :=
  callsP_res (window_A cl el lo hi hl hl2 h1) (tup2_wk (idsX_wk _))
theorem same_wk (ids : List Int) (hl : ids.length ≤ 1000) : CallsP Tryz.prog 25 [slI ids, idsX ids] (bP true) := callsP_weak (same_calls ids hl) ⟨Wk.refl _, idsX_wk ids, trivial⟩
def isPL : PVal → Bool
  | .v _ => true
  | .list _ _ => true
  | _ => false
theorem peek_flatL (S : List AObj) (n : Nat) : ∀ {ps : List PVal}, ps.all isPL = true → mapO (peek S (n + 1)) (upL ps) = some ps
  | [], _ => rfl
  | p :: ps, h => by
    simp only [List.all_cons, Bool.and_eq_true] at h
    have ih := peek_flatL S n h.2
    cases p <;> simp only [isPL, Bool.false_eq_true] at h
    · simp only [upL, up, mapO, peek, ih]
    all_goals first | (simp only [upL, up, mapO, peek, ih]; done) | exact absurd h.1 (by simp)
theorem peek_rowL {S : List AObj} {o n e sz len : Nat} {ps : List PVal} (h : S[o]? = some (.row sz e (some (upL ps).length) (upL ps))) (hl : ps.length = len * sz) (hv : ps.all isPL = true) : peek S (n + 2) (.row o e sz 0 len) = some (.list len ps) := by
  simp only [peek, h]
  have hc : cutA (upL ps) sz 0 (0 + len) = upL ps := by
    unfold cutA
    rw [Nat.zero_mul, List.drop_zero, List.take_of_length_le (by rw [upLX, hl, Nat.zero_add, Nat.sub_zero]; exact Nat.le_refl _)]
  rw [if_pos ⟨trivial, trivial, by rw [upLX, hl, Nat.zero_add]; exact Nat.le_refl _⟩, hc, peek_flatL S n hv]
  rfl
theorem flatN_pl : ∀ ns : List Nd, (flatN ns).all isPL = true
  | [] => rfl
  | n :: ns => by simp [flatN, isPL, flatN_pl ns]
theorem flatE_pl : ∀ es : List Ed, (flatE es).all isPL = true
  | [] => rfl
  | e :: es => by simp [flatE, iP, isPL, flatE_pl es]
section
variable (N : Nat) (lo hi : Int)
def clG : List Bx := (nsG N).map nBx
def elG : List Bx := (esG N).map eBx
/-- What is known for these numbers. -/
noncomputable def LG (h1 : 1 ≤ N) (hN : N ≤ 60) (hl : -1000 ≤ lo) (hh : hi ≤ 2000) (hlh : lo ≤ hi) : Lib Tryz.prog :=
  ((((KX3.add 37 (gOne [plG (nsG N) (esG N)] (.ptr [bxP (clG N), bxP (elG N)])) (Vm.enters_of named_prog Tryz.func37 (by kernel_rfl))
      (gOne_spec (build_ne (nsG N) (esG N) (by rw [nsG_length]; omega) (by rw [nsG_length]; omega) (by rw [esG_length]; omega) (by rw [esG_length]; omega) (fun k hk => by
        rw [esG_length] at hk
        rw [eAt_get (esG_at N hk)]
        exact ⟨by show 1 ≤ 2; omega, by show 2 ≤ 200; omega⟩)))).add
    38 (gOne [.ptr [bsP (clG N), bsP (elG N)], ptP (lo, 1), ptP (hi, 6)] (.tup [nilP, slI (wL lo hi N)])) (Vm.enters_of named_prog Tryz.func38 (by kernel_rfl))
      (gOne_spec (by
        have := window_A' (clG N) (elG N) (lo, 1) (hi, 6) (by unfold clG; rw [List.length_map, nsG_length]; omega) (by unfold elG; rw [List.length_map, esG_length]; omega) (hits_n lo hi hl hh hlh hN _)
        rw [show (elG N).length = N by unfold elG; rw [List.length_map, esG_length]] at this
        unfold elG at this
        rw [hits_e lo hi hl hh hlh hN N (Nat.le_refl _)] at this
        exact this))).add
    25 (gOne [slI (wL lo hi N), idsX (wL lo hi N)] (bP true)) (Vm.enters_of named_prog Tryz.func25 (by kernel_rfl))
      (gOne_spec (same_wk _ (by have := wL_le lo hi N; omega)))).add
    34 (gOne [] (bP true)) (Vm.enters_of named_prog Tryz.func34 (by kernel_rfl)) (gOne_spec aw20_calls))
end
def and1023 (f : Int) : Int := IntKind.i64.wrap ((BitVec.ofInt IntKind.i64.bits f &&& BitVec.ofInt IntKind.i64.bits 1023).toNat : Nat)
theorem and1023_le (f : Int) : 0 ≤ and1023 f ∧ and1023 f ≤ 1023 := by
  have h : (BitVec.ofInt IntKind.i64.bits f &&& BitVec.ofInt IntKind.i64.bits 1023).toNat ≤ 1023 := by
    rw [BitVec.toNat_and]
    exact Nat.le_trans Nat.and_le_right (by decide)
  unfold and1023
  rw [IntWalk.i64_in _ (by omega)]
  omega
def a255 (f : Int) : Int := IntKind.i64.wrap ((BitVec.ofInt IntKind.i64.bits f &&& BitVec.ofInt IntKind.i64.bits 255).toNat : Nat)
theorem a255_le (f : Int) : 0 ≤ a255 f ∧ a255 f ≤ 255 := by
  have h : (BitVec.ofInt IntKind.i64.bits f &&& BitVec.ofInt IntKind.i64.bits 255).toNat ≤ 255 := by
    rw [BitVec.toNat_and]
    exact Nat.le_trans Nat.and_le_right (by decide)
  unfold a255
  rw [IntWalk.i64_in _ (by omega)]
  omega
def fgM (a b : Int) : Int := if IntKind.i64.wrap (and1023 b - 20) < IntKind.i64.wrap (and1023 a - 20) then IntKind.i64.wrap (and1023 b - 20) else IntKind.i64.wrap (and1023 a - 20)
def fgH (a b : Int) : Int := if IntKind.i64.wrap (and1023 b - 20) > IntKind.i64.wrap (and1023 a - 20) then IntKind.i64.wrap (and1023 b - 20) else IntKind.i64.wrap (and1023 a - 20)
theorem fgMH (a b : Int) : -1000 ≤ fgM a b ∧ fgH a b ≤ 2000 ∧ fgM a b ≤ fgH a b := by
  obtain ⟨a1, a2⟩ := and1023_le a
  obtain ⟨b1, b2⟩ := and1023_le b
  unfold fgM fgH
  rw [wrX (by omega) (by omega), wrX (by omega) (by omega)]
  refine ⟨?_, ?_, ?_⟩
  · split <;> omega
  · split <;> omega
  · split <;> split <;> omega
theorem fgZ9 (N : Nat) (a b lo hi : Int) (h1 : 1 ≤ N) (hN : N ≤ 60) (hl : -1000 ≤ lo) (hh : hi ≤ 2000) (hlh : lo ≤ hi) : EV (cfM (LG N lo hi h1 hN hl hh hlh)) 0 (c1 fgZ) (fgE N a b N) (fgS (2 * N) N (upL (flatN (nsG N))) (upL (flatE (esG N)))) .normal ([iA N, iA a, iA b] ++ jk 7 ++ [.eptr [bsP (clG N), bsP (elG N)]] ++ jk 113) [] := by
  have hx : bxP (clG N) = bsP (clG N) := by unfold bxP; rw [beq0 (by unfold clG; rw [List.length_map, nsG_length]; omega)]; rfl
  have hy : bxP (elG N) = bsP (elG N) := by unfold bxP; rw [beq0 (by unfold elG; rw [List.length_map, esG_length]; omega)]; rfl
  have mk : ([.agg [.row 2 0 4 0 (nsG N).length, .row 5 0 6 0 (esG N).length]] : List AVal).foldl (Vm.mark 0 deep) [.box [.row 2 0 4 0 (nsG N).length, .row 5 0 6 0 (esG N).length], .free, .row 4 0 none (upL (flatN (nsG N))), .free, .free, .row 6 0 none (upL (flatE (esG N)))] = [.box [.row 2 0 4 0 (nsG N).length, .row 5 0 6 0 (esG N).length], .free, .row 4 0 (some (upL (flatN (nsG N))).length) (upL (flatN (nsG N))), .free, .free, .row 6 0 (some (upL (flatE (esG N))).length) (upL (flatE (esG N)))] := by
    show Vm.mark 0 (4 + 1) (Vm.mark 0 (4 + 1) ([.box [.row 2 0 4 0 (nsG N).length, .row 5 0 6 0 (esG N).length], .free, .row 4 0 none (upL (flatN (nsG N))), .free, .free, .row 6 0 none (upL (flatE (esG N)))] : List AObj) (.row 2 0 4 0 (nsG N).length)) (.row 5 0 6 0 (esG N).length) = _
    rw [mark_rowG (S := ([.box [.row 2 0 4 0 (nsG N).length, .row 5 0 6 0 (esG N).length], .free, .row 4 0 none (upL (flatN (nsG N))), .free, .free, .row 6 0 none (upL (flatE (esG N)))] : List AObj)) (o := 2) (sz := 4) (e := 0) (fz := none) (xs := upL (flatN (nsG N))) rfl (flatN_plain _)]
    rw [mark_rowG (S := (([.box [.row 2 0 4 0 (nsG N).length, .row 5 0 6 0 (esG N).length], .free, .row 4 0 none (upL (flatN (nsG N))), .free, .free, .row 6 0 none (upL (flatE (esG N)))] : List AObj).set 2 (.row 4 0 (some (upL (flatN (nsG N))).length) (upL (flatN (nsG N)))))) (o := 5) (sz := 6) (e := 0) (fz := none) (xs := upL (flatE (esG N))) rfl (flatE_plain _)]
    rfl
  have pk : mapO (peek [.box [.row 2 0 4 0 (nsG N).length, .row 5 0 6 0 (esG N).length], .free, .row 4 0 (some (upL (flatN (nsG N))).length) (upL (flatN (nsG N))), .free, .free, .row 6 0 (some (upL (flatE (esG N))).length) (upL (flatE (esG N)))] deep) [.agg [.row 2 0 4 0 (nsG N).length, .row 5 0 6 0 (esG N).length]] = some [plG (nsG N) (esG N)] := by
    have p1 : peek [.box [.row 2 0 4 0 (nsG N).length, .row 5 0 6 0 (esG N).length], .free, .row 4 0 (some (upL (flatN (nsG N))).length) (upL (flatN (nsG N))), .free, .free, .row 6 0 (some (upL (flatE (esG N))).length) (upL (flatE (esG N)))] (3 + 2) (.row 2 0 4 0 (nsG N).length) = some (.list (nsG N).length (flatN (nsG N))) := peek_rowL rfl (flatN_length _) (flatN_pl _)
    have p2 : peek [.box [.row 2 0 4 0 (nsG N).length, .row 5 0 6 0 (esG N).length], .free, .row 4 0 (some (upL (flatN (nsG N))).length) (upL (flatN (nsG N))), .free, .free, .row 6 0 (some (upL (flatE (esG N))).length) (upL (flatE (esG N)))] (3 + 2) (.row 5 0 6 0 (esG N).length) = some (.list (esG N).length (flatE (esG N))) := peek_rowL rfl (flatE_length _) (flatE_pl _)
    have p3 : peek [.box [.row 2 0 4 0 (nsG N).length, .row 5 0 6 0 (esG N).length], .free, .row 4 0 (some (upL (flatN (nsG N))).length) (upL (flatN (nsG N))), .free, .free, .row 6 0 (some (upL (flatE (esG N))).length) (upL (flatE (esG N)))] deep (.agg [.row 2 0 4 0 (nsG N).length, .row 5 0 6 0 (esG N).length]) = some (plG (nsG N) (esG N)) := by
      show (mapO (peek _ 5) [.row 2 0 4 0 (nsG N).length, .row 5 0 6 0 (esG N).length]).map PVal.agg = _
      simp only [mapO]
      rw [p1, p2]
      rfl
    simp only [mapO, p3]
  have e := fg9_eq (LG N lo hi h1 hN hl hh hlh) N a b N (nsG N) (esG N) (bsP (clG N)) (bsP (elG N)) (pure_given (g := gOne [plG (nsG N) (esG N)] (.ptr [bxP (clG N), bxP (elG N)])) (by kernel_rfl) (by rw [hx, hy]; exact gOne_ok _ _)) pk mk
  rw [nsG_length, esG_length] at e
  unfold fg9 at e
  rw [nsG_length, esG_length] at e
  exact EV.tidy [2, 5] (EV.of (cfM_ok _) (evalF_ok (cfM_ok _) 60) e) (fun q hq y hy => by
    simp only [List.mem_cons, List.not_mem_nil, or_false] at hq
    rcases hq with rfl | rfl
    · have := (Option.some.inj hy).symm
      subst this
      exact flatN_plain _
    · have := (Option.some.inj hy).symm
      subst this
      exact flatE_plain _) (by kernel_rfl)
end Go.Proofs.YtkkgimhbliocoaaGreat
/- find.FaceRings, find.NodeAt, find.FaceAt of plans without edges. -/
namespace Go.Proofs.YtkkgimhbliocoaaGreat
open Go Vm M
set_option linter.unusedVariables false
set_option linter.unusedSectionVars false
set_option linter.unusedSimpArgs false
set_option maxRecDepth 100000
noncomputable def frFn : FnA := (c3X.tab 39).getD ⟨0, #[], .skip, []⟩
theorem frFn_tab : c3X.tab 39 = some frFn := by kernel_rfl
theorem frFn_body : frFn.body = frB := by kernel_rfl
def frT1 (x : PVal) : List AVal := [.junk, iA 0, .ptr 0 0 0, .junk, .junk, .eptr [.list 1 [nilP, nilP, x], .map [] [], nilP, .map [] []]] ++ jk 8 ++ [.list 1 [nilP, nilP, x], iA 1, iA 0] ++ jk 37
theorem fr_of (ns : List Nd) (x : PVal) (hl : ns.length ≤ 1000) (hm : mapN ns = mapV x) {T9 : List AVal} {S9 : List AObj} (h : evalC c3X ev3X frLv 0 0 60 frK (frT1 x) [.box [nsA ns, nilA]] = some (.ret, T9, S9)) (hr : resultsA c3X.P frFn.results T9 S9 = some nilA) : CallsP Tryz.prog 39 [plN ns.length (flatN ns), iP 0] nilP := by
  have hg : ∀ {ev : Ev}, pureCall c3X ev 57 [plN ns.length (flatN ns)] = some (mapV x) := by
    intro ev
    rw [← hm]
    exact pure_given (g := gMapOf) (by kernel_rfl) (by unfold gMapOf; rw [withNs_ok]; exact if_pos hl)
  refine callsP_of_A (r0 := nilA) (S := S9) (callsA_of_EV c3X_ok frFn_tab (x := .ret) (.inr rfl) (T' := T9) hr ?_) (by rfl)
  rw [frFn_body, fr_body]
  refine EV.seq (EV.of c3X_ok ev3X_ok (lv := frLv) (lo := 0) (n := 60) (T' := frT0) (S' := [.box [nsA ns, nilA]]) (by kernel_rfl)) ?_
  refine EV.seq (EV.of c3X_ok ev3X_ok (frM_eq ns x hg)) ?_
  refine EV.seqX (EV.seq (EV.of c3X_ok ev3X_ok (lv := frLv) (lo := 0) (n := 60) (T' := frT1 x) (S' := [.box [nsA ns, nilA]]) (by kernel_rfl)) (EV.blockR ?_)) (by simp)
  exact EV.loop (n := 0) (T := fun _ => frT1 x) (S := fun _ => [.box [nsA ns, nilA]]) (fun k hk => by omega) (EV.of c3X_ok ev3X_ok h) (by simp)
noncomputable def fr9 (ns : List Nd) (x : PVal) : AExit × List AVal × List AObj := (evalC c3X ev3X frLv 0 0 60 frK (frT1 x) [.box [nsA ns, nilA]]).getD (.normal, [], [])
theorem rings_calls (ns : List Nd) (hl : ns.length ≤ 1000) : CallsP Tryz.prog 39 [plN ns.length (flatN ns), iP 0] nilP := by
  cases hb : Nat.beq ns.length 0 with
  | true => exact fr_of ns nilP hl (by unfold mapN; rw [hb]; rfl) (T9 := (fr9 ns nilP).2.1) (S9 := (fr9 ns nilP).2.2) (by kernel_rfl) (by kernel_rfl)
  | false => exact fr_of ns (slI (srtI (idsI ns))) hl (by unfold mapN; rw [hb]; rfl) (T9 := (fr9 ns (slI (srtI (idsI ns)))).2.1) (S9 := (fr9 ns (slI (srtI (idsI ns)))).2.2) (by kernel_rfl) (by kernel_rfl)
/-! ## NodeAt -/
noncomputable def naB : Code := Tryz.f33.body.getD .skip
noncomputable abbrev naKK : Code := loopAt Tryz.f33 0
theorem na_body : naB = .seq (c1 naB) (.seq (.seq (c1 (c1 (c2 naB))) (.block 0 (.loop naKK))) (c2 (c2 naB))) := by kernel_rfl
noncomputable def naFn : FnA := (c3X.tab 33).getD ⟨0, #[], .skip, []⟩
theorem naFn_tab : c3X.tab 33 = some naFn := by kernel_rfl
theorem naFn_body : naFn.body = naB := by kernel_rfl
def ndAt (ns : List Nd) (p : P2) : Int := match firstAt (atP ns p) ns.length 0 with
  | some j => (nAt ns j).1
  | none => 0
def naE (ns : List Nd) : List AVal := jk 3 ++ [.ptr 1 0 0] ++ jk 4 ++ [nsA ns, iA ns.length, iA ns.length, bA false] ++ jk 9
theorem hush1 {code : Code} {T T1 : List AVal} {S : List AObj} {x : AExit} {p : P2} (h : EV c3X 0 code T S x T1 [.free, .box [iA p.1, iA p.2]]) : EV c3X 0 code T S x T1 (naS2 p) := by
  refine EV.hush h (fun o y hy => ?_) (fun o y hy => ?_)
  · rcases o with _ | _ | o <;> first | exact .inr hy | exact .inl (Option.some.inj hy).symm
  · rcases o with _ | _ | o <;> first | exact .inr hy | exact .inl (Option.some.inj hy).symm
theorem nodeAt_calls (ns : List Nd) (p : P2) (hl : ns.length ≤ 1000) : CallsP Tryz.prog 33 [plN ns.length (flatN ns), ptP p] (iP (ndAt ns p)) := by
  have at_ : ∀ k, k < ns.length → evalC c3X ev3X naLv 0 0 60 naKK (naT ns k) (naS2 p) = some (naJ ns p k (nAt ns k)) := fun k h => naJ_eq ns p k (nAt ns k) (fun _ => by omega) (fun _ => partN' h)
  have step : ∀ k, k < ns.length → atP ns p k = false → EV c3X 0 naKK (naT ns k) (naS2 p) .normal (naT ns (k + 1 : Nat)) (naS2 p) := fun k h hc => by
    have e := at_ k h
    unfold naJ at e
    unfold atP at hc
    rw [decide_eq_true (by omega : ((k : Int) < (ns.length : Int))), cond_true, hc, cond_false, wrS (by omega)] at e
    exact hush1 (EV.tidy [] (EV.of c3X_ok ev3X_ok e) (fun q hq y hy => by simp at hq) (by kernel_rfl))
  have hit : ∀ k, k < ns.length → atP ns p k = true → EV c3X 0 naKK (naT ns k) (naS2 p) .ret (jk 4 ++ [iA (nAt ns k).1] ++ jk 16) [] := fun k h hc => by
    have e := at_ k h
    unfold naJ at e
    unfold atP at hc
    rw [decide_eq_true (by omega : ((k : Int) < (ns.length : Int))), cond_true, hc, cond_true] at e
    exact EV.tidy [] (EV.of c3X_ok ev3X_ok e) (fun q hq y hy => by simp at hq) (by kernel_rfl)
  have hend : EV c3X 0 naKK (naT ns ns.length) (naS2 p) (.exit 0) (naE ns) (naS2 p) := by
    have e := naJ_eq ns p ns.length (nAt ns 0) (fun h => by have := of_decide_eq_true h; omega) (fun h => by have := of_decide_eq_true h; omega)
    unfold naJ at e
    rw [decide_eq_false (by omega : ¬ ((ns.length : Int) < (ns.length : Int))), cond_false] at e
    exact EV.of c3X_ok ev3X_ok e
  have r0 : EV c3X 0 (c1 naB) (upL [plN ns.length (flatN ns), ptP p] ++ List.replicate (naFn.ntmps - (upL [plN ns.length (flatN ns), ptP p]).length) (.v undef)) [] .normal (jk 2 ++ [.ptr 0 0 0, .ptr 1 0 0] ++ jk 17) (naS ns p) := EV.of c3X_ok ev3X_ok (lv := naLv) (lo := 0) (n := 60) (by kernel_rfl)
  have r1 : EV c3X 0 (c1 (c1 (c2 naB))) (jk 2 ++ [.ptr 0 0 0, .ptr 1 0 0] ++ jk 17) (naS ns p) .normal (naT ns (0 : Nat)) (naS2 p) := hush1 (EV.tidy [] (EV.of c3X_ok ev3X_ok (lv := naLv) (lo := 0) (n := 60) (T' := naT ns (0 : Nat)) (S' := naS ns p) (by kernel_rfl)) (fun q hq y hy => by simp at hq) (by kernel_rfl))
  unfold ndAt
  cases h : firstAt (atP ns p) ns.length 0 with
  | some j =>
    refine callsP_of_A (r0 := iA (nAt ns j).1) (S := []) (callsA_of_EV c3X_ok naFn_tab (x := .ret) (.inr rfl) (T' := jk 4 ++ [iA (nAt ns j).1] ++ jk 16) (by kernel_rfl) ?_) (by rfl)
    rw [naFn_body, na_body]
    exact EV.seq r0 (EV.seqX (EV.seq r1 (EV.blockR (EV.found (T := fun k => naT ns k) (S := fun _ => naS2 p) h (fun k hk hc => step k hk hc) (fun hk hc => hit j hk hc) (by simp)))) (by simp))
  | none =>
    refine callsP_of_A (r0 := iA 0) (S := naS2 p) (callsA_of_EV c3X_ok naFn_tab (x := .ret) (.inr rfl) (T' := jk 4 ++ [iA 0] ++ jk 16) (by kernel_rfl) ?_) (by rfl)
    rw [naFn_body, na_body]
    exact EV.seq r0 (EV.seq (EV.seq r1 (EV.block (EV.missed (T := fun k => naT ns k) (S := fun _ => naS2 p) h (fun k hk hc => step k hk hc) hend (by simp)))) (EV.of c3X_ok ev3X_ok (lv := naLv) (lo := 0) (n := 60) (by kernel_rfl)))
/-! ## FaceAt -/
def inGr (p : P2) : Prop := -1048576 ≤ p.1 ∧ p.1 ≤ 1048576 ∧ -1048576 ≤ p.2 ∧ p.2 ≤ 1048576
theorem okX_in {p : P2} (h : inGr p) : okX p = bP true := by
  obtain ⟨h1, h2, h3, h4⟩ := h
  unfold okX
  rw [decide_eq_true (by omega : p.1 ≥ -1048576), decide_eq_true h2, decide_eq_true (by omega : p.2 ≥ -1048576), decide_eq_true h4]
  rfl
theorem nearIn {p : P2} (h : inGr p) : nearP p = p := nearQ ⟨h.1, h.2.1⟩ ⟨h.2.2.1, h.2.2.2⟩
theorem faceAt2_calls (ns : List Nd) (p : P2) (hl : ns.length ≤ 1000) (hp : inGr p) : CallsP Tryz.prog 31 [plN ns.length (flatN ns), ptP p] (.tup [iP 0, bP (!hasN ns p)]) := by
  have g1' : ∀ {ev : Ev}, pureCall (cfM KX3) ev 68 [ptP p] = some (bP true) := pure_given (g := g1 fun p => okX p) (by kernel_rfl) (by rw [← okX_in hp]; rfl)
  have g2 : ∀ {ev : Ev}, pureCall (cfM KX3) ev 59 [plN ns.length (flatN ns), ptP p] = some (bP (!hasN ns p)) := by
    intro ev
    have := freeG ns p hl (c := cfM KX3) (by kernel_rfl) (ev := ev)
    rw [nearIn hp] at this
    exact this
  have g3 : ∀ {ev : Ev}, pureCall (cfM KX3) ev 69 [plN ns.length (flatN ns), ptP p] = some (iP 0) := faceG ns p hl (by kernel_rfl)
  have := ffX_calls ns p true (!hasN ns p) 0 g1' (fun _ => g2) (fun _ _ => g3)
  unfold ffX at this
  rw [Bool.not_true, cond_false, Bool.not_not] at this
  cases hh : hasN ns p with
  | true => rw [hh] at this; exact this
  | false => rw [hh] at this; exact this
end Go.Proofs.YtkkgimhbliocoaaGreat
/- FindEmpty: the pieces of its first loop. -/
namespace Go.Proofs.YtkkgimhbliocoaaGreat
open Go Vm M
set_option linter.unusedVariables false
set_option linter.unusedSimpArgs false
set_option maxRecDepth 100000
noncomputable def feLv : List Nat := (lives.lookup 9).getD []
noncomputable abbrev feK1 : Code := loopAt Tryz.f9 0
noncomputable abbrev feK2 : Code := loopAt Tryz.f9 1
noncomputable abbrev feK3 : Code := loopAt Tryz.f9 2
noncomputable def feB1 : Code := match c1 (c2 feK1) with
  | .block _ b => b
  | _ => .skip
noncomputable def feR5 : Code := c1 feB1
noncomputable def feR6 : Code := c1 (c2 feB1)
noncomputable def feR7 : Code := c1 (c1 (c2 (c2 feB1)))
noncomputable def feR11 : Code := c2 (c2 (c2 feB1))
noncomputable def feR4 : Code := c2 (c2 feK1)
theorem fe_k1 : feK1 = .seq (c1 feK1) (.seq (.block 1 (.seq feR5 (.seq feR6 (.seq (.seq feR7 (.block 2 (.loop feK2))) feR11)))) feR4) := by kernel_rfl
def feT (l : List P2) (i : Int) : List AVal := [slA l] ++ jk 4 ++ [.ptr 0 0 0, .ptr 1 0 0, .ptr 2 0 0, .junk, .ptr 3 0 0, iA i] ++ jk 186
def feC (q lo hi : P2) : List AObj := [.box (cellsP q), .box (cellsP lo), .box (cellsP hi)]
def feSA (q lo hi : P2) : List AObj := feC q lo hi ++ [.box [nilA, nilA]]
def feSB (q lo hi : P2) (k : Nat) (xs : List AVal) : List AObj := feC q lo hi ++ [.box [.row 5 0 4 0 k, nilA], .free, .row 4 0 none xs]
def fxA (q lo hi x : P2) : List AObj := feSA q lo hi ++ List.replicate 13 .free ++ [.box (cellsP x)]
def fxB (q lo hi x : P2) (k : Nat) (xs : List AVal) : List AObj := feSB q lo hi k xs ++ List.replicate 13 .free ++ [.box (cellsP x)]
def fxT (l : List P2) (i : Int) (s : Nat) (o : Bool) (k : Int) : List AVal := [slA l] ++ jk 4 ++ [.ptr 0 0 0, .ptr 1 0 0, .ptr 2 0 0, .junk, .ptr 3 0 0, iA i, .ptr s 0 0, bA o, iA k] ++ jk 183
def fe5A (l : List P2) (i : Int) (q : P2) (lo : P2) (hi : P2) : AExit × List AVal × List AObj :=
  (AExit.normal, (([slA l] ++ jk 4 ++ [AVal.ptr 0 0 0, AVal.ptr 1 0 0, AVal.ptr 2 0 0, AVal.junk, AVal.ptr 3 0 0, iA i, AVal.ptr 17 0 0] ++ jk 185), ([AObj.box [iA (Prod.fst q), iA (Prod.snd q)], AObj.box [iA (Prod.fst lo), iA (Prod.snd lo)], AObj.box [iA (Prod.fst hi), iA (Prod.snd hi)], AObj.box [AVal.v (Value.slice none 0 0), AVal.v (Value.slice none 0 0)]] ++ List.replicate 13 AObj.free ++ [AObj.box [iA (Int.tmod (Prod.fst (pAt l (Int.toNat i))) 1048577), iA (Int.tmod (Prod.snd (pAt l (Int.toNat i))) 1048577)], AObj.free])))
theorem fe5A_eq (l : List P2) (i : Int) (q : P2) (lo : P2) (hi : P2) (b0 : (0 : Int) ≤ i ∧ (i : Int) < (↑(List.length l) : Int)) : evalC (c3X) (ev3X) (feLv) 0 0 60 (feR5) (feT l i) (feSA q lo hi) = some (fe5A l i q lo hi) := by
  have key := fun (bs : List Bool) (r : AExit × List AVal × List AObj) (ob : List Prop) (h : pathP (c3X) (ev3X) (feLv) 0 0 60 [(5, 2, Hint.idx), (5, 4, Hint.load (iA (Prod.fst (pAt l (Int.toNat i))))), (5, 8, Hint.idx), (5, 10, Hint.load (iA (Prod.snd (pAt l (Int.toNat i)))))] (feR5) (feT l i) (feSA q lo hi) bs [] = .ok (r.1, r.2.1, r.2.2, ob)) (hp : allOb ob) => pathP_ok h hp
  unfold fe5A
  exact key [] ((AExit.normal, (([slA l] ++ jk 4 ++ [AVal.ptr 0 0 0, AVal.ptr 1 0 0, AVal.ptr 2 0 0, AVal.junk, AVal.ptr 3 0 0, iA i, AVal.ptr 17 0 0] ++ jk 185), ([AObj.box [iA (Prod.fst q), iA (Prod.snd q)], AObj.box [iA (Prod.fst lo), iA (Prod.snd lo)], AObj.box [iA (Prod.fst hi), iA (Prod.snd hi)], AObj.box [AVal.v (Value.slice none 0 0), AVal.v (Value.slice none 0 0)]] ++ List.replicate 13 AObj.free ++ [AObj.box [iA (Int.tmod (Prod.fst (pAt l (Int.toNat i))) 1048577), iA (Int.tmod (Prod.snd (pAt l (Int.toNat i))) 1048577)], AObj.free])))) _ (by kernel_rfl) (allOb_cons (part_y b0) (allOb_cons (idx_ok b0) (allOb_cons (part_x b0) (allOb_cons (idx_ok b0) allOb_nil))))
def fe5B (l : List P2) (i : Int) (q : P2) (lo : P2) (hi : P2) (k : Nat) (xs : List AVal) : AExit × List AVal × List AObj :=
  (AExit.normal, (([slA l] ++ jk 4 ++ [AVal.ptr 0 0 0, AVal.ptr 1 0 0, AVal.ptr 2 0 0, AVal.junk, AVal.ptr 3 0 0, iA i, AVal.ptr 19 0 0] ++ jk 185), ([AObj.box [iA (Prod.fst q), iA (Prod.snd q)], AObj.box [iA (Prod.fst lo), iA (Prod.snd lo)], AObj.box [iA (Prod.fst hi), iA (Prod.snd hi)], AObj.box [AVal.row 5 0 4 0 k, AVal.v (Value.slice none 0 0)], AObj.free, AObj.row 4 0 none xs] ++ List.replicate 13 AObj.free ++ [AObj.box [iA (Int.tmod (Prod.fst (pAt l (Int.toNat i))) 1048577), iA (Int.tmod (Prod.snd (pAt l (Int.toNat i))) 1048577)], AObj.free])))
theorem fe5B_eq (l : List P2) (i : Int) (q : P2) (lo : P2) (hi : P2) (k : Nat) (xs : List AVal) (b0 : (0 : Int) ≤ i ∧ (i : Int) < (↑(List.length l) : Int)) : evalC (c3X) (ev3X) (feLv) 0 0 60 (feR5) (feT l i) (feSB q lo hi k xs) = some (fe5B l i q lo hi k xs) := by
  have key := fun (bs : List Bool) (r : AExit × List AVal × List AObj) (ob : List Prop) (h : pathP (c3X) (ev3X) (feLv) 0 0 60 [(5, 2, Hint.idx), (5, 4, Hint.load (iA (Prod.fst (pAt l (Int.toNat i))))), (5, 8, Hint.idx), (5, 10, Hint.load (iA (Prod.snd (pAt l (Int.toNat i)))))] (feR5) (feT l i) (feSB q lo hi k xs) bs [] = .ok (r.1, r.2.1, r.2.2, ob)) (hp : allOb ob) => pathP_ok h hp
  unfold fe5B
  exact key [] ((AExit.normal, (([slA l] ++ jk 4 ++ [AVal.ptr 0 0 0, AVal.ptr 1 0 0, AVal.ptr 2 0 0, AVal.junk, AVal.ptr 3 0 0, iA i, AVal.ptr 19 0 0] ++ jk 185), ([AObj.box [iA (Prod.fst q), iA (Prod.snd q)], AObj.box [iA (Prod.fst lo), iA (Prod.snd lo)], AObj.box [iA (Prod.fst hi), iA (Prod.snd hi)], AObj.box [AVal.row 5 0 4 0 k, AVal.v (Value.slice none 0 0)], AObj.free, AObj.row 4 0 none xs] ++ List.replicate 13 AObj.free ++ [AObj.box [iA (Int.tmod (Prod.fst (pAt l (Int.toNat i))) 1048577), iA (Int.tmod (Prod.snd (pAt l (Int.toNat i))) 1048577)], AObj.free])))) _ (by kernel_rfl) (allOb_cons (part_y b0) (allOb_cons (idx_ok b0) (allOb_cons (part_x b0) (allOb_cons (idx_ok b0) allOb_nil))))
def fe2B (l : List P2) (i : Int) (q : P2) (lo : P2) (hi : P2) (x : P2) (y : P2) (n : Nat) (xs : List AVal) (o : Bool) (k : Int) : AExit × List AVal × List AObj :=
  (bif decide (k < (↑n : Int)) then (bif o then (AExit.normal, (([slA l] ++ jk 4 ++ [AVal.ptr 0 0 0, AVal.ptr 1 0 0, AVal.ptr 2 0 0, AVal.junk, AVal.ptr 3 0 0, iA i, AVal.ptr 19 0 0, bA true, iA (IntKind.i64.wrap (k + 1))] ++ jk 183), ([AObj.box [iA (Prod.fst q), iA (Prod.snd q)], AObj.box [iA (Prod.fst lo), iA (Prod.snd lo)], AObj.box [iA (Prod.fst hi), iA (Prod.snd hi)], AObj.box [AVal.row 5 0 4 0 n, AVal.v (Value.slice none 0 0)], AObj.free, AObj.row 4 0 none xs] ++ List.replicate 13 AObj.free ++ [AObj.box [iA (Prod.fst x), iA (Prod.snd x)]] ++ List.replicate 12 AObj.free))) else (AExit.normal, (([slA l] ++ jk 4 ++ [AVal.ptr 0 0 0, AVal.ptr 1 0 0, AVal.ptr 2 0 0, AVal.junk, AVal.ptr 3 0 0, iA i, AVal.ptr 19 0 0, bA (eqB y x), iA (IntKind.i64.wrap (k + 1))] ++ jk 183), ([AObj.box [iA (Prod.fst q), iA (Prod.snd q)], AObj.box [iA (Prod.fst lo), iA (Prod.snd lo)], AObj.box [iA (Prod.fst hi), iA (Prod.snd hi)], AObj.box [AVal.row 5 0 4 0 n, AVal.v (Value.slice none 0 0)], AObj.free, AObj.row 4 0 none xs] ++ List.replicate 13 AObj.free ++ [AObj.box [iA (Prod.fst x), iA (Prod.snd x)]] ++ List.replicate 12 AObj.free)))) else (AExit.exit 2, (([slA l] ++ jk 4 ++ [AVal.ptr 0 0 0, AVal.ptr 1 0 0, AVal.ptr 2 0 0, AVal.junk, AVal.ptr 3 0 0, iA i, AVal.ptr 19 0 0, bA o, iA k] ++ jk 37 ++ [bA false] ++ jk 145), ([AObj.box [iA (Prod.fst q), iA (Prod.snd q)], AObj.box [iA (Prod.fst lo), iA (Prod.snd lo)], AObj.box [iA (Prod.fst hi), iA (Prod.snd hi)], AObj.box [AVal.row 5 0 4 0 n, AVal.v (Value.slice none 0 0)], AObj.free, AObj.row 4 0 none xs] ++ List.replicate 13 AObj.free ++ [AObj.box [iA (Prod.fst x), iA (Prod.snd x)]]))))
theorem fe2B_eq (l : List P2) (i : Int) (q : P2) (lo : P2) (hi : P2) (x : P2) (y : P2) (n : Nat) (xs : List AVal) (o : Bool) (k : Int) (b0 : (decide (k < (↑n : Int))) = true → (o) = false → (0 : Int) ≤ k ∧ (k : Int) < (↑n : Int)) (e0 : (decide (k < (↑n : Int))) = true → (o) = false → partA (Cfg.P c3X) 27 xs ((0 + Int.toNat k) * 4 + 1) = some (ptA y)) : evalC (c3X) (ev3X) (feLv) 0 0 60 (feK2) (fxT l i 19 o k) (fxB q lo hi x n xs) = some (fe2B l i q lo hi x y n xs o k) := by
  have key := fun (bs : List Bool) (r : AExit × List AVal × List AObj) (ob : List Prop) (h : pathP (c3X) (ev3X) (feLv) 0 0 60 [(10, 5, Hint.idx), (10, 7, Hint.load (ptA y))] (feK2) (fxT l i 19 o k) (fxB q lo hi x n xs) bs [] = .ok (r.1, r.2.1, r.2.2, ob)) (hp : allOb ob) => pathP_ok h hp
  unfold fe2B
  exact bif_case (P := fun r => evalC (c3X) (ev3X) (feLv) 0 0 60 (feK2) (fxT l i 19 o k) (fxB q lo hi x n xs) = some r)
    (fun h0 => bif_case (P := fun r => evalC (c3X) (ev3X) (feLv) 0 0 60 (feK2) (fxT l i 19 o k) (fxB q lo hi x n xs) = some r)
     (fun h1 => key [true, true] ((AExit.normal, (([slA l] ++ jk 4 ++ [AVal.ptr 0 0 0, AVal.ptr 1 0 0, AVal.ptr 2 0 0, AVal.junk, AVal.ptr 3 0 0, iA i, AVal.ptr 19 0 0, bA true, iA (IntKind.i64.wrap (k + 1))] ++ jk 183), ([AObj.box [iA (Prod.fst q), iA (Prod.snd q)], AObj.box [iA (Prod.fst lo), iA (Prod.snd lo)], AObj.box [iA (Prod.fst hi), iA (Prod.snd hi)], AObj.box [AVal.row 5 0 4 0 n, AVal.v (Value.slice none 0 0)], AObj.free, AObj.row 4 0 none xs] ++ List.replicate 13 AObj.free ++ [AObj.box [iA (Prod.fst x), iA (Prod.snd x)]] ++ List.replicate 12 AObj.free)))) _ (by kernel_rfl) (allOb_cons h1 (allOb_cons h0 allOb_nil)))
     (fun h1 => key [true, false] ((AExit.normal, (([slA l] ++ jk 4 ++ [AVal.ptr 0 0 0, AVal.ptr 1 0 0, AVal.ptr 2 0 0, AVal.junk, AVal.ptr 3 0 0, iA i, AVal.ptr 19 0 0, bA (eqB y x), iA (IntKind.i64.wrap (k + 1))] ++ jk 183), ([AObj.box [iA (Prod.fst q), iA (Prod.snd q)], AObj.box [iA (Prod.fst lo), iA (Prod.snd lo)], AObj.box [iA (Prod.fst hi), iA (Prod.snd hi)], AObj.box [AVal.row 5 0 4 0 n, AVal.v (Value.slice none 0 0)], AObj.free, AObj.row 4 0 none xs] ++ List.replicate 13 AObj.free ++ [AObj.box [iA (Prod.fst x), iA (Prod.snd x)]] ++ List.replicate 12 AObj.free)))) _ (by kernel_rfl) (allOb_cons (by exact (e0 h0 h1)) (allOb_cons (b0 h0 h1) (allOb_cons h1 (allOb_cons h0 allOb_nil))))))
    (fun h0 => key [false] ((AExit.exit 2, (([slA l] ++ jk 4 ++ [AVal.ptr 0 0 0, AVal.ptr 1 0 0, AVal.ptr 2 0 0, AVal.junk, AVal.ptr 3 0 0, iA i, AVal.ptr 19 0 0, bA o, iA k] ++ jk 37 ++ [bA false] ++ jk 145), ([AObj.box [iA (Prod.fst q), iA (Prod.snd q)], AObj.box [iA (Prod.fst lo), iA (Prod.snd lo)], AObj.box [iA (Prod.fst hi), iA (Prod.snd hi)], AObj.box [AVal.row 5 0 4 0 n, AVal.v (Value.slice none 0 0)], AObj.free, AObj.row 4 0 none xs] ++ List.replicate 13 AObj.free ++ [AObj.box [iA (Prod.fst x), iA (Prod.snd x)]])))) _ (by kernel_rfl) (allOb_cons h0 allOb_nil))
def fe9A (l : List P2) (i : Int) (q : P2) (lo : P2) (hi : P2) (x : P2) (k : Int) : AExit × List AVal × List AObj :=
  (AExit.normal, (([slA l] ++ jk 4 ++ [AVal.ptr 0 0 0, AVal.ptr 1 0 0, AVal.ptr 2 0 0, AVal.junk, AVal.ptr 3 0 0, iA i] ++ jk 186), ([AObj.box [iA (Prod.fst q), iA (Prod.snd q)], AObj.box [iA (Prod.fst lo), iA (Prod.snd lo)], AObj.box [iA (Prod.fst hi), iA (Prod.snd hi)], AObj.box [AVal.row 5 0 4 0 1, AVal.v (Value.slice none 0 0)], AObj.row 4 0 none [iA (Int.ofNat 1), iA (Prod.fst x), iA (Prod.snd x), iA (Int.ofNat 0)], AObj.row 4 0 none [iA (Int.ofNat 1), iA (Prod.fst x), iA (Prod.snd x), iA (Int.ofNat 0)]] ++ List.replicate 11 AObj.free ++ [AObj.box [iA (Prod.fst x), iA (Prod.snd x)]])))
theorem fe9A_eq (l : List P2) (i : Int) (q : P2) (lo : P2) (hi : P2) (x : P2) (k : Int) : evalC (c3X) (ev3X) (feLv) 0 0 60 (feR11) ([slA l] ++ jk 4 ++ [AVal.ptr 0 0 0, AVal.ptr 1 0 0, AVal.ptr 2 0 0, AVal.junk, AVal.ptr 3 0 0, iA i, AVal.ptr 17 0 0, bA false] ++ jk 184) (fxA q lo hi x) = some (fe9A l i q lo hi x k) := by
  have key := fun (bs : List Bool) (r : AExit × List AVal × List AObj) (ob : List Prop) (h : pathP (c3X) (ev3X) (feLv) 0 0 60 [] (feR11) ([slA l] ++ jk 4 ++ [AVal.ptr 0 0 0, AVal.ptr 1 0 0, AVal.ptr 2 0 0, AVal.junk, AVal.ptr 3 0 0, iA i, AVal.ptr 17 0 0, bA false] ++ jk 184) (fxA q lo hi x) bs [] = .ok (r.1, r.2.1, r.2.2, ob)) (hp : allOb ob) => pathP_ok h hp
  unfold fe9A
  exact key [true] ((AExit.normal, (([slA l] ++ jk 4 ++ [AVal.ptr 0 0 0, AVal.ptr 1 0 0, AVal.ptr 2 0 0, AVal.junk, AVal.ptr 3 0 0, iA i] ++ jk 186), ([AObj.box [iA (Prod.fst q), iA (Prod.snd q)], AObj.box [iA (Prod.fst lo), iA (Prod.snd lo)], AObj.box [iA (Prod.fst hi), iA (Prod.snd hi)], AObj.box [AVal.row 5 0 4 0 1, AVal.v (Value.slice none 0 0)], AObj.row 4 0 none [iA (Int.ofNat 1), iA (Prod.fst x), iA (Prod.snd x), iA (Int.ofNat 0)], AObj.row 4 0 none [iA (Int.ofNat 1), iA (Prod.fst x), iA (Prod.snd x), iA (Int.ofNat 0)]] ++ List.replicate 11 AObj.free ++ [AObj.box [iA (Prod.fst x), iA (Prod.snd x)]])))) _ (by kernel_rfl) (allOb_cons lit_t allOb_nil)
def fe9B (l : List P2) (i : Int) (q : P2) (lo : P2) (hi : P2) (x : P2) (n : Nat) (xs : List AVal) (us : List AVal) (o : Bool) : AExit × List AVal × List AObj :=
  (bif !o then (AExit.normal, (([slA l] ++ jk 4 ++ [AVal.ptr 0 0 0, AVal.ptr 1 0 0, AVal.ptr 2 0 0, AVal.junk, AVal.ptr 3 0 0, iA i] ++ jk 186), ([AObj.box [iA (Prod.fst q), iA (Prod.snd q)], AObj.box [iA (Prod.fst lo), iA (Prod.snd lo)], AObj.box [iA (Prod.fst hi), iA (Prod.snd hi)], AObj.box [AVal.row 5 1 4 0 (n + 1), AVal.v (Value.slice none 0 0)], AObj.row 4 0 none [iA (IntKind.i64.wrap ((↑n : Int) + 1)), iA (Prod.fst x), iA (Prod.snd x), iA (Int.ofNat 0)], AObj.row 4 1 none us] ++ List.replicate 13 AObj.free ++ [AObj.box [iA (Prod.fst x), iA (Prod.snd x)]]))) else (AExit.normal, (([slA l] ++ jk 4 ++ [AVal.ptr 0 0 0, AVal.ptr 1 0 0, AVal.ptr 2 0 0, AVal.junk, AVal.ptr 3 0 0, iA i, AVal.ptr 19 0 0] ++ jk 54 ++ [bA false] ++ jk 130), ([AObj.box [iA (Prod.fst q), iA (Prod.snd q)], AObj.box [iA (Prod.fst lo), iA (Prod.snd lo)], AObj.box [iA (Prod.fst hi), iA (Prod.snd hi)], AObj.box [AVal.row 5 0 4 0 n, AVal.v (Value.slice none 0 0)], AObj.free, AObj.row 4 0 none xs] ++ List.replicate 13 AObj.free ++ [AObj.box [iA (Prod.fst x), iA (Prod.snd x)]]))))
theorem fe9B_eq (l : List P2) (i : Int) (q : P2) (lo : P2) (hi : P2) (x : P2) (n : Nat) (xs : List AVal) (us : List AVal) (o : Bool) (e0 : (!o) = true → (0 + n) * 4 = List.length xs ∧ (n + 1) * 32 ≤ 140737488355328 ∧ n + 1 ≤ 9223372036854775807) (e1 : (!o) = true → Ones [iA (IntKind.i64.wrap ((↑n : Int) + 1)), iA (Prod.fst x), iA (Prod.snd x), iA (Int.ofNat 0)]) (e2 : (!o) = true → List.drop 0 xs ++ [iA (IntKind.i64.wrap ((↑n : Int) + 1)), iA (Prod.fst x), iA (Prod.snd x), iA (Int.ofNat 0)] = us) : evalC (c3X) (ev3X) (feLv) 0 0 60 (feR11) ([slA l] ++ jk 4 ++ [AVal.ptr 0 0 0, AVal.ptr 1 0 0, AVal.ptr 2 0 0, AVal.junk, AVal.ptr 3 0 0, iA i, AVal.ptr 19 0 0, bA o] ++ jk 184) (fxB q lo hi x n xs) = some (fe9B l i q lo hi x n xs us o) := by
  have key := fun (bs : List Bool) (r : AExit × List AVal × List AObj) (ob : List Prop) (h : pathP (c3X) (ev3X) (feLv) 0 0 60 [(12, 9, Hint.appY us)] (feR11) ([slA l] ++ jk 4 ++ [AVal.ptr 0 0 0, AVal.ptr 1 0 0, AVal.ptr 2 0 0, AVal.junk, AVal.ptr 3 0 0, iA i, AVal.ptr 19 0 0, bA o] ++ jk 184) (fxB q lo hi x n xs) bs [] = .ok (r.1, r.2.1, r.2.2, ob)) (hp : allOb ob) => pathP_ok h hp
  unfold fe9B
  exact bif_case (P := fun r => evalC (c3X) (ev3X) (feLv) 0 0 60 (feR11) ([slA l] ++ jk 4 ++ [AVal.ptr 0 0 0, AVal.ptr 1 0 0, AVal.ptr 2 0 0, AVal.junk, AVal.ptr 3 0 0, iA i, AVal.ptr 19 0 0, bA o] ++ jk 184) (fxB q lo hi x n xs) = some r)
    (fun h0 => key [true] ((AExit.normal, (([slA l] ++ jk 4 ++ [AVal.ptr 0 0 0, AVal.ptr 1 0 0, AVal.ptr 2 0 0, AVal.junk, AVal.ptr 3 0 0, iA i] ++ jk 186), ([AObj.box [iA (Prod.fst q), iA (Prod.snd q)], AObj.box [iA (Prod.fst lo), iA (Prod.snd lo)], AObj.box [iA (Prod.fst hi), iA (Prod.snd hi)], AObj.box [AVal.row 5 1 4 0 (n + 1), AVal.v (Value.slice none 0 0)], AObj.row 4 0 none [iA (IntKind.i64.wrap ((↑n : Int) + 1)), iA (Prod.fst x), iA (Prod.snd x), iA (Int.ofNat 0)], AObj.row 4 1 none us] ++ List.replicate 13 AObj.free ++ [AObj.box [iA (Prod.fst x), iA (Prod.snd x)]])))) _ (by kernel_rfl) (allOb_cons (by exact (e2 h0)) (allOb_cons (show 4 ≤ 4 from by decide) (allOb_cons (show 0 < 1 from by decide) (allOb_cons (by exact (e1 h0)) (allOb_cons (by exact (e0 h0)) (allOb_cons h0 allOb_nil)))))))
    (fun h0 => key [false] ((AExit.normal, (([slA l] ++ jk 4 ++ [AVal.ptr 0 0 0, AVal.ptr 1 0 0, AVal.ptr 2 0 0, AVal.junk, AVal.ptr 3 0 0, iA i, AVal.ptr 19 0 0] ++ jk 54 ++ [bA false] ++ jk 130), ([AObj.box [iA (Prod.fst q), iA (Prod.snd q)], AObj.box [iA (Prod.fst lo), iA (Prod.snd lo)], AObj.box [iA (Prod.fst hi), iA (Prod.snd hi)], AObj.box [AVal.row 5 0 4 0 n, AVal.v (Value.slice none 0 0)], AObj.free, AObj.row 4 0 none xs] ++ List.replicate 13 AObj.free ++ [AObj.box [iA (Prod.fst x), iA (Prod.snd x)]])))) _ (by kernel_rfl) (allOb_cons h0 allOb_nil))
end Go.Proofs.YtkkgimhbliocoaaGreat
/- FindEmpty: its first loop. -/
namespace Go.Proofs.YtkkgimhbliocoaaGreat
open Go Vm M
set_option linter.unusedVariables false
set_option linter.unusedSectionVars false
set_option linter.unusedSimpArgs false
set_option maxRecDepth 100000
def md (p : P2) : P2 := (p.1.tmod 1048577, p.2.tmod 1048577)
def oldU (ns : List Nd) (x : P2) : Nat → Bool
  | 0 => false
  | k + 1 => oldU ns x k || eqB (nAt ns k).2.1 x
def nx (ns : List Nd) (x : P2) : List Nd := bif oldU ns x ns.length then ns else ns ++ [(((ns.length + 1 : Nat) : Int), x, 0)]
def nsX (l : List P2) : Nat → List Nd
  | 0 => []
  | i + 1 => nx (nsX l i) (md (pAt l i))
theorem nsX_le (l : List P2) : ∀ i, (nsX l i).length ≤ i
  | 0 => Nat.le_refl _
  | i + 1 => by
    have := nsX_le l i
    unfold nsX nx
    cases oldU (nsX l i) (md (pAt l i)) (nsX l i).length with
    | true => rw [cond_true]; omega
    | false => rw [cond_false, List.length_append, List.length_singleton]; omega
theorem nsX_pos (l : List P2) : ∀ i, 1 ≤ (nsX l (i + 1)).length
  | 0 => by unfold nsX nsX nx; simp [oldU]
  | i + 1 => by
    have := nsX_pos l i
    show 1 ≤ (nx (nsX l (i + 1)) (md (pAt l (i + 1)))).length
    unfold nx
    cases oldU (nsX l (i + 1)) (md (pAt l (i + 1))) (nsX l (i + 1)).length with
    | true => rw [cond_true]; exact this
    | false => rw [cond_false, List.length_append, List.length_singleton]; omega
theorem dropU : ∀ (xs : List PVal) (k : Nat), (upL xs).drop k = upL (xs.drop k)
  | xs, 0 => rfl
  | [], k + 1 => rfl
  | x :: xs, k + 1 => by simp [upL, dropU xs k]
theorem aggPt : aggT Tryz.prog 27 = some true := by kernel_rfl
theorem szPt : szOf Tryz.prog 27 = some 2 := by kernel_rfl
theorem partNP {ns : List Nd} {k : Nat} (h : k < ns.length) : partA Tryz.prog 27 (upL (flatN ns)) ((0 + Int.toNat (k : Int)) * 4 + 1) = some (ptA (nAt ns k).2.1) := by
  unfold partA
  rw [aggPt, szPt]
  simp only
  rw [if_pos (by rw [upLX, flatN_length, Int.toNat_natCast]; omega), Nat.zero_add, Int.toNat_natCast, ← List.drop_drop, dropU, drop_nAt h]
  rfl
section
variable (l : List P2) (q lo hi : P2)
def feSt (ns : List Nd) : List AObj := bif Nat.beq ns.length 0 then feSA q lo hi else feSB q lo hi ns.length (upL (flatN ns))
theorem feSt_pos {ns : List Nd} (h : 1 ≤ ns.length) : feSt q lo hi ns = feSB q lo hi ns.length (upL (flatN ns)) := by unfold feSt; rw [beq0 h]; rfl
theorem fe_in {i : Nat} (h1 : i < l.length) (h2 : i < 60) (S : List AObj) : EV c3X 0 (c1 feK1) (feT l i) S .normal (feT l i) S := by
  have e := pathP_ok (c := c3X) (ev := ev3X) (lv := feLv) (lo := 0) (base := 0) (n := 60) (hs := []) (code := c1 feK1) (T := feT l i) (S := S) (bs := [true, true]) (ls := []) (x := .normal) (T' := (feT l i).set 31 (bA true)) (S' := S) (ob := [decide ((i : Int) < 60) = true, decide ((i : Int) < (l.length : Int)) = true]) (by kernel_rfl) (allOb_cons (decide_eq_true (by omega)) (allOb_cons (decide_eq_true (by omega)) allOb_nil))
  have e2 := EV.fade 1761 (EV.of (base := 0) c3X_ok ev3X_ok e)
  have ef : forget 1761 ((feT l i).set 31 (bA true)) = feT l i := by kernel_rfl
  rw [ef] at e2
  exact e2
/-- The loop is left. -/
theorem fe_out {i : Nat} (h : ¬ (i < l.length ∧ i < 60)) (S : List AObj) : EV c3X 0 feK1 (feT l i) S (.exit 0) (feT l i) S := by
  have h' : ∃ T', evalC c3X ev3X feLv 0 0 60 (c1 feK1) (feT l i) S = some (.exit 0, T', S) ∧ forget 1761 T' = feT l i := by
    by_cases h1 : i < l.length
    · refine ⟨(feT l i).set 31 (bA false), pathP_ok (hs := []) (bs := [true, false]) (ls := []) (ob := [decide ((i : Int) < 60) = false, decide ((i : Int) < (l.length : Int)) = true]) (by kernel_rfl) (allOb_cons (decide_eq_false (by omega)) (allOb_cons (decide_eq_true (by omega)) allOb_nil)), by kernel_rfl⟩
    · refine ⟨(feT l i).set 31 (bA false), pathP_ok (hs := []) (bs := [false, false]) (ls := []) (ob := [(false : Bool) = false, decide ((i : Int) < (l.length : Int)) = false]) (by kernel_rfl) (allOb_cons rfl (allOb_cons (decide_eq_false (by omega)) allOb_nil)), by kernel_rfl⟩
  obtain ⟨T', e, ef⟩ := h'
  have e2 := EV.fade 1761 (EV.of (base := 0) c3X_ok ev3X_ok e)
  rw [ef] at e2
  rw [fe_k1]
  exact EV.seqX e2 (by simp)
end
end Go.Proofs.YtkkgimhbliocoaaGreat
/- FindEmpty: the rounds of its first loop. -/
namespace Go.Proofs.YtkkgimhbliocoaaGreat
open Go Vm M
set_option linter.unusedVariables false
set_option linter.unusedSectionVars false
set_option linter.unusedSimpArgs false
set_option maxRecDepth 100000
def fyT (l : List P2) (i : Int) (s : Nat) (o : Bool) : List AVal := [slA l] ++ jk 4 ++ [.ptr 0 0 0, .ptr 1 0 0, .ptr 2 0 0, .junk, .ptr 3 0 0, iA i, .ptr s 0 0, bA o] ++ jk 184
def fzT (l : List P2) (i : Int) (s : Nat) : List AVal := [slA l] ++ jk 4 ++ [.ptr 0 0 0, .ptr 1 0 0, .ptr 2 0 0, .junk, .ptr 3 0 0, iA i, .ptr s 0 0] ++ jk 185
section
variable (l : List P2) (q lo hi : P2)
theorem fe_r4 {i : Nat} (h2 : i < 60) (S : List AObj) : EV c3X 0 feR4 (feT l i) S .normal (feT l (i + 1 : Nat)) S := by
  have e : evalC c3X ev3X feLv 0 0 60 feR4 (feT l i) S = some (.normal, feT l (IntKind.i64.wrap ((i : Int) + 1)), S) := by kernel_rfl
  rw [wrS (by omega)] at e
  exact EV.of c3X_ok ev3X_ok e
theorem fe_r6 (i : Int) (s : Nat) (S : List AObj) : EV c3X 0 feR6 (fzT l i s) S .normal (fyT l i s false) S := EV.of c3X_ok ev3X_ok (lv := feLv) (lo := 0) (n := 60) (by kernel_rfl)
theorem fe_r7 (i : Int) (s : Nat) (S : List AObj) : EV c3X 0 feR7 (fyT l i s false) S .normal (fxT l i s false (0 : Nat)) S := EV.of c3X_ok ev3X_ok (lv := feLv) (lo := 0) (n := 60) (by kernel_rfl)
def fwT2 (l : List P2) (i : Int) (s : Nat) (o : Bool) (k : Int) : List AVal := (fxT l i s o k).set 51 (bA false)
theorem fw_fade (i : Int) (s : Nat) (o : Bool) (k : Int) : forget 7905 (fwT2 l i s o k) = fyT l i s o := by kernel_rfl
theorem pt_x {i : Nat} (h : i < l.length) : ((pAt l (Int.toNat (i : Int))).1.tmod 1048577, (pAt l (Int.toNat (i : Int))).2.tmod 1048577) = md (pAt l i) := by rw [Int.toNat_natCast]; rfl
/-! ## nothing is there yet -/
theorem fe_5A {i : Nat} (h : i < l.length) : EV c3X 0 feR5 (feT l i) (feSA q lo hi) .normal (fzT l i 17) (fxA q lo hi (md (pAt l i))) := by
  have e := fe5A_eq l i q lo hi ⟨by omega, by omega⟩
  unfold fe5A at e
  rw [Int.toNat_natCast] at e
  exact EV.sweep [] (EV.of c3X_ok ev3X_ok e) (fun q hq y hy => by simp at hq) (by kernel_rfl)
theorem fe_2A (i : Int) (x : P2) : EV c3X 0 feK2 (fxT l i 17 false (0 : Nat)) (fxA q lo hi x) (.exit 2) (fyT l i 17 false) (fxA q lo hi x) := by
  have e := EV.fade 7905 (EV.of (base := 0) c3X_ok ev3X_ok (lv := feLv) (lo := 0) (n := 60) (code := feK2) (T := fxT l i 17 false (0 : Nat)) (S := fxA q lo hi x) (x := .exit 2) (T' := fwT2 l i 17 false (0 : Nat)) (S' := fxA q lo hi x) (by kernel_rfl))
  rw [fw_fade] at e
  exact e
theorem fe_11A (i : Int) (x : P2) : EV c3X 0 feR11 (fyT l i 17 false) (fxA q lo hi x) .normal (feT l i) (feSB q lo hi 1 (upL (flatN [(1, x, 0)]))) := by
  have e := fe9A_eq l i q lo hi x 0
  unfold fe9A at e
  exact EV.tidy [] (EV.of c3X_ok ev3X_ok e) (fun q hq y hy => by simp at hq) (by kernel_rfl)
theorem fe_roundA (h : 0 < l.length) : EV c3X 0 feK1 (feT l (0 : Nat)) (feSA q lo hi) .normal (feT l (1 : Nat)) (feSB q lo hi 1 (upL (flatN [(1, md (pAt l 0), 0)]))) := by
  rw [fe_k1]
  refine EV.seq (fe_in l h (by omega) _) (EV.seq (EV.blockN ?_) (fe_r4 l (by omega) _))
  refine EV.seq (fe_5A l q lo hi h) (EV.seq (fe_r6 l _ _ _) (EV.seq (EV.seq (fe_r7 l _ _ _) (EV.block ?_)) (fe_11A l q lo hi _ _)))
  exact EV.loop (n := 0) (T := fun _ => fxT l (0 : Nat) 17 false (0 : Nat)) (S := fun _ => fxA q lo hi (md (pAt l 0))) (fun k hk => by omega) (fe_2A l q lo hi _ _) (by simp)
/-! ## there are nodes -/
variable (ns : List Nd)
theorem fe_5B {i : Nat} (h : i < l.length) : EV c3X 0 feR5 (feT l i) (feSB q lo hi ns.length (upL (flatN ns))) .normal (fzT l i 19) (fxB q lo hi (md (pAt l i)) ns.length (upL (flatN ns))) := by
  have e := fe5B_eq l i q lo hi ns.length (upL (flatN ns)) ⟨by omega, by omega⟩
  unfold fe5B at e
  rw [Int.toNat_natCast] at e
  refine EV.sweep [5] (EV.of c3X_ok ev3X_ok e) (fun q hq y hy => ?_) (by kernel_rfl)
  simp only [List.mem_singleton] at hq
  subst hq
  have := (Option.some.inj hy).symm
  subst this
  exact flatN_plain _
theorem fe_2B (hl : ns.length ≤ 1000) (i : Int) (x : P2) {k : Nat} (h : k < ns.length) : EV c3X 0 feK2 (fxT l i 19 (oldU ns x k) k) (fxB q lo hi x ns.length (upL (flatN ns))) .normal (fxT l i 19 (oldU ns x (k + 1)) (k + 1 : Nat)) (fxB q lo hi x ns.length (upL (flatN ns))) := by
  have e := fe2B_eq l i q lo hi x (nAt ns k).2.1 ns.length (upL (flatN ns)) (oldU ns x k) k (fun _ _ => by omega) (fun _ _ => partNP h)
  unfold fe2B at e
  rw [decide_eq_true (by omega : (k : Int) < (ns.length : Int)), cond_true, wrS (by omega)] at e
  have hp : ∀ {S : List AObj} {q : Nat} (hS : S[5]? = some (.row 4 0 none (upL (flatN ns)))), q ∈ [5] → ∀ y, S[q]? = some y → plainO y = true := fun hS hq y hy => by
    simp only [List.mem_singleton] at hq
    subst hq
    rw [hS] at hy
    have := (Option.some.inj hy).symm
    subst this
    exact flatN_plain _
  show EV _ _ _ _ _ _ (fxT l i 19 (oldU ns x k || eqB (nAt ns k).2.1 x) (k + 1 : Nat)) _
  cases ho : oldU ns x k with
  | true =>
    rw [ho, cond_true] at e
    exact EV.sweep [5] (EV.of c3X_ok ev3X_ok e) (fun q hq => hp rfl hq) (by kernel_rfl)
  | false =>
    rw [ho, cond_false] at e
    exact EV.sweep [5] (EV.of c3X_ok ev3X_ok e) (fun q hq => hp rfl hq) (by kernel_rfl)
theorem fe_2E (i : Int) (x : P2) (o : Bool) : EV c3X 0 feK2 (fxT l i 19 o ns.length) (fxB q lo hi x ns.length (upL (flatN ns))) (.exit 2) (fyT l i 19 o) (fxB q lo hi x ns.length (upL (flatN ns))) := by
  have hd : decide ((ns.length : Int) < (ns.length : Int)) = false := decide_eq_false (by omega)
  have e := fe2B_eq l i q lo hi x x ns.length (upL (flatN ns)) o ns.length (fun h => by rw [hd] at h; cases h) (fun h => by rw [hd] at h; cases h)
  unfold fe2B at e
  rw [hd, cond_false] at e
  have e2 := EV.fade 7905 (EV.of (base := 0) c3X_ok ev3X_ok (T' := fwT2 l i 19 o ns.length) (S' := fxB q lo hi x ns.length (upL (flatN ns))) e)
  rw [fw_fade] at e2
  exact e2
theorem fe_11B (hl : ns.length ≤ 1000) (i : Int) (x : P2) : EV c3X 0 feR11 (fyT l i 19 (oldU ns x ns.length)) (fxB q lo hi x ns.length (upL (flatN ns))) .normal (feT l i) (feSB q lo hi (nx ns x).length (upL (flatN (nx ns x)))) := by
  have e := fe9B_eq l i q lo hi x ns.length (upL (flatN ns)) (upL (flatN (ns ++ [(((ns.length + 1 : Nat) : Int), x, 0)]))) (oldU ns x ns.length) (fun _ => ⟨by rw [upLX, flatN_length]; omega, by omega, by omega⟩) (fun _ => rfl) (fun _ => by
    rw [wrS (by omega), List.drop_zero]
    have : ∀ (ms : List Nd) (n : Nd), upL (flatN (ms ++ [n])) = upL (flatN ms) ++ [iA n.1, iA n.2.1.1, iA n.2.1.2, iA n.2.2] := fun ms n => by
      induction ms with
      | nil => rfl
      | cons m ms ih => simp only [List.cons_append, flatN, upL, ih]
    rw [this]
    rfl)
  unfold fe9B at e
  unfold nx
  cases ho : oldU ns x ns.length with
  | true =>
    rw [ho, Bool.not_true, cond_false] at e
    rw [cond_true]
    have e3 := EV.fade 1761 (EV.of (base := 0) c3X_ok ev3X_ok (T' := (fzT l i 19).set 66 (bA false)) (S' := fxB q lo hi x ns.length (upL (flatN ns))) e)
    have ef : forget 1761 ((fzT l i 19).set 66 (bA false)) = feT l i := by kernel_rfl
    rw [ef] at e3
    exact EV.tidy [5] e3 (fun q hq y hy => by
      simp only [List.mem_singleton] at hq
      subst hq
      have := (Option.some.inj hy).symm
      subst this
      exact flatN_plain _) (by kernel_rfl)
  | false =>
    rw [ho, Bool.not_false, cond_true] at e
    rw [cond_false, List.length_append, List.length_singleton]
    exact EV.tidy [5] (EV.of c3X_ok ev3X_ok e) (fun q hq y hy => by
      simp only [List.mem_singleton] at hq
      subst hq
      have := (Option.some.inj hy).symm
      subst this
      exact flatN_plain _) (by kernel_rfl)
theorem fe_roundB (hl : ns.length ≤ 1000) {i : Nat} (h1 : i < l.length) (h2 : i < 60) : EV c3X 0 feK1 (feT l i) (feSB q lo hi ns.length (upL (flatN ns))) .normal (feT l (i + 1 : Nat)) (feSB q lo hi (nx ns (md (pAt l i))).length (upL (flatN (nx ns (md (pAt l i)))))) := by
  rw [fe_k1]
  refine EV.seq (fe_in l h1 h2 _) (EV.seq (EV.blockN ?_) (fe_r4 l h2 _))
  refine EV.seq (fe_5B l q lo hi ns h1) (EV.seq (fe_r6 l _ _ _) (EV.seq (EV.seq (fe_r7 l _ _ _) (EV.block ?_)) (fe_11B l q lo hi ns hl _ _)))
  exact EV.loop (n := ns.length) (T := fun k => fxT l i 19 (oldU ns (md (pAt l i)) k) k) (S := fun _ => fxB q lo hi (md (pAt l i)) ns.length (upL (flatN ns))) (fun k hk => fe_2B l q lo hi ns hl _ _ hk) (fe_2E l q lo hi ns _ _ _) (by simp)
end
/-! ## the loop -/
section
variable (l : List P2) (q lo hi : P2)
def feM (l : List P2) : Nat := min l.length 60
theorem fe_loop : EV c3X 0 (.loop feK1) (feT l (0 : Nat)) (feSt q lo hi []) (.exit 0) (feT l (feM l)) (feSt q lo hi (nsX l (feM l))) := by
  refine EV.loop (n := feM l) (T := fun i => feT l i) (S := fun i => feSt q lo hi (nsX l i)) (fun i hi' => ?_) (fe_out l (by unfold feM; omega) _) (by simp)
  have hi2 : i < l.length ∧ i < 60 := by unfold feM at hi'; omega
  cases i with
  | zero => exact fe_roundA l q lo hi hi2.1
  | succ i =>
    have hp := nsX_pos l i
    have hp2 := nsX_pos l (i + 1)
    rw [feSt_pos q lo hi hp, feSt_pos q lo hi hp2]
    exact fe_roundB l q lo hi (nsX l (i + 1)) (by have := nsX_le l (i + 1); omega) hi2.1 hi2.2
end
end Go.Proofs.YtkkgimhbliocoaaGreat
/- FindEmpty: its last loop, and what is behind it. -/
namespace Go.Proofs.YtkkgimhbliocoaaGreat
open Go Vm M
set_option linter.unusedVariables false
set_option linter.unusedSimpArgs false
set_option maxRecDepth 100000
noncomputable def feB : Code := Tryz.f9.body.getD .skip
noncomputable def feZ : Code := c2 (c2 (c2 feB))
noncomputable def feR13 : Code := c1 feZ
noncomputable def feR14 : Code := c1 (c2 feZ)
noncomputable def feR15 : Code := c1 (c2 (c2 feZ))
noncomputable def feR16 : Code := c1 (c2 (c2 (c2 feZ)))
noncomputable def feL3 : Code := c1 (c2 (c2 (c2 (c2 feZ))))
noncomputable def feEnd : Code := c2 (c2 (c2 (c2 (c2 feZ))))
theorem fe_body : feB = .seq (c1 feB) (.seq (c1 (c2 feB)) (.seq (.seq (c1 (c1 (c2 (c2 feB)))) (.block 0 (.loop feK1))) (.seq feR13 (.seq feR14 (.seq feR15 (.seq feR16 (.seq (.seq (c1 feL3) (.block 4 (.loop feK3))) feEnd))))))) := by kernel_rfl
def flT (a n i : Int) : List AVal := jk 5 ++ [.ptr 0 0 0, .ptr 1 0 0, .ptr 2 0 0, .junk, .ptr 3 0 0] ++ jk 4 ++ [iA a, iA n, iA i] ++ jk 180
def fmT (a n : Int) : List AVal := jk 5 ++ [.ptr 0 0 0, .ptr 1 0 0, .ptr 2 0 0, .junk, .ptr 3 0 0] ++ jk 4 ++ [iA a, iA n] ++ jk 181
def fl3 (q : P2) (lo : P2) (hi : P2) (y : P2) (m : Nat) (xs : List AVal) (a : Int) (n : Int) (i : Int) : AExit × List AVal × List AObj :=
  (bif decide (i < (↑m : Int)) then (bif eqB y q then (bif decide (Prod.fst y ≥ Prod.fst lo) then (bif decide (Prod.fst y ≤ Prod.fst hi) then (bif decide (Prod.snd y ≥ Prod.snd lo) then (bif decide (Prod.snd y ≤ Prod.snd hi) then (AExit.normal, ((jk 5 ++ [AVal.ptr 0 0 0, AVal.ptr 1 0 0, AVal.ptr 2 0 0, AVal.junk, AVal.ptr 3 0 0] ++ jk 4 ++ [iA (IntKind.i64.wrap (i + 1)), iA (IntKind.i64.wrap (n + 1)), iA (IntKind.i64.wrap (i + 1))] ++ jk 180), ([AObj.box [iA (Prod.fst q), iA (Prod.snd q)], AObj.box [iA (Prod.fst lo), iA (Prod.snd lo)], AObj.box [iA (Prod.fst hi), iA (Prod.snd hi)], AObj.box [AVal.row 5 0 4 0 m, AVal.v (Value.slice none 0 0)], AObj.box [iA (Prod.fst y), iA (Prod.snd y)], AObj.row 4 0 none xs]))) else (AExit.normal, ((jk 5 ++ [AVal.ptr 0 0 0, AVal.ptr 1 0 0, AVal.ptr 2 0 0, AVal.junk, AVal.ptr 3 0 0] ++ jk 4 ++ [iA (IntKind.i64.wrap (i + 1)), iA n, iA (IntKind.i64.wrap (i + 1))] ++ jk 180), ([AObj.box [iA (Prod.fst q), iA (Prod.snd q)], AObj.box [iA (Prod.fst lo), iA (Prod.snd lo)], AObj.box [iA (Prod.fst hi), iA (Prod.snd hi)], AObj.box [AVal.row 5 0 4 0 m, AVal.v (Value.slice none 0 0)], AObj.box [iA (Prod.fst y), iA (Prod.snd y)], AObj.row 4 0 none xs])))) else (AExit.normal, ((jk 5 ++ [AVal.ptr 0 0 0, AVal.ptr 1 0 0, AVal.ptr 2 0 0, AVal.junk, AVal.ptr 3 0 0] ++ jk 4 ++ [iA (IntKind.i64.wrap (i + 1)), iA n, iA (IntKind.i64.wrap (i + 1))] ++ jk 180), ([AObj.box [iA (Prod.fst q), iA (Prod.snd q)], AObj.box [iA (Prod.fst lo), iA (Prod.snd lo)], AObj.box [iA (Prod.fst hi), iA (Prod.snd hi)], AObj.box [AVal.row 5 0 4 0 m, AVal.v (Value.slice none 0 0)], AObj.box [iA (Prod.fst y), iA (Prod.snd y)], AObj.row 4 0 none xs])))) else (AExit.normal, ((jk 5 ++ [AVal.ptr 0 0 0, AVal.ptr 1 0 0, AVal.ptr 2 0 0, AVal.junk, AVal.ptr 3 0 0] ++ jk 4 ++ [iA (IntKind.i64.wrap (i + 1)), iA n, iA (IntKind.i64.wrap (i + 1))] ++ jk 180), ([AObj.box [iA (Prod.fst q), iA (Prod.snd q)], AObj.box [iA (Prod.fst lo), iA (Prod.snd lo)], AObj.box [iA (Prod.fst hi), iA (Prod.snd hi)], AObj.box [AVal.row 5 0 4 0 m, AVal.v (Value.slice none 0 0)], AObj.box [iA (Prod.fst y), iA (Prod.snd y)], AObj.row 4 0 none xs])))) else (AExit.normal, ((jk 5 ++ [AVal.ptr 0 0 0, AVal.ptr 1 0 0, AVal.ptr 2 0 0, AVal.junk, AVal.ptr 3 0 0] ++ jk 4 ++ [iA (IntKind.i64.wrap (i + 1)), iA n, iA (IntKind.i64.wrap (i + 1))] ++ jk 180), ([AObj.box [iA (Prod.fst q), iA (Prod.snd q)], AObj.box [iA (Prod.fst lo), iA (Prod.snd lo)], AObj.box [iA (Prod.fst hi), iA (Prod.snd hi)], AObj.box [AVal.row 5 0 4 0 m, AVal.v (Value.slice none 0 0)], AObj.box [iA (Prod.fst y), iA (Prod.snd y)], AObj.row 4 0 none xs])))) else (bif decide (Prod.fst y ≥ Prod.fst lo) then (bif decide (Prod.fst y ≤ Prod.fst hi) then (bif decide (Prod.snd y ≥ Prod.snd lo) then (bif decide (Prod.snd y ≤ Prod.snd hi) then (AExit.normal, ((jk 5 ++ [AVal.ptr 0 0 0, AVal.ptr 1 0 0, AVal.ptr 2 0 0, AVal.junk, AVal.ptr 3 0 0] ++ jk 4 ++ [iA a, iA (IntKind.i64.wrap (n + 1)), iA (IntKind.i64.wrap (i + 1))] ++ jk 180), ([AObj.box [iA (Prod.fst q), iA (Prod.snd q)], AObj.box [iA (Prod.fst lo), iA (Prod.snd lo)], AObj.box [iA (Prod.fst hi), iA (Prod.snd hi)], AObj.box [AVal.row 5 0 4 0 m, AVal.v (Value.slice none 0 0)], AObj.box [iA (Prod.fst y), iA (Prod.snd y)], AObj.row 4 0 none xs]))) else (AExit.normal, ((jk 5 ++ [AVal.ptr 0 0 0, AVal.ptr 1 0 0, AVal.ptr 2 0 0, AVal.junk, AVal.ptr 3 0 0] ++ jk 4 ++ [iA a, iA n, iA (IntKind.i64.wrap (i + 1))] ++ jk 180), ([AObj.box [iA (Prod.fst q), iA (Prod.snd q)], AObj.box [iA (Prod.fst lo), iA (Prod.snd lo)], AObj.box [iA (Prod.fst hi), iA (Prod.snd hi)], AObj.box [AVal.row 5 0 4 0 m, AVal.v (Value.slice none 0 0)], AObj.box [iA (Prod.fst y), iA (Prod.snd y)], AObj.row 4 0 none xs])))) else (AExit.normal, ((jk 5 ++ [AVal.ptr 0 0 0, AVal.ptr 1 0 0, AVal.ptr 2 0 0, AVal.junk, AVal.ptr 3 0 0] ++ jk 4 ++ [iA a, iA n, iA (IntKind.i64.wrap (i + 1))] ++ jk 180), ([AObj.box [iA (Prod.fst q), iA (Prod.snd q)], AObj.box [iA (Prod.fst lo), iA (Prod.snd lo)], AObj.box [iA (Prod.fst hi), iA (Prod.snd hi)], AObj.box [AVal.row 5 0 4 0 m, AVal.v (Value.slice none 0 0)], AObj.box [iA (Prod.fst y), iA (Prod.snd y)], AObj.row 4 0 none xs])))) else (AExit.normal, ((jk 5 ++ [AVal.ptr 0 0 0, AVal.ptr 1 0 0, AVal.ptr 2 0 0, AVal.junk, AVal.ptr 3 0 0] ++ jk 4 ++ [iA a, iA n, iA (IntKind.i64.wrap (i + 1))] ++ jk 180), ([AObj.box [iA (Prod.fst q), iA (Prod.snd q)], AObj.box [iA (Prod.fst lo), iA (Prod.snd lo)], AObj.box [iA (Prod.fst hi), iA (Prod.snd hi)], AObj.box [AVal.row 5 0 4 0 m, AVal.v (Value.slice none 0 0)], AObj.box [iA (Prod.fst y), iA (Prod.snd y)], AObj.row 4 0 none xs])))) else (AExit.normal, ((jk 5 ++ [AVal.ptr 0 0 0, AVal.ptr 1 0 0, AVal.ptr 2 0 0, AVal.junk, AVal.ptr 3 0 0] ++ jk 4 ++ [iA a, iA n, iA (IntKind.i64.wrap (i + 1))] ++ jk 180), ([AObj.box [iA (Prod.fst q), iA (Prod.snd q)], AObj.box [iA (Prod.fst lo), iA (Prod.snd lo)], AObj.box [iA (Prod.fst hi), iA (Prod.snd hi)], AObj.box [AVal.row 5 0 4 0 m, AVal.v (Value.slice none 0 0)], AObj.box [iA (Prod.fst y), iA (Prod.snd y)], AObj.row 4 0 none xs]))))) else (AExit.exit 4, ((jk 5 ++ [AVal.ptr 0 0 0, AVal.ptr 1 0 0, AVal.ptr 2 0 0, AVal.junk, AVal.ptr 3 0 0] ++ jk 4 ++ [iA a, iA n, iA i] ++ jk 86 ++ [bA false] ++ jk 93), ([AObj.box [iA (Prod.fst q), iA (Prod.snd q)], AObj.box [iA (Prod.fst lo), iA (Prod.snd lo)], AObj.box [iA (Prod.fst hi), iA (Prod.snd hi)], AObj.box [AVal.row 5 0 4 0 m, AVal.v (Value.slice none 0 0)], AObj.free, AObj.row 4 0 none xs]))))
theorem fl3_eq (q : P2) (lo : P2) (hi : P2) (y : P2) (m : Nat) (xs : List AVal) (a : Int) (n : Int) (i : Int) (b0 : (decide (i < (↑m : Int))) = true → (0 : Int) ≤ i ∧ (i : Int) < (↑m : Int)) (e0 : (decide (i < (↑m : Int))) = true → partA (Cfg.P c3X) 27 xs ((0 + Int.toNat i) * 4 + 1) = some (ptA y)) : evalC (c3X) (ev3X) (feLv) 0 0 60 (feK3) (flT a n i) (feSB q lo hi m xs) = some (fl3 q lo hi y m xs a n i) := by
  have key := fun (bs : List Bool) (r : AExit × List AVal × List AObj) (ob : List Prop) (h : pathP (c3X) (ev3X) (feLv) 0 0 60 [(20, 3, Hint.idx), (20, 5, Hint.load (ptA y))] (feK3) (flT a n i) (feSB q lo hi m xs) bs [] = .ok (r.1, r.2.1, r.2.2, ob)) (hp : allOb ob) => pathP_ok h hp
  unfold fl3
  exact bif_case (P := fun r => evalC (c3X) (ev3X) (feLv) 0 0 60 (feK3) (flT a n i) (feSB q lo hi m xs) = some r)
    (fun h0 => bif_case (P := fun r => evalC (c3X) (ev3X) (feLv) 0 0 60 (feK3) (flT a n i) (feSB q lo hi m xs) = some r)
     (fun h1 => bif_case (P := fun r => evalC (c3X) (ev3X) (feLv) 0 0 60 (feK3) (flT a n i) (feSB q lo hi m xs) = some r)
      (fun h2 => bif_case (P := fun r => evalC (c3X) (ev3X) (feLv) 0 0 60 (feK3) (flT a n i) (feSB q lo hi m xs) = some r)
       (fun h3 => bif_case (P := fun r => evalC (c3X) (ev3X) (feLv) 0 0 60 (feK3) (flT a n i) (feSB q lo hi m xs) = some r)
        (fun h4 => bif_case (P := fun r => evalC (c3X) (ev3X) (feLv) 0 0 60 (feK3) (flT a n i) (feSB q lo hi m xs) = some r)
         (fun h5 => key [true, true, true, true, true, true] ((AExit.normal, ((jk 5 ++ [AVal.ptr 0 0 0, AVal.ptr 1 0 0, AVal.ptr 2 0 0, AVal.junk, AVal.ptr 3 0 0] ++ jk 4 ++ [iA (IntKind.i64.wrap (i + 1)), iA (IntKind.i64.wrap (n + 1)), iA (IntKind.i64.wrap (i + 1))] ++ jk 180), ([AObj.box [iA (Prod.fst q), iA (Prod.snd q)], AObj.box [iA (Prod.fst lo), iA (Prod.snd lo)], AObj.box [iA (Prod.fst hi), iA (Prod.snd hi)], AObj.box [AVal.row 5 0 4 0 m, AVal.v (Value.slice none 0 0)], AObj.box [iA (Prod.fst y), iA (Prod.snd y)], AObj.row 4 0 none xs])))) _ (by kernel_rfl) (allOb_cons h5 (allOb_cons h4 (allOb_cons h3 (allOb_cons h2 (allOb_cons h1 (allOb_cons (by exact (e0 h0)) (allOb_cons (b0 h0) (allOb_cons h0 allOb_nil)))))))))
         (fun h5 => key [true, true, true, true, true, false] ((AExit.normal, ((jk 5 ++ [AVal.ptr 0 0 0, AVal.ptr 1 0 0, AVal.ptr 2 0 0, AVal.junk, AVal.ptr 3 0 0] ++ jk 4 ++ [iA (IntKind.i64.wrap (i + 1)), iA n, iA (IntKind.i64.wrap (i + 1))] ++ jk 180), ([AObj.box [iA (Prod.fst q), iA (Prod.snd q)], AObj.box [iA (Prod.fst lo), iA (Prod.snd lo)], AObj.box [iA (Prod.fst hi), iA (Prod.snd hi)], AObj.box [AVal.row 5 0 4 0 m, AVal.v (Value.slice none 0 0)], AObj.box [iA (Prod.fst y), iA (Prod.snd y)], AObj.row 4 0 none xs])))) _ (by kernel_rfl) (allOb_cons h5 (allOb_cons h4 (allOb_cons h3 (allOb_cons h2 (allOb_cons h1 (allOb_cons (by exact (e0 h0)) (allOb_cons (b0 h0) (allOb_cons h0 allOb_nil))))))))))
        (fun h4 => key [true, true, true, true, false, false] ((AExit.normal, ((jk 5 ++ [AVal.ptr 0 0 0, AVal.ptr 1 0 0, AVal.ptr 2 0 0, AVal.junk, AVal.ptr 3 0 0] ++ jk 4 ++ [iA (IntKind.i64.wrap (i + 1)), iA n, iA (IntKind.i64.wrap (i + 1))] ++ jk 180), ([AObj.box [iA (Prod.fst q), iA (Prod.snd q)], AObj.box [iA (Prod.fst lo), iA (Prod.snd lo)], AObj.box [iA (Prod.fst hi), iA (Prod.snd hi)], AObj.box [AVal.row 5 0 4 0 m, AVal.v (Value.slice none 0 0)], AObj.box [iA (Prod.fst y), iA (Prod.snd y)], AObj.row 4 0 none xs])))) _ (by kernel_rfl) (allOb_cons lit_f (allOb_cons h4 (allOb_cons h3 (allOb_cons h2 (allOb_cons h1 (allOb_cons (by exact (e0 h0)) (allOb_cons (b0 h0) (allOb_cons h0 allOb_nil))))))))))
       (fun h3 => key [true, true, true, false, false, false] ((AExit.normal, ((jk 5 ++ [AVal.ptr 0 0 0, AVal.ptr 1 0 0, AVal.ptr 2 0 0, AVal.junk, AVal.ptr 3 0 0] ++ jk 4 ++ [iA (IntKind.i64.wrap (i + 1)), iA n, iA (IntKind.i64.wrap (i + 1))] ++ jk 180), ([AObj.box [iA (Prod.fst q), iA (Prod.snd q)], AObj.box [iA (Prod.fst lo), iA (Prod.snd lo)], AObj.box [iA (Prod.fst hi), iA (Prod.snd hi)], AObj.box [AVal.row 5 0 4 0 m, AVal.v (Value.slice none 0 0)], AObj.box [iA (Prod.fst y), iA (Prod.snd y)], AObj.row 4 0 none xs])))) _ (by kernel_rfl) (allOb_cons lit_f (allOb_cons lit_f (allOb_cons h3 (allOb_cons h2 (allOb_cons h1 (allOb_cons (by exact (e0 h0)) (allOb_cons (b0 h0) (allOb_cons h0 allOb_nil))))))))))
      (fun h2 => key [true, true, false, false, false, false] ((AExit.normal, ((jk 5 ++ [AVal.ptr 0 0 0, AVal.ptr 1 0 0, AVal.ptr 2 0 0, AVal.junk, AVal.ptr 3 0 0] ++ jk 4 ++ [iA (IntKind.i64.wrap (i + 1)), iA n, iA (IntKind.i64.wrap (i + 1))] ++ jk 180), ([AObj.box [iA (Prod.fst q), iA (Prod.snd q)], AObj.box [iA (Prod.fst lo), iA (Prod.snd lo)], AObj.box [iA (Prod.fst hi), iA (Prod.snd hi)], AObj.box [AVal.row 5 0 4 0 m, AVal.v (Value.slice none 0 0)], AObj.box [iA (Prod.fst y), iA (Prod.snd y)], AObj.row 4 0 none xs])))) _ (by kernel_rfl) (allOb_cons lit_f (allOb_cons lit_f (allOb_cons lit_f (allOb_cons h2 (allOb_cons h1 (allOb_cons (by exact (e0 h0)) (allOb_cons (b0 h0) (allOb_cons h0 allOb_nil))))))))))
     (fun h1 => bif_case (P := fun r => evalC (c3X) (ev3X) (feLv) 0 0 60 (feK3) (flT a n i) (feSB q lo hi m xs) = some r)
      (fun h2 => bif_case (P := fun r => evalC (c3X) (ev3X) (feLv) 0 0 60 (feK3) (flT a n i) (feSB q lo hi m xs) = some r)
       (fun h3 => bif_case (P := fun r => evalC (c3X) (ev3X) (feLv) 0 0 60 (feK3) (flT a n i) (feSB q lo hi m xs) = some r)
        (fun h4 => bif_case (P := fun r => evalC (c3X) (ev3X) (feLv) 0 0 60 (feK3) (flT a n i) (feSB q lo hi m xs) = some r)
         (fun h5 => key [true, false, true, true, true, true] ((AExit.normal, ((jk 5 ++ [AVal.ptr 0 0 0, AVal.ptr 1 0 0, AVal.ptr 2 0 0, AVal.junk, AVal.ptr 3 0 0] ++ jk 4 ++ [iA a, iA (IntKind.i64.wrap (n + 1)), iA (IntKind.i64.wrap (i + 1))] ++ jk 180), ([AObj.box [iA (Prod.fst q), iA (Prod.snd q)], AObj.box [iA (Prod.fst lo), iA (Prod.snd lo)], AObj.box [iA (Prod.fst hi), iA (Prod.snd hi)], AObj.box [AVal.row 5 0 4 0 m, AVal.v (Value.slice none 0 0)], AObj.box [iA (Prod.fst y), iA (Prod.snd y)], AObj.row 4 0 none xs])))) _ (by kernel_rfl) (allOb_cons h5 (allOb_cons h4 (allOb_cons h3 (allOb_cons h2 (allOb_cons h1 (allOb_cons (by exact (e0 h0)) (allOb_cons (b0 h0) (allOb_cons h0 allOb_nil)))))))))
         (fun h5 => key [true, false, true, true, true, false] ((AExit.normal, ((jk 5 ++ [AVal.ptr 0 0 0, AVal.ptr 1 0 0, AVal.ptr 2 0 0, AVal.junk, AVal.ptr 3 0 0] ++ jk 4 ++ [iA a, iA n, iA (IntKind.i64.wrap (i + 1))] ++ jk 180), ([AObj.box [iA (Prod.fst q), iA (Prod.snd q)], AObj.box [iA (Prod.fst lo), iA (Prod.snd lo)], AObj.box [iA (Prod.fst hi), iA (Prod.snd hi)], AObj.box [AVal.row 5 0 4 0 m, AVal.v (Value.slice none 0 0)], AObj.box [iA (Prod.fst y), iA (Prod.snd y)], AObj.row 4 0 none xs])))) _ (by kernel_rfl) (allOb_cons h5 (allOb_cons h4 (allOb_cons h3 (allOb_cons h2 (allOb_cons h1 (allOb_cons (by exact (e0 h0)) (allOb_cons (b0 h0) (allOb_cons h0 allOb_nil))))))))))
        (fun h4 => key [true, false, true, true, false, false] ((AExit.normal, ((jk 5 ++ [AVal.ptr 0 0 0, AVal.ptr 1 0 0, AVal.ptr 2 0 0, AVal.junk, AVal.ptr 3 0 0] ++ jk 4 ++ [iA a, iA n, iA (IntKind.i64.wrap (i + 1))] ++ jk 180), ([AObj.box [iA (Prod.fst q), iA (Prod.snd q)], AObj.box [iA (Prod.fst lo), iA (Prod.snd lo)], AObj.box [iA (Prod.fst hi), iA (Prod.snd hi)], AObj.box [AVal.row 5 0 4 0 m, AVal.v (Value.slice none 0 0)], AObj.box [iA (Prod.fst y), iA (Prod.snd y)], AObj.row 4 0 none xs])))) _ (by kernel_rfl) (allOb_cons lit_f (allOb_cons h4 (allOb_cons h3 (allOb_cons h2 (allOb_cons h1 (allOb_cons (by exact (e0 h0)) (allOb_cons (b0 h0) (allOb_cons h0 allOb_nil))))))))))
       (fun h3 => key [true, false, true, false, false, false] ((AExit.normal, ((jk 5 ++ [AVal.ptr 0 0 0, AVal.ptr 1 0 0, AVal.ptr 2 0 0, AVal.junk, AVal.ptr 3 0 0] ++ jk 4 ++ [iA a, iA n, iA (IntKind.i64.wrap (i + 1))] ++ jk 180), ([AObj.box [iA (Prod.fst q), iA (Prod.snd q)], AObj.box [iA (Prod.fst lo), iA (Prod.snd lo)], AObj.box [iA (Prod.fst hi), iA (Prod.snd hi)], AObj.box [AVal.row 5 0 4 0 m, AVal.v (Value.slice none 0 0)], AObj.box [iA (Prod.fst y), iA (Prod.snd y)], AObj.row 4 0 none xs])))) _ (by kernel_rfl) (allOb_cons lit_f (allOb_cons lit_f (allOb_cons h3 (allOb_cons h2 (allOb_cons h1 (allOb_cons (by exact (e0 h0)) (allOb_cons (b0 h0) (allOb_cons h0 allOb_nil))))))))))
      (fun h2 => key [true, false, false, false, false, false] ((AExit.normal, ((jk 5 ++ [AVal.ptr 0 0 0, AVal.ptr 1 0 0, AVal.ptr 2 0 0, AVal.junk, AVal.ptr 3 0 0] ++ jk 4 ++ [iA a, iA n, iA (IntKind.i64.wrap (i + 1))] ++ jk 180), ([AObj.box [iA (Prod.fst q), iA (Prod.snd q)], AObj.box [iA (Prod.fst lo), iA (Prod.snd lo)], AObj.box [iA (Prod.fst hi), iA (Prod.snd hi)], AObj.box [AVal.row 5 0 4 0 m, AVal.v (Value.slice none 0 0)], AObj.box [iA (Prod.fst y), iA (Prod.snd y)], AObj.row 4 0 none xs])))) _ (by kernel_rfl) (allOb_cons lit_f (allOb_cons lit_f (allOb_cons lit_f (allOb_cons h2 (allOb_cons h1 (allOb_cons (by exact (e0 h0)) (allOb_cons (b0 h0) (allOb_cons h0 allOb_nil)))))))))))
    (fun h0 => key [false] ((AExit.exit 4, ((jk 5 ++ [AVal.ptr 0 0 0, AVal.ptr 1 0 0, AVal.ptr 2 0 0, AVal.junk, AVal.ptr 3 0 0] ++ jk 4 ++ [iA a, iA n, iA i] ++ jk 86 ++ [bA false] ++ jk 93), ([AObj.box [iA (Prod.fst q), iA (Prod.snd q)], AObj.box [iA (Prod.fst lo), iA (Prod.snd lo)], AObj.box [iA (Prod.fst hi), iA (Prod.snd hi)], AObj.box [AVal.row 5 0 4 0 m, AVal.v (Value.slice none 0 0)], AObj.free, AObj.row 4 0 none xs])))) _ (by kernel_rfl) (allOb_cons h0 allOb_nil))
def feZB (L : Lib Tryz.prog) (q : P2) (lo : P2) (hi : P2) (ns : List Nd) (a : Int) (n : Int) (nd : Int) (ok : Bool) (x : PVal) (ids : List Int) : AExit × List AVal × List AObj :=
  (bif nd == a then (bif ok == (a == 0) then (bif (↑(List.length ids) : Int) == n then (AExit.ret, ((jk 8 ++ [bA true] ++ jk 188), ([AObj.box [iA (Prod.fst q), iA (Prod.snd q)], AObj.box [iA (Prod.fst lo), iA (Prod.snd lo)], AObj.box [iA (Prod.fst hi), iA (Prod.snd hi)], AObj.box [AVal.row 5 0 4 0 (List.length ns), AVal.v (Value.slice none 0 0)], AObj.free, AObj.row 4 0 (some (List.length (upL (flatN ns)))) (upL (flatN ns))]))) else (AExit.ret, ((jk 8 ++ [bA false] ++ jk 188), ([AObj.box [iA (Prod.fst q), iA (Prod.snd q)], AObj.box [iA (Prod.fst lo), iA (Prod.snd lo)], AObj.box [iA (Prod.fst hi), iA (Prod.snd hi)], AObj.box [AVal.row 5 0 4 0 (List.length ns), AVal.v (Value.slice none 0 0)], AObj.free, AObj.row 4 0 (some (List.length (upL (flatN ns)))) (upL (flatN ns))])))) else (AExit.ret, ((jk 8 ++ [bA false] ++ jk 188), ([AObj.box [iA (Prod.fst q), iA (Prod.snd q)], AObj.box [iA (Prod.fst lo), iA (Prod.snd lo)], AObj.box [iA (Prod.fst hi), iA (Prod.snd hi)], AObj.box [AVal.row 5 0 4 0 (List.length ns), AVal.v (Value.slice none 0 0)], AObj.free, AObj.row 4 0 (some (List.length (upL (flatN ns)))) (upL (flatN ns))])))) else (AExit.ret, ((jk 8 ++ [bA false] ++ jk 188), ([AObj.box [iA (Prod.fst q), iA (Prod.snd q)], AObj.box [iA (Prod.fst lo), iA (Prod.snd lo)], AObj.box [iA (Prod.fst hi), iA (Prod.snd hi)], AObj.box [AVal.row 5 0 4 0 (List.length ns), AVal.v (Value.slice none 0 0)], AObj.free, AObj.row 4 0 (some (List.length (upL (flatN ns)))) (upL (flatN ns))]))))
theorem feZB_eq (L : Lib Tryz.prog) (q : P2) (lo : P2) (hi : P2) (ns : List Nd) (a : Int) (n : Int) (nd : Int) (ok : Bool) (x : PVal) (ids : List Int) (e0 : pureCall (cfM L) (evalF (cfM L) 60) 31 [PVal.agg [PVal.list (List.length ns) (flatN ns), PVal.v (Value.slice none 0 0)], ptP q] = some (PVal.tup [iP (Int.ofNat 0), bP ok])) (e1 : mapO (peek [AObj.box [iA (Prod.fst q), iA (Prod.snd q)], AObj.box [iA (Prod.fst lo), iA (Prod.snd lo)], AObj.box [iA (Prod.fst hi), iA (Prod.snd hi)], AObj.box [AVal.row 5 0 4 0 (List.length ns), AVal.v (Value.slice none 0 0)], AObj.free, AObj.row 4 0 (some (List.length (upL (flatN ns)))) (upL (flatN ns))] deep) [AVal.agg [AVal.row 5 0 4 0 (List.length ns), AVal.v (Value.slice none 0 0)], ptA q] = some [PVal.agg [PVal.list (List.length ns) (flatN ns), PVal.v (Value.slice none 0 0)], ptP q]) (e2 : List.foldl (Vm.mark 0 deep) [AObj.box [iA (Prod.fst q), iA (Prod.snd q)], AObj.box [iA (Prod.fst lo), iA (Prod.snd lo)], AObj.box [iA (Prod.fst hi), iA (Prod.snd hi)], AObj.box [AVal.row 5 0 4 0 (List.length ns), AVal.v (Value.slice none 0 0)], AObj.free, AObj.row 4 0 none (upL (flatN ns))] [AVal.agg [AVal.row 5 0 4 0 (List.length ns), AVal.v (Value.slice none 0 0)], ptA q] = [AObj.box [iA (Prod.fst q), iA (Prod.snd q)], AObj.box [iA (Prod.fst lo), iA (Prod.snd lo)], AObj.box [iA (Prod.fst hi), iA (Prod.snd hi)], AObj.box [AVal.row 5 0 4 0 (List.length ns), AVal.v (Value.slice none 0 0)], AObj.free, AObj.row 4 0 (some (List.length (upL (flatN ns)))) (upL (flatN ns))]) (e3 : pureCall (cfM L) (evalF (cfM L) 60) 37 [PVal.agg [PVal.list (List.length ns) (flatN ns), PVal.v (Value.slice none 0 0)]] = some (PVal.ptr [x, PVal.v (Value.slice none 0 0)])) (e4 : mapO (peek [AObj.box [iA (Prod.fst q), iA (Prod.snd q)], AObj.box [iA (Prod.fst lo), iA (Prod.snd lo)], AObj.box [iA (Prod.fst hi), iA (Prod.snd hi)], AObj.box [AVal.row 5 0 4 0 (List.length ns), AVal.v (Value.slice none 0 0)], AObj.free, AObj.row 4 0 (some (List.length (upL (flatN ns)))) (upL (flatN ns))] deep) [AVal.agg [AVal.row 5 0 4 0 (List.length ns), AVal.v (Value.slice none 0 0)]] = some [PVal.agg [PVal.list (List.length ns) (flatN ns), PVal.v (Value.slice none 0 0)]]) (e5 : List.foldl (Vm.mark 0 deep) [AObj.box [iA (Prod.fst q), iA (Prod.snd q)], AObj.box [iA (Prod.fst lo), iA (Prod.snd lo)], AObj.box [iA (Prod.fst hi), iA (Prod.snd hi)], AObj.box [AVal.row 5 0 4 0 (List.length ns), AVal.v (Value.slice none 0 0)], AObj.free, AObj.row 4 0 (some (List.length (upL (flatN ns)))) (upL (flatN ns))] [AVal.agg [AVal.row 5 0 4 0 (List.length ns), AVal.v (Value.slice none 0 0)]] = [AObj.box [iA (Prod.fst q), iA (Prod.snd q)], AObj.box [iA (Prod.fst lo), iA (Prod.snd lo)], AObj.box [iA (Prod.fst hi), iA (Prod.snd hi)], AObj.box [AVal.row 5 0 4 0 (List.length ns), AVal.v (Value.slice none 0 0)], AObj.free, AObj.row 4 0 (some (List.length (upL (flatN ns)))) (upL (flatN ns))]) (e6 : pureCall (cfM L) (evalF (cfM L) 60) 38 [PVal.ptr [x, PVal.v (Value.slice none 0 0)], ptP lo, ptP hi] = some (PVal.tup [PVal.list (List.length ids) (intP ids), PVal.v (Value.slice none 0 0)])) (e7 : pureCall (cfM L) (evalF (cfM L) 60) 33 [PVal.agg [PVal.list (List.length ns) (flatN ns), PVal.v (Value.slice none 0 0)], ptP q] = some (iP nd)) (e8 : List.foldl (Vm.mark 0 deep) [AObj.box [iA (Prod.fst q), iA (Prod.snd q)], AObj.box [iA (Prod.fst lo), iA (Prod.snd lo)], AObj.box [iA (Prod.fst hi), iA (Prod.snd hi)], AObj.box [AVal.row 5 0 4 0 (List.length ns), AVal.v (Value.slice none 0 0)], AObj.free, AObj.row 4 0 (some (List.length (upL (flatN ns)))) (upL (flatN ns))] [AVal.agg [AVal.row 5 0 4 0 (List.length ns), AVal.v (Value.slice none 0 0)], ptA q] = [AObj.box [iA (Prod.fst q), iA (Prod.snd q)], AObj.box [iA (Prod.fst lo), iA (Prod.snd lo)], AObj.box [iA (Prod.fst hi), iA (Prod.snd hi)], AObj.box [AVal.row 5 0 4 0 (List.length ns), AVal.v (Value.slice none 0 0)], AObj.free, AObj.row 4 0 (some (List.length (upL (flatN ns)))) (upL (flatN ns))]) (e9 : (nd == a) = true → (ok == (a == 0)) = true → ((↑(List.length ids) : Int) == n) = true → pureCall (cfM L) (evalF (cfM L) 60) 39 [PVal.agg [PVal.list (List.length ns) (flatN ns), PVal.v (Value.slice none 0 0)], iP (Int.ofNat 0)] = some (PVal.v (Value.slice none 0 0))) (e10 : (nd == a) = true → (ok == (a == 0)) = true → ((↑(List.length ids) : Int) == n) = true → mapO (peek [AObj.box [iA (Prod.fst q), iA (Prod.snd q)], AObj.box [iA (Prod.fst lo), iA (Prod.snd lo)], AObj.box [iA (Prod.fst hi), iA (Prod.snd hi)], AObj.box [AVal.row 5 0 4 0 (List.length ns), AVal.v (Value.slice none 0 0)], AObj.free, AObj.row 4 0 (some (List.length (upL (flatN ns)))) (upL (flatN ns))] deep) [AVal.agg [AVal.row 5 0 4 0 (List.length ns), AVal.v (Value.slice none 0 0)], iA (Int.ofNat 0)] = some [PVal.agg [PVal.list (List.length ns) (flatN ns), PVal.v (Value.slice none 0 0)], iP (Int.ofNat 0)]) (e11 : (nd == a) = true → (ok == (a == 0)) = true → ((↑(List.length ids) : Int) == n) = true → List.foldl (Vm.mark 0 deep) [AObj.box [iA (Prod.fst q), iA (Prod.snd q)], AObj.box [iA (Prod.fst lo), iA (Prod.snd lo)], AObj.box [iA (Prod.fst hi), iA (Prod.snd hi)], AObj.box [AVal.row 5 0 4 0 (List.length ns), AVal.v (Value.slice none 0 0)], AObj.free, AObj.row 4 0 (some (List.length (upL (flatN ns)))) (upL (flatN ns))] [AVal.agg [AVal.row 5 0 4 0 (List.length ns), AVal.v (Value.slice none 0 0)], iA (Int.ofNat 0)] = [AObj.box [iA (Prod.fst q), iA (Prod.snd q)], AObj.box [iA (Prod.fst lo), iA (Prod.snd lo)], AObj.box [iA (Prod.fst hi), iA (Prod.snd hi)], AObj.box [AVal.row 5 0 4 0 (List.length ns), AVal.v (Value.slice none 0 0)], AObj.free, AObj.row 4 0 (some (List.length (upL (flatN ns)))) (upL (flatN ns))]) (e12 : (nd == a) = true → (ok == (a == 0)) = true → ((↑(List.length ids) : Int) == n) = true → pureCall (cfM L) (evalF (cfM L) 60) 34 [] = some (bP true)) : evalC (cfM L) (evalF (cfM L) 60) (feLv) 0 0 60 (feEnd) (fmT a n) (feSB q lo hi (List.length ns) (upL (flatN ns))) = some (feZB L q lo hi ns a n nd ok x ids) := by
  have key := fun (bs : List Bool) (r : AExit × List AVal × List AObj) (ob : List Prop) (h : pathP (cfM L) (evalF (cfM L) 60) (feLv) 0 0 60 [(25, 2, Hint.pcallV [plN (List.length ns) (flatN ns), ptP q] (PVal.tup [iP 0, bP ok]) fun S => List.set S 5 (AObj.row 4 0 (some (List.length (upL (flatN ns)))) (upL (flatN ns)))), (26, 1, Hint.pcallV [plN (List.length ns) (flatN ns)] (PVal.ptr [x, nilP]) fun S => S), (29, 3, Hint.pcall (PVal.tup [slI ids, nilP])), (30, 2, Hint.pcallV [plN (List.length ns) (flatN ns), ptP q] (iP nd) fun S => S), (30, 28, Hint.pcallV [plN (List.length ns) (flatN ns), iP 0] nilP fun S => S), (30, 33, Hint.pcall (bP true))] (feEnd) (fmT a n) (feSB q lo hi (List.length ns) (upL (flatN ns))) bs [] = .ok (r.1, r.2.1, r.2.2, ob)) (hp : allOb ob) => pathP_ok h hp
  unfold feZB
  exact bif_case (P := fun r => evalC (cfM L) (evalF (cfM L) 60) (feLv) 0 0 60 (feEnd) (fmT a n) (feSB q lo hi (List.length ns) (upL (flatN ns))) = some r)
    (fun h0 => bif_case (P := fun r => evalC (cfM L) (evalF (cfM L) 60) (feLv) 0 0 60 (feEnd) (fmT a n) (feSB q lo hi (List.length ns) (upL (flatN ns))) = some r)
     (fun h1 => bif_case (P := fun r => evalC (cfM L) (evalF (cfM L) 60) (feLv) 0 0 60 (feEnd) (fmT a n) (feSB q lo hi (List.length ns) (upL (flatN ns))) = some r)
      (fun h2 => key [false, true, true, true, true, true, true] ((AExit.ret, ((jk 8 ++ [bA true] ++ jk 188), ([AObj.box [iA (Prod.fst q), iA (Prod.snd q)], AObj.box [iA (Prod.fst lo), iA (Prod.snd lo)], AObj.box [iA (Prod.fst hi), iA (Prod.snd hi)], AObj.box [AVal.row 5 0 4 0 (List.length ns), AVal.v (Value.slice none 0 0)], AObj.free, AObj.row 4 0 (some (List.length (upL (flatN ns)))) (upL (flatN ns))])))) _ (by kernel_rfl) (allOb_cons (by exact (e12 h0 h1 h2)) (allOb_cons lit_t (allOb_cons (by exact (e11 h0 h1 h2)) (allOb_cons (by exact (e10 h0 h1 h2)) (allOb_cons (by exact (e9 h0 h1 h2)) (allOb_cons lit_t (allOb_cons h2 (allOb_cons lit_t (allOb_cons h1 (allOb_cons h0 (allOb_cons (by exact e8) (allOb_cons (by exact e1) (allOb_cons (by exact e7) (allOb_cons (by exact e6) (allOb_cons lit_f (allOb_cons (by exact e5) (allOb_cons (by exact e4) (allOb_cons (by exact e3) (allOb_cons (by exact e2) (allOb_cons (by exact e1) (allOb_cons (by exact e0) allOb_nil))))))))))))))))))))))
      (fun h2 => key [false, true, true, true, false, false, false] ((AExit.ret, ((jk 8 ++ [bA false] ++ jk 188), ([AObj.box [iA (Prod.fst q), iA (Prod.snd q)], AObj.box [iA (Prod.fst lo), iA (Prod.snd lo)], AObj.box [iA (Prod.fst hi), iA (Prod.snd hi)], AObj.box [AVal.row 5 0 4 0 (List.length ns), AVal.v (Value.slice none 0 0)], AObj.free, AObj.row 4 0 (some (List.length (upL (flatN ns)))) (upL (flatN ns))])))) _ (by kernel_rfl) (allOb_cons lit_f (allOb_cons lit_f (allOb_cons h2 (allOb_cons lit_t (allOb_cons h1 (allOb_cons h0 (allOb_cons (by exact e8) (allOb_cons (by exact e1) (allOb_cons (by exact e7) (allOb_cons (by exact e6) (allOb_cons lit_f (allOb_cons (by exact e5) (allOb_cons (by exact e4) (allOb_cons (by exact e3) (allOb_cons (by exact e2) (allOb_cons (by exact e1) (allOb_cons (by exact e0) allOb_nil)))))))))))))))))))
     (fun h1 => key [false, true, false, false, false, false, false] ((AExit.ret, ((jk 8 ++ [bA false] ++ jk 188), ([AObj.box [iA (Prod.fst q), iA (Prod.snd q)], AObj.box [iA (Prod.fst lo), iA (Prod.snd lo)], AObj.box [iA (Prod.fst hi), iA (Prod.snd hi)], AObj.box [AVal.row 5 0 4 0 (List.length ns), AVal.v (Value.slice none 0 0)], AObj.free, AObj.row 4 0 (some (List.length (upL (flatN ns)))) (upL (flatN ns))])))) _ (by kernel_rfl) (allOb_cons lit_f (allOb_cons lit_f (allOb_cons lit_f (allOb_cons lit_f (allOb_cons h1 (allOb_cons h0 (allOb_cons (by exact e8) (allOb_cons (by exact e1) (allOb_cons (by exact e7) (allOb_cons (by exact e6) (allOb_cons lit_f (allOb_cons (by exact e5) (allOb_cons (by exact e4) (allOb_cons (by exact e3) (allOb_cons (by exact e2) (allOb_cons (by exact e1) (allOb_cons (by exact e0) allOb_nil)))))))))))))))))))
    (fun h0 => key [false, false, false, false, false, false, false] ((AExit.ret, ((jk 8 ++ [bA false] ++ jk 188), ([AObj.box [iA (Prod.fst q), iA (Prod.snd q)], AObj.box [iA (Prod.fst lo), iA (Prod.snd lo)], AObj.box [iA (Prod.fst hi), iA (Prod.snd hi)], AObj.box [AVal.row 5 0 4 0 (List.length ns), AVal.v (Value.slice none 0 0)], AObj.free, AObj.row 4 0 (some (List.length (upL (flatN ns)))) (upL (flatN ns))])))) _ (by kernel_rfl) (allOb_cons lit_f (allOb_cons lit_f (allOb_cons lit_f (allOb_cons lit_f (allOb_cons lit_f (allOb_cons h0 (allOb_cons (by exact e8) (allOb_cons (by exact e1) (allOb_cons (by exact e7) (allOb_cons (by exact e6) (allOb_cons lit_f (allOb_cons (by exact e5) (allOb_cons (by exact e4) (allOb_cons (by exact e3) (allOb_cons (by exact e2) (allOb_cons (by exact e1) (allOb_cons (by exact e0) allOb_nil))))))))))))))))))
def feZA (L : Lib Tryz.prog) (q : P2) (lo : P2) (hi : P2) (ok : Bool) (nd : Int) : AExit × List AVal × List AObj :=
  (bif nd == 0 then (bif ok == (0 == 0) then (AExit.ret, ((jk 8 ++ [bA true] ++ jk 188), ([AObj.box [iA (Prod.fst q), iA (Prod.snd q)], AObj.box [iA (Prod.fst lo), iA (Prod.snd lo)], AObj.box [iA (Prod.fst hi), iA (Prod.snd hi)], AObj.box [AVal.v (Value.slice none 0 0), AVal.v (Value.slice none 0 0)]]))) else (AExit.ret, ((jk 8 ++ [bA false] ++ jk 188), ([AObj.box [iA (Prod.fst q), iA (Prod.snd q)], AObj.box [iA (Prod.fst lo), iA (Prod.snd lo)], AObj.box [iA (Prod.fst hi), iA (Prod.snd hi)], AObj.box [AVal.v (Value.slice none 0 0), AVal.v (Value.slice none 0 0)]])))) else (AExit.ret, ((jk 8 ++ [bA false] ++ jk 188), ([AObj.box [iA (Prod.fst q), iA (Prod.snd q)], AObj.box [iA (Prod.fst lo), iA (Prod.snd lo)], AObj.box [iA (Prod.fst hi), iA (Prod.snd hi)], AObj.box [AVal.v (Value.slice none 0 0), AVal.v (Value.slice none 0 0)]]))))
theorem feZA_eq (L : Lib Tryz.prog) (q : P2) (lo : P2) (hi : P2) (ok : Bool) (nd : Int) (e0 : pureCall (cfM L) (evalF (cfM L) 60) 31 [PVal.agg [PVal.v (Value.slice none 0 0), PVal.v (Value.slice none 0 0)], ptP q] = some (PVal.tup [iP (Int.ofNat 0), bP ok])) (e1 : pureCall (cfM L) (evalF (cfM L) 60) 37 [PVal.agg [PVal.v (Value.slice none 0 0), PVal.v (Value.slice none 0 0)]] = some (PVal.ptr [PVal.v (Value.slice none 0 0), PVal.v (Value.slice none 0 0)])) (e2 : pureCall (cfM L) (evalF (cfM L) 60) 38 [PVal.ptr [PVal.v (Value.slice none 0 0), PVal.v (Value.slice none 0 0)], ptP lo, ptP hi] = some (PVal.tup [PVal.list 0 [], PVal.v (Value.slice none 0 0)])) (e3 : pureCall (cfM L) (evalF (cfM L) 60) 33 [PVal.agg [PVal.v (Value.slice none 0 0), PVal.v (Value.slice none 0 0)], ptP q] = some (iP nd)) (e4 : (nd == 0) = true → (ok == (0 == 0)) = true → pureCall (cfM L) (evalF (cfM L) 60) 39 [PVal.agg [PVal.v (Value.slice none 0 0), PVal.v (Value.slice none 0 0)], iP (Int.ofNat 0)] = some (PVal.v (Value.slice none 0 0))) (e5 : (nd == 0) = true → (ok == (0 == 0)) = true → pureCall (cfM L) (evalF (cfM L) 60) 34 [] = some (bP true)) : evalC (cfM L) (evalF (cfM L) 60) (feLv) 0 0 60 (feEnd) (fmT 0 0) (feSA q lo hi) = some (feZA L q lo hi ok nd) := by
  have key := fun (bs : List Bool) (r : AExit × List AVal × List AObj) (ob : List Prop) (h : pathP (cfM L) (evalF (cfM L) 60) (feLv) 0 0 60 [(25, 2, Hint.pcall (PVal.tup [iP 0, bP ok])), (26, 1, Hint.pcall (PVal.ptr [nilP, nilP])), (29, 3, Hint.pcall (PVal.tup [slI [], nilP])), (30, 2, Hint.pcall (iP nd)), (30, 28, Hint.pcall nilP), (30, 33, Hint.pcall (bP true))] (feEnd) (fmT 0 0) (feSA q lo hi) bs [] = .ok (r.1, r.2.1, r.2.2, ob)) (hp : allOb ob) => pathP_ok h hp
  unfold feZA
  exact bif_case (P := fun r => evalC (cfM L) (evalF (cfM L) 60) (feLv) 0 0 60 (feEnd) (fmT 0 0) (feSA q lo hi) = some r)
    (fun h0 => bif_case (P := fun r => evalC (cfM L) (evalF (cfM L) 60) (feLv) 0 0 60 (feEnd) (fmT 0 0) (feSA q lo hi) = some r)
     (fun h1 => key [false, true, true, true, true, true, true] ((AExit.ret, ((jk 8 ++ [bA true] ++ jk 188), ([AObj.box [iA (Prod.fst q), iA (Prod.snd q)], AObj.box [iA (Prod.fst lo), iA (Prod.snd lo)], AObj.box [iA (Prod.fst hi), iA (Prod.snd hi)], AObj.box [AVal.v (Value.slice none 0 0), AVal.v (Value.slice none 0 0)]])))) _ (by kernel_rfl) (allOb_cons (by exact (e5 h0 h1)) (allOb_cons lit_t (allOb_cons (by exact (e4 h0 h1)) (allOb_cons lit_t (allOb_cons lit_t (allOb_cons lit_t (allOb_cons h1 (allOb_cons h0 (allOb_cons (by exact e3) (allOb_cons (by exact e2) (allOb_cons lit_f (allOb_cons (by exact e1) (allOb_cons (by exact e0) allOb_nil))))))))))))))
     (fun h1 => key [false, true, false, false, false, false, false] ((AExit.ret, ((jk 8 ++ [bA false] ++ jk 188), ([AObj.box [iA (Prod.fst q), iA (Prod.snd q)], AObj.box [iA (Prod.fst lo), iA (Prod.snd lo)], AObj.box [iA (Prod.fst hi), iA (Prod.snd hi)], AObj.box [AVal.v (Value.slice none 0 0), AVal.v (Value.slice none 0 0)]])))) _ (by kernel_rfl) (allOb_cons lit_f (allOb_cons lit_f (allOb_cons lit_f (allOb_cons lit_f (allOb_cons h1 (allOb_cons h0 (allOb_cons (by exact e3) (allOb_cons (by exact e2) (allOb_cons lit_f (allOb_cons (by exact e1) (allOb_cons (by exact e0) allOb_nil)))))))))))))
    (fun h0 => key [false, false, false, false, false, false, false] ((AExit.ret, ((jk 8 ++ [bA false] ++ jk 188), ([AObj.box [iA (Prod.fst q), iA (Prod.snd q)], AObj.box [iA (Prod.fst lo), iA (Prod.snd lo)], AObj.box [iA (Prod.fst hi), iA (Prod.snd hi)], AObj.box [AVal.v (Value.slice none 0 0), AVal.v (Value.slice none 0 0)]])))) _ (by kernel_rfl) (allOb_cons lit_f (allOb_cons lit_f (allOb_cons lit_f (allOb_cons lit_f (allOb_cons lit_f (allOb_cons h0 (allOb_cons (by exact e3) (allOb_cons (by exact e2) (allOb_cons lit_f (allOb_cons (by exact e1) (allOb_cons (by exact e0) allOb_nil))))))))))))
end Go.Proofs.YtkkgimhbliocoaaGreat
/- FindEmpty: its last loop, and what its numbers are. -/
namespace Go.Proofs.YtkkgimhbliocoaaGreat
open Go Vm M
set_option linter.unusedVariables false
set_option linter.unusedSectionVars false
set_option linter.unusedSimpArgs false
set_option maxRecDepth 100000
def atU (ns : List Nd) (q : P2) : Nat → Nat
  | 0 => 0
  | k + 1 => bif eqB (nAt ns k).2.1 q then k + 1 else atU ns q k
def inWin (lo hi y : P2) : Bool := decide (y.1 ≥ lo.1) && (decide (y.1 ≤ hi.1) && (decide (y.2 ≥ lo.2) && decide (y.2 ≤ hi.2)))
def cntU (ns : List Nd) (lo hi : P2) : Nat → Nat
  | 0 => 0
  | k + 1 => bif inWin lo hi (nAt ns k).2.1 then cntU ns lo hi k + 1 else cntU ns lo hi k
theorem cntU_le (ns : List Nd) (lo hi : P2) : ∀ k, cntU ns lo hi k ≤ k
  | 0 => Nat.le_refl _
  | k + 1 => by
    have := cntU_le ns lo hi k
    unfold cntU
    cases inWin lo hi (nAt ns k).2.1 <;> simp <;> omega
section
variable (q lo hi : P2) (ns : List Nd)
theorem partNP2 {k : Nat} (h : k < ns.length) : partA Tryz.prog 27 (upL (flatN ns)) ((0 + Int.toNat (k : Int)) * 4 + 1) = some (ptA (nAt ns k).2.1) := partNP h
theorem fl_round (hl : ns.length ≤ 1000) {k : Nat} (h : k < ns.length) : EV c3X 0 feK3 (flT (atU ns q k) (cntU ns lo hi k) k) (feSB q lo hi ns.length (upL (flatN ns))) .normal (flT (atU ns q (k + 1)) (cntU ns lo hi (k + 1)) (k + 1 : Nat)) (feSB q lo hi ns.length (upL (flatN ns))) := by
  have hc := cntU_le ns lo hi k
  have e := fl3_eq q lo hi (nAt ns k).2.1 ns.length (upL (flatN ns)) (atU ns q k) (cntU ns lo hi k) k (fun _ => by omega) (fun _ => partNP h)
  unfold fl3 at e
  rw [decide_eq_true (by omega : (k : Int) < (ns.length : Int)), cond_true, wrS (k := k) (by omega), wrS (k := cntU ns lo hi k) (by omega)] at e
  have hp : ∀ {S : List AObj} {o : Nat} (hS : S[5]? = some (.row 4 0 none (upL (flatN ns)))), o ∈ [5] → ∀ y, S[o]? = some y → plainO y = true := fun hS hq y hy => by
    simp only [List.mem_singleton] at hq
    subst hq
    rw [hS] at hy
    have := (Option.some.inj hy).symm
    subst this
    exact flatN_plain _
  show EV _ _ _ _ _ _ (flT ((bif eqB (nAt ns k).2.1 q then k + 1 else atU ns q k : Nat) : Int) ((bif inWin lo hi (nAt ns k).2.1 then cntU ns lo hi k + 1 else cntU ns lo hi k : Nat) : Int) (k + 1 : Nat)) _
  unfold inWin
  cases c0 : eqB (nAt ns k).2.1 q <;> cases c1 : decide ((nAt ns k).2.1.1 ≥ lo.1) <;> (try cases c2 : decide ((nAt ns k).2.1.1 ≤ hi.1)) <;> (try cases c3 : decide ((nAt ns k).2.1.2 ≥ lo.2)) <;> (try cases c4 : decide ((nAt ns k).2.1.2 ≤ hi.2)) <;>
    (simp only [c0, c1, cond_true, cond_false] at e; (try simp only [c2, cond_true, cond_false] at e); (try simp only [c3, cond_true, cond_false] at e); (try simp only [c4, cond_true, cond_false] at e)
     exact EV.tidy [5] (EV.of c3X_ok ev3X_ok e) (fun o hq => hp rfl hq) (by kernel_rfl))
theorem fl_end (a n : Int) : EV c3X 0 feK3 (flT a n ns.length) (feSB q lo hi ns.length (upL (flatN ns))) (.exit 4) (fmT a n) (feSB q lo hi ns.length (upL (flatN ns))) := by
  have hd : decide ((ns.length : Int) < (ns.length : Int)) = false := decide_eq_false (by omega)
  have e := fl3_eq q lo hi q ns.length (upL (flatN ns)) a n ns.length (fun h => by rw [hd] at h; cases h) (fun h => by rw [hd] at h; cases h)
  unfold fl3 at e
  rw [hd, cond_false] at e
  have e2 := EV.fade 49888 (EV.of (base := 0) c3X_ok ev3X_ok (T' := (flT a n ns.length).set 103 (bA false)) (S' := feSB q lo hi ns.length (upL (flatN ns))) e)
  have ef : forget 49888 ((flT a n ns.length).set 103 (bA false)) = fmT a n := by kernel_rfl
  rw [ef] at e2
  exact e2
theorem fl_loop (hl : ns.length ≤ 1000) : EV c3X 0 (.loop feK3) (flT (0 : Nat) (0 : Nat) (0 : Nat)) (feSB q lo hi ns.length (upL (flatN ns))) (.exit 4) (fmT (atU ns q ns.length) (cntU ns lo hi ns.length)) (feSB q lo hi ns.length (upL (flatN ns))) :=
  EV.loop (n := ns.length) (T := fun k => flT (atU ns q k) (cntU ns lo hi k) k) (S := fun _ => feSB q lo hi ns.length (upL (flatN ns))) (fun k hk => fl_round q lo hi ns hl hk) (fl_end q lo hi ns _ _) (by simp)
end
/-! ## what the numbers are -/
/-- Numbers from 1 on, no point twice, all in the grid. -/
structure Gd (ns : List Nd) : Prop where
  id : ∀ k, k < ns.length → (nAt ns k).1 = ((k + 1 : Nat) : Int)
  one : ∀ j k, j < ns.length → k < ns.length → (nAt ns j).2.1 = (nAt ns k).2.1 → j = k
  grid : ∀ k, k < ns.length → inGr (nAt ns k).2.1
theorem oldU_no {ns : List Nd} {x : P2} : ∀ {n : Nat}, oldU ns x n = false → ∀ k, k < n → (nAt ns k).2.1 ≠ x
  | n + 1, h, k, hk => by
    unfold oldU at h
    rw [Bool.or_eq_false_iff] at h
    by_cases hkn : k = n
    · subst hkn
      intro he
      rw [eqB_iff.2 he] at h
      cases h.2
    · exact oldU_no h.1 k (by omega)
theorem nAt_lt {ns : List Nd} {n : Nd} {k : Nat} (h : k < ns.length) : nAt (ns ++ [n]) k = nAt ns k := nAt_get (by rw [List.getElem?_append_left h]; rw [nAt_get (List.getElem?_eq_getElem h)]; exact List.getElem?_eq_getElem h)
theorem nAt_last {ns : List Nd} {n : Nd} : nAt (ns ++ [n]) ns.length = n := nAt_get (by rw [List.getElem?_append_right (Nat.le_refl _), Nat.sub_self]; rfl)
theorem Gd.nx {ns : List Nd} {x : P2} (h : Gd ns) (hx : inGr x) : Gd (nx ns x) := by
  unfold Go.Proofs.YtkkgimhbliocoaaGreat.nx
  cases ho : oldU ns x ns.length with
  | true => exact h
  | false =>
    have hno := oldU_no ho
    rw [cond_false]
    refine ⟨fun k hk => ?_, fun j k hj hk he => ?_, fun k hk => ?_⟩
    · rw [List.length_append, List.length_singleton] at hk
      by_cases hkl : k < ns.length
      · rw [nAt_lt hkl]; exact h.id k hkl
      · have : k = ns.length := by omega
        subst this
        rw [nAt_last]
    · rw [List.length_append, List.length_singleton] at hj hk
      by_cases hjl : j < ns.length
      · by_cases hkl : k < ns.length
        · rw [nAt_lt hjl, nAt_lt hkl] at he
          exact h.one j k hjl hkl he
        · have : k = ns.length := by omega
          subst this
          rw [nAt_lt hjl, nAt_last] at he
          exact absurd he (hno j hjl)
      · have hj2 : j = ns.length := by omega
        subst hj2
        by_cases hkl : k < ns.length
        · rw [nAt_lt hkl, nAt_last] at he
          exact absurd he.symm (hno k hkl)
        · omega
    · rw [List.length_append, List.length_singleton] at hk
      by_cases hkl : k < ns.length
      · rw [nAt_lt hkl]; exact h.grid k hkl
      · have : k = ns.length := by omega
        subst this
        rw [nAt_last]
        exact hx
theorem md_in (p : P2) : inGr (md p) := by
  have h : ∀ x : Int, -1048576 ≤ x.tmod 1048577 ∧ x.tmod 1048577 ≤ 1048576 := fun x => by
    rcases Int.le_total 0 x with h0 | h0
    · rw [Int.tmod_eq_emod_of_nonneg h0]; omega
    · have : x.tmod 1048577 = -((-x).tmod 1048577) := by rw [Int.neg_tmod]; omega
      rw [this, Int.tmod_eq_emod_of_nonneg (by omega)]
      omega
  exact ⟨(h p.1).1, (h p.1).2, (h p.2).1, (h p.2).2⟩
theorem nsX_gd (l : List P2) : ∀ i, Gd (nsX l i)
  | 0 => ⟨fun k hk => by simp [nsX] at hk, fun j k hj => by simp [nsX] at hj, fun k hk => by simp [nsX] at hk⟩
  | i + 1 => (nsX_gd l i).nx (md_in _)
theorem atU_spec {ns : List Nd} (hg : Gd ns) (q : P2) : ∀ n, n ≤ ns.length → (atU ns q n = 0 ∧ ∀ k, k < n → atP ns q k = false) ∨ (∃ j, j < n ∧ atP ns q j = true ∧ atU ns q n = j + 1)
  | 0, _ => .inl ⟨rfl, fun k hk => by omega⟩
  | n + 1, h => by
    unfold atU
    cases hb : eqB (nAt ns n).2.1 q with
    | true => exact .inr ⟨n, by omega, hb, by rw [cond_true]⟩
    | false =>
      rw [cond_false]
      rcases atU_spec hg q n (by omega) with ⟨h1, h2⟩ | ⟨j, h1, h2, h3⟩
      · refine .inl ⟨h1, fun k hk => ?_⟩
        by_cases hkn : k = n
        · subst hkn; exact hb
        · exact h2 k (by omega)
      · exact .inr ⟨j, by omega, h2, h3⟩
theorem at_facts {ns : List Nd} (hg : Gd ns) (q : P2) : ndAt ns q = (atU ns q ns.length : Int) ∧ ((!hasN ns q) == (((atU ns q ns.length : Nat) : Int) == 0)) = true := by
  rcases atU_spec hg q ns.length (Nat.le_refl _) with ⟨h1, h2⟩ | ⟨j, h1, h2, h3⟩
  · have hf : firstAt (atP ns q) ns.length 0 = none := firstAt_eq_none fun k _ hk => h2 k (by omega)
    unfold ndAt hasN
    rw [hf, h1]
    exact ⟨rfl, rfl⟩
  · have hf : firstAt (atP ns q) ns.length 0 = some j := firstAt_eq_some (by omega) (by omega) h2 (fun i _ hi => by
      cases hb : atP ns q i with
      | false => rfl
      | true =>
        have e1 := eqB_iff.1 hb
        have e2 := eqB_iff.1 h2
        have := hg.one i j (by omega) h1 (e1.trans e2.symm)
        omega)
    unfold ndAt hasN
    rw [hf, h3]
    refine ⟨hg.id j h1, ?_⟩
    rw [show (((j + 1 : Nat) : Int) == 0) = false from beq_eq_false_iff_ne.2 (by omega)]
    rfl
theorem cnt_facts {ns : List Nd} (hg : Gd ns) {lo hi : P2} (h1 : inGr lo) (h2 : inGr hi) : ∀ k, k ≤ ns.length → (hitL (ns.map nBx) lo hi k).length = cntU ns lo hi k
  | 0, _ => rfl
  | k + 1, h => by
    have ih := cnt_facts hg h1 h2 k (by omega)
    have hb : bAt (ns.map nBx) k = nBx (nAt ns k) := bAt_get (by rw [List.getElem?_map, List.getElem?_eq_getElem (by omega : k < ns.length), nAt_get (List.getElem?_eq_getElem (by omega : k < ns.length))]; rfl)
    have hw : hitB lo hi (nBx (nAt ns k)) = inWin lo hi (nAt ns k).2.1 := by
      show meetB (nAt ns k).2.1 (nAt ns k).2.1 lo hi = _
      unfold meetB
      rw [nearIn (hg.grid k (by omega)), nearIn h1, nearIn h2]
      unfold leP inWin
      generalize (nAt ns k).2.1 = y
      by_cases a1 : y.1 ≥ lo.1 <;> by_cases a2 : y.1 ≤ hi.1 <;> by_cases a3 : y.2 ≥ lo.2 <;> by_cases a4 : y.2 ≤ hi.2 <;> by_cases a5 : lo.1 ≤ hi.1 <;> by_cases a6 : lo.2 ≤ hi.2 <;>
        first | (simp [a1, a2, a3, a4, a5, a6]; done) | (exfalso; omega) | (simp [a1, a2, a3, a4, a5, a6]; omega)
    rw [hitL_succ lo hi (by rw [List.length_map]; omega), hb, hw, List.length_append, ih]
    show _ = (bif inWin lo hi (nAt ns k).2.1 then cntU ns lo hi k + 1 else cntU ns lo hi k)
    cases inWin lo hi (nAt ns k).2.1 <;> rfl
end Go.Proofs.YtkkgimhbliocoaaGreat
/- FindEmpty: the whole call answers true. -/
namespace Go.Proofs.YtkkgimhbliocoaaGreat
open Go Vm M
set_option linter.unusedVariables false
set_option linter.unusedSectionVars false
set_option linter.unusedSimpArgs false
set_option maxRecDepth 100000
theorem wkAgg {xs ys : List PVal} (h : Wks xs ys) : Wk (.agg xs) (.agg ys) := fun L u hu => by
  simp only [Rp] at hu ⊢
  obtain ⟨cs, h1, h2, h3⟩ := hu
  exact ⟨cs, h1, h2.trans h.length, h.rps h3⟩
theorem wk_tup {xs ys : List PVal} (h : Wks xs ys) : Wk (.tup xs) (.tup ys) := fun L u hu => by
  simp only [Rp] at hu ⊢
  obtain ⟨cs, h1, h2, h3⟩ := hu
  exact ⟨cs, h1, h2.trans h.length, h.rps h3⟩
theorem wk_ptr {xs ys : List PVal} (h : Wks xs ys) : Wk (.ptr xs) (.ptr ys) := fun L u hu => by
  simp only [Rp] at hu ⊢
  obtain ⟨a, h1, h3⟩ := hu
  exact ⟨a, h1, h.rps h3⟩
theorem wkNil : Wk nilP (.list 0 []) := fun L u hu => Rp_nil_list hu
theorem wk_bx (bs : List Bx) : Wk (bxP bs) (bsP bs) := by
  cases bs with
  | nil => exact wkNil
  | cons b bs => exact Wk.refl _
def planP (ns : List Nd) : PVal := bif Nat.beq ns.length 0 then .agg [nilP, nilP] else plN ns.length (flatN ns)
theorem wk_plan (ns : List Nd) : Wk (planP ns) (plN ns.length (flatN ns)) := by
  cases ns with
  | nil => exact wkAgg ⟨wkNil, Wk.refl _, trivial⟩
  | cons n ns => exact Wk.refl _
theorem wk_planG (ns : List Nd) : Wk (planP ns) (plG ns []) := by
  cases ns with
  | nil => exact wkAgg ⟨wkNil, wkNil, trivial⟩
  | cons n ns => exact wkAgg ⟨Wk.refl _, wkNil, trivial⟩
section
variable (ns : List Nd) (q lo hi : P2)
def idsE : List Int := hitL (ns.map nBx) lo hi (ns.map nBx).length
noncomputable def LE (hl : ns.length ≤ 60) (hq : inGr q) : Lib Tryz.prog :=
  (((((KX3.add 31 (gOne [planP ns, ptP q] (.tup [iP 0, bP (!hasN ns q)])) (Vm.enters_of named_prog Tryz.func31 (by kernel_rfl))
      (gOne_spec (callsP_weak (faceAt2_calls ns q (by omega) hq) ⟨wk_plan ns, Wk.refl _, trivial⟩))).add
    37 (gOne [planP ns] (.ptr [bxP (ns.map nBx), nilP])) (Vm.enters_of named_prog Tryz.func37 (by kernel_rfl))
      (gOne_spec (callsP_weak (build_nodes ns (by omega)) ⟨wk_planG ns, trivial⟩))).add
    38 (gOne [.ptr [bxP (ns.map nBx), nilP], ptP lo, ptP hi] (.tup [slI (idsE ns lo hi), nilP])) (Vm.enters_of named_prog Tryz.func38 (by kernel_rfl))
      (gOne_spec (callsP_res (callsP_weak (window_B (ns.map nBx) lo hi (by rw [List.length_map]; omega)) ⟨wk_ptr ⟨wk_bx _, wkNil, trivial⟩, Wk.refl _, Wk.refl _, trivial⟩) (wk_tup ⟨idsX_wk _, Wk.refl _, trivial⟩)))).add
    33 (gOne [planP ns, ptP q] (iP (ndAt ns q))) (Vm.enters_of named_prog Tryz.func33 (by kernel_rfl))
      (gOne_spec (callsP_weak (nodeAt_calls ns q (by omega)) ⟨wk_plan ns, Wk.refl _, trivial⟩))).add
    39 (gOne [planP ns, iP 0] nilP) (Vm.enters_of named_prog Tryz.func39 (by kernel_rfl))
      (gOne_spec (callsP_weak (rings_calls ns (by omega)) ⟨wk_plan ns, Wk.refl _, trivial⟩))).add
    34 (gOne [] (bP true)) (Vm.enters_of named_prog Tryz.func34 (by kernel_rfl)) (gOne_spec aw20_calls)
variable (hl : ns.length ≤ 60) (hq : inGr q) {ev : Ev}
theorem le_face : pureCall (cfM (LE ns q lo hi hl hq)) ev 31 [planP ns, ptP q] = some (.tup [iP 0, bP (!hasN ns q)]) := pure_given (g := gOne [planP ns, ptP q] (.tup [iP 0, bP (!hasN ns q)])) (by kernel_rfl) (gOne_ok _ _)
theorem le_build : pureCall (cfM (LE ns q lo hi hl hq)) ev 37 [planP ns] = some (.ptr [bxP (ns.map nBx), nilP]) := pure_given (g := gOne [planP ns] (.ptr [bxP (ns.map nBx), nilP])) (by kernel_rfl) (gOne_ok _ _)
theorem le_win : pureCall (cfM (LE ns q lo hi hl hq)) ev 38 [.ptr [bxP (ns.map nBx), nilP], ptP lo, ptP hi] = some (.tup [slI (idsE ns lo hi), nilP]) := pure_given (g := gOne [.ptr [bxP (ns.map nBx), nilP], ptP lo, ptP hi] (.tup [slI (idsE ns lo hi), nilP])) (by kernel_rfl) (gOne_ok _ _)
theorem le_node : pureCall (cfM (LE ns q lo hi hl hq)) ev 33 [planP ns, ptP q] = some (iP (ndAt ns q)) := pure_given (g := gOne [planP ns, ptP q] (iP (ndAt ns q))) (by kernel_rfl) (gOne_ok _ _)
theorem le_ring : pureCall (cfM (LE ns q lo hi hl hq)) ev 39 [planP ns, iP 0] = some nilP := pure_given (g := gOne [planP ns, iP 0] nilP) (by kernel_rfl) (gOne_ok _ _)
theorem le_aw : pureCall (cfM (LE ns q lo hi hl hq)) ev 34 [] = some (bP true) := pure_given (g := gOne [] (bP true)) (by kernel_rfl) (gOne_ok _ _)
end
/-! ## from the first loop to the last -/
def fhT : List AVal := jk 5 ++ [.ptr 0 0 0, .ptr 1 0 0, .ptr 2 0 0, .junk, .ptr 3 0 0] ++ jk 187
section
variable (l : List P2) (q lo hi : P2)
noncomputable def feFn : FnA := (c3X.tab 9).getD ⟨0, #[], .skip, []⟩
theorem feFn_tab : c3X.tab 9 = some feFn := by kernel_rfl
theorem feFn_body : feFn.body = feB := by kernel_rfl
noncomputable def feA0 : List AVal := upL [slP l, ptP q, ptP lo, ptP hi] ++ List.replicate (feFn.ntmps - (upL [slP l, ptP q, ptP lo, ptP hi]).length) (.v undef)
theorem fe_r0 : EV c3X 0 (c1 feB) (feA0 l q lo hi) [] .normal ([slA l] ++ jk 4 ++ [.ptr 0 0 0, .ptr 1 0 0, .ptr 2 0 0] ++ jk 189) (feC q lo hi) := EV.of c3X_ok ev3X_ok (lv := feLv) (lo := 0) (n := 60) (by kernel_rfl)
theorem fe_r1 : EV c3X 0 (c1 (c2 feB)) ([slA l] ++ jk 4 ++ [.ptr 0 0 0, .ptr 1 0 0, .ptr 2 0 0] ++ jk 189) (feC q lo hi) .normal ([slA l] ++ jk 4 ++ [.ptr 0 0 0, .ptr 1 0 0, .ptr 2 0 0, .junk, .ptr 3 0 0] ++ jk 187) (feSA q lo hi) := EV.of c3X_ok ev3X_ok (lv := feLv) (lo := 0) (n := 60) (by kernel_rfl)
theorem fe_r2 : EV c3X 0 (c1 (c1 (c2 (c2 feB)))) ([slA l] ++ jk 4 ++ [.ptr 0 0 0, .ptr 1 0 0, .ptr 2 0 0, .junk, .ptr 3 0 0] ++ jk 187) (feSA q lo hi) .normal (feT l (0 : Nat)) (feSA q lo hi) := EV.of c3X_ok ev3X_ok (lv := feLv) (lo := 0) (n := 60) (by kernel_rfl)
theorem fe_r13A (i : Int) : EV c3X 0 feR13 (feT l i) (feSA q lo hi) .normal fhT (feSA (md q) lo hi) := EV.of c3X_ok ev3X_ok (lv := feLv) (lo := 0) (n := 60) (by kernel_rfl)
theorem fe_r13B (i : Int) (n : Nat) (xs : List AVal) : EV c3X 0 feR13 (feT l i) (feSB q lo hi n xs) .normal fhT (feSB (md q) lo hi n xs) := EV.of c3X_ok ev3X_ok (lv := feLv) (lo := 0) (n := 60) (by kernel_rfl)
theorem fe_r14A : EV c3X 0 feR14 fhT (feSA q lo hi) .normal fhT (feSA q (md lo) (md hi)) := EV.sweep [] (EV.of c3X_ok ev3X_ok (lv := feLv) (lo := 0) (n := 60) (T' := fhT) (S' := feSA q (md lo) (md hi) ++ List.replicate 16 .free) (by kernel_rfl)) (fun q hq y hy => by simp at hq) (by kernel_rfl)
theorem fe_r14B (n : Nat) (xs : List AVal) (hx : xs.all plainV = true) : EV c3X 0 feR14 fhT (feSB q lo hi n xs) .normal fhT (feSB q (md lo) (md hi) n xs) := EV.sweep [5] (EV.of c3X_ok ev3X_ok (lv := feLv) (lo := 0) (n := 60) (T' := fhT) (S' := feSB q (md lo) (md hi) n xs ++ List.replicate 16 .free) (by kernel_rfl)) (fun o ho y hy => by
  simp only [List.mem_singleton] at ho
  subst ho
  have := (Option.some.inj hy).symm
  subst this
  exact hx) (by kernel_rfl)
theorem fe_r15 (S : List AObj) : EV c3X 0 feR15 fhT S .normal (jk 5 ++ [.ptr 0 0 0, .ptr 1 0 0, .ptr 2 0 0, .junk, .ptr 3 0 0] ++ jk 4 ++ [iA 0] ++ jk 182) S := EV.of c3X_ok ev3X_ok (lv := feLv) (lo := 0) (n := 60) (by kernel_rfl)
theorem fe_r16 (S : List AObj) : EV c3X 0 feR16 (jk 5 ++ [.ptr 0 0 0, .ptr 1 0 0, .ptr 2 0 0, .junk, .ptr 3 0 0] ++ jk 4 ++ [iA 0] ++ jk 182) S .normal (fmT 0 0) S := EV.of c3X_ok ev3X_ok (lv := feLv) (lo := 0) (n := 60) (by kernel_rfl)
theorem fe_r17 (S : List AObj) : EV c3X 0 (c1 feL3) (fmT 0 0) S .normal (flT (0 : Nat) (0 : Nat) (0 : Nat)) S := EV.of c3X_ok ev3X_ok (lv := feLv) (lo := 0) (n := 60) (by kernel_rfl)
end
end Go.Proofs.YtkkgimhbliocoaaGreat
/- FindEmpty: put together. -/
namespace Go.Proofs.YtkkgimhbliocoaaGreat
open Go Vm M
set_option linter.unusedVariables false
set_option linter.unusedSectionVars false
set_option linter.unusedSimpArgs false
set_option maxRecDepth 100000
open Vm in
theorem EV.conv {c c' : Cfg} (hP : c.P = c'.P) {base : Nat} {code : Code} {T T' : List AVal} {S S' : List AObj} {x : AExit} (h : EV c base code T S x T' S') : EV c' base code T S x T' S' := by
  unfold EV at h ⊢
  rw [← hP]
  exact h
theorem mapO1 {α β : Type} {f : α → Option β} {a : α} {x : β} (h : f a = some x) : mapO f [a] = some [x] := by simp only [mapO, h]
theorem mapO2 {α β : Type} {f : α → Option β} {a b : α} {x y : β} (h : f a = some x) (k : f b = some y) : mapO f [a, b] = some [x, y] := by simp only [mapO, h, k]
section
variable (l : List P2) (q lo hi : P2)
theorem fe_all {T9 : List AVal} {S9 : List AObj} (ns : List Nd) (a n : Int) (hns : nsX l (feM l) = ns) (hr : resultsA c3X.P feFn.results T9 S9 = some (bA true))
    (h13 : EV c3X 0 feR13 (feT l (feM l)) (feSt q lo hi ns) .normal fhT (feSt (md q) lo hi ns)) (h14 : EV c3X 0 feR14 fhT (feSt (md q) lo hi ns) .normal fhT (feSt (md q) (md lo) (md hi) ns))
    (h3 : EV c3X 0 (.loop feK3) (flT (0 : Nat) (0 : Nat) (0 : Nat)) (feSt (md q) (md lo) (md hi) ns) (.exit 4) (fmT a n) (feSt (md q) (md lo) (md hi) ns))
    (h9 : EV c3X 0 feEnd (fmT a n) (feSt (md q) (md lo) (md hi) ns) .ret T9 S9) : CallsP Tryz.prog 9 [slP l, ptP q, ptP lo, ptP hi] (bP true) := by
  refine callsP_of_A (r0 := bA true) (S := S9) (callsA_of_EV c3X_ok feFn_tab (x := .ret) (.inr rfl) (T' := T9) hr ?_) (by rfl)
  rw [feFn_body, fe_body]
  have hloop := fe_loop l q lo hi
  rw [hns] at hloop
  exact EV.seq (fe_r0 l q lo hi) (EV.seq (fe_r1 l q lo hi) (EV.seq (EV.seq (fe_r2 l q lo hi) (EV.block hloop)) (EV.seq h13 (EV.seq h14 (EV.seq (fe_r15 _) (EV.seq (fe_r16 _) (EV.seq (EV.seq (fe_r17 _) (EV.block h3)) h9)))))))
/-- There is no point. -/
theorem fe_none (h0 : l.length = 0) : CallsP Tryz.prog 9 [slP l, ptP q, ptP lo, ptP hi] (bP true) := by
  have hm : nsX l (feM l) = [] := by unfold feM; rw [h0]; rfl
  have e := feZA_eq (LE [] (md q) (md lo) (md hi) (by simp) (md_in q)) (md q) (md lo) (md hi) (!hasN [] (md q)) (ndAt [] (md q)) (le_face [] (md q) (md lo) (md hi) (by simp) (md_in q)) (le_build [] (md q) (md lo) (md hi) (by simp) (md_in q)) (le_win [] (md q) (md lo) (md hi) (by simp) (md_in q)) (le_node [] (md q) (md lo) (md hi) (by simp) (md_in q)) (fun _ _ => le_ring [] (md q) (md lo) (md hi) (by simp) (md_in q)) (fun _ _ => le_aw [] (md q) (md lo) (md hi) (by simp) (md_in q))
  have e2 : feZA (LE [] (md q) (md lo) (md hi) (by simp) (md_in q)) (md q) (md lo) (md hi) (!hasN [] (md q)) (ndAt [] (md q)) = (.ret, jk 8 ++ [bA true] ++ jk 188, feSA (md q) (md lo) (md hi)) := by rfl
  rw [e2] at e
  refine fe_all l q lo hi [] 0 0 hm (T9 := jk 8 ++ [bA true] ++ jk 188) (S9 := feSA (md q) (md lo) (md hi)) (by kernel_rfl) (fe_r13A l q lo hi _) (fe_r14A (md q) lo hi) ?_ (EV.conv (c := cfM (LE [] (md q) (md lo) (md hi) (by simp) (md_in q))) rfl (EV.of (cfM_ok _) (evalF_ok (cfM_ok _) 60) e))
  refine EV.loop (n := 0) (T := fun _ => flT (0 : Nat) (0 : Nat) (0 : Nat)) (S := fun _ => feSA (md q) (md lo) (md hi)) (fun k hk => by omega) ?_ (by simp)
  have e3 := EV.fade 49888 (EV.of (base := 0) c3X_ok ev3X_ok (lv := feLv) (lo := 0) (n := 60) (code := feK3) (T := flT (0 : Nat) (0 : Nat) (0 : Nat)) (S := feSA (md q) (md lo) (md hi)) (x := .exit 4) (T' := (flT (0 : Nat) (0 : Nat) (0 : Nat)).set 103 (bA false)) (S' := feSA (md q) (md lo) (md hi)) (by kernel_rfl))
  have ef : forget 49888 ((flT (0 : Nat) (0 : Nat) (0 : Nat)).set 103 (bA false)) = fmT 0 0 := by kernel_rfl
  rw [ef] at e3
  exact e3
theorem planP_pos {ns : List Nd} (h : 1 ≤ ns.length) : planP ns = plN ns.length (flatN ns) := by unfold planP; rw [beq0 h]; rfl
/-- There are points. -/
theorem fe_some (h1 : 1 ≤ l.length) : CallsP Tryz.prog 9 [slP l, ptP q, ptP lo, ptP hi] (bP true) := by
  obtain ⟨m, hm⟩ : ∃ m, feM l = m + 1 := ⟨feM l - 1, by unfold feM; omega⟩
  have hm60 : m + 1 ≤ 60 := by unfold feM at hm; omega
  have hpos := nsX_pos l m
  have hle := nsX_le l (m + 1)
  have hg := nsX_gd l (m + 1)
  have hns : nsX l (feM l) = nsX l (m + 1) := by rw [hm]
  generalize nsX l (m + 1) = ns at *
  have hl : ns.length ≤ 60 := by omega
  have hq := md_in q
  have s1 : ∀ a b c : P2, feSt a b c ns = feSB a b c ns.length (upL (flatN ns)) := fun a b c => feSt_pos a b c hpos
  have hpl := planP_pos hpos
  obtain ⟨f1, f2⟩ := at_facts hg (md q)
  have f3 : ((idsE ns (md lo) (md hi)).length : Int) = (cntU ns (md lo) (md hi) ns.length : Int) := by
    have := cnt_facts hg (md_in lo) (md_in hi) ns.length (Nat.le_refl _)
    unfold idsE
    rw [List.length_map, this]
  have mk : ∀ y : AVal, Vm.mark 0 deep ([.box (cellsP (md q)), .box (cellsP (md lo)), .box (cellsP (md hi)), .box [.row 5 0 4 0 ns.length, nilA], .free, .row 4 0 none (upL (flatN ns))] : List AObj) (.agg [.row 5 0 4 0 ns.length, nilA]) = [.box (cellsP (md q)), .box (cellsP (md lo)), .box (cellsP (md hi)), .box [.row 5 0 4 0 ns.length, nilA], .free, .row 4 0 (some (upL (flatN ns)).length) (upL (flatN ns))] := fun _ => by
    show Vm.mark 0 5 (Vm.mark 0 (4 + 1) ([.box (cellsP (md q)), .box (cellsP (md lo)), .box (cellsP (md hi)), .box [.row 5 0 4 0 ns.length, nilA], .free, .row 4 0 none (upL (flatN ns))] : List AObj) (.row 5 0 4 0 ns.length)) nilA = _
    rw [mark_rowG (S := ([.box (cellsP (md q)), .box (cellsP (md lo)), .box (cellsP (md hi)), .box [.row 5 0 4 0 ns.length, nilA], .free, .row 4 0 none (upL (flatN ns))] : List AObj)) (o := 5) (sz := 4) (e := 0) (fz := none) (xs := upL (flatN ns)) rfl (flatN_plain _)]
    rfl
  have mk2 : Vm.mark 0 deep ([.box (cellsP (md q)), .box (cellsP (md lo)), .box (cellsP (md hi)), .box [.row 5 0 4 0 ns.length, nilA], .free, .row 4 0 (some (upL (flatN ns)).length) (upL (flatN ns))] : List AObj) (.agg [.row 5 0 4 0 ns.length, nilA]) = [.box (cellsP (md q)), .box (cellsP (md lo)), .box (cellsP (md hi)), .box [.row 5 0 4 0 ns.length, nilA], .free, .row 4 0 (some (upL (flatN ns)).length) (upL (flatN ns))] := by
    show Vm.mark 0 5 (Vm.mark 0 (4 + 1) ([.box (cellsP (md q)), .box (cellsP (md lo)), .box (cellsP (md hi)), .box [.row 5 0 4 0 ns.length, nilA], .free, .row 4 0 (some (upL (flatN ns)).length) (upL (flatN ns))] : List AObj) (.row 5 0 4 0 ns.length)) nilA = _
    rw [mark_rowG (S := ([.box (cellsP (md q)), .box (cellsP (md lo)), .box (cellsP (md hi)), .box [.row 5 0 4 0 ns.length, nilA], .free, .row 4 0 (some (upL (flatN ns)).length) (upL (flatN ns))] : List AObj)) (o := 5) (sz := 4) (e := 0) (fz := some (upL (flatN ns)).length) (xs := upL (flatN ns)) rfl (flatN_plain _)]
    rfl
  have pk : peek ([.box (cellsP (md q)), .box (cellsP (md lo)), .box (cellsP (md hi)), .box [.row 5 0 4 0 ns.length, nilA], .free, .row 4 0 (some (upL (flatN ns)).length) (upL (flatN ns))] : List AObj) deep (.agg [.row 5 0 4 0 ns.length, nilA]) = some (plN ns.length (flatN ns)) := by
    have p1 : peek ([.box (cellsP (md q)), .box (cellsP (md lo)), .box (cellsP (md hi)), .box [.row 5 0 4 0 ns.length, nilA], .free, .row 4 0 (some (upL (flatN ns)).length) (upL (flatN ns))] : List AObj) (3 + 2) (.row 5 0 4 0 ns.length) = some (.list ns.length (flatN ns)) := peek_rowL rfl (flatN_length _) (flatN_pl _)
    show (mapO (peek _ 5) [.row 5 0 4 0 ns.length, nilA]).map PVal.agg = _
    simp only [mapO]
    rw [p1]
    rfl
  have gf := fun {ev : Ev} => le_face ns (md q) (md lo) (md hi) hl hq (ev := ev)
  have gb := fun {ev : Ev} => le_build ns (md q) (md lo) (md hi) hl hq (ev := ev)
  have gw := fun {ev : Ev} => le_win ns (md q) (md lo) (md hi) hl hq (ev := ev)
  have gn := fun {ev : Ev} => le_node ns (md q) (md lo) (md hi) hl hq (ev := ev)
  have gr := fun {ev : Ev} => le_ring ns (md q) (md lo) (md hi) hl hq (ev := ev)
  have ga := fun {ev : Ev} => le_aw ns (md q) (md lo) (md hi) hl hq (ev := ev)
  rw [hpl] at gf gb gn gr
  have e := feZB_eq (LE ns (md q) (md lo) (md hi) hl hq) (md q) (md lo) (md hi) ns (atU ns (md q) ns.length) (cntU ns (md lo) (md hi) ns.length) (ndAt ns (md q)) (!hasN ns (md q)) (bxP (ns.map nBx)) (idsE ns (md lo) (md hi))
    gf (mapO2 pk rfl) (mk nilA) gb (mapO1 pk) mk2 gw gn mk2 (fun _ _ _ => gr) (fun _ _ _ => mapO2 pk rfl) (fun _ _ _ => mk2) (fun _ _ _ => ga)
  unfold feZB at e
  rw [f1, f3, show (((atU ns (md q) ns.length : Nat) : Int) == ((atU ns (md q) ns.length : Nat) : Int)) = true from beq_iff_eq.2 rfl, cond_true, f2, cond_true, show (((cntU ns (md lo) (md hi) ns.length : Nat) : Int) == ((cntU ns (md lo) (md hi) ns.length : Nat) : Int)) = true from beq_iff_eq.2 rfl, cond_true] at e
  refine fe_all l q lo hi ns _ _ hns (by kernel_rfl) ?_ ?_ ?_ (EV.conv (c := cfM (LE ns (md q) (md lo) (md hi) hl hq)) rfl (EV.of (cfM_ok _) (evalF_ok (cfM_ok _) 60) (by rw [s1]; exact e)))
  · rw [s1, s1]; exact fe_r13B l q lo hi _ _ _
  · rw [s1, s1]; exact fe_r14B (md q) lo hi _ _ (flatN_plain _)
  · rw [s1]; exact fl_loop (md q) (md lo) (md hi) ns (by omega)
theorem findEmpty_calls : CallsP Tryz.prog 9 [slP l, ptP q, ptP lo, ptP hi] (bP true) := by
  by_cases h0 : l.length = 0
  · exact fe_none l q lo hi h0
  · exact fe_some l q lo hi (by omega)
end
end Go.Proofs.YtkkgimhbliocoaaGreat
/- FindEmpty: the row. Proved: whatever the input, the law answers true and leaves its arguments as they were. -/
namespace Go.Proofs.YtkkgimhbliocoaaGreat
open Go Vm M Go.ChangeShapes Go.WideShapes Go.ChangeAt Go.RowKit
set_option linter.unusedVariables false
set_option maxRecDepth 100000 in
theorem findEmpty_lifted (os : Os) (started : os.Started) (H : Type) (enc : TypeId × Value → H) :
    ReturnsInHanded {} Tryz.checked os 9 .any (Rows.findEmptySpec.pre6 enc Tryz.prog Tryz.f9 Rows.findEmptyRow.domain false) (Rows.findEmptySpec.post enc Tryz.prog Tryz.f9 false true false false) := by
  refine returnsInHanded_of_change_sized (C := Tryz.checked) own started (by kernel_rfl) Tryz.func9
    (ChangeSpec.witness6 (enc := enc) (C := Tryz.checked) false ⟨#[], #[.slice none 0 0, .agg #[.int .i64 0, .int .i64 0], .agg #[.int .i64 0, .int .i64 0], .agg #[.int .i64 0, .int .i64 0]], []⟩ 8 (by kernel_rfl) (by kernel_rfl) (by kernel_rfl) (by kernel_rfl)) ?_
  intro W base args ds gs before hval0 hW hcnd hsz0 _
  have hval : ∀ (j : Nat) t v, Tryz.f9.params[j]? = some t → args[j]? = some v → Value.okWide Tryz.prog W .any base t v := hval0
  have hW' := hW
  obtain ⟨p, q, hA0, hV, rfl, hfz, hnd⟩ := hW
  have hA : DataW.TrodAll enc Tryz.prog W 0 (fun _ => true) true Tryz.f9.params.toList args.toList ds p := hA0
  rw [Tryz.params9] at hA hval
  obtain ⟨v0, vs0, d0, ds0, p0, q0, hargs, rfl, rfl, h0, r0⟩ := trodAll_cons hA
  obtain ⟨v1, vs1, d1, ds1, p1, q1, rfl, rfl, rfl, h1, r1⟩ := trodAll_cons r0
  obtain ⟨v2, vs2, d2, ds2, p2, q2, rfl, rfl, rfl, h2, r2⟩ := trodAll_cons r1
  obtain ⟨v3, vs3, d3, ds3, p3, q3, rfl, rfl, rfl, h3, r3⟩ := trodAll_cons r2
  obtain ⟨rfl, rfl, rfl⟩ := trodAll_nil r3
  obtain rfl : args = #[v0, v1, v2, v3] := by cases args; simp_all
  obtain ⟨rfl, rfl⟩ := trodVars_none hV
  have lt : ∀ {t : TypeId} {v : Value} {d : DataW H} {ps : List MemPlace}, DataW.Trod enc Tryz.prog W 0 (fun _ => true) true t v d ps → ∀ x ∈ ps, x.block < W.heap.size := fun h => by obtain ⟨m, hm⟩ := h; exact DataW.trod_lt m _ _ _ hm
  obtain ⟨a0, hr0⟩ := open_sl (hval 0 31 v0 rfl rfl) h0
  obtain ⟨a1, rfl⟩ := open_pt (hval 1 27 v1 rfl rfl) h1
  obtain ⟨a2, rfl⟩ := open_pt (hval 2 27 v2 rfl rfl) h2
  obtain ⟨a3, rfl⟩ := open_pt (hval 3 27 v3 rfl rfl) h3
  refine (callsS (findEmpty_calls a0 a1 a2 a3) (w := W) (vs := #[v0, ptV a1, ptV a2, ptV a3]) rfl (Rps_cons rfl hr0 (Rps_cons rfl (Rp_pt _ a1) (Rps_cons rfl (Rp_pt _ a2) (Rps_cons rfl (Rp_pt _ a3) Rps_nil)))) (u := .bool true) (fun L x h => Rp_bool h)).mono fun e W' ⟨he, bel⟩ => ?_
  subst he
  exact ⟨_, rfl, _, _, _, [], _, [], hW', trodAll_mk1 (shut_bool Tryz.underlying4 _), (trodAll_cons_mk (Below.trod laidOut (by kernel_rfl) (of_decide_eq_true (by kernel_rfl)) h0 bel (lt h0)) (trodAll_cons_mk (Below.trod laidOut (by kernel_rfl) (of_decide_eq_true (by kernel_rfl)) h1 bel (lt h1)) (trodAll_cons_mk (Below.trod laidOut (by kernel_rfl) (of_decide_eq_true (by kernel_rfl)) h2 bel (lt h2)) (trodAll_cons_mk (Below.trod laidOut (by kernel_rfl) (of_decide_eq_true (by kernel_rfl)) h3 bel (lt h3)) trodAll_mk0)))), rfl, bel.frame _, fun h => by cases h⟩
theorem findEmpty_over : Rows.findEmptyRow.holds Tryz.pinned (OpenSpec.ofChange Rows.findEmptySpec) :=
  OpenClaim.holds_of_wide 9 Tryz.f9 rfl rfl rfl rfl rfl rfl rfl ⟨rfl, rfl, rfl, rfl, rfl⟩ rfl rfl rfl rfl rfl (by kernel_rfl) Tryz.func9 (by kernel_rfl)
    (of_decide_eq_true (by kernel_rfl)) (by unfold Func.isWrapper; first | (rw [if_pos (by decide +kernel)]; kernel_rfl) | (rw [if_neg (by decide +kernel)]; exact ⟨rfl, rfl⟩))
    (fun os started H enc _ => findEmpty_lifted os started H enc)
theorem findEmpty_holds : Rows.FindEmptySaid := findEmpty_over
#print axioms findEmpty_holds
end Go.Proofs.YtkkgimhbliocoaaGreat
