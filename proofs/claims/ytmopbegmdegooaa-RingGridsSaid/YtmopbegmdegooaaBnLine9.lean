/- Texts put together: RelR, RelR2, RelR3, Ref12, Ref12B. What is proved stands at the head of each part. -/
import Derived.Test.YtmopbegmdegooaaBnLine8
/- terrierref9.Relate: its rounds, its call. -/
namespace Go.Proofs.Ytmopbegmdegooaa
open Go Vm M
set_option linter.unusedVariables false
set_option linter.unusedSimpArgs false
def rlT (m : Nat) (x : AVal) (i : Int) : List AVal := jk 4 ++ [AVal.ptr 0 0 0, AVal.ptr 1 0 0, AVal.ptr 2 0 0, AVal.ptr 3 0 0, .junk, AVal.row 4 0 2 0 m, x, iA i] ++ jk 124
def rlU (m : Nat) (x : AVal) (i : Int) (o : Bool) (k : Int) : List AVal := jk 4 ++ [AVal.ptr 0 0 0, AVal.ptr 1 0 0, AVal.ptr 2 0 0, AVal.ptr 3 0 0, .junk, AVal.row 4 0 2 0 m, x, iA i, bA o, iA k] ++ jk 122
def rlV (m : Nat) (x : AVal) (i : Int) (o : Bool) (k : Int) : List AVal := jk 4 ++ [AVal.ptr 0 0 0, AVal.ptr 1 0 0, AVal.ptr 2 0 0, AVal.ptr 3 0 0, .junk, AVal.row 4 0 2 0 m, x, iA i, bA o, iA k] ++ jk 39 ++ [bA false] ++ jk 82
def rlE (m : Nat) (x : AVal) (i : Int) : List AVal := jk 4 ++ [AVal.ptr 0 0 0, AVal.ptr 1 0 0, AVal.ptr 2 0 0, AVal.ptr 3 0 0, .junk, AVal.row 4 0 2 0 m, x, iA i] ++ jk 17 ++ [bA false] ++ jk 106
def rlS (A B C D : P2) (ls : List P2) (R : List AObj) : List AObj := [.box (cellsP A), .box (cellsP B), .box (cellsP C), .box (cellsP D), .row 2 0 none (upL (flatPP ls))] ++ R
def rlR (qs : List P2) : List AObj := [.free, .row 2 0 none (upL (flatPP qs))]
def rlJ (L : Lib Try.prog) (A : P2) (B : P2) (C : P2) (D : P2) (ls : List P2) (i : Int) (o : Bool) : AExit × List AVal × List AObj :=
  (AExit.exit 2, ((jk 4 ++ [AVal.ptr 0 0 0, AVal.ptr 1 0 0, AVal.ptr 2 0 0, AVal.ptr 3 0 0, AVal.junk, AVal.row 4 0 2 0 (List.length ls), AVal.v (Value.slice none 0 0), iA i, bA o, iA 0] ++ jk 39 ++ [bA false] ++ jk 82), ([AObj.box [iA (Prod.fst A), iA (Prod.snd A)], AObj.box [iA (Prod.fst B), iA (Prod.snd B)], AObj.box [iA (Prod.fst C), iA (Prod.snd C)], AObj.box [iA (Prod.fst D), iA (Prod.snd D)], AObj.row 2 0 none (upL (flatPP ls))])))
theorem rlJ_eq (L : Lib Try.prog) (A : P2) (B : P2) (C : P2) (D : P2) (ls : List P2) (i : Int) (o : Bool) : roundC 0 (evalC (cf L) (evalF (cf L) 201) (Option.getD (List.lookup 64 lives) []) 0 0 201 (loopAt Try.f64 1)) (rlU (List.length ls) (AVal.v (Value.slice none 0 0)) i o 0) (rlS A B C D ls []) = some (rlJ L A B C D ls i o) := by
  have key := fun (bs : List Bool) (r : AExit × List AVal × List AObj) (ob : List Prop) (h : roundP (cf L) (evalF (cf L) 201) (Option.getD (List.lookup 64 lives) []) 0 0 201 [(9999, 0, Hint.idx)] (loopAt Try.f64 1) (rlU (List.length ls) (AVal.v (Value.slice none 0 0)) i o 0) (rlS A B C D ls []) bs [] = .ok (r.1, r.2.1, r.2.2, ob)) (hp : allOb ob) => roundP_ok h hp
  unfold rlJ
  exact key [false] ((AExit.exit 2, ((jk 4 ++ [AVal.ptr 0 0 0, AVal.ptr 1 0 0, AVal.ptr 2 0 0, AVal.ptr 3 0 0, AVal.junk, AVal.row 4 0 2 0 (List.length ls), AVal.v (Value.slice none 0 0), iA i, bA o, iA 0] ++ jk 39 ++ [bA false] ++ jk 82), ([AObj.box [iA (Prod.fst A), iA (Prod.snd A)], AObj.box [iA (Prod.fst B), iA (Prod.snd B)], AObj.box [iA (Prod.fst C), iA (Prod.snd C)], AObj.box [iA (Prod.fst D), iA (Prod.snd D)], AObj.row 2 0 none (upL (flatPP ls))])))) _ (by kernel_rfl) (allOb_cons (show Plain ([AObj.box [iA (Prod.fst A), iA (Prod.snd A)], AObj.box [iA (Prod.fst B), iA (Prod.snd B)], AObj.box [iA (Prod.fst C), iA (Prod.snd C)], AObj.box [iA (Prod.fst D), iA (Prod.snd D)], AObj.row 2 0 none (upL (flatPP ls))]) from by simp only [Plain, List.all_append, List.all_cons, List.all_nil, plainO, upL_flatPP, flatP_plain, Nat.zero_mul, List.drop_zero] <;> rfl) (allOb_cons lit_f allOb_nil))
def rlI (L : Lib Try.prog) (A : P2) (B : P2) (C : P2) (D : P2) (ls : List P2) (qs : List P2) (i : Int) (k : Int) (o : Bool) : AExit × List AVal × List AObj :=
  (bif decide (k < (↑(List.length qs) : Int)) then (bif o then (AExit.normal, ((jk 4 ++ [AVal.ptr 0 0 0, AVal.ptr 1 0 0, AVal.ptr 2 0 0, AVal.ptr 3 0 0, AVal.junk, AVal.row 4 0 2 0 (List.length ls), AVal.row 6 0 2 0 (List.length qs), iA i, bA true, iA (IntKind.i64.wrap (k + 1))] ++ jk 122), ([AObj.box [iA (Prod.fst A), iA (Prod.snd A)], AObj.box [iA (Prod.fst B), iA (Prod.snd B)], AObj.box [iA (Prod.fst C), iA (Prod.snd C)], AObj.box [iA (Prod.fst D), iA (Prod.snd D)], AObj.row 2 0 none (upL (flatPP ls)), AObj.free, AObj.row 2 0 none (upL (flatPP qs))]))) else (AExit.normal, ((jk 4 ++ [AVal.ptr 0 0 0, AVal.ptr 1 0 0, AVal.ptr 2 0 0, AVal.ptr 3 0 0, AVal.junk, AVal.row 4 0 2 0 (List.length ls), AVal.row 6 0 2 0 (List.length qs), iA i, bA (eqB (pAtR qs (Int.toNat k)) (pAtR ls (Int.toNat i))), iA (IntKind.i64.wrap (k + 1))] ++ jk 122), ([AObj.box [iA (Prod.fst A), iA (Prod.snd A)], AObj.box [iA (Prod.fst B), iA (Prod.snd B)], AObj.box [iA (Prod.fst C), iA (Prod.snd C)], AObj.box [iA (Prod.fst D), iA (Prod.snd D)], AObj.row 2 0 none (upL (flatPP ls)), AObj.free, AObj.row 2 0 none (upL (flatPP qs))])))) else (AExit.exit 2, ((jk 4 ++ [AVal.ptr 0 0 0, AVal.ptr 1 0 0, AVal.ptr 2 0 0, AVal.ptr 3 0 0, AVal.junk, AVal.row 4 0 2 0 (List.length ls), AVal.row 6 0 2 0 (List.length qs), iA i, bA o, iA k] ++ jk 39 ++ [bA false] ++ jk 82), ([AObj.box [iA (Prod.fst A), iA (Prod.snd A)], AObj.box [iA (Prod.fst B), iA (Prod.snd B)], AObj.box [iA (Prod.fst C), iA (Prod.snd C)], AObj.box [iA (Prod.fst D), iA (Prod.snd D)], AObj.row 2 0 none (upL (flatPP ls)), AObj.free, AObj.row 2 0 none (upL (flatPP qs))]))))
theorem rlI_eq (L : Lib Try.prog) (A : P2) (B : P2) (C : P2) (D : P2) (ls : List P2) (qs : List P2) (i : Int) (k : Int) (o : Bool) (b0 : (decide (k < (↑(List.length qs) : Int))) = true → (o) = false → (0 : Int) ≤ k ∧ (k : Int) < (↑(List.length qs) : Int)) (b1 : (decide (k < (↑(List.length qs) : Int))) = true → (o) = false → (0 : Int) ≤ i ∧ (i : Int) < (↑(List.length ls) : Int)) : roundC 0 (evalC (cf L) (evalF (cf L) 201) (Option.getD (List.lookup 64 lives) []) 0 0 201 (loopAt Try.f64 1)) (rlU (List.length ls) (AVal.row 6 0 2 0 (List.length qs)) i o k) (rlS A B C D ls (rlR qs)) = some (rlI L A B C D ls qs i k o) := by
  have key := fun (bs : List Bool) (r : AExit × List AVal × List AObj) (ob : List Prop) (h : roundP (cf L) (evalF (cf L) 201) (Option.getD (List.lookup 64 lives) []) 0 0 201 [(9999, 0, Hint.idx)] (loopAt Try.f64 1) (rlU (List.length ls) (AVal.row 6 0 2 0 (List.length qs)) i o k) (rlS A B C D ls (rlR qs)) bs [] = .ok (r.1, r.2.1, r.2.2, ob)) (hp : allOb ob) => roundP_ok h hp
  unfold rlI
  exact bif_case (P := fun r => roundC 0 (evalC (cf L) (evalF (cf L) 201) (Option.getD (List.lookup 64 lives) []) 0 0 201 (loopAt Try.f64 1)) (rlU (List.length ls) (AVal.row 6 0 2 0 (List.length qs)) i o k) (rlS A B C D ls (rlR qs)) = some r)
    (fun h0 => bif_case (P := fun r => roundC 0 (evalC (cf L) (evalF (cf L) 201) (Option.getD (List.lookup 64 lives) []) 0 0 201 (loopAt Try.f64 1)) (rlU (List.length ls) (AVal.row 6 0 2 0 (List.length qs)) i o k) (rlS A B C D ls (rlR qs)) = some r)
     (fun h1 => key [true, true] ((AExit.normal, ((jk 4 ++ [AVal.ptr 0 0 0, AVal.ptr 1 0 0, AVal.ptr 2 0 0, AVal.ptr 3 0 0, AVal.junk, AVal.row 4 0 2 0 (List.length ls), AVal.row 6 0 2 0 (List.length qs), iA i, bA true, iA (IntKind.i64.wrap (k + 1))] ++ jk 122), ([AObj.box [iA (Prod.fst A), iA (Prod.snd A)], AObj.box [iA (Prod.fst B), iA (Prod.snd B)], AObj.box [iA (Prod.fst C), iA (Prod.snd C)], AObj.box [iA (Prod.fst D), iA (Prod.snd D)], AObj.row 2 0 none (upL (flatPP ls)), AObj.free, AObj.row 2 0 none (upL (flatPP qs))])))) _ (by kernel_rfl) (allOb_cons (show Plain ([AObj.box [iA (Prod.fst A), iA (Prod.snd A)], AObj.box [iA (Prod.fst B), iA (Prod.snd B)], AObj.box [iA (Prod.fst C), iA (Prod.snd C)], AObj.box [iA (Prod.fst D), iA (Prod.snd D)], AObj.row 2 0 none (upL (flatPP ls)), AObj.free, AObj.row 2 0 none (upL (flatPP qs))] ++ List.replicate 13 AObj.free) from by simp only [Plain, List.all_append, List.all_cons, List.all_nil, plainO, upL_flatPP, flatP_plain, Nat.zero_mul, List.drop_zero] <;> rfl) (allOb_cons h1 (allOb_cons h0 allOb_nil))))
     (fun h1 => key [true, false] ((AExit.normal, ((jk 4 ++ [AVal.ptr 0 0 0, AVal.ptr 1 0 0, AVal.ptr 2 0 0, AVal.ptr 3 0 0, AVal.junk, AVal.row 4 0 2 0 (List.length ls), AVal.row 6 0 2 0 (List.length qs), iA i, bA (eqB (pAtR qs (Int.toNat k)) (pAtR ls (Int.toNat i))), iA (IntKind.i64.wrap (k + 1))] ++ jk 122), ([AObj.box [iA (Prod.fst A), iA (Prod.snd A)], AObj.box [iA (Prod.fst B), iA (Prod.snd B)], AObj.box [iA (Prod.fst C), iA (Prod.snd C)], AObj.box [iA (Prod.fst D), iA (Prod.snd D)], AObj.row 2 0 none (upL (flatPP ls)), AObj.free, AObj.row 2 0 none (upL (flatPP qs))])))) _ (by kernel_rfl) (allOb_cons (show Plain ([AObj.box [iA (Prod.fst A), iA (Prod.snd A)], AObj.box [iA (Prod.fst B), iA (Prod.snd B)], AObj.box [iA (Prod.fst C), iA (Prod.snd C)], AObj.box [iA (Prod.fst D), iA (Prod.snd D)], AObj.row 2 0 none (upL (flatPP ls)), AObj.free, AObj.row 2 0 none (upL (flatPP qs))] ++ List.replicate 13 AObj.free) from by simp only [Plain, List.all_append, List.all_cons, List.all_nil, plainO, upL_flatPP, flatP_plain, Nat.zero_mul, List.drop_zero] <;> rfl) (allOb_cons (partQ_pt (b1 h0 h1)) (allOb_cons (b1 h0 h1) (allOb_cons (partQ_pt (b0 h0 h1)) (allOb_cons (b0 h0 h1) (allOb_cons h1 (allOb_cons h0 allOb_nil)))))))))
    (fun h0 => key [false] ((AExit.exit 2, ((jk 4 ++ [AVal.ptr 0 0 0, AVal.ptr 1 0 0, AVal.ptr 2 0 0, AVal.ptr 3 0 0, AVal.junk, AVal.row 4 0 2 0 (List.length ls), AVal.row 6 0 2 0 (List.length qs), iA i, bA o, iA k] ++ jk 39 ++ [bA false] ++ jk 82), ([AObj.box [iA (Prod.fst A), iA (Prod.snd A)], AObj.box [iA (Prod.fst B), iA (Prod.snd B)], AObj.box [iA (Prod.fst C), iA (Prod.snd C)], AObj.box [iA (Prod.fst D), iA (Prod.snd D)], AObj.row 2 0 none (upL (flatPP ls)), AObj.free, AObj.row 2 0 none (upL (flatPP qs))])))) _ (by kernel_rfl) (allOb_cons (show Plain ([AObj.box [iA (Prod.fst A), iA (Prod.snd A)], AObj.box [iA (Prod.fst B), iA (Prod.snd B)], AObj.box [iA (Prod.fst C), iA (Prod.snd C)], AObj.box [iA (Prod.fst D), iA (Prod.snd D)], AObj.row 2 0 none (upL (flatPP ls)), AObj.free, AObj.row 2 0 none (upL (flatPP qs))]) from by simp only [Plain, List.all_append, List.all_cons, List.all_nil, plainO, upL_flatPP, flatP_plain, Nat.zero_mul, List.drop_zero] <;> rfl) (allOb_cons h0 allOb_nil)))
def rlO0 (L : Lib Try.prog) (A : P2) (B : P2) (C : P2) (D : P2) (ls : List P2) (i : Int) (o1 : Bool) (o2 : Bool) (o : Bool) : AExit × List AVal × List AObj :=
  (bif decide (i < 4) then (bif !o1 then (bif !o then (AExit.normal, ((jk 4 ++ [AVal.ptr 0 0 0, AVal.ptr 1 0 0, AVal.ptr 2 0 0, AVal.ptr 3 0 0, AVal.junk, AVal.row 4 0 2 0 (List.length ls), AVal.row 6 0 2 0 1, iA (IntKind.i64.wrap (i + 1))] ++ jk 124), ([AObj.box [iA (Prod.fst A), iA (Prod.snd A)], AObj.box [iA (Prod.fst B), iA (Prod.snd B)], AObj.box [iA (Prod.fst C), iA (Prod.snd C)], AObj.box [iA (Prod.fst D), iA (Prod.snd D)], AObj.row 2 0 none (upL (flatPP ls)), AObj.free, AObj.row 2 0 none [iA (Prod.fst (pAtR ls (Int.toNat i))), iA (Prod.snd (pAtR ls (Int.toNat i)))]]))) else (AExit.normal, ((jk 4 ++ [AVal.ptr 0 0 0, AVal.ptr 1 0 0, AVal.ptr 2 0 0, AVal.ptr 3 0 0, AVal.junk, AVal.row 4 0 2 0 (List.length ls), AVal.v (Value.slice none 0 0), iA (IntKind.i64.wrap (i + 1))] ++ jk 124), ([AObj.box [iA (Prod.fst A), iA (Prod.snd A)], AObj.box [iA (Prod.fst B), iA (Prod.snd B)], AObj.box [iA (Prod.fst C), iA (Prod.snd C)], AObj.box [iA (Prod.fst D), iA (Prod.snd D)], AObj.row 2 0 none (upL (flatPP ls))])))) else (bif !o then (AExit.normal, ((jk 4 ++ [AVal.ptr 0 0 0, AVal.ptr 1 0 0, AVal.ptr 2 0 0, AVal.ptr 3 0 0, AVal.junk, AVal.row 4 0 2 0 (List.length ls), AVal.row 6 0 2 0 1, iA (IntKind.i64.wrap (i + 1))] ++ jk 124), ([AObj.box [iA (Prod.fst A), iA (Prod.snd A)], AObj.box [iA (Prod.fst B), iA (Prod.snd B)], AObj.box [iA (Prod.fst C), iA (Prod.snd C)], AObj.box [iA (Prod.fst D), iA (Prod.snd D)], AObj.row 2 0 none (upL (flatPP ls)), AObj.free, AObj.row 2 0 none [iA (Prod.fst (pAtR ls (Int.toNat i))), iA (Prod.snd (pAtR ls (Int.toNat i)))]]))) else (AExit.normal, ((jk 4 ++ [AVal.ptr 0 0 0, AVal.ptr 1 0 0, AVal.ptr 2 0 0, AVal.ptr 3 0 0, AVal.junk, AVal.row 4 0 2 0 (List.length ls), AVal.v (Value.slice none 0 0), iA (IntKind.i64.wrap (i + 1))] ++ jk 124), ([AObj.box [iA (Prod.fst A), iA (Prod.snd A)], AObj.box [iA (Prod.fst B), iA (Prod.snd B)], AObj.box [iA (Prod.fst C), iA (Prod.snd C)], AObj.box [iA (Prod.fst D), iA (Prod.snd D)], AObj.row 2 0 none (upL (flatPP ls))]))))) else (AExit.exit 0, ((jk 4 ++ [AVal.ptr 0 0 0, AVal.ptr 1 0 0, AVal.ptr 2 0 0, AVal.ptr 3 0 0, AVal.junk, AVal.row 4 0 2 0 (List.length ls), AVal.v (Value.slice none 0 0), iA i] ++ jk 17 ++ [bA false] ++ jk 106), ([AObj.box [iA (Prod.fst A), iA (Prod.snd A)], AObj.box [iA (Prod.fst B), iA (Prod.snd B)], AObj.box [iA (Prod.fst C), iA (Prod.snd C)], AObj.box [iA (Prod.fst D), iA (Prod.snd D)], AObj.row 2 0 none (upL (flatPP ls))]))))
theorem rlO0_eq (L : Lib Try.prog) (A : P2) (B : P2) (C : P2) (D : P2) (ls : List P2) (i : Int) (o1 : Bool) (o2 : Bool) (o : Bool) (b0 : (decide (i < 4)) = true → (0 : Int) ≤ i ∧ (i : Int) < (↑(List.length ls) : Int)) (e0 : (decide (i < 4)) = true → pureCall (cf L) (evalF (cf L) 201) 20 [ptP A, ptP B, ptP (pAtR ls (Int.toNat i))] = some (bP o1)) (e1 : (decide (i < 4)) = true → (!o1) = true → iterC 0 (evalC (cf L) (evalF (cf L) 201) ((lives.lookup 64).getD []) 0 0 201 (loopAt Try.f64 1)) 201 (jk 4 ++ [AVal.ptr 0 0 0, AVal.ptr 1 0 0, AVal.ptr 2 0 0, AVal.ptr 3 0 0, AVal.junk, AVal.row 4 0 2 0 (List.length ls), AVal.v (Value.slice none 0 0), iA i, bA true, iA 0] ++ jk 122) ([AObj.box [iA (Prod.fst A), iA (Prod.snd A)], AObj.box [iA (Prod.fst B), iA (Prod.snd B)], AObj.box [iA (Prod.fst C), iA (Prod.snd C)], AObj.box [iA (Prod.fst D), iA (Prod.snd D)], AObj.row 2 0 none (upL (flatPP ls))] ++ List.replicate 19 AObj.free) = some (AExit.exit 2, ((jk 4 ++ [AVal.ptr 0 0 0, AVal.ptr 1 0 0, AVal.ptr 2 0 0, AVal.ptr 3 0 0, AVal.junk, AVal.row 4 0 2 0 (List.length ls), AVal.v (Value.slice none 0 0), iA i, bA o, iA 0] ++ jk 39 ++ [bA false] ++ jk 82), ([AObj.box [iA (Prod.fst A), iA (Prod.snd A)], AObj.box [iA (Prod.fst B), iA (Prod.snd B)], AObj.box [iA (Prod.fst C), iA (Prod.snd C)], AObj.box [iA (Prod.fst D), iA (Prod.snd D)], AObj.row 2 0 none (upL (flatPP ls))])))) (e2 : (decide (i < 4)) = true → (!o1) = false → pureCall (cf L) (evalF (cf L) 201) 20 [ptP C, ptP D, ptP (pAtR ls (Int.toNat i))] = some (bP o2)) (e3 : (decide (i < 4)) = true → (!o1) = false → iterC 0 (evalC (cf L) (evalF (cf L) 201) ((lives.lookup 64).getD []) 0 0 201 (loopAt Try.f64 1)) 201 (jk 4 ++ [AVal.ptr 0 0 0, AVal.ptr 1 0 0, AVal.ptr 2 0 0, AVal.ptr 3 0 0, AVal.junk, AVal.row 4 0 2 0 (List.length ls), AVal.v (Value.slice none 0 0), iA i, bA !o2, iA 0] ++ jk 122) ([AObj.box [iA (Prod.fst A), iA (Prod.snd A)], AObj.box [iA (Prod.fst B), iA (Prod.snd B)], AObj.box [iA (Prod.fst C), iA (Prod.snd C)], AObj.box [iA (Prod.fst D), iA (Prod.snd D)], AObj.row 2 0 none (upL (flatPP ls))] ++ List.replicate 19 AObj.free) = some (AExit.exit 2, ((jk 4 ++ [AVal.ptr 0 0 0, AVal.ptr 1 0 0, AVal.ptr 2 0 0, AVal.ptr 3 0 0, AVal.junk, AVal.row 4 0 2 0 (List.length ls), AVal.v (Value.slice none 0 0), iA i, bA o, iA 0] ++ jk 39 ++ [bA false] ++ jk 82), ([AObj.box [iA (Prod.fst A), iA (Prod.snd A)], AObj.box [iA (Prod.fst B), iA (Prod.snd B)], AObj.box [iA (Prod.fst C), iA (Prod.snd C)], AObj.box [iA (Prod.fst D), iA (Prod.snd D)], AObj.row 2 0 none (upL (flatPP ls))])))) : roundC 0 (evalC (cf L) (evalF (cf L) 201) (Option.getD (List.lookup 64 lives) []) 0 0 201 (loopAt Try.f64 0)) (rlT (List.length ls) (AVal.v (Value.slice none 0 0)) i) (rlS A B C D ls []) = some (rlO0 L A B C D ls i o1 o2 o) := by
  have key := fun (bs : List Bool) (r : AExit × List AVal × List AObj) (ob : List Prop) (h : roundP (cf L) (evalF (cf L) 201) (Option.getD (List.lookup 64 lives) []) 0 0 201 [(9999, 0, Hint.idx), (7, 6, Hint.pcall (bP o1)), (7, 15, Hint.pcall (bP o2))] (loopAt Try.f64 0) (rlT (List.length ls) (AVal.v (Value.slice none 0 0)) i) (rlS A B C D ls []) bs [(AExit.exit 2, rlV (List.length ls) (AVal.v (Value.slice none 0 0)) i o 0, rlS A B C D ls [])] = .ok (r.1, r.2.1, r.2.2, ob)) (hp : allOb ob) => roundP_ok h hp
  unfold rlO0
  exact bif_case (P := fun r => roundC 0 (evalC (cf L) (evalF (cf L) 201) (Option.getD (List.lookup 64 lives) []) 0 0 201 (loopAt Try.f64 0)) (rlT (List.length ls) (AVal.v (Value.slice none 0 0)) i) (rlS A B C D ls []) = some r)
    (fun h0 => bif_case (P := fun r => roundC 0 (evalC (cf L) (evalF (cf L) 201) (Option.getD (List.lookup 64 lives) []) 0 0 201 (loopAt Try.f64 0)) (rlT (List.length ls) (AVal.v (Value.slice none 0 0)) i) (rlS A B C D ls []) = some r)
     (fun h1 => bif_case (P := fun r => roundC 0 (evalC (cf L) (evalF (cf L) 201) (Option.getD (List.lookup 64 lives) []) 0 0 201 (loopAt Try.f64 0)) (rlT (List.length ls) (AVal.v (Value.slice none 0 0)) i) (rlS A B C D ls []) = some r)
      (fun h2 => key [true, true, true] ((AExit.normal, ((jk 4 ++ [AVal.ptr 0 0 0, AVal.ptr 1 0 0, AVal.ptr 2 0 0, AVal.ptr 3 0 0, AVal.junk, AVal.row 4 0 2 0 (List.length ls), AVal.row 6 0 2 0 1, iA (IntKind.i64.wrap (i + 1))] ++ jk 124), ([AObj.box [iA (Prod.fst A), iA (Prod.snd A)], AObj.box [iA (Prod.fst B), iA (Prod.snd B)], AObj.box [iA (Prod.fst C), iA (Prod.snd C)], AObj.box [iA (Prod.fst D), iA (Prod.snd D)], AObj.row 2 0 none (upL (flatPP ls)), AObj.free, AObj.row 2 0 none [iA (Prod.fst (pAtR ls (Int.toNat i))), iA (Prod.snd (pAtR ls (Int.toNat i)))]])))) _ (by kernel_rfl) (allOb_cons (show Plain ([AObj.box [iA (Prod.fst A), iA (Prod.snd A)], AObj.box [iA (Prod.fst B), iA (Prod.snd B)], AObj.box [iA (Prod.fst C), iA (Prod.snd C)], AObj.box [iA (Prod.fst D), iA (Prod.snd D)], AObj.row 2 0 none (upL (flatPP ls)), AObj.row 2 0 none [iA (Prod.fst (pAtR ls (Int.toNat i))), iA (Prod.snd (pAtR ls (Int.toNat i)))], AObj.row 2 0 none [iA (Prod.fst (pAtR ls (Int.toNat i))), iA (Prod.snd (pAtR ls (Int.toNat i)))]]) from by simp only [Plain, List.all_append, List.all_cons, List.all_nil, plainO, upL_flatPP, flatP_plain, Nat.zero_mul, List.drop_zero] <;> rfl) (allOb_cons (partQ_pt (b0 h0)) (allOb_cons (b0 h0) (allOb_cons h2 (allOb_cons (by exact (e1 h0 h1)) (allOb_cons h1 (allOb_cons (by exact (e0 h0)) (allOb_cons (partQ_pt (b0 h0)) (allOb_cons (b0 h0) (allOb_cons h0 allOb_nil)))))))))))
      (fun h2 => key [true, true, false] ((AExit.normal, ((jk 4 ++ [AVal.ptr 0 0 0, AVal.ptr 1 0 0, AVal.ptr 2 0 0, AVal.ptr 3 0 0, AVal.junk, AVal.row 4 0 2 0 (List.length ls), AVal.v (Value.slice none 0 0), iA (IntKind.i64.wrap (i + 1))] ++ jk 124), ([AObj.box [iA (Prod.fst A), iA (Prod.snd A)], AObj.box [iA (Prod.fst B), iA (Prod.snd B)], AObj.box [iA (Prod.fst C), iA (Prod.snd C)], AObj.box [iA (Prod.fst D), iA (Prod.snd D)], AObj.row 2 0 none (upL (flatPP ls))])))) _ (by kernel_rfl) (allOb_cons (show Plain ([AObj.box [iA (Prod.fst A), iA (Prod.snd A)], AObj.box [iA (Prod.fst B), iA (Prod.snd B)], AObj.box [iA (Prod.fst C), iA (Prod.snd C)], AObj.box [iA (Prod.fst D), iA (Prod.snd D)], AObj.row 2 0 none (upL (flatPP ls))]) from by simp only [Plain, List.all_append, List.all_cons, List.all_nil, plainO, upL_flatPP, flatP_plain, Nat.zero_mul, List.drop_zero] <;> rfl) (allOb_cons h2 (allOb_cons (by exact (e1 h0 h1)) (allOb_cons h1 (allOb_cons (by exact (e0 h0)) (allOb_cons (partQ_pt (b0 h0)) (allOb_cons (b0 h0) (allOb_cons h0 allOb_nil))))))))))
     (fun h1 => bif_case (P := fun r => roundC 0 (evalC (cf L) (evalF (cf L) 201) (Option.getD (List.lookup 64 lives) []) 0 0 201 (loopAt Try.f64 0)) (rlT (List.length ls) (AVal.v (Value.slice none 0 0)) i) (rlS A B C D ls []) = some r)
      (fun h2 => key [true, false, true] ((AExit.normal, ((jk 4 ++ [AVal.ptr 0 0 0, AVal.ptr 1 0 0, AVal.ptr 2 0 0, AVal.ptr 3 0 0, AVal.junk, AVal.row 4 0 2 0 (List.length ls), AVal.row 6 0 2 0 1, iA (IntKind.i64.wrap (i + 1))] ++ jk 124), ([AObj.box [iA (Prod.fst A), iA (Prod.snd A)], AObj.box [iA (Prod.fst B), iA (Prod.snd B)], AObj.box [iA (Prod.fst C), iA (Prod.snd C)], AObj.box [iA (Prod.fst D), iA (Prod.snd D)], AObj.row 2 0 none (upL (flatPP ls)), AObj.free, AObj.row 2 0 none [iA (Prod.fst (pAtR ls (Int.toNat i))), iA (Prod.snd (pAtR ls (Int.toNat i)))]])))) _ (by kernel_rfl) (allOb_cons (show Plain ([AObj.box [iA (Prod.fst A), iA (Prod.snd A)], AObj.box [iA (Prod.fst B), iA (Prod.snd B)], AObj.box [iA (Prod.fst C), iA (Prod.snd C)], AObj.box [iA (Prod.fst D), iA (Prod.snd D)], AObj.row 2 0 none (upL (flatPP ls)), AObj.row 2 0 none [iA (Prod.fst (pAtR ls (Int.toNat i))), iA (Prod.snd (pAtR ls (Int.toNat i)))], AObj.row 2 0 none [iA (Prod.fst (pAtR ls (Int.toNat i))), iA (Prod.snd (pAtR ls (Int.toNat i)))]]) from by simp only [Plain, List.all_append, List.all_cons, List.all_nil, plainO, upL_flatPP, flatP_plain, Nat.zero_mul, List.drop_zero] <;> rfl) (allOb_cons (partQ_pt (b0 h0)) (allOb_cons (b0 h0) (allOb_cons h2 (allOb_cons (by exact (e3 h0 h1)) (allOb_cons (by exact (e2 h0 h1)) (allOb_cons (partQ_pt (b0 h0)) (allOb_cons (b0 h0) (allOb_cons h1 (allOb_cons (by exact (e0 h0)) (allOb_cons (partQ_pt (b0 h0)) (allOb_cons (b0 h0) (allOb_cons h0 allOb_nil))))))))))))))
      (fun h2 => key [true, false, false] ((AExit.normal, ((jk 4 ++ [AVal.ptr 0 0 0, AVal.ptr 1 0 0, AVal.ptr 2 0 0, AVal.ptr 3 0 0, AVal.junk, AVal.row 4 0 2 0 (List.length ls), AVal.v (Value.slice none 0 0), iA (IntKind.i64.wrap (i + 1))] ++ jk 124), ([AObj.box [iA (Prod.fst A), iA (Prod.snd A)], AObj.box [iA (Prod.fst B), iA (Prod.snd B)], AObj.box [iA (Prod.fst C), iA (Prod.snd C)], AObj.box [iA (Prod.fst D), iA (Prod.snd D)], AObj.row 2 0 none (upL (flatPP ls))])))) _ (by kernel_rfl) (allOb_cons (show Plain ([AObj.box [iA (Prod.fst A), iA (Prod.snd A)], AObj.box [iA (Prod.fst B), iA (Prod.snd B)], AObj.box [iA (Prod.fst C), iA (Prod.snd C)], AObj.box [iA (Prod.fst D), iA (Prod.snd D)], AObj.row 2 0 none (upL (flatPP ls))]) from by simp only [Plain, List.all_append, List.all_cons, List.all_nil, plainO, upL_flatPP, flatP_plain, Nat.zero_mul, List.drop_zero] <;> rfl) (allOb_cons h2 (allOb_cons (by exact (e3 h0 h1)) (allOb_cons (by exact (e2 h0 h1)) (allOb_cons (partQ_pt (b0 h0)) (allOb_cons (b0 h0) (allOb_cons h1 (allOb_cons (by exact (e0 h0)) (allOb_cons (partQ_pt (b0 h0)) (allOb_cons (b0 h0) (allOb_cons h0 allOb_nil))))))))))))))
    (fun h0 => key [false] ((AExit.exit 0, ((jk 4 ++ [AVal.ptr 0 0 0, AVal.ptr 1 0 0, AVal.ptr 2 0 0, AVal.ptr 3 0 0, AVal.junk, AVal.row 4 0 2 0 (List.length ls), AVal.v (Value.slice none 0 0), iA i] ++ jk 17 ++ [bA false] ++ jk 106), ([AObj.box [iA (Prod.fst A), iA (Prod.snd A)], AObj.box [iA (Prod.fst B), iA (Prod.snd B)], AObj.box [iA (Prod.fst C), iA (Prod.snd C)], AObj.box [iA (Prod.fst D), iA (Prod.snd D)], AObj.row 2 0 none (upL (flatPP ls))])))) _ (by kernel_rfl) (allOb_cons (show Plain ([AObj.box [iA (Prod.fst A), iA (Prod.snd A)], AObj.box [iA (Prod.fst B), iA (Prod.snd B)], AObj.box [iA (Prod.fst C), iA (Prod.snd C)], AObj.box [iA (Prod.fst D), iA (Prod.snd D)], AObj.row 2 0 none (upL (flatPP ls))]) from by simp only [Plain, List.all_append, List.all_cons, List.all_nil, plainO, upL_flatPP, flatP_plain, Nat.zero_mul, List.drop_zero] <;> rfl) (allOb_cons h0 allOb_nil)))
def rlO (L : Lib Try.prog) (A : P2) (B : P2) (C : P2) (D : P2) (ls : List P2) (qs : List P2) (hs : List P2) (i : Int) (k : Int) (o1 : Bool) (o2 : Bool) (o : Bool) : AExit × List AVal × List AObj :=
  (bif decide (i < 4) then (bif !o1 then (bif !o then (AExit.normal, ((jk 4 ++ [AVal.ptr 0 0 0, AVal.ptr 1 0 0, AVal.ptr 2 0 0, AVal.ptr 3 0 0, AVal.junk, AVal.row 4 0 2 0 (List.length ls), AVal.row 6 0 2 0 (List.length qs + 1), iA (IntKind.i64.wrap (i + 1))] ++ jk 124), ([AObj.box [iA (Prod.fst A), iA (Prod.snd A)], AObj.box [iA (Prod.fst B), iA (Prod.snd B)], AObj.box [iA (Prod.fst C), iA (Prod.snd C)], AObj.box [iA (Prod.fst D), iA (Prod.snd D)], AObj.row 2 0 none (upL (flatPP ls)), AObj.free, AObj.row 2 0 none (upL (flatPP hs))]))) else (AExit.normal, ((jk 4 ++ [AVal.ptr 0 0 0, AVal.ptr 1 0 0, AVal.ptr 2 0 0, AVal.ptr 3 0 0, AVal.junk, AVal.row 4 0 2 0 (List.length ls), AVal.row 6 0 2 0 (List.length qs), iA (IntKind.i64.wrap (i + 1))] ++ jk 124), ([AObj.box [iA (Prod.fst A), iA (Prod.snd A)], AObj.box [iA (Prod.fst B), iA (Prod.snd B)], AObj.box [iA (Prod.fst C), iA (Prod.snd C)], AObj.box [iA (Prod.fst D), iA (Prod.snd D)], AObj.row 2 0 none (upL (flatPP ls)), AObj.free, AObj.row 2 0 none (upL (flatPP qs))])))) else (bif !o then (AExit.normal, ((jk 4 ++ [AVal.ptr 0 0 0, AVal.ptr 1 0 0, AVal.ptr 2 0 0, AVal.ptr 3 0 0, AVal.junk, AVal.row 4 0 2 0 (List.length ls), AVal.row 6 0 2 0 (List.length qs + 1), iA (IntKind.i64.wrap (i + 1))] ++ jk 124), ([AObj.box [iA (Prod.fst A), iA (Prod.snd A)], AObj.box [iA (Prod.fst B), iA (Prod.snd B)], AObj.box [iA (Prod.fst C), iA (Prod.snd C)], AObj.box [iA (Prod.fst D), iA (Prod.snd D)], AObj.row 2 0 none (upL (flatPP ls)), AObj.free, AObj.row 2 0 none (upL (flatPP hs))]))) else (AExit.normal, ((jk 4 ++ [AVal.ptr 0 0 0, AVal.ptr 1 0 0, AVal.ptr 2 0 0, AVal.ptr 3 0 0, AVal.junk, AVal.row 4 0 2 0 (List.length ls), AVal.row 6 0 2 0 (List.length qs), iA (IntKind.i64.wrap (i + 1))] ++ jk 124), ([AObj.box [iA (Prod.fst A), iA (Prod.snd A)], AObj.box [iA (Prod.fst B), iA (Prod.snd B)], AObj.box [iA (Prod.fst C), iA (Prod.snd C)], AObj.box [iA (Prod.fst D), iA (Prod.snd D)], AObj.row 2 0 none (upL (flatPP ls)), AObj.free, AObj.row 2 0 none (upL (flatPP qs))]))))) else (AExit.exit 0, ((jk 4 ++ [AVal.ptr 0 0 0, AVal.ptr 1 0 0, AVal.ptr 2 0 0, AVal.ptr 3 0 0, AVal.junk, AVal.row 4 0 2 0 (List.length ls), AVal.row 6 0 2 0 (List.length qs), iA i] ++ jk 17 ++ [bA false] ++ jk 106), ([AObj.box [iA (Prod.fst A), iA (Prod.snd A)], AObj.box [iA (Prod.fst B), iA (Prod.snd B)], AObj.box [iA (Prod.fst C), iA (Prod.snd C)], AObj.box [iA (Prod.fst D), iA (Prod.snd D)], AObj.row 2 0 none (upL (flatPP ls)), AObj.free, AObj.row 2 0 none (upL (flatPP qs))]))))
theorem rlO_eq (L : Lib Try.prog) (A : P2) (B : P2) (C : P2) (D : P2) (ls : List P2) (qs : List P2) (hs : List P2) (i : Int) (k : Int) (o1 : Bool) (o2 : Bool) (o : Bool) (b0 : (decide (i < 4)) = true → (0 : Int) ≤ i ∧ (i : Int) < (↑(List.length ls) : Int)) (e0 : (decide (i < 4)) = true → pureCall (cf L) (evalF (cf L) 201) 20 [ptP A, ptP B, ptP (pAtR ls (Int.toNat i))] = some (bP o1)) (e1 : (decide (i < 4)) = true → (!o1) = true → iterC 0 (evalC (cf L) (evalF (cf L) 201) ((lives.lookup 64).getD []) 0 0 201 (loopAt Try.f64 1)) 201 (jk 4 ++ [AVal.ptr 0 0 0, AVal.ptr 1 0 0, AVal.ptr 2 0 0, AVal.ptr 3 0 0, AVal.junk, AVal.row 4 0 2 0 (List.length ls), AVal.row 6 0 2 0 (List.length qs), iA i, bA true, iA 0] ++ jk 122) ([AObj.box [iA (Prod.fst A), iA (Prod.snd A)], AObj.box [iA (Prod.fst B), iA (Prod.snd B)], AObj.box [iA (Prod.fst C), iA (Prod.snd C)], AObj.box [iA (Prod.fst D), iA (Prod.snd D)], AObj.row 2 0 none (upL (flatPP ls)), AObj.free, AObj.row 2 0 none (upL (flatPP qs))] ++ List.replicate 19 AObj.free) = some (AExit.exit 2, ((jk 4 ++ [AVal.ptr 0 0 0, AVal.ptr 1 0 0, AVal.ptr 2 0 0, AVal.ptr 3 0 0, AVal.junk, AVal.row 4 0 2 0 (List.length ls), AVal.row 6 0 2 0 (List.length qs), iA i, bA o, iA k] ++ jk 39 ++ [bA false] ++ jk 82), ([AObj.box [iA (Prod.fst A), iA (Prod.snd A)], AObj.box [iA (Prod.fst B), iA (Prod.snd B)], AObj.box [iA (Prod.fst C), iA (Prod.snd C)], AObj.box [iA (Prod.fst D), iA (Prod.snd D)], AObj.row 2 0 none (upL (flatPP ls)), AObj.free, AObj.row 2 0 none (upL (flatPP qs))])))) (e2 : (decide (i < 4)) = true → (0 + List.length qs) * 2 = List.length (upL (flatPP qs)) ∧ (List.length qs + 1) * 16 ≤ 140737488355328 ∧ List.length qs + 1 ≤ 9223372036854775807) (e3 : (decide (i < 4)) = true → Ones [iA (Prod.fst (pAtR ls (Int.toNat i))), iA (Prod.snd (pAtR ls (Int.toNat i)))]) (e4 : (decide (i < 4)) = true → upL (flatPP qs) ++ [iA (Prod.fst (pAtR ls (Int.toNat i))), iA (Prod.snd (pAtR ls (Int.toNat i)))] = upL (flatPP hs)) (e5 : (decide (i < 4)) = true → (!o1) = false → pureCall (cf L) (evalF (cf L) 201) 20 [ptP C, ptP D, ptP (pAtR ls (Int.toNat i))] = some (bP o2)) (e6 : (decide (i < 4)) = true → (!o1) = false → iterC 0 (evalC (cf L) (evalF (cf L) 201) ((lives.lookup 64).getD []) 0 0 201 (loopAt Try.f64 1)) 201 (jk 4 ++ [AVal.ptr 0 0 0, AVal.ptr 1 0 0, AVal.ptr 2 0 0, AVal.ptr 3 0 0, AVal.junk, AVal.row 4 0 2 0 (List.length ls), AVal.row 6 0 2 0 (List.length qs), iA i, bA !o2, iA 0] ++ jk 122) ([AObj.box [iA (Prod.fst A), iA (Prod.snd A)], AObj.box [iA (Prod.fst B), iA (Prod.snd B)], AObj.box [iA (Prod.fst C), iA (Prod.snd C)], AObj.box [iA (Prod.fst D), iA (Prod.snd D)], AObj.row 2 0 none (upL (flatPP ls)), AObj.free, AObj.row 2 0 none (upL (flatPP qs))] ++ List.replicate 19 AObj.free) = some (AExit.exit 2, ((jk 4 ++ [AVal.ptr 0 0 0, AVal.ptr 1 0 0, AVal.ptr 2 0 0, AVal.ptr 3 0 0, AVal.junk, AVal.row 4 0 2 0 (List.length ls), AVal.row 6 0 2 0 (List.length qs), iA i, bA o, iA k] ++ jk 39 ++ [bA false] ++ jk 82), ([AObj.box [iA (Prod.fst A), iA (Prod.snd A)], AObj.box [iA (Prod.fst B), iA (Prod.snd B)], AObj.box [iA (Prod.fst C), iA (Prod.snd C)], AObj.box [iA (Prod.fst D), iA (Prod.snd D)], AObj.row 2 0 none (upL (flatPP ls)), AObj.free, AObj.row 2 0 none (upL (flatPP qs))])))) : roundC 0 (evalC (cf L) (evalF (cf L) 201) (Option.getD (List.lookup 64 lives) []) 0 0 201 (loopAt Try.f64 0)) (rlT (List.length ls) (AVal.row 6 0 2 0 (List.length qs)) i) (rlS A B C D ls (rlR qs)) = some (rlO L A B C D ls qs hs i k o1 o2 o) := by
  have key := fun (bs : List Bool) (r : AExit × List AVal × List AObj) (ob : List Prop) (h : roundP (cf L) (evalF (cf L) 201) (Option.getD (List.lookup 64 lives) []) 0 0 201 [(9999, 0, Hint.idx), (7, 6, Hint.pcall (bP o1)), (7, 15, Hint.pcall (bP o2)), (13, 6, Hint.appY (upL (flatPP hs)))] (loopAt Try.f64 0) (rlT (List.length ls) (AVal.row 6 0 2 0 (List.length qs)) i) (rlS A B C D ls (rlR qs)) bs [(AExit.exit 2, rlV (List.length ls) (AVal.row 6 0 2 0 (List.length qs)) i o k, rlS A B C D ls (rlR qs))] = .ok (r.1, r.2.1, r.2.2, ob)) (hp : allOb ob) => roundP_ok h hp
  unfold rlO
  exact bif_case (P := fun r => roundC 0 (evalC (cf L) (evalF (cf L) 201) (Option.getD (List.lookup 64 lives) []) 0 0 201 (loopAt Try.f64 0)) (rlT (List.length ls) (AVal.row 6 0 2 0 (List.length qs)) i) (rlS A B C D ls (rlR qs)) = some r)
    (fun h0 => bif_case (P := fun r => roundC 0 (evalC (cf L) (evalF (cf L) 201) (Option.getD (List.lookup 64 lives) []) 0 0 201 (loopAt Try.f64 0)) (rlT (List.length ls) (AVal.row 6 0 2 0 (List.length qs)) i) (rlS A B C D ls (rlR qs)) = some r)
     (fun h1 => bif_case (P := fun r => roundC 0 (evalC (cf L) (evalF (cf L) 201) (Option.getD (List.lookup 64 lives) []) 0 0 201 (loopAt Try.f64 0)) (rlT (List.length ls) (AVal.row 6 0 2 0 (List.length qs)) i) (rlS A B C D ls (rlR qs)) = some r)
      (fun h2 => key [true, true, true] ((AExit.normal, ((jk 4 ++ [AVal.ptr 0 0 0, AVal.ptr 1 0 0, AVal.ptr 2 0 0, AVal.ptr 3 0 0, AVal.junk, AVal.row 4 0 2 0 (List.length ls), AVal.row 6 0 2 0 (List.length qs + 1), iA (IntKind.i64.wrap (i + 1))] ++ jk 124), ([AObj.box [iA (Prod.fst A), iA (Prod.snd A)], AObj.box [iA (Prod.fst B), iA (Prod.snd B)], AObj.box [iA (Prod.fst C), iA (Prod.snd C)], AObj.box [iA (Prod.fst D), iA (Prod.snd D)], AObj.row 2 0 none (upL (flatPP ls)), AObj.free, AObj.row 2 0 none (upL (flatPP hs))])))) _ (by kernel_rfl) (allOb_cons (show Plain ([AObj.box [iA (Prod.fst A), iA (Prod.snd A)], AObj.box [iA (Prod.fst B), iA (Prod.snd B)], AObj.box [iA (Prod.fst C), iA (Prod.snd C)], AObj.box [iA (Prod.fst D), iA (Prod.snd D)], AObj.row 2 0 none (upL (flatPP ls)), AObj.row 2 0 none [iA (Prod.fst (pAtR ls (Int.toNat i))), iA (Prod.snd (pAtR ls (Int.toNat i)))], AObj.row 2 1 none (upL (flatPP hs))]) from by simp only [Plain, List.all_append, List.all_cons, List.all_nil, plainO, upL_flatPP, flatP_plain, Nat.zero_mul, List.drop_zero] <;> rfl) (allOb_cons (by exact (e4 h0)) (allOb_cons (show 2 ≤ 2 from by decide) (allOb_cons (show 0 < 1 from by decide) (allOb_cons (by exact (e3 h0)) (allOb_cons (by exact (e2 h0)) (allOb_cons (partQ_pt (b0 h0)) (allOb_cons (b0 h0) (allOb_cons h2 (allOb_cons (by exact (e1 h0 h1)) (allOb_cons h1 (allOb_cons (by exact (e0 h0)) (allOb_cons (partQ_pt (b0 h0)) (allOb_cons (b0 h0) (allOb_cons h0 allOb_nil))))))))))))))))
      (fun h2 => key [true, true, false] ((AExit.normal, ((jk 4 ++ [AVal.ptr 0 0 0, AVal.ptr 1 0 0, AVal.ptr 2 0 0, AVal.ptr 3 0 0, AVal.junk, AVal.row 4 0 2 0 (List.length ls), AVal.row 6 0 2 0 (List.length qs), iA (IntKind.i64.wrap (i + 1))] ++ jk 124), ([AObj.box [iA (Prod.fst A), iA (Prod.snd A)], AObj.box [iA (Prod.fst B), iA (Prod.snd B)], AObj.box [iA (Prod.fst C), iA (Prod.snd C)], AObj.box [iA (Prod.fst D), iA (Prod.snd D)], AObj.row 2 0 none (upL (flatPP ls)), AObj.free, AObj.row 2 0 none (upL (flatPP qs))])))) _ (by kernel_rfl) (allOb_cons (show Plain ([AObj.box [iA (Prod.fst A), iA (Prod.snd A)], AObj.box [iA (Prod.fst B), iA (Prod.snd B)], AObj.box [iA (Prod.fst C), iA (Prod.snd C)], AObj.box [iA (Prod.fst D), iA (Prod.snd D)], AObj.row 2 0 none (upL (flatPP ls)), AObj.free, AObj.row 2 0 none (upL (flatPP qs))]) from by simp only [Plain, List.all_append, List.all_cons, List.all_nil, plainO, upL_flatPP, flatP_plain, Nat.zero_mul, List.drop_zero] <;> rfl) (allOb_cons h2 (allOb_cons (by exact (e1 h0 h1)) (allOb_cons h1 (allOb_cons (by exact (e0 h0)) (allOb_cons (partQ_pt (b0 h0)) (allOb_cons (b0 h0) (allOb_cons h0 allOb_nil))))))))))
     (fun h1 => bif_case (P := fun r => roundC 0 (evalC (cf L) (evalF (cf L) 201) (Option.getD (List.lookup 64 lives) []) 0 0 201 (loopAt Try.f64 0)) (rlT (List.length ls) (AVal.row 6 0 2 0 (List.length qs)) i) (rlS A B C D ls (rlR qs)) = some r)
      (fun h2 => key [true, false, true] ((AExit.normal, ((jk 4 ++ [AVal.ptr 0 0 0, AVal.ptr 1 0 0, AVal.ptr 2 0 0, AVal.ptr 3 0 0, AVal.junk, AVal.row 4 0 2 0 (List.length ls), AVal.row 6 0 2 0 (List.length qs + 1), iA (IntKind.i64.wrap (i + 1))] ++ jk 124), ([AObj.box [iA (Prod.fst A), iA (Prod.snd A)], AObj.box [iA (Prod.fst B), iA (Prod.snd B)], AObj.box [iA (Prod.fst C), iA (Prod.snd C)], AObj.box [iA (Prod.fst D), iA (Prod.snd D)], AObj.row 2 0 none (upL (flatPP ls)), AObj.free, AObj.row 2 0 none (upL (flatPP hs))])))) _ (by kernel_rfl) (allOb_cons (show Plain ([AObj.box [iA (Prod.fst A), iA (Prod.snd A)], AObj.box [iA (Prod.fst B), iA (Prod.snd B)], AObj.box [iA (Prod.fst C), iA (Prod.snd C)], AObj.box [iA (Prod.fst D), iA (Prod.snd D)], AObj.row 2 0 none (upL (flatPP ls)), AObj.row 2 0 none [iA (Prod.fst (pAtR ls (Int.toNat i))), iA (Prod.snd (pAtR ls (Int.toNat i)))], AObj.row 2 1 none (upL (flatPP hs))]) from by simp only [Plain, List.all_append, List.all_cons, List.all_nil, plainO, upL_flatPP, flatP_plain, Nat.zero_mul, List.drop_zero] <;> rfl) (allOb_cons (by exact (e4 h0)) (allOb_cons (show 2 ≤ 2 from by decide) (allOb_cons (show 0 < 1 from by decide) (allOb_cons (by exact (e3 h0)) (allOb_cons (by exact (e2 h0)) (allOb_cons (partQ_pt (b0 h0)) (allOb_cons (b0 h0) (allOb_cons h2 (allOb_cons (by exact (e6 h0 h1)) (allOb_cons (by exact (e5 h0 h1)) (allOb_cons (partQ_pt (b0 h0)) (allOb_cons (b0 h0) (allOb_cons h1 (allOb_cons (by exact (e0 h0)) (allOb_cons (partQ_pt (b0 h0)) (allOb_cons (b0 h0) (allOb_cons h0 allOb_nil)))))))))))))))))))
      (fun h2 => key [true, false, false] ((AExit.normal, ((jk 4 ++ [AVal.ptr 0 0 0, AVal.ptr 1 0 0, AVal.ptr 2 0 0, AVal.ptr 3 0 0, AVal.junk, AVal.row 4 0 2 0 (List.length ls), AVal.row 6 0 2 0 (List.length qs), iA (IntKind.i64.wrap (i + 1))] ++ jk 124), ([AObj.box [iA (Prod.fst A), iA (Prod.snd A)], AObj.box [iA (Prod.fst B), iA (Prod.snd B)], AObj.box [iA (Prod.fst C), iA (Prod.snd C)], AObj.box [iA (Prod.fst D), iA (Prod.snd D)], AObj.row 2 0 none (upL (flatPP ls)), AObj.free, AObj.row 2 0 none (upL (flatPP qs))])))) _ (by kernel_rfl) (allOb_cons (show Plain ([AObj.box [iA (Prod.fst A), iA (Prod.snd A)], AObj.box [iA (Prod.fst B), iA (Prod.snd B)], AObj.box [iA (Prod.fst C), iA (Prod.snd C)], AObj.box [iA (Prod.fst D), iA (Prod.snd D)], AObj.row 2 0 none (upL (flatPP ls)), AObj.free, AObj.row 2 0 none (upL (flatPP qs))]) from by simp only [Plain, List.all_append, List.all_cons, List.all_nil, plainO, upL_flatPP, flatP_plain, Nat.zero_mul, List.drop_zero] <;> rfl) (allOb_cons h2 (allOb_cons (by exact (e6 h0 h1)) (allOb_cons (by exact (e5 h0 h1)) (allOb_cons (partQ_pt (b0 h0)) (allOb_cons (b0 h0) (allOb_cons h1 (allOb_cons (by exact (e0 h0)) (allOb_cons (partQ_pt (b0 h0)) (allOb_cons (b0 h0) (allOb_cons h0 allOb_nil))))))))))))))
    (fun h0 => key [false] ((AExit.exit 0, ((jk 4 ++ [AVal.ptr 0 0 0, AVal.ptr 1 0 0, AVal.ptr 2 0 0, AVal.ptr 3 0 0, AVal.junk, AVal.row 4 0 2 0 (List.length ls), AVal.row 6 0 2 0 (List.length qs), iA i] ++ jk 17 ++ [bA false] ++ jk 106), ([AObj.box [iA (Prod.fst A), iA (Prod.snd A)], AObj.box [iA (Prod.fst B), iA (Prod.snd B)], AObj.box [iA (Prod.fst C), iA (Prod.snd C)], AObj.box [iA (Prod.fst D), iA (Prod.snd D)], AObj.row 2 0 none (upL (flatPP ls)), AObj.free, AObj.row 2 0 none (upL (flatPP qs))])))) _ (by kernel_rfl) (allOb_cons (show Plain ([AObj.box [iA (Prod.fst A), iA (Prod.snd A)], AObj.box [iA (Prod.fst B), iA (Prod.snd B)], AObj.box [iA (Prod.fst C), iA (Prod.snd C)], AObj.box [iA (Prod.fst D), iA (Prod.snd D)], AObj.row 2 0 none (upL (flatPP ls)), AObj.free, AObj.row 2 0 none (upL (flatPP qs))]) from by simp only [Plain, List.all_append, List.all_cons, List.all_nil, plainO, upL_flatPP, flatP_plain, Nat.zero_mul, List.drop_zero] <;> rfl) (allOb_cons h0 allOb_nil)))
def rlA0 (L : Lib Try.prog) (a : P2) (b : P2) (c : P2) (d : P2) (t1 : Int) (t2 : Int) (t3 : Int) (t4 : Int) : PVal :=
  (bif !eqB (nearP a) (nearP b) then (bif !eqB (nearP c) (nearP d) then (bif decide (IntKind.i64.wrap (t1 * t2) < 0) then (bif decide (IntKind.i64.wrap (t3 * t4) < 0) then iP 3 else iP 0) else iP 0) else iP 0) else iP 0)
theorem rlA0_calls (L : Lib Try.prog) (a : P2) (b : P2) (c : P2) (d : P2) (t1 : Int) (t2 : Int) (t3 : Int) (t4 : Int) (e0 : pureCall (cf L) (evalF (cf L) 201) 50 [ptP a] = some (ptP (nearP a))) (e1 : pureCall (cf L) (evalF (cf L) 201) 50 [ptP b] = some (ptP (nearP b))) (e2 : pureCall (cf L) (evalF (cf L) 201) 50 [ptP c] = some (ptP (nearP c))) (e3 : pureCall (cf L) (evalF (cf L) 201) 50 [ptP d] = some (ptP (nearP d))) (e4 : iterC 0 (evalC (cf L) (evalF (cf L) 201) ((lives.lookup 64).getD []) 0 0 201 (loopAt Try.f64 0)) 201 (jk 4 ++ [AVal.ptr 0 0 0, AVal.ptr 1 0 0, AVal.ptr 2 0 0, AVal.ptr 3 0 0, AVal.junk, AVal.row 4 0 2 0 4, AVal.v (Value.slice none 0 0), iA 0] ++ jk 124) ([AObj.box [iA (Prod.fst (nearP a)), iA (Prod.snd (nearP a))], AObj.box [iA (Prod.fst (nearP b)), iA (Prod.snd (nearP b))], AObj.box [iA (Prod.fst (nearP c)), iA (Prod.snd (nearP c))], AObj.box [iA (Prod.fst (nearP d)), iA (Prod.snd (nearP d))], AObj.row 2 0 none [iA (Prod.fst (nearP a)), iA (Prod.snd (nearP a)), iA (Prod.fst (nearP b)), iA (Prod.snd (nearP b)), iA (Prod.fst (nearP c)), iA (Prod.snd (nearP c)), iA (Prod.fst (nearP d)), iA (Prod.snd (nearP d))]] ++ List.replicate 11 AObj.free) = some (AExit.exit 0, ((jk 4 ++ [AVal.ptr 0 0 0, AVal.ptr 1 0 0, AVal.ptr 2 0 0, AVal.ptr 3 0 0, AVal.junk, AVal.row 4 0 2 0 4, AVal.v (Value.slice none 0 0), iA 4] ++ jk 17 ++ [bA false] ++ jk 106), ([AObj.box [iA (Prod.fst (nearP a)), iA (Prod.snd (nearP a))], AObj.box [iA (Prod.fst (nearP b)), iA (Prod.snd (nearP b))], AObj.box [iA (Prod.fst (nearP c)), iA (Prod.snd (nearP c))], AObj.box [iA (Prod.fst (nearP d)), iA (Prod.snd (nearP d))], AObj.row 2 0 none [iA (Prod.fst (nearP a)), iA (Prod.snd (nearP a)), iA (Prod.fst (nearP b)), iA (Prod.snd (nearP b)), iA (Prod.fst (nearP c)), iA (Prod.snd (nearP c)), iA (Prod.fst (nearP d)), iA (Prod.snd (nearP d))]])))) (e5 : (!eqB (nearP a) (nearP b)) = true → (!eqB (nearP c) (nearP d)) = true → pureCall (cf L) (evalF (cf L) 201) 51 [ptP (nearP a), ptP (nearP b), ptP (nearP c)] = some (iP t1)) (e6 : (!eqB (nearP a) (nearP b)) = true → (!eqB (nearP c) (nearP d)) = true → pureCall (cf L) (evalF (cf L) 201) 51 [ptP (nearP a), ptP (nearP b), ptP (nearP d)] = some (iP t2)) (e7 : (!eqB (nearP a) (nearP b)) = true → (!eqB (nearP c) (nearP d)) = true → (decide (IntKind.i64.wrap (t1 * t2) < 0)) = true → pureCall (cf L) (evalF (cf L) 201) 51 [ptP (nearP c), ptP (nearP d), ptP (nearP a)] = some (iP t3)) (e8 : (!eqB (nearP a) (nearP b)) = true → (!eqB (nearP c) (nearP d)) = true → (decide (IntKind.i64.wrap (t1 * t2) < 0)) = true → pureCall (cf L) (evalF (cf L) 201) 51 [ptP (nearP c), ptP (nearP d), ptP (nearP b)] = some (iP t4)) : CallsP Try.prog 64 [ptP a, ptP b, ptP c, ptP d] (rlA0 L a b c d t1 t2 t3 t4) := by
  have key := fun (bs : List Bool) (r : PVal) (ob : List Prop) (h : callP (cf L) (evalF (cf L) 201) 201 [(9999, 0, Hint.idx), (1, 1, Hint.pcall (ptP (nearP a))), (1, 3, Hint.pcall (ptP (nearP b))), (1, 5, Hint.pcall (ptP (nearP c))), (1, 7, Hint.pcall (ptP (nearP d))), (16, 12, Hint.pcall (iP t1)), (16, 16, Hint.pcall (iP t2)), (16, 24, Hint.pcall (iP t3)), (16, 28, Hint.pcall (iP t4))] 64 [ptP a, ptP b, ptP c, ptP d] bs [(AExit.exit 0, rlE 4 (AVal.v (Value.slice none 0 0)) 4, rlS (nearP a) (nearP b) (nearP c) (nearP d) [nearP a, nearP b, nearP c, nearP d] [])] (none) = .ok (r, ob)) (hp : allOb ob) => callP_ok (cf_ok L) h hp
  unfold rlA0
  exact bif_case (P := fun r => CallsP Try.prog 64 [ptP a, ptP b, ptP c, ptP d] r)
    (fun h0 => bif_case (P := fun r => CallsP Try.prog 64 [ptP a, ptP b, ptP c, ptP d] r)
     (fun h1 => bif_case (P := fun r => CallsP Try.prog 64 [ptP a, ptP b, ptP c, ptP d] r)
      (fun h2 => bif_case (P := fun r => CallsP Try.prog 64 [ptP a, ptP b, ptP c, ptP d] r)
       (fun h3 => key [true, true, true, true, true] (iP 3) _ (by kernel_rfl) (allOb_cons h3 (allOb_cons (by exact (e8 h0 h1 h2)) (allOb_cons (by exact (e7 h0 h1 h2)) (allOb_cons h2 (allOb_cons (by exact (e6 h0 h1)) (allOb_cons (by exact (e5 h0 h1)) (allOb_cons h1 (allOb_cons h0 (allOb_cons lit_t (allOb_cons (by exact e4) (allOb_cons (by exact e3) (allOb_cons (by exact e2) (allOb_cons (by exact e1) (allOb_cons (by exact e0) allOb_nil)))))))))))))))
       (fun h3 => key [true, true, true, true, false] (iP 0) _ (by kernel_rfl) (allOb_cons h3 (allOb_cons (by exact (e8 h0 h1 h2)) (allOb_cons (by exact (e7 h0 h1 h2)) (allOb_cons h2 (allOb_cons (by exact (e6 h0 h1)) (allOb_cons (by exact (e5 h0 h1)) (allOb_cons h1 (allOb_cons h0 (allOb_cons lit_t (allOb_cons (by exact e4) (allOb_cons (by exact e3) (allOb_cons (by exact e2) (allOb_cons (by exact e1) (allOb_cons (by exact e0) allOb_nil))))))))))))))))
      (fun h2 => key [true, true, true, false, false] (iP 0) _ (by kernel_rfl) (allOb_cons lit_f (allOb_cons h2 (allOb_cons (by exact (e6 h0 h1)) (allOb_cons (by exact (e5 h0 h1)) (allOb_cons h1 (allOb_cons h0 (allOb_cons lit_t (allOb_cons (by exact e4) (allOb_cons (by exact e3) (allOb_cons (by exact e2) (allOb_cons (by exact e1) (allOb_cons (by exact e0) allOb_nil))))))))))))))
     (fun h1 => key [true, true, false, false, false] (iP 0) _ (by kernel_rfl) (allOb_cons lit_f (allOb_cons lit_f (allOb_cons h1 (allOb_cons h0 (allOb_cons lit_t (allOb_cons (by exact e4) (allOb_cons (by exact e3) (allOb_cons (by exact e2) (allOb_cons (by exact e1) (allOb_cons (by exact e0) allOb_nil))))))))))))
    (fun h0 => key [true, false, false, false, false] (iP 0) _ (by kernel_rfl) (allOb_cons lit_f (allOb_cons lit_f (allOb_cons lit_f (allOb_cons h0 (allOb_cons lit_t (allOb_cons (by exact e4) (allOb_cons (by exact e3) (allOb_cons (by exact e2) (allOb_cons (by exact e1) (allOb_cons (by exact e0) allOb_nil)))))))))))
def rlA (L : Lib Try.prog) (a : P2) (b : P2) (c : P2) (d : P2) (qs : List P2) : PVal :=
  (bif (↑(List.length qs) : Int) == 1 then (bif eqB (pAtR qs 0) (nearP a) then (bif eqB (pAtR qs 0) (nearP c) then iP 1 else (bif eqB (pAtR qs 0) (nearP d) then iP 1 else iP 2)) else (bif eqB (pAtR qs 0) (nearP b) then (bif eqB (pAtR qs 0) (nearP c) then iP 1 else (bif eqB (pAtR qs 0) (nearP d) then iP 1 else iP 2)) else iP 2)) else iP 4)
theorem rlA_calls (L : Lib Try.prog) (a : P2) (b : P2) (c : P2) (d : P2) (qs : List P2) (p0 : ((↑(List.length qs) : Int) == 0) = false) (e0 : pureCall (cf L) (evalF (cf L) 201) 50 [ptP a] = some (ptP (nearP a))) (e1 : pureCall (cf L) (evalF (cf L) 201) 50 [ptP b] = some (ptP (nearP b))) (e2 : pureCall (cf L) (evalF (cf L) 201) 50 [ptP c] = some (ptP (nearP c))) (e3 : pureCall (cf L) (evalF (cf L) 201) 50 [ptP d] = some (ptP (nearP d))) (e4 : iterC 0 (evalC (cf L) (evalF (cf L) 201) ((lives.lookup 64).getD []) 0 0 201 (loopAt Try.f64 0)) 201 (jk 4 ++ [AVal.ptr 0 0 0, AVal.ptr 1 0 0, AVal.ptr 2 0 0, AVal.ptr 3 0 0, AVal.junk, AVal.row 4 0 2 0 4, AVal.v (Value.slice none 0 0), iA 0] ++ jk 124) ([AObj.box [iA (Prod.fst (nearP a)), iA (Prod.snd (nearP a))], AObj.box [iA (Prod.fst (nearP b)), iA (Prod.snd (nearP b))], AObj.box [iA (Prod.fst (nearP c)), iA (Prod.snd (nearP c))], AObj.box [iA (Prod.fst (nearP d)), iA (Prod.snd (nearP d))], AObj.row 2 0 none [iA (Prod.fst (nearP a)), iA (Prod.snd (nearP a)), iA (Prod.fst (nearP b)), iA (Prod.snd (nearP b)), iA (Prod.fst (nearP c)), iA (Prod.snd (nearP c)), iA (Prod.fst (nearP d)), iA (Prod.snd (nearP d))]] ++ List.replicate 11 AObj.free) = some (AExit.exit 0, ((jk 4 ++ [AVal.ptr 0 0 0, AVal.ptr 1 0 0, AVal.ptr 2 0 0, AVal.ptr 3 0 0, AVal.junk, AVal.row 4 0 2 0 4, AVal.row 6 0 2 0 (List.length qs), iA 4] ++ jk 17 ++ [bA false] ++ jk 106), ([AObj.box [iA (Prod.fst (nearP a)), iA (Prod.snd (nearP a))], AObj.box [iA (Prod.fst (nearP b)), iA (Prod.snd (nearP b))], AObj.box [iA (Prod.fst (nearP c)), iA (Prod.snd (nearP c))], AObj.box [iA (Prod.fst (nearP d)), iA (Prod.snd (nearP d))], AObj.row 2 0 none [iA (Prod.fst (nearP a)), iA (Prod.snd (nearP a)), iA (Prod.fst (nearP b)), iA (Prod.snd (nearP b)), iA (Prod.fst (nearP c)), iA (Prod.snd (nearP c)), iA (Prod.fst (nearP d)), iA (Prod.snd (nearP d))], AObj.free, AObj.row 2 0 none (upL (flatPP qs))])))) (b0 : ((↑(List.length qs) : Int) == 1) = true → (0 : Int) ≤ 0 ∧ (0 : Int) < (↑(List.length qs) : Int)) : CallsP Try.prog 64 [ptP a, ptP b, ptP c, ptP d] (rlA L a b c d qs) := by
  have key := fun (bs : List Bool) (r : PVal) (ob : List Prop) (h : callP (cf L) (evalF (cf L) 201) 201 [(9999, 0, Hint.idx), (1, 1, Hint.pcall (ptP (nearP a))), (1, 3, Hint.pcall (ptP (nearP b))), (1, 5, Hint.pcall (ptP (nearP c))), (1, 7, Hint.pcall (ptP (nearP d)))] 64 [ptP a, ptP b, ptP c, ptP d] bs [(AExit.exit 0, rlE 4 (AVal.row 6 0 2 0 (List.length qs)) 4, rlS (nearP a) (nearP b) (nearP c) (nearP d) [nearP a, nearP b, nearP c, nearP d] (rlR qs))] (none) = .ok (r, ob)) (hp : allOb ob) => callP_ok (cf_ok L) h hp
  unfold rlA
  exact bif_case (P := fun r => CallsP Try.prog 64 [ptP a, ptP b, ptP c, ptP d] r)
    (fun h0 => bif_case (P := fun r => CallsP Try.prog 64 [ptP a, ptP b, ptP c, ptP d] r)
     (fun h1 => bif_case (P := fun r => CallsP Try.prog 64 [ptP a, ptP b, ptP c, ptP d] r)
      (fun h2 => key [false, true, true, true, true, true] (iP 1) _ (by kernel_rfl) (allOb_cons lit_t (allOb_cons h2 (allOb_cons lit_t (allOb_cons h1 (allOb_cons (part_pt (b0 h0)) (allOb_cons (b0 h0) (allOb_cons h0 (allOb_cons p0 (allOb_cons (by exact e4) (allOb_cons (by exact e3) (allOb_cons (by exact e2) (allOb_cons (by exact e1) (allOb_cons (by exact e0) allOb_nil))))))))))))))
      (fun h2 => bif_case (P := fun r => CallsP Try.prog 64 [ptP a, ptP b, ptP c, ptP d] r)
       (fun h3 => key [false, true, true, true, false, true] (iP 1) _ (by kernel_rfl) (allOb_cons h3 (allOb_cons h2 (allOb_cons lit_t (allOb_cons h1 (allOb_cons (part_pt (b0 h0)) (allOb_cons (b0 h0) (allOb_cons h0 (allOb_cons p0 (allOb_cons (by exact e4) (allOb_cons (by exact e3) (allOb_cons (by exact e2) (allOb_cons (by exact e1) (allOb_cons (by exact e0) allOb_nil))))))))))))))
       (fun h3 => key [false, true, true, true, false, false] (iP 2) _ (by kernel_rfl) (allOb_cons h3 (allOb_cons h2 (allOb_cons lit_t (allOb_cons h1 (allOb_cons (part_pt (b0 h0)) (allOb_cons (b0 h0) (allOb_cons h0 (allOb_cons p0 (allOb_cons (by exact e4) (allOb_cons (by exact e3) (allOb_cons (by exact e2) (allOb_cons (by exact e1) (allOb_cons (by exact e0) allOb_nil))))))))))))))))
     (fun h1 => bif_case (P := fun r => CallsP Try.prog 64 [ptP a, ptP b, ptP c, ptP d] r)
      (fun h2 => bif_case (P := fun r => CallsP Try.prog 64 [ptP a, ptP b, ptP c, ptP d] r)
       (fun h3 => key [false, true, false, true, true, true] (iP 1) _ (by kernel_rfl) (allOb_cons lit_t (allOb_cons h3 (allOb_cons h2 (allOb_cons h1 (allOb_cons (part_pt (b0 h0)) (allOb_cons (b0 h0) (allOb_cons h0 (allOb_cons p0 (allOb_cons (by exact e4) (allOb_cons (by exact e3) (allOb_cons (by exact e2) (allOb_cons (by exact e1) (allOb_cons (by exact e0) allOb_nil))))))))))))))
       (fun h3 => bif_case (P := fun r => CallsP Try.prog 64 [ptP a, ptP b, ptP c, ptP d] r)
        (fun h4 => key [false, true, false, true, false, true] (iP 1) _ (by kernel_rfl) (allOb_cons h4 (allOb_cons h3 (allOb_cons h2 (allOb_cons h1 (allOb_cons (part_pt (b0 h0)) (allOb_cons (b0 h0) (allOb_cons h0 (allOb_cons p0 (allOb_cons (by exact e4) (allOb_cons (by exact e3) (allOb_cons (by exact e2) (allOb_cons (by exact e1) (allOb_cons (by exact e0) allOb_nil))))))))))))))
        (fun h4 => key [false, true, false, true, false, false] (iP 2) _ (by kernel_rfl) (allOb_cons h4 (allOb_cons h3 (allOb_cons h2 (allOb_cons h1 (allOb_cons (part_pt (b0 h0)) (allOb_cons (b0 h0) (allOb_cons h0 (allOb_cons p0 (allOb_cons (by exact e4) (allOb_cons (by exact e3) (allOb_cons (by exact e2) (allOb_cons (by exact e1) (allOb_cons (by exact e0) allOb_nil))))))))))))))))
      (fun h2 => key [false, true, false, false, false] (iP 2) _ (by kernel_rfl) (allOb_cons lit_f (allOb_cons h2 (allOb_cons h1 (allOb_cons (part_pt (b0 h0)) (allOb_cons (b0 h0) (allOb_cons h0 (allOb_cons p0 (allOb_cons (by exact e4) (allOb_cons (by exact e3) (allOb_cons (by exact e2) (allOb_cons (by exact e1) (allOb_cons (by exact e0) allOb_nil)))))))))))))))
    (fun h0 => key [false, false] (iP 4) _ (by kernel_rfl) (allOb_cons h0 (allOb_cons p0 (allOb_cons (by exact e4) (allOb_cons (by exact e3) (allOb_cons (by exact e2) (allOb_cons (by exact e1) (allOb_cons (by exact e0) allOb_nil))))))))
end Go.Proofs.Ytmopbegmdegooaa
/- terrierref9.Relate: it answers as seg.Relate does. -/
namespace Go.Proofs.Ytmopbegmdegooaa
open Go Vm M
set_option linter.unusedVariables false
set_option linter.unusedSimpArgs false
def xQ : List P2 → AVal
  | [] => .v (.slice none 0 0)
  | q :: qs => .row 6 0 2 0 (q :: qs).length
def RQ : List P2 → List AObj
  | [] => []
  | q :: qs => rlR (q :: qs)
noncomputable abbrev bodyR9 : List AVal → List AObj → Res := evalC (cf N8) (evalF (cf N8) 201) ((lives.lookup 64).getD []) 0 0 201 (loopAt Try.f64 0)
noncomputable abbrev bodyR9i : List AVal → List AObj → Res := evalC (cf N8) (evalF (cf N8) 201) ((lives.lookup 64).getD []) 0 0 201 (loopAt Try.f64 1)
section
variable (A B C D : P2) (ls : List P2)
theorem r9_in0 (i : Int) (o : Bool) : At 0 bodyR9i 1 (rlU ls.length (.v (.slice none 0 0)) i o 0) (rlS A B C D ls []) (some (.exit 2, rlV ls.length (.v (.slice none 0 0)) i o 0, rlS A B C D ls [])) :=
  At.leave (rlJ_eq N8 A B C D ls i o) (by simp)
theorem r9_inStep (qs : List P2) (i k : Nat) (o : Bool) (hl : ls.length = 4) (hi : i < 4) (hk : k < qs.length) (h200 : qs.length ≤ 200) :
    roundC 0 bodyR9i (rlU ls.length (.row 6 0 2 0 qs.length) i (o || (qs.take k).any (eqB · (pAt ls i))) k) (rlS A B C D ls (rlR qs)) = some (.normal, rlU ls.length (.row 6 0 2 0 qs.length) i (o || (qs.take (k + 1)).any (eqB · (pAt ls i))) (k + 1 : Nat), rlS A B C D ls (rlR qs)) := by
  have h := rlI_eq N8 A B C D ls qs i k (o || (qs.take k).any (eqB · (pAt ls i))) (fun _ _ => ⟨by omega, by omega⟩) (fun _ _ => ⟨by omega, by omega⟩)
  rw [show bodyR9i = _ from rfl]
  rw [h]
  unfold rlI
  rw [decide_eq_true (by omega : (k : Int) < (qs.length : Int)), wrS (by omega), Int.toNat_natCast, Int.toNat_natCast, pAtR_eq, pAtR_eq]
  have e : (o || (qs.take (k + 1)).any (eqB · (pAt ls i))) = ((o || (qs.take k).any (eqB · (pAt ls i))) || eqB (pAt qs k) (pAt ls i)) := by
    rw [List.take_add_one, List.getElem?_eq_getElem hk, List.any_append, pAt_getElem hk]
    simp [Bool.or_assoc]
  rw [e]
  cases (o || (qs.take k).any (eqB · (pAt ls i))) <;> rfl
theorem r9_in (qs : List P2) (i : Nat) (o : Bool) (hl : ls.length = 4) (hi : i < 4) (h200 : qs.length ≤ 200) :
    At 0 bodyR9i (qs.length + 1) (rlU ls.length (.row 6 0 2 0 qs.length) i o (0 : Nat)) (rlS A B C D ls (rlR qs)) (some (.exit 2, rlV ls.length (.row 6 0 2 0 qs.length) i (o || qs.any (eqB · (pAt ls i))) qs.length, rlS A B C D ls (rlR qs))) := by
  have hend : roundC 0 bodyR9i (rlU ls.length (.row 6 0 2 0 qs.length) i (o || (qs.take qs.length).any (eqB · (pAt ls i))) qs.length) (rlS A B C D ls (rlR qs)) = some (.exit 2, rlV ls.length (.row 6 0 2 0 qs.length) i (o || qs.any (eqB · (pAt ls i))) qs.length, rlS A B C D ls (rlR qs)) := by
    have hd : decide ((qs.length : Int) < (qs.length : Int)) = false := decide_eq_false (by omega)
    have h := rlI_eq N8 A B C D ls qs i qs.length (o || (qs.take qs.length).any (eqB · (pAt ls i))) (fun h => by rw [hd] at h; cases h) (fun h => by rw [hd] at h; cases h)
    rw [show bodyR9i = _ from rfl]
    rw [h]
    unfold rlI
    rw [hd, List.take_length]
    rfl
  have := At.upto (base := 0) (body := bodyR9i) (T := fun k => rlU ls.length (.row 6 0 2 0 qs.length) i (o || (qs.take k).any (eqB · (pAt ls i))) k) (S := fun _ => rlS A B C D ls (rlR qs)) (n := qs.length) (m := 1)
    (fun k hk => r9_inStep A B C D ls qs i k o hl hi hk h200) (At.leave hend (by simp)) qs.length 0 (by omega)
  simp only [List.take_zero, List.any_nil, Bool.or_false] at this
  exact this
def stepQ (p : P2) (qs : List P2) : List P2 := bif qs.any (eqB · p) || !M.on A B p || !M.on C D p then qs else qs ++ [p]
theorem on_given9 (a b p : P2) {ev : Ev} : pureCall (cf N8) ev 20 [ptP a, ptP b, ptP p] = some (bP (M.on a b p)) := pure_given (g := g3 fun a b c => bP (M.on a b c)) (by kernel_rfl) rfl
theorem r9_step (qs : List P2) (i : Nat) (hl : ls.length = 4) (hi : i < 4) (h200 : qs.length ≤ 100) :
    roundC 0 bodyR9 (rlT ls.length (xQ qs) i) (rlS A B C D ls (RQ qs)) = some (.normal, rlT ls.length (xQ (stepQ A B C D (pAt ls i) qs)) (i + 1 : Nat), rlS A B C D ls (RQ (stepQ A B C D (pAt ls i) qs))) := by
  have hp : pAtR ls (Int.toNat (i : Int)) = pAt ls i := by rw [Int.toNat_natCast, pAtR_eq]
  have hpl : ∀ R : List AObj, R.all plainO = true → (rlS A B C D ls R).all plainO = true := fun R hR => by
    unfold rlS
    simp only [List.all_append, List.all_cons, List.all_nil, plainO, upL_flatPP, flatP_plain, hR]
    rfl
  rw [show bodyR9 = _ from rfl]
  cases qs with
  | nil =>
    have h := rlO0_eq N8 A B C D ls i (M.on A B (pAt ls i)) (M.on C D (pAt ls i)) (!M.on A B (pAt ls i) || !M.on C D (pAt ls i)) (fun _ => ⟨by omega, by omega⟩) (fun _ => by rw [hp]; exact on_given9 _ _ _)
      (fun _ h1 => by
        rw [h1, Bool.true_or]
        exact At.use (at_more (r9_in0 A B C D ls i true) (m := 201) (by omega)) (hpl [] rfl) (by kernel_rfl))
      (fun _ _ => by rw [hp]; exact on_given9 _ _ _)
      (fun _ h1 => by
        rw [h1, Bool.false_or]
        exact At.use (at_more (r9_in0 A B C D ls i (!M.on C D (pAt ls i))) (m := 201) (by omega)) (hpl [] rfl) (by kernel_rfl))
    rw [show rlT ls.length (xQ []) i = rlT ls.length (.v (.slice none 0 0)) i from rfl, show RQ [] = [] from rfl]
    rw [h]
    unfold rlO0 stepQ
    rw [decide_eq_true (by omega : (i : Int) < 4), wrS (by omega), hp]
    simp only [List.any_nil, Bool.false_or]
    cases M.on A B (pAt ls i) <;> cases M.on C D (pAt ls i) <;> rfl
  | cons q qt =>
    have hin := r9_in A B C D ls (q :: qt)
    have hR : (rlR (q :: qt)).all plainO = true := by
      unfold rlR
      simp only [List.all_cons, List.all_nil, plainO, upL_flatPP, flatP_plain]
      rfl
    have h := rlO_eq N8 A B C D ls (q :: qt) ((q :: qt) ++ [pAt ls i]) i (q :: qt).length (M.on A B (pAt ls i)) (M.on C D (pAt ls i)) ((!M.on A B (pAt ls i) || !M.on C D (pAt ls i)) || (q :: qt).any (eqB · (pAt ls i))) (fun _ => ⟨by omega, by omega⟩) (fun _ => by rw [hp]; exact on_given9 _ _ _)
      (fun _ h1 => by
        rw [h1, Bool.true_or]
        exact At.use (at_more (hin i true hl hi (by omega)) (m := 201) (by omega)) (hpl _ hR) (by kernel_rfl))
      (fun _ => ⟨by rw [upL_flatPP, flatP_length]; omega, by omega, by omega⟩) (fun _ => by rfl)
      (fun _ => by
        rw [hp]
        have := flat_snoc (q :: qt) (pAt ls i)
        rw [List.drop_zero] at this
        exact this)
      (fun _ _ => by rw [hp]; exact on_given9 _ _ _)
      (fun _ h1 => by
        rw [h1, Bool.false_or]
        exact At.use (at_more (hin i (!M.on C D (pAt ls i)) hl hi (by omega)) (m := 201) (by omega)) (hpl _ hR) (by kernel_rfl))
    rw [show rlT ls.length (xQ (q :: qt)) i = rlT ls.length (.row 6 0 2 0 (q :: qt).length) i from rfl, show RQ (q :: qt) = rlR (q :: qt) from rfl]
    rw [h]
    unfold rlO stepQ
    rw [decide_eq_true (by omega : (i : Int) < 4), wrS (by omega)]
    have hlen : ((q :: qt) ++ [pAt ls i]).length = (q :: qt).length + 1 := by simp
    cases (q :: qt).any (eqB · (pAt ls i)) <;> cases M.on A B (pAt ls i) <;> cases M.on C D (pAt ls i) <;> first | rfl | (simp only [Bool.not_true, Bool.not_false, Bool.or_false, Bool.or_true, cond_true, cond_false]; rw [show xQ ((q :: qt) ++ [pAt ls i]) = .row 6 0 2 0 ((q :: qt) ++ [pAt ls i]).length from rfl, hlen]; rfl)
end
end Go.Proofs.Ytmopbegmdegooaa
/- terrierref9.Relate: it answers as seg.Relate does (the call). -/
namespace Go.Proofs.Ytmopbegmdegooaa
open Go Vm M
set_option linter.unusedVariables false
set_option linter.unusedSimpArgs false
section
variable (A B C D : P2) (ls : List P2)
def shQ (k : Nat) : List P2 := (endsF A B C D (ls.take k) (0, 0, [])).2.2
theorem endsF_snoc (p : P2) : ∀ (M0 : List P2) (s : Int × Int × List P2), endsF A B C D (M0 ++ [p]) s = endsStep A B C D p (endsF A B C D M0 s)
  | [], s => rfl
  | q :: M0, s => endsF_snoc p M0 _
theorem stepQ_ends (p : P2) (s : Int × Int × List P2) : (endsStep A B C D p s).2.2 = stepQ A B C D p s.2.2 := by
  unfold endsStep stepQ
  cases hb : (s.2.2.any (eqB · p) || !M.on A B p || !M.on C D p) with
  | true => rfl
  | false => rfl
theorem shQ_succ {k : Nat} (hk : k < ls.length) : shQ A B C D ls (k + 1) = stepQ A B C D (pAt ls k) (shQ A B C D ls k) := by
  unfold shQ
  rw [List.take_add_one, List.getElem?_eq_getElem hk, pAt_getElem hk, ← stepQ_ends, ← endsF_snoc]
  rfl
theorem shQ_len : ∀ k, k ≤ ls.length → (shQ A B C D ls k).length ≤ k
  | 0, _ => by simp [shQ, endsF]
  | k + 1, h => by
    have := shQ_len k (by omega)
    rw [shQ_succ A B C D ls (by omega)]
    unfold stepQ
    cases (shQ A B C D ls k).any (eqB · (pAt ls k)) || !M.on A B (pAt ls k) || !M.on C D (pAt ls k) with
    | true => simp only [cond_true]; omega
    | false => simp only [cond_false, List.length_append, List.length_singleton]; omega
theorem r9_loop (hl : ls.length = 4) {r : Res} (he : At 0 bodyR9 1 (rlT ls.length (xQ (shQ A B C D ls 4)) (4 : Nat)) (rlS A B C D ls (RQ (shQ A B C D ls 4))) r) : At 0 bodyR9 5 (rlT ls.length (.v (.slice none 0 0)) (0 : Nat)) (rlS A B C D ls []) r :=
  At.upto (base := 0) (body := bodyR9) (T := fun k => rlT ls.length (xQ (shQ A B C D ls k)) k) (S := fun k => rlS A B C D ls (RQ (shQ A B C D ls k))) (n := 4) (m := 1) (fun k hk => by
    show roundC 0 bodyR9 _ _ = some (.normal, rlT ls.length (xQ (shQ A B C D ls (k + 1))) (k + 1 : Nat), rlS A B C D ls (RQ (shQ A B C D ls (k + 1))))
    rw [shQ_succ A B C D ls (by omega)]
    exact r9_step A B C D ls _ k hl hk (Nat.le_trans (shQ_len A B C D ls k (by omega)) (by omega))) he 4 0 (by omega)
end
theorem clean_given9 (a : P2) {ev : Ev} : pureCall (cf N8) ev 50 [ptP a] = some (ptP (nearP a)) := pure_given (g := g1 fun p => ptP (nearP p)) (by kernel_rfl) rfl
theorem turn_given9 (a b c : P2) {ev : Ev} : pureCall (cf N8) ev 51 [ptP (nearP a), ptP (nearP b), ptP (nearP c)] = some (iP (turn a b c)) := by
  have : turn (nearP a) (nearP b) (nearP c) = turn a b c := by unfold turn; rw [nearP_nearP, nearP_nearP, nearP_nearP]
  rw [← this]
  exact pure_given (g := g3 fun a b c => iP (turn a b c)) (by kernel_rfl) rfl
theorem turn_same {a b : P2} (h : nearP a = nearP b) (c : P2) : turn a b c = 0 := by
  unfold turn turnR area
  rw [h]
  simp [sgn]
theorem relate_three (a b c d : P2) (h0 : (endsR a b c d).1 = 0) (h1 : (endsR a b c d).2.1 = 0) : rlA0 N8 a b c d (turn a b c) (turn a b d) (turn c d a) (turn c d b) = iP (relate a b c d) := by
  unfold relate
  rw [h0, h1, if_neg (by omega), if_neg (by omega), if_neg (by omega)]
  unfold rlA0
  rw [wrap_turns, wrap_turns]
  cases e1 : eqB (nearP a) (nearP b) with
  | true =>
    have := turn_same (eqB_iff.1 e1) c
    rw [this, Int.zero_mul, if_neg (by omega)]
    rfl
  | false =>
    cases e2 : eqB (nearP c) (nearP d) with
    | true =>
      have := turn_same (eqB_iff.1 e2) a
      rw [this, Int.zero_mul, if_neg (by omega)]
      rfl
    | false =>
      by_cases h3 : turn a b c * turn a b d < 0
      · rw [decide_eq_true h3]
        by_cases h4 : turn c d a * turn c d b < 0
        · rw [decide_eq_true h4, if_pos ⟨h3, h4⟩]
          rfl
        · rw [decide_eq_false h4, if_neg (fun h => h4 h.2)]
          rfl
      · rw [decide_eq_false h3, if_neg (fun h => h3 h.1)]
        rfl
theorem r9_calls (a b c d : P2) : CallsP Try.prog 64 [ptP a, ptP b, ptP c, ptP d] (iP (relate a b c d)) := by
  obtain ⟨h1, h2, h3, h4⟩ := ends_spec (nearP a) (nearP b) (nearP c) (nearP d) [nearP a, nearP b, nearP c, nearP d]
  have hq : shQ (nearP a) (nearP b) (nearP c) (nearP d) [nearP a, nearP b, nearP c, nearP d] 4 = (endsR a b c d).2.2 := rfl
  have hloop := @r9_loop (nearP a) (nearP b) (nearP c) (nearP d) [nearP a, nearP b, nearP c, nearP d] rfl
  rw [hq] at hloop
  rw [show endsF (nearP a) (nearP b) (nearP c) (nearP d) [nearP a, nearP b, nearP c, nearP d] (0, 0, []) = endsR a b c d from rfl] at h1 h2 h3 h4
  have hlen : (endsR a b c d).2.2.length ≤ 4 := by rw [← hq]; exact shQ_len _ _ _ _ _ 4 (Nat.le_refl 4)
  have hpl : ∀ R : List AObj, R.all plainO = true → (rlS (nearP a) (nearP b) (nearP c) (nearP d) [nearP a, nearP b, nearP c, nearP d] R).all plainO = true := fun R hR => by
    unfold rlS
    simp only [List.all_append, List.all_cons, List.all_nil, plainO, upL_flatPP, flatP_plain, hR]
    rfl
  cases hs : (endsR a b c d).2.2 with
  | nil =>
    rw [hs] at hloop h3 h4
    have hl := At.use (at_more (hloop (r := some (.exit 0, rlE 4 (.v (.slice none 0 0)) 4, rlS (nearP a) (nearP b) (nearP c) (nearP d) [nearP a, nearP b, nearP c, nearP d] [])) (At.leave (by
      have h := rlO0_eq N8 (nearP a) (nearP b) (nearP c) (nearP d) [nearP a, nearP b, nearP c, nearP d] 4 true true true (fun h => by cases h) (fun h => by cases h) (fun h => by cases h) (fun h => by cases h) (fun h => by cases h)
      exact h) (by simp))) (m := 201) (by omega)) (hpl [] rfl) (T := rlT 4 (.v (.slice none 0 0)) (0 : Nat)) (S := rlS (nearP a) (nearP b) (nearP c) (nearP d) [nearP a, nearP b, nearP c, nearP d] [] ++ List.replicate 11 AObj.free) (by kernel_rfl)
    have key := rlA0_calls N8 a b c d (turn a b c) (turn a b d) (turn c d a) (turn c d b) (clean_given9 a) (clean_given9 b) (clean_given9 c) (clean_given9 d) hl (fun _ _ => turn_given9 _ _ _) (fun _ _ => turn_given9 _ _ _) (fun _ _ _ => turn_given9 _ _ _) (fun _ _ _ => turn_given9 _ _ _)
    rw [relate_three a b c d h3 h4] at key
    exact key
  | cons q qt =>
    rw [hs] at hloop h3 h4 hlen
    have hR : (rlR (q :: qt)).all plainO = true := by
      unfold rlR
      simp only [List.all_cons, List.all_nil, plainO, upL_flatPP, flatP_plain]
      rfl
    have hl := At.use (at_more (hloop (r := some (.exit 0, rlE 4 (.row 6 0 2 0 (q :: qt).length) 4, rlS (nearP a) (nearP b) (nearP c) (nearP d) [nearP a, nearP b, nearP c, nearP d] (rlR (q :: qt)))) (At.leave (by
      have h := rlO_eq N8 (nearP a) (nearP b) (nearP c) (nearP d) [nearP a, nearP b, nearP c, nearP d] (q :: qt) [] 4 0 true true true (fun h => by cases h) (fun h => by cases h) (fun h => by cases h) (fun h => by cases h) (fun h => by cases h) (fun h => by cases h) (fun h => by cases h) (fun h => by cases h)
      exact h) (by simp))) (m := 201) (by omega)) (hpl [] rfl) (T := rlT 4 (.v (.slice none 0 0)) (0 : Nat)) (S := rlS (nearP a) (nearP b) (nearP c) (nearP d) [nearP a, nearP b, nearP c, nearP d] [] ++ List.replicate 11 AObj.free) (by kernel_rfl)
    have hne : (((q :: qt).length : Int) == 0) = false := by rw [beq_eq_false_iff_ne]; simp only [List.length_cons]; omega
    have key := rlA_calls N8 a b c d (q :: qt) hne (clean_given9 a) (clean_given9 b) (clean_given9 c) (clean_given9 d) hl (fun _ => ⟨by omega, by simp only [List.length_cons]; omega⟩)
    have e : rlA N8 a b c d (q :: qt) = iP (relate a b c d) := by
      unfold relate rlA
      rw [h3, h4]
      cases qt with
      | nil =>
        rw [show (([q].length : Nat) : Int) = 1 from rfl, if_neg (by omega), beq_self_eq_true, pAtR_eq, show pAt [q] 0 = q from pAt_get rfl]
        simp only [List.filter_cons, List.filter_nil]
        unfold endB
        cases eqB q (nearP a) <;> cases eqB q (nearP b) <;> cases eqB q (nearP c) <;> cases eqB q (nearP d) <;> rfl
      | cons q2 qt =>
        have : (1 : Int) < ((q :: q2 :: qt).length : Int) := by simp only [List.length_cons]; omega
        rw [if_pos this, beq_eq_false_iff_ne.2 (by omega)]
        rfl
    rw [e] at key
    exact key
end Go.Proofs.Ytmopbegmdegooaa
/- terrierref12.Closed, Simple, Ok: their rounds, their calls. -/
namespace Go.Proofs.Ytmopbegmdegooaa
open Go Vm M
set_option linter.unusedVariables false
set_option linter.unusedSimpArgs false
def s0T (ps : List P2) (N i : Int) : List AVal := [slA ps, .junk, .junk, iA N, iA i] ++ jk 78
def s0E (ps : List P2) (N i : Int) : List AVal := [slA ps, .junk, .junk, iA N, iA i] ++ jk 8 ++ [bA false] ++ jk 69
def s1T (ps : List P2) (N i : Int) : List AVal := [slA ps, .junk, .junk, iA N, .junk, iA i] ++ jk 77
def s1E (ps : List P2) (N i : Int) : List AVal := [slA ps, .junk, .junk, iA N, .junk, iA i] ++ jk 24 ++ [bA false] ++ jk 52
def s2T (ps : List P2) (N i k : Int) : List AVal := [slA ps, .junk, .junk, iA N, .junk, iA i, iA k] ++ jk 76
def s2E (ps : List P2) (N i k : Int) : List AVal := [slA ps, .junk, .junk, iA N, .junk, iA i, iA k] ++ jk 30 ++ [bA false] ++ jk 45
def sX : List AVal := [.junk, .junk, bA false] ++ jk 80
def okT (ps : List P2) (i : Int) : List AVal := [slA ps, .junk, .junk, iA i] ++ jk 22
def okE (ps : List P2) (i : Int) : List AVal := [slA ps, .junk, .junk, iA i] ++ jk 11 ++ [bA false] ++ jk 10
def okX : List AVal := [.junk, .junk, bA false] ++ jk 23
def rcl (L : Lib Try.prog) (ps : List P2) (x : P2) (y : P2) : PVal :=
  (bif decide ((↑(List.length ps) : Int) ≥ 3) then bP (eqB x y) else bP false)
theorem rcl_calls (L : Lib Try.prog) (ps : List P2) (x : P2) (y : P2) (b0 : (decide ((↑(List.length ps) : Int) ≥ 3)) = true → (0 : Int) ≤ 0 ∧ (0 : Int) < (↑(List.length ps) : Int)) (e0 : (decide ((↑(List.length ps) : Int) ≥ 3)) = true → pureCall (cf L) (evalF (cf L) 201) 50 [ptP (pAt ps 0)] = some (ptP x)) (b1 : (decide ((↑(List.length ps) : Int) ≥ 3)) = true → (0 : Int) ≤ IntKind.i64.wrap ((↑(List.length ps) : Int) - 1) ∧ (IntKind.i64.wrap ((↑(List.length ps) : Int) - 1) : Int) < (↑(List.length ps) : Int)) (e1 : (decide ((↑(List.length ps) : Int) ≥ 3)) = true → pureCall (cf L) (evalF (cf L) 201) 50 [ptP (pAt ps (Int.toNat (IntKind.i64.wrap ((↑(List.length ps) : Int) - 1))))] = some (ptP y)) : CallsP Try.prog 35 [slP ps] (rcl L ps x y) := by
  have key := fun (bs : List Bool) (r : PVal) (ob : List Prop) (h : callP (cf L) (evalF (cf L) 201) 201 [(9999, 0, Hint.idx), (1, 7, Hint.pcall (ptP x)), (1, 14, Hint.pcall (ptP y))] 35 [slP ps] bs [] (none) = .ok (r, ob)) (hp : allOb ob) => callP_ok (cf_ok L) h hp
  unfold rcl
  exact bif_case (P := fun r => CallsP Try.prog 35 [slP ps] r)
    (fun h0 => key [true] (bP (eqB x y)) _ (by kernel_rfl) (allOb_cons (by exact (e1 h0)) (allOb_cons (part_pt (b1 h0)) (allOb_cons (idx_ok (b1 h0)) (allOb_cons (by exact (e0 h0)) (allOb_cons (part_pt (b0 h0)) (allOb_cons (idx_ok (b0 h0)) (allOb_cons h0 allOb_nil))))))))
    (fun h0 => key [false] (bP false) _ (by kernel_rfl) (allOb_cons h0 allOb_nil))
def rs0 (L : Lib Try.prog) (ps : List P2) (N : Int) (i : Int) (x : P2) (y : P2) : AExit × List AVal × List AObj :=
  (bif decide (i < N) then (bif eqB x y then (AExit.ret, (([AVal.junk, AVal.junk, bA false] ++ jk 80), [])) else (AExit.normal, (([slA ps, AVal.junk, AVal.junk, iA N, iA (IntKind.i64.wrap (i + 1))] ++ jk 78), []))) else (AExit.exit 0, (([slA ps, AVal.junk, AVal.junk, iA N, iA i] ++ jk 8 ++ [bA false] ++ jk 69), [])))
theorem rs0_eq (L : Lib Try.prog) (ps : List P2) (N : Int) (i : Int) (x : P2) (y : P2) (b0 : (decide (i < N)) = true → (0 : Int) ≤ i ∧ (i : Int) < (↑(List.length ps) : Int)) (e0 : (decide (i < N)) = true → pureCall (cf L) (evalF (cf L) 201) 50 [ptP (pAt ps (Int.toNat i))] = some (ptP x)) (b1 : (decide (i < N)) = true → (0 : Int) ≤ IntKind.i64.wrap (i + 1) ∧ (IntKind.i64.wrap (i + 1) : Int) < (↑(List.length ps) : Int)) (e1 : (decide (i < N)) = true → pureCall (cf L) (evalF (cf L) 201) 50 [ptP (pAt ps (Int.toNat (IntKind.i64.wrap (i + 1))))] = some (ptP y)) : roundC 0 (evalC (cf L) (evalF (cf L) 201) (Option.getD (List.lookup 37 lives) []) 0 0 201 (loopAt Try.f37 0)) (s0T ps N i) ([]) = some (rs0 L ps N i x y) := by
  have key := fun (bs : List Bool) (r : AExit × List AVal × List AObj) (ob : List Prop) (h : roundP (cf L) (evalF (cf L) 201) (Option.getD (List.lookup 37 lives) []) 0 0 201 [(9999, 0, Hint.idx), (5, 4, Hint.pcall (ptP x)), (5, 10, Hint.pcall (ptP y))] (loopAt Try.f37 0) (s0T ps N i) ([]) bs [] = .ok (r.1, r.2.1, r.2.2, ob)) (hp : allOb ob) => roundP_ok h hp
  unfold rs0
  exact bif_case (P := fun r => roundC 0 (evalC (cf L) (evalF (cf L) 201) (Option.getD (List.lookup 37 lives) []) 0 0 201 (loopAt Try.f37 0)) (s0T ps N i) ([]) = some r)
    (fun h0 => bif_case (P := fun r => roundC 0 (evalC (cf L) (evalF (cf L) 201) (Option.getD (List.lookup 37 lives) []) 0 0 201 (loopAt Try.f37 0)) (s0T ps N i) ([]) = some r)
     (fun h1 => key [true, true] ((AExit.ret, (([AVal.junk, AVal.junk, bA false] ++ jk 80), []))) _ (by kernel_rfl) (allOb_cons (show Plain (List.replicate 12 AObj.free) from by simp only [Plain, List.all_append, List.all_cons, List.all_nil, plainO, upL_flatPP, flatP_plain, Nat.zero_mul, List.drop_zero] <;> rfl) (allOb_cons h1 (allOb_cons (by exact (e1 h0)) (allOb_cons (part_pt (b1 h0)) (allOb_cons (idx_ok (b1 h0)) (allOb_cons (by exact (e0 h0)) (allOb_cons (part_pt (b0 h0)) (allOb_cons (idx_ok (b0 h0)) (allOb_cons h0 allOb_nil))))))))))
     (fun h1 => key [true, false] ((AExit.normal, (([slA ps, AVal.junk, AVal.junk, iA N, iA (IntKind.i64.wrap (i + 1))] ++ jk 78), []))) _ (by kernel_rfl) (allOb_cons (show Plain (List.replicate 12 AObj.free) from by simp only [Plain, List.all_append, List.all_cons, List.all_nil, plainO, upL_flatPP, flatP_plain, Nat.zero_mul, List.drop_zero] <;> rfl) (allOb_cons h1 (allOb_cons (by exact (e1 h0)) (allOb_cons (part_pt (b1 h0)) (allOb_cons (idx_ok (b1 h0)) (allOb_cons (by exact (e0 h0)) (allOb_cons (part_pt (b0 h0)) (allOb_cons (idx_ok (b0 h0)) (allOb_cons h0 allOb_nil)))))))))))
    (fun h0 => key [false] ((AExit.exit 0, (([slA ps, AVal.junk, AVal.junk, iA N, iA i] ++ jk 8 ++ [bA false] ++ jk 69), []))) _ (by kernel_rfl) (allOb_cons (show Plain [] from by simp only [Plain, List.all_append, List.all_cons, List.all_nil, plainO, upL_flatPP, flatP_plain, Nat.zero_mul, List.drop_zero] <;> rfl) (allOb_cons h0 allOb_nil)))
def rs2 (L : Lib Try.prog) (ps : List P2) (N : Int) (i : Int) (k : Int) (v : Int) (cl : Bool) : AExit × List AVal × List AObj :=
  (bif decide (k < N) then (bif k == IntKind.i64.wrap (i + 1) then (bif v != 1 then (AExit.ret, (([AVal.junk, AVal.junk, bA false] ++ jk 80), [])) else (AExit.normal, (([slA ps, AVal.junk, AVal.junk, iA N, AVal.junk, iA i, iA (IntKind.i64.wrap (k + 1))] ++ jk 76), []))) else (bif i == 0 then (bif k == IntKind.i64.wrap (N - 1) then (bif decide (N > 2) then (bif cl then (bif v != 1 then (AExit.ret, (([AVal.junk, AVal.junk, bA false] ++ jk 80), [])) else (AExit.normal, (([slA ps, AVal.junk, AVal.junk, iA N, AVal.junk, iA i, iA (IntKind.i64.wrap (k + 1))] ++ jk 76), []))) else (bif v != 0 then (AExit.ret, (([AVal.junk, AVal.junk, bA false] ++ jk 80), [])) else (AExit.normal, (([slA ps, AVal.junk, AVal.junk, iA N, AVal.junk, iA i, iA (IntKind.i64.wrap (k + 1))] ++ jk 76), [])))) else (bif v != 0 then (AExit.ret, (([AVal.junk, AVal.junk, bA false] ++ jk 80), [])) else (AExit.normal, (([slA ps, AVal.junk, AVal.junk, iA N, AVal.junk, iA i, iA (IntKind.i64.wrap (k + 1))] ++ jk 76), [])))) else (bif v != 0 then (AExit.ret, (([AVal.junk, AVal.junk, bA false] ++ jk 80), [])) else (AExit.normal, (([slA ps, AVal.junk, AVal.junk, iA N, AVal.junk, iA i, iA (IntKind.i64.wrap (k + 1))] ++ jk 76), [])))) else (bif v != 0 then (AExit.ret, (([AVal.junk, AVal.junk, bA false] ++ jk 80), [])) else (AExit.normal, (([slA ps, AVal.junk, AVal.junk, iA N, AVal.junk, iA i, iA (IntKind.i64.wrap (k + 1))] ++ jk 76), []))))) else (AExit.exit 4, (([slA ps, AVal.junk, AVal.junk, iA N, AVal.junk, iA i, iA k] ++ jk 30 ++ [bA false] ++ jk 45), [])))
theorem rs2_eq (L : Lib Try.prog) (ps : List P2) (N : Int) (i : Int) (k : Int) (v : Int) (cl : Bool) (b0 : (decide (k < N)) = true → (0 : Int) ≤ i ∧ (i : Int) < (↑(List.length ps) : Int)) (b1 : (decide (k < N)) = true → (0 : Int) ≤ IntKind.i64.wrap (i + 1) ∧ (IntKind.i64.wrap (i + 1) : Int) < (↑(List.length ps) : Int)) (b2 : (decide (k < N)) = true → (0 : Int) ≤ k ∧ (k : Int) < (↑(List.length ps) : Int)) (b3 : (decide (k < N)) = true → (0 : Int) ≤ IntKind.i64.wrap (k + 1) ∧ (IntKind.i64.wrap (k + 1) : Int) < (↑(List.length ps) : Int)) (e0 : (decide (k < N)) = true → pureCall (cf L) (evalF (cf L) 201) 64 [ptP (pAt ps (Int.toNat i)), ptP (pAt ps (Int.toNat (IntKind.i64.wrap (i + 1)))), ptP (pAt ps (Int.toNat k)), ptP (pAt ps (Int.toNat (IntKind.i64.wrap (k + 1))))] = some (iP v)) (e1 : (decide (k < N)) = true → (k == IntKind.i64.wrap (i + 1)) = false → (i == 0) = true → (k == IntKind.i64.wrap (N - 1)) = true → (decide (N > 2)) = true → pureCall (cf L) (evalF (cf L) 201) 35 [slP ps] = some (bP cl)) : roundC 0 (evalC (cf L) (evalF (cf L) 201) (Option.getD (List.lookup 37 lives) []) 0 0 201 (loopAt Try.f37 2)) (s2T ps N i k) ([]) = some (rs2 L ps N i k v cl) := by
  have key := fun (bs : List Bool) (r : AExit × List AVal × List AObj) (ob : List Prop) (h : roundP (cf L) (evalF (cf L) 201) (Option.getD (List.lookup 37 lives) []) 0 0 201 [(9999, 0, Hint.idx), (14, 19, Hint.pcall (bP cl)), (16, 18, Hint.pcall (iP v))] (loopAt Try.f37 2) (s2T ps N i k) ([]) bs [] = .ok (r.1, r.2.1, r.2.2, ob)) (hp : allOb ob) => roundP_ok h hp
  unfold rs2
  exact bif_case (P := fun r => roundC 0 (evalC (cf L) (evalF (cf L) 201) (Option.getD (List.lookup 37 lives) []) 0 0 201 (loopAt Try.f37 2)) (s2T ps N i k) ([]) = some r)
    (fun h0 => bif_case (P := fun r => roundC 0 (evalC (cf L) (evalF (cf L) 201) (Option.getD (List.lookup 37 lives) []) 0 0 201 (loopAt Try.f37 2)) (s2T ps N i k) ([]) = some r)
     (fun h1 => bif_case (P := fun r => roundC 0 (evalC (cf L) (evalF (cf L) 201) (Option.getD (List.lookup 37 lives) []) 0 0 201 (loopAt Try.f37 2)) (s2T ps N i k) ([]) = some r)
      (fun h2 => key [true, true, true, true] ((AExit.ret, (([AVal.junk, AVal.junk, bA false] ++ jk 80), []))) _ (by kernel_rfl) (allOb_cons (show Plain (List.replicate 21 AObj.free) from by simp only [Plain, List.all_append, List.all_cons, List.all_nil, plainO, upL_flatPP, flatP_plain, Nat.zero_mul, List.drop_zero] <;> rfl) (allOb_cons h2 (allOb_cons (by exact (e0 h0)) (allOb_cons (part_pt (b3 h0)) (allOb_cons (idx_ok (b3 h0)) (allOb_cons (part_pt (b2 h0)) (allOb_cons (idx_ok (b2 h0)) (allOb_cons (part_pt (b1 h0)) (allOb_cons (idx_ok (b1 h0)) (allOb_cons (part_pt (b0 h0)) (allOb_cons (idx_ok (b0 h0)) (allOb_cons lit_t (allOb_cons h1 (allOb_cons h0 allOb_nil)))))))))))))))
      (fun h2 => key [true, true, true, false] ((AExit.normal, (([slA ps, AVal.junk, AVal.junk, iA N, AVal.junk, iA i, iA (IntKind.i64.wrap (k + 1))] ++ jk 76), []))) _ (by kernel_rfl) (allOb_cons (show Plain (List.replicate 21 AObj.free) from by simp only [Plain, List.all_append, List.all_cons, List.all_nil, plainO, upL_flatPP, flatP_plain, Nat.zero_mul, List.drop_zero] <;> rfl) (allOb_cons h2 (allOb_cons (by exact (e0 h0)) (allOb_cons (part_pt (b3 h0)) (allOb_cons (idx_ok (b3 h0)) (allOb_cons (part_pt (b2 h0)) (allOb_cons (idx_ok (b2 h0)) (allOb_cons (part_pt (b1 h0)) (allOb_cons (idx_ok (b1 h0)) (allOb_cons (part_pt (b0 h0)) (allOb_cons (idx_ok (b0 h0)) (allOb_cons lit_t (allOb_cons h1 (allOb_cons h0 allOb_nil))))))))))))))))
     (fun h1 => bif_case (P := fun r => roundC 0 (evalC (cf L) (evalF (cf L) 201) (Option.getD (List.lookup 37 lives) []) 0 0 201 (loopAt Try.f37 2)) (s2T ps N i k) ([]) = some r)
      (fun h2 => bif_case (P := fun r => roundC 0 (evalC (cf L) (evalF (cf L) 201) (Option.getD (List.lookup 37 lives) []) 0 0 201 (loopAt Try.f37 2)) (s2T ps N i k) ([]) = some r)
       (fun h3 => bif_case (P := fun r => roundC 0 (evalC (cf L) (evalF (cf L) 201) (Option.getD (List.lookup 37 lives) []) 0 0 201 (loopAt Try.f37 2)) (s2T ps N i k) ([]) = some r)
        (fun h4 => bif_case (P := fun r => roundC 0 (evalC (cf L) (evalF (cf L) 201) (Option.getD (List.lookup 37 lives) []) 0 0 201 (loopAt Try.f37 2)) (s2T ps N i k) ([]) = some r)
         (fun h5 => bif_case (P := fun r => roundC 0 (evalC (cf L) (evalF (cf L) 201) (Option.getD (List.lookup 37 lives) []) 0 0 201 (loopAt Try.f37 2)) (s2T ps N i k) ([]) = some r)
          (fun h6 => key [true, false, true, true, true, true, true] ((AExit.ret, (([AVal.junk, AVal.junk, bA false] ++ jk 80), []))) _ (by kernel_rfl) (allOb_cons (show Plain (List.replicate 21 AObj.free) from by simp only [Plain, List.all_append, List.all_cons, List.all_nil, plainO, upL_flatPP, flatP_plain, Nat.zero_mul, List.drop_zero] <;> rfl) (allOb_cons h6 (allOb_cons (by exact (e0 h0)) (allOb_cons (part_pt (b3 h0)) (allOb_cons (idx_ok (b3 h0)) (allOb_cons (part_pt (b2 h0)) (allOb_cons (idx_ok (b2 h0)) (allOb_cons (part_pt (b1 h0)) (allOb_cons (idx_ok (b1 h0)) (allOb_cons (part_pt (b0 h0)) (allOb_cons (idx_ok (b0 h0)) (allOb_cons h5 (allOb_cons (by exact (e1 h0 h1 h2 h3 h4)) (allOb_cons h4 (allOb_cons h3 (allOb_cons h2 (allOb_cons h1 (allOb_cons h0 allOb_nil)))))))))))))))))))
          (fun h6 => key [true, false, true, true, true, true, false] ((AExit.normal, (([slA ps, AVal.junk, AVal.junk, iA N, AVal.junk, iA i, iA (IntKind.i64.wrap (k + 1))] ++ jk 76), []))) _ (by kernel_rfl) (allOb_cons (show Plain (List.replicate 21 AObj.free) from by simp only [Plain, List.all_append, List.all_cons, List.all_nil, plainO, upL_flatPP, flatP_plain, Nat.zero_mul, List.drop_zero] <;> rfl) (allOb_cons h6 (allOb_cons (by exact (e0 h0)) (allOb_cons (part_pt (b3 h0)) (allOb_cons (idx_ok (b3 h0)) (allOb_cons (part_pt (b2 h0)) (allOb_cons (idx_ok (b2 h0)) (allOb_cons (part_pt (b1 h0)) (allOb_cons (idx_ok (b1 h0)) (allOb_cons (part_pt (b0 h0)) (allOb_cons (idx_ok (b0 h0)) (allOb_cons h5 (allOb_cons (by exact (e1 h0 h1 h2 h3 h4)) (allOb_cons h4 (allOb_cons h3 (allOb_cons h2 (allOb_cons h1 (allOb_cons h0 allOb_nil))))))))))))))))))))
         (fun h5 => bif_case (P := fun r => roundC 0 (evalC (cf L) (evalF (cf L) 201) (Option.getD (List.lookup 37 lives) []) 0 0 201 (loopAt Try.f37 2)) (s2T ps N i k) ([]) = some r)
          (fun h6 => key [true, false, true, true, true, false, true] ((AExit.ret, (([AVal.junk, AVal.junk, bA false] ++ jk 80), []))) _ (by kernel_rfl) (allOb_cons (show Plain (List.replicate 21 AObj.free) from by simp only [Plain, List.all_append, List.all_cons, List.all_nil, plainO, upL_flatPP, flatP_plain, Nat.zero_mul, List.drop_zero] <;> rfl) (allOb_cons h6 (allOb_cons (by exact (e0 h0)) (allOb_cons (part_pt (b3 h0)) (allOb_cons (idx_ok (b3 h0)) (allOb_cons (part_pt (b2 h0)) (allOb_cons (idx_ok (b2 h0)) (allOb_cons (part_pt (b1 h0)) (allOb_cons (idx_ok (b1 h0)) (allOb_cons (part_pt (b0 h0)) (allOb_cons (idx_ok (b0 h0)) (allOb_cons h5 (allOb_cons (by exact (e1 h0 h1 h2 h3 h4)) (allOb_cons h4 (allOb_cons h3 (allOb_cons h2 (allOb_cons h1 (allOb_cons h0 allOb_nil)))))))))))))))))))
          (fun h6 => key [true, false, true, true, true, false, false] ((AExit.normal, (([slA ps, AVal.junk, AVal.junk, iA N, AVal.junk, iA i, iA (IntKind.i64.wrap (k + 1))] ++ jk 76), []))) _ (by kernel_rfl) (allOb_cons (show Plain (List.replicate 21 AObj.free) from by simp only [Plain, List.all_append, List.all_cons, List.all_nil, plainO, upL_flatPP, flatP_plain, Nat.zero_mul, List.drop_zero] <;> rfl) (allOb_cons h6 (allOb_cons (by exact (e0 h0)) (allOb_cons (part_pt (b3 h0)) (allOb_cons (idx_ok (b3 h0)) (allOb_cons (part_pt (b2 h0)) (allOb_cons (idx_ok (b2 h0)) (allOb_cons (part_pt (b1 h0)) (allOb_cons (idx_ok (b1 h0)) (allOb_cons (part_pt (b0 h0)) (allOb_cons (idx_ok (b0 h0)) (allOb_cons h5 (allOb_cons (by exact (e1 h0 h1 h2 h3 h4)) (allOb_cons h4 (allOb_cons h3 (allOb_cons h2 (allOb_cons h1 (allOb_cons h0 allOb_nil)))))))))))))))))))))
        (fun h4 => bif_case (P := fun r => roundC 0 (evalC (cf L) (evalF (cf L) 201) (Option.getD (List.lookup 37 lives) []) 0 0 201 (loopAt Try.f37 2)) (s2T ps N i k) ([]) = some r)
         (fun h5 => key [true, false, true, true, false, false, true] ((AExit.ret, (([AVal.junk, AVal.junk, bA false] ++ jk 80), []))) _ (by kernel_rfl) (allOb_cons (show Plain (List.replicate 21 AObj.free) from by simp only [Plain, List.all_append, List.all_cons, List.all_nil, plainO, upL_flatPP, flatP_plain, Nat.zero_mul, List.drop_zero] <;> rfl) (allOb_cons h5 (allOb_cons (by exact (e0 h0)) (allOb_cons (part_pt (b3 h0)) (allOb_cons (idx_ok (b3 h0)) (allOb_cons (part_pt (b2 h0)) (allOb_cons (idx_ok (b2 h0)) (allOb_cons (part_pt (b1 h0)) (allOb_cons (idx_ok (b1 h0)) (allOb_cons (part_pt (b0 h0)) (allOb_cons (idx_ok (b0 h0)) (allOb_cons lit_f (allOb_cons h4 (allOb_cons h3 (allOb_cons h2 (allOb_cons h1 (allOb_cons h0 allOb_nil))))))))))))))))))
         (fun h5 => key [true, false, true, true, false, false, false] ((AExit.normal, (([slA ps, AVal.junk, AVal.junk, iA N, AVal.junk, iA i, iA (IntKind.i64.wrap (k + 1))] ++ jk 76), []))) _ (by kernel_rfl) (allOb_cons (show Plain (List.replicate 21 AObj.free) from by simp only [Plain, List.all_append, List.all_cons, List.all_nil, plainO, upL_flatPP, flatP_plain, Nat.zero_mul, List.drop_zero] <;> rfl) (allOb_cons h5 (allOb_cons (by exact (e0 h0)) (allOb_cons (part_pt (b3 h0)) (allOb_cons (idx_ok (b3 h0)) (allOb_cons (part_pt (b2 h0)) (allOb_cons (idx_ok (b2 h0)) (allOb_cons (part_pt (b1 h0)) (allOb_cons (idx_ok (b1 h0)) (allOb_cons (part_pt (b0 h0)) (allOb_cons (idx_ok (b0 h0)) (allOb_cons lit_f (allOb_cons h4 (allOb_cons h3 (allOb_cons h2 (allOb_cons h1 (allOb_cons h0 allOb_nil))))))))))))))))))))
       (fun h3 => bif_case (P := fun r => roundC 0 (evalC (cf L) (evalF (cf L) 201) (Option.getD (List.lookup 37 lives) []) 0 0 201 (loopAt Try.f37 2)) (s2T ps N i k) ([]) = some r)
        (fun h4 => key [true, false, true, false, false, false, true] ((AExit.ret, (([AVal.junk, AVal.junk, bA false] ++ jk 80), []))) _ (by kernel_rfl) (allOb_cons (show Plain (List.replicate 21 AObj.free) from by simp only [Plain, List.all_append, List.all_cons, List.all_nil, plainO, upL_flatPP, flatP_plain, Nat.zero_mul, List.drop_zero] <;> rfl) (allOb_cons h4 (allOb_cons (by exact (e0 h0)) (allOb_cons (part_pt (b3 h0)) (allOb_cons (idx_ok (b3 h0)) (allOb_cons (part_pt (b2 h0)) (allOb_cons (idx_ok (b2 h0)) (allOb_cons (part_pt (b1 h0)) (allOb_cons (idx_ok (b1 h0)) (allOb_cons (part_pt (b0 h0)) (allOb_cons (idx_ok (b0 h0)) (allOb_cons lit_f (allOb_cons lit_f (allOb_cons h3 (allOb_cons h2 (allOb_cons h1 (allOb_cons h0 allOb_nil))))))))))))))))))
        (fun h4 => key [true, false, true, false, false, false, false] ((AExit.normal, (([slA ps, AVal.junk, AVal.junk, iA N, AVal.junk, iA i, iA (IntKind.i64.wrap (k + 1))] ++ jk 76), []))) _ (by kernel_rfl) (allOb_cons (show Plain (List.replicate 21 AObj.free) from by simp only [Plain, List.all_append, List.all_cons, List.all_nil, plainO, upL_flatPP, flatP_plain, Nat.zero_mul, List.drop_zero] <;> rfl) (allOb_cons h4 (allOb_cons (by exact (e0 h0)) (allOb_cons (part_pt (b3 h0)) (allOb_cons (idx_ok (b3 h0)) (allOb_cons (part_pt (b2 h0)) (allOb_cons (idx_ok (b2 h0)) (allOb_cons (part_pt (b1 h0)) (allOb_cons (idx_ok (b1 h0)) (allOb_cons (part_pt (b0 h0)) (allOb_cons (idx_ok (b0 h0)) (allOb_cons lit_f (allOb_cons lit_f (allOb_cons h3 (allOb_cons h2 (allOb_cons h1 (allOb_cons h0 allOb_nil))))))))))))))))))))
      (fun h2 => bif_case (P := fun r => roundC 0 (evalC (cf L) (evalF (cf L) 201) (Option.getD (List.lookup 37 lives) []) 0 0 201 (loopAt Try.f37 2)) (s2T ps N i k) ([]) = some r)
       (fun h3 => key [true, false, false, false, false, false, true] ((AExit.ret, (([AVal.junk, AVal.junk, bA false] ++ jk 80), []))) _ (by kernel_rfl) (allOb_cons (show Plain (List.replicate 21 AObj.free) from by simp only [Plain, List.all_append, List.all_cons, List.all_nil, plainO, upL_flatPP, flatP_plain, Nat.zero_mul, List.drop_zero] <;> rfl) (allOb_cons h3 (allOb_cons (by exact (e0 h0)) (allOb_cons (part_pt (b3 h0)) (allOb_cons (idx_ok (b3 h0)) (allOb_cons (part_pt (b2 h0)) (allOb_cons (idx_ok (b2 h0)) (allOb_cons (part_pt (b1 h0)) (allOb_cons (idx_ok (b1 h0)) (allOb_cons (part_pt (b0 h0)) (allOb_cons (idx_ok (b0 h0)) (allOb_cons lit_f (allOb_cons lit_f (allOb_cons lit_f (allOb_cons h2 (allOb_cons h1 (allOb_cons h0 allOb_nil))))))))))))))))))
       (fun h3 => key [true, false, false, false, false, false, false] ((AExit.normal, (([slA ps, AVal.junk, AVal.junk, iA N, AVal.junk, iA i, iA (IntKind.i64.wrap (k + 1))] ++ jk 76), []))) _ (by kernel_rfl) (allOb_cons (show Plain (List.replicate 21 AObj.free) from by simp only [Plain, List.all_append, List.all_cons, List.all_nil, plainO, upL_flatPP, flatP_plain, Nat.zero_mul, List.drop_zero] <;> rfl) (allOb_cons h3 (allOb_cons (by exact (e0 h0)) (allOb_cons (part_pt (b3 h0)) (allOb_cons (idx_ok (b3 h0)) (allOb_cons (part_pt (b2 h0)) (allOb_cons (idx_ok (b2 h0)) (allOb_cons (part_pt (b1 h0)) (allOb_cons (idx_ok (b1 h0)) (allOb_cons (part_pt (b0 h0)) (allOb_cons (idx_ok (b0 h0)) (allOb_cons lit_f (allOb_cons lit_f (allOb_cons lit_f (allOb_cons h2 (allOb_cons h1 (allOb_cons h0 allOb_nil)))))))))))))))))))))
    (fun h0 => key [false] ((AExit.exit 4, (([slA ps, AVal.junk, AVal.junk, iA N, AVal.junk, iA i, iA k] ++ jk 30 ++ [bA false] ++ jk 45), []))) _ (by kernel_rfl) (allOb_cons (show Plain [] from by simp only [Plain, List.all_append, List.all_cons, List.all_nil, plainO, upL_flatPP, flatP_plain, Nat.zero_mul, List.drop_zero] <;> rfl) (allOb_cons h0 allOb_nil)))
def rs1 (L : Lib Try.prog) (ps : List P2) (N : Int) (i : Int) (k : Int) : AExit × List AVal × List AObj :=
  (bif decide (i < N) then (AExit.normal, (([slA ps, AVal.junk, AVal.junk, iA N, AVal.junk, iA (IntKind.i64.wrap (i + 1))] ++ jk 77), [])) else (AExit.exit 2, (([slA ps, AVal.junk, AVal.junk, iA N, AVal.junk, iA i] ++ jk 24 ++ [bA false] ++ jk 52), [])))
theorem rs1_eq (L : Lib Try.prog) (ps : List P2) (N : Int) (i : Int) (k : Int) (e0 : (decide (i < N)) = true → iterC 0 (evalC (cf L) (evalF (cf L) 201) ((lives.lookup 37).getD []) 0 0 201 (loopAt Try.f37 2)) 201 ([AVal.list (List.length ps) (flatPP ps), AVal.junk, AVal.junk, iA N, AVal.junk, iA i, iA (IntKind.i64.wrap (i + 1))] ++ jk 76) [] = some (AExit.exit 4, (([AVal.list (List.length ps) (flatPP ps), AVal.junk, AVal.junk, iA N, AVal.junk, iA i, iA k] ++ jk 30 ++ [bA false] ++ jk 45), []))) : roundC 0 (evalC (cf L) (evalF (cf L) 201) (Option.getD (List.lookup 37 lives) []) 0 0 201 (loopAt Try.f37 1)) (s1T ps N i) ([]) = some (rs1 L ps N i k) := by
  have key := fun (bs : List Bool) (r : AExit × List AVal × List AObj) (ob : List Prop) (h : roundP (cf L) (evalF (cf L) 201) (Option.getD (List.lookup 37 lives) []) 0 0 201 [(9999, 0, Hint.idx)] (loopAt Try.f37 1) (s1T ps N i) ([]) bs [(AExit.exit 4, s2E ps N i k, [])] = .ok (r.1, r.2.1, r.2.2, ob)) (hp : allOb ob) => roundP_ok h hp
  unfold rs1
  exact bif_case (P := fun r => roundC 0 (evalC (cf L) (evalF (cf L) 201) (Option.getD (List.lookup 37 lives) []) 0 0 201 (loopAt Try.f37 1)) (s1T ps N i) ([]) = some r)
    (fun h0 => key [true] ((AExit.normal, (([slA ps, AVal.junk, AVal.junk, iA N, AVal.junk, iA (IntKind.i64.wrap (i + 1))] ++ jk 77), []))) _ (by kernel_rfl) (allOb_cons (show Plain [] from by simp only [Plain, List.all_append, List.all_cons, List.all_nil, plainO, upL_flatPP, flatP_plain, Nat.zero_mul, List.drop_zero] <;> rfl) (allOb_cons (by exact (e0 h0)) (allOb_cons h0 allOb_nil))))
    (fun h0 => key [false] ((AExit.exit 2, (([slA ps, AVal.junk, AVal.junk, iA N, AVal.junk, iA i] ++ jk 24 ++ [bA false] ++ jk 52), []))) _ (by kernel_rfl) (allOb_cons (show Plain [] from by simp only [Plain, List.all_append, List.all_cons, List.all_nil, plainO, upL_flatPP, flatP_plain, Nat.zero_mul, List.drop_zero] <;> rfl) (allOb_cons h0 allOb_nil)))
def rs1x (L : Lib Try.prog) (ps : List P2) (N : Int) (i : Int) : AExit × List AVal × List AObj :=
  (bif decide (i < N) then (AExit.ret, (([AVal.junk, AVal.junk, bA false] ++ jk 80), [])) else (AExit.exit 2, (([slA ps, AVal.junk, AVal.junk, iA N, AVal.junk, iA i] ++ jk 24 ++ [bA false] ++ jk 52), [])))
theorem rs1x_eq (L : Lib Try.prog) (ps : List P2) (N : Int) (i : Int) (e0 : (decide (i < N)) = true → iterC 0 (evalC (cf L) (evalF (cf L) 201) ((lives.lookup 37).getD []) 0 0 201 (loopAt Try.f37 2)) 201 ([AVal.list (List.length ps) (flatPP ps), AVal.junk, AVal.junk, iA N, AVal.junk, iA i, iA (IntKind.i64.wrap (i + 1))] ++ jk 76) [] = some (AExit.ret, (([AVal.junk, AVal.junk, bA false] ++ jk 80), []))) : roundC 0 (evalC (cf L) (evalF (cf L) 201) (Option.getD (List.lookup 37 lives) []) 0 0 201 (loopAt Try.f37 1)) (s1T ps N i) ([]) = some (rs1x L ps N i) := by
  have key := fun (bs : List Bool) (r : AExit × List AVal × List AObj) (ob : List Prop) (h : roundP (cf L) (evalF (cf L) 201) (Option.getD (List.lookup 37 lives) []) 0 0 201 [(9999, 0, Hint.idx)] (loopAt Try.f37 1) (s1T ps N i) ([]) bs [(AExit.ret, sX, [])] = .ok (r.1, r.2.1, r.2.2, ob)) (hp : allOb ob) => roundP_ok h hp
  unfold rs1x
  exact bif_case (P := fun r => roundC 0 (evalC (cf L) (evalF (cf L) 201) (Option.getD (List.lookup 37 lives) []) 0 0 201 (loopAt Try.f37 1)) (s1T ps N i) ([]) = some r)
    (fun h0 => key [true] ((AExit.ret, (([AVal.junk, AVal.junk, bA false] ++ jk 80), []))) _ (by kernel_rfl) (allOb_cons (show Plain [] from by simp only [Plain, List.all_append, List.all_cons, List.all_nil, plainO, upL_flatPP, flatP_plain, Nat.zero_mul, List.drop_zero] <;> rfl) (allOb_cons (by exact (e0 h0)) (allOb_cons h0 allOb_nil))))
    (fun h0 => key [false] ((AExit.exit 2, (([slA ps, AVal.junk, AVal.junk, iA N, AVal.junk, iA i] ++ jk 24 ++ [bA false] ++ jk 52), []))) _ (by kernel_rfl) (allOb_cons (show Plain [] from by simp only [Plain, List.all_append, List.all_cons, List.all_nil, plainO, upL_flatPP, flatP_plain, Nat.zero_mul, List.drop_zero] <;> rfl) (allOb_cons h0 allOb_nil)))
def rvA (L : Lib Try.prog) (ps : List P2) : PVal :=
  bP false
theorem rvA_calls (L : Lib Try.prog) (ps : List P2) (e0 : iterC 0 (evalC (cf L) (evalF (cf L) 201) ((lives.lookup 37).getD []) 0 0 201 (loopAt Try.f37 0)) 201 ([AVal.list (List.length ps) (flatPP ps), AVal.junk, AVal.junk, iA (IntKind.i64.wrap ((↑(List.length ps) : Int) - 1)), iA 0] ++ jk 78) [] = some (AExit.ret, (([AVal.junk, AVal.junk, bA false] ++ jk 80), []))) : CallsP Try.prog 37 [slP ps] (rvA L ps) := by
  have key := fun (bs : List Bool) (r : PVal) (ob : List Prop) (h : callP (cf L) (evalF (cf L) 201) 201 [(9999, 0, Hint.idx)] 37 [slP ps] bs [(AExit.ret, sX, [])] (none) = .ok (r, ob)) (hp : allOb ob) => callP_ok (cf_ok L) h hp
  unfold rvA
  exact key [] (bP false) _ (by kernel_rfl) (allOb_cons (by exact e0) allOb_nil)
def rvB (L : Lib Try.prog) (ps : List P2) (i : Int) : PVal :=
  bP false
theorem rvB_calls (L : Lib Try.prog) (ps : List P2) (i : Int) (e0 : iterC 0 (evalC (cf L) (evalF (cf L) 201) ((lives.lookup 37).getD []) 0 0 201 (loopAt Try.f37 0)) 201 ([AVal.list (List.length ps) (flatPP ps), AVal.junk, AVal.junk, iA (IntKind.i64.wrap ((↑(List.length ps) : Int) - 1)), iA 0] ++ jk 78) [] = some (AExit.exit 0, (([AVal.list (List.length ps) (flatPP ps), AVal.junk, AVal.junk, iA (IntKind.i64.wrap ((↑(List.length ps) : Int) - 1)), iA i] ++ jk 8 ++ [bA false] ++ jk 69), []))) (e1 : iterC 0 (evalC (cf L) (evalF (cf L) 201) ((lives.lookup 37).getD []) 0 0 201 (loopAt Try.f37 1)) 201 ([AVal.list (List.length ps) (flatPP ps), AVal.junk, AVal.junk, iA (IntKind.i64.wrap ((↑(List.length ps) : Int) - 1)), AVal.junk, iA 0] ++ jk 77) [] = some (AExit.ret, (([AVal.junk, AVal.junk, bA false] ++ jk 80), []))) : CallsP Try.prog 37 [slP ps] (rvB L ps i) := by
  have key := fun (bs : List Bool) (r : PVal) (ob : List Prop) (h : callP (cf L) (evalF (cf L) 201) 201 [(9999, 0, Hint.idx)] 37 [slP ps] bs [(AExit.exit 0, s0E ps (IntKind.i64.wrap ((↑(List.length ps) : Int) - 1)) i, []), (AExit.ret, sX, [])] (none) = .ok (r, ob)) (hp : allOb ob) => callP_ok (cf_ok L) h hp
  unfold rvB
  exact key [] (bP false) _ (by kernel_rfl) (allOb_cons (by exact e1) (allOb_cons (by exact e0) allOb_nil))
def rvC (L : Lib Try.prog) (ps : List P2) (i : Int) (k : Int) : PVal :=
  bP true
theorem rvC_calls (L : Lib Try.prog) (ps : List P2) (i : Int) (k : Int) (e0 : iterC 0 (evalC (cf L) (evalF (cf L) 201) ((lives.lookup 37).getD []) 0 0 201 (loopAt Try.f37 0)) 201 ([AVal.list (List.length ps) (flatPP ps), AVal.junk, AVal.junk, iA (IntKind.i64.wrap ((↑(List.length ps) : Int) - 1)), iA 0] ++ jk 78) [] = some (AExit.exit 0, (([AVal.list (List.length ps) (flatPP ps), AVal.junk, AVal.junk, iA (IntKind.i64.wrap ((↑(List.length ps) : Int) - 1)), iA i] ++ jk 8 ++ [bA false] ++ jk 69), []))) (e1 : iterC 0 (evalC (cf L) (evalF (cf L) 201) ((lives.lookup 37).getD []) 0 0 201 (loopAt Try.f37 1)) 201 ([AVal.list (List.length ps) (flatPP ps), AVal.junk, AVal.junk, iA (IntKind.i64.wrap ((↑(List.length ps) : Int) - 1)), AVal.junk, iA 0] ++ jk 77) [] = some (AExit.exit 2, (([AVal.list (List.length ps) (flatPP ps), AVal.junk, AVal.junk, iA (IntKind.i64.wrap ((↑(List.length ps) : Int) - 1)), AVal.junk, iA k] ++ jk 24 ++ [bA false] ++ jk 52), []))) : CallsP Try.prog 37 [slP ps] (rvC L ps i k) := by
  have key := fun (bs : List Bool) (r : PVal) (ob : List Prop) (h : callP (cf L) (evalF (cf L) 201) 201 [(9999, 0, Hint.idx)] 37 [slP ps] bs [(AExit.exit 0, s0E ps (IntKind.i64.wrap ((↑(List.length ps) : Int) - 1)) i, []), (AExit.exit 2, s1E ps (IntKind.i64.wrap ((↑(List.length ps) : Int) - 1)) k, [])] (none) = .ok (r, ob)) (hp : allOb ob) => callP_ok (cf_ok L) h hp
  unfold rvC
  exact key [] (bP true) _ (by kernel_rfl) (allOb_cons (by exact e1) (allOb_cons (by exact e0) allOb_nil))
def rk0 (L : Lib Try.prog) (ps : List P2) (i : Int) (o : Bool) : AExit × List AVal × List AObj :=
  (bif decide (i < (↑(List.length ps) : Int)) then (bif !o then (AExit.ret, (([AVal.junk, AVal.junk, bA false] ++ jk 23), [])) else (AExit.normal, (([slA ps, AVal.junk, AVal.junk, iA (IntKind.i64.wrap (i + 1))] ++ jk 22), []))) else (AExit.exit 0, (([slA ps, AVal.junk, AVal.junk, iA i] ++ jk 11 ++ [bA false] ++ jk 10), [])))
theorem rk0_eq (L : Lib Try.prog) (ps : List P2) (i : Int) (o : Bool) (b0 : (decide (i < (↑(List.length ps) : Int))) = true → (0 : Int) ≤ i ∧ (i : Int) < (↑(List.length ps) : Int)) (e0 : (decide (i < (↑(List.length ps) : Int))) = true → pureCall (cf L) (evalF (cf L) 201) 25 [ptP (pAt ps (Int.toNat i))] = some (bP o)) : roundC 0 (evalC (cf L) (evalF (cf L) 201) (Option.getD (List.lookup 24 lives) []) 0 0 201 (loopAt Try.f24 0)) (okT ps i) ([]) = some (rk0 L ps i o) := by
  have key := fun (bs : List Bool) (r : AExit × List AVal × List AObj) (ob : List Prop) (h : roundP (cf L) (evalF (cf L) 201) (Option.getD (List.lookup 24 lives) []) 0 0 201 [(9999, 0, Hint.idx), (6, 4, Hint.pcall (bP o))] (loopAt Try.f24 0) (okT ps i) ([]) bs [] = .ok (r.1, r.2.1, r.2.2, ob)) (hp : allOb ob) => roundP_ok h hp
  unfold rk0
  exact bif_case (P := fun r => roundC 0 (evalC (cf L) (evalF (cf L) 201) (Option.getD (List.lookup 24 lives) []) 0 0 201 (loopAt Try.f24 0)) (okT ps i) ([]) = some r)
    (fun h0 => bif_case (P := fun r => roundC 0 (evalC (cf L) (evalF (cf L) 201) (Option.getD (List.lookup 24 lives) []) 0 0 201 (loopAt Try.f24 0)) (okT ps i) ([]) = some r)
     (fun h1 => key [true, true] ((AExit.ret, (([AVal.junk, AVal.junk, bA false] ++ jk 23), []))) _ (by kernel_rfl) (allOb_cons (show Plain [] from by simp only [Plain, List.all_append, List.all_cons, List.all_nil, plainO, upL_flatPP, flatP_plain, Nat.zero_mul, List.drop_zero] <;> rfl) (allOb_cons h1 (allOb_cons (by exact (e0 h0)) (allOb_cons (part_pt (b0 h0)) (allOb_cons (idx_ok (b0 h0)) (allOb_cons h0 allOb_nil)))))))
     (fun h1 => key [true, false] ((AExit.normal, (([slA ps, AVal.junk, AVal.junk, iA (IntKind.i64.wrap (i + 1))] ++ jk 22), []))) _ (by kernel_rfl) (allOb_cons (show Plain [] from by simp only [Plain, List.all_append, List.all_cons, List.all_nil, plainO, upL_flatPP, flatP_plain, Nat.zero_mul, List.drop_zero] <;> rfl) (allOb_cons h1 (allOb_cons (by exact (e0 h0)) (allOb_cons (part_pt (b0 h0)) (allOb_cons (idx_ok (b0 h0)) (allOb_cons h0 allOb_nil))))))))
    (fun h0 => key [false] ((AExit.exit 0, (([slA ps, AVal.junk, AVal.junk, iA i] ++ jk 11 ++ [bA false] ++ jk 10), []))) _ (by kernel_rfl) (allOb_cons (show Plain [] from by simp only [Plain, List.all_append, List.all_cons, List.all_nil, plainO, upL_flatPP, flatP_plain, Nat.zero_mul, List.drop_zero] <;> rfl) (allOb_cons h0 allOb_nil)))
def rkA (L : Lib Try.prog) (ps : List P2) : PVal :=
  (bif decide ((↑(List.length ps) : Int) < 2) then bP false else (bif decide ((↑(List.length ps) : Int) > 64) then bP false else bP false))
theorem rkA_calls (L : Lib Try.prog) (ps : List P2) (e0 : (decide ((↑(List.length ps) : Int) < 2)) = false → (decide ((↑(List.length ps) : Int) > 64)) = false → iterC 0 (evalC (cf L) (evalF (cf L) 201) ((lives.lookup 24).getD []) 0 0 201 (loopAt Try.f24 0)) 201 ([AVal.list (List.length ps) (flatPP ps), AVal.junk, AVal.junk, iA 0] ++ jk 22) [] = some (AExit.ret, (([AVal.junk, AVal.junk, bA false] ++ jk 23), []))) : CallsP Try.prog 24 [slP ps] (rkA L ps) := by
  have key := fun (bs : List Bool) (r : PVal) (ob : List Prop) (h : callP (cf L) (evalF (cf L) 201) 201 [(9999, 0, Hint.idx)] 24 [slP ps] bs [(AExit.ret, okX, [])] (none) = .ok (r, ob)) (hp : allOb ob) => callP_ok (cf_ok L) h hp
  unfold rkA
  exact bif_case (P := fun r => CallsP Try.prog 24 [slP ps] r)
    (fun h0 => key [true, true] (bP false) _ (by kernel_rfl) (allOb_cons lit_t (allOb_cons h0 allOb_nil)))
    (fun h0 => bif_case (P := fun r => CallsP Try.prog 24 [slP ps] r)
     (fun h1 => key [false, true] (bP false) _ (by kernel_rfl) (allOb_cons h1 (allOb_cons h0 allOb_nil)))
     (fun h1 => key [false, false] (bP false) _ (by kernel_rfl) (allOb_cons (by exact (e0 h0 h1)) (allOb_cons h1 (allOb_cons h0 allOb_nil)))))
def rkB (L : Lib Try.prog) (ps : List P2) (i : Int) (s : Bool) : PVal :=
  (bif decide ((↑(List.length ps) : Int) < 2) then bP false else (bif decide ((↑(List.length ps) : Int) > 64) then bP false else bP s))
theorem rkB_calls (L : Lib Try.prog) (ps : List P2) (i : Int) (s : Bool) (e0 : (decide ((↑(List.length ps) : Int) < 2)) = false → (decide ((↑(List.length ps) : Int) > 64)) = false → iterC 0 (evalC (cf L) (evalF (cf L) 201) ((lives.lookup 24).getD []) 0 0 201 (loopAt Try.f24 0)) 201 ([AVal.list (List.length ps) (flatPP ps), AVal.junk, AVal.junk, iA 0] ++ jk 22) [] = some (AExit.exit 0, (([AVal.list (List.length ps) (flatPP ps), AVal.junk, AVal.junk, iA i] ++ jk 11 ++ [bA false] ++ jk 10), []))) (e1 : (decide ((↑(List.length ps) : Int) < 2)) = false → (decide ((↑(List.length ps) : Int) > 64)) = false → pureCall (cf L) (evalF (cf L) 201) 37 [slP ps] = some (bP s)) : CallsP Try.prog 24 [slP ps] (rkB L ps i s) := by
  have key := fun (bs : List Bool) (r : PVal) (ob : List Prop) (h : callP (cf L) (evalF (cf L) 201) 201 [(9999, 0, Hint.idx), (8, 1, Hint.pcall (bP s))] 24 [slP ps] bs [(AExit.exit 0, okE ps i, [])] (none) = .ok (r, ob)) (hp : allOb ob) => callP_ok (cf_ok L) h hp
  unfold rkB
  exact bif_case (P := fun r => CallsP Try.prog 24 [slP ps] r)
    (fun h0 => key [true, true] (bP false) _ (by kernel_rfl) (allOb_cons lit_t (allOb_cons h0 allOb_nil)))
    (fun h0 => bif_case (P := fun r => CallsP Try.prog 24 [slP ps] r)
     (fun h1 => key [false, true] (bP false) _ (by kernel_rfl) (allOb_cons h1 (allOb_cons h0 allOb_nil)))
     (fun h1 => key [false, false] (bP s) _ (by kernel_rfl) (allOb_cons (by exact (e1 h0 h1)) (allOb_cons (by exact (e0 h0 h1)) (allOb_cons h1 (allOb_cons h0 allOb_nil))))))
end Go.Proofs.Ytmopbegmdegooaa
/- terrierref12.Closed, Simple, Ok: they answer as line.Closed, Simple, Ok do of the nearest points of the grid. -/
namespace Go.Proofs.Ytmopbegmdegooaa
open Go Vm M
set_option linter.unusedVariables false
set_option linter.unusedSimpArgs false
noncomputable def LR1 : Lib Try.prog := LE2.add 64 (g4 fun a b c d => iP (relate a b c d)) (Vm.enters_of named_prog Try.func64 (by kernel_rfl)) (g4_spec r9_calls)
theorem relate_near (a b c d : P2) : relate (nearP a) (nearP b) (nearP c) (nearP d) = relate a b c d := by
  unfold relate endsR turn
  simp only [nearP_nearP]
def nrL (ps : List P2) : List P2 := ps.map nearP
theorem nrL_length (ps : List P2) : (nrL ps).length = ps.length := by simp [nrL]
theorem nrL_at {ps : List P2} {i : Nat} (h : i < ps.length) : pAt (nrL ps) i = nearP (pAt ps i) := by
  rw [pAt_getElem h, pAt_getElem (by rw [nrL_length]; exact h)]
  simp [nrL]
theorem clean_g {c : Cfg} {ev : Ev} (a : P2) (h : c.givenP 50 = some (g1 fun p => ptP (nearP p))) : pureCall c ev 50 [ptP a] = some (ptP (nearP a)) := pure_given h rfl
theorem c12_calls (ps : List P2) (h200 : ps.length ≤ 200) : CallsP Try.prog 35 [slP ps] (bP (closedB (nrL ps))) := by
  have hs : ∀ {P : Prop}, (3 ≤ ps.length → P) → decide ((ps.length : Int) ≥ 3) = true → P := fun f h => f (by have := of_decide_eq_true h; omega)
  have hw : 3 ≤ ps.length → IntKind.i64.wrap ((ps.length : Int) - 1) = ((ps.length - 1 : Nat) : Int) := fun h => by rw [IntWalk.i64_in _ (by omega)]; omega
  have key := rcl_calls LR1 ps (nearP (pAt ps 0)) (nearP (pAt ps (ps.length - 1))) (hs fun h => ⟨by omega, by omega⟩) (hs fun h => clean_g _ (by kernel_rfl)) (hs fun h => ⟨by rw [hw h]; omega, by rw [hw h]; omega⟩) (hs fun h => by rw [hw h, Int.toNat_natCast]; exact clean_g _ (by kernel_rfl))
  have e : rcl LR1 ps (nearP (pAt ps 0)) (nearP (pAt ps (ps.length - 1))) = bP (closedB (nrL ps)) := by
    unfold rcl closedB
    rw [nrL_length]
    by_cases h : 3 ≤ ps.length
    · rw [decide_eq_true h, decide_eq_true (by omega : (ps.length : Int) ≥ 3), nrL_at (by omega), nrL_at (by omega)]
      rfl
    · rw [decide_eq_false h, decide_eq_false (by omega : ¬ (ps.length : Int) ≥ 3)]
      rfl
  rw [e] at key
  exact key
noncomputable def LR2 : Lib Try.prog := LR1.add 35 (gSo fun ps => lim ps (bP (closedB (nrL ps)))) (Vm.enters_of named_prog Try.func35 (by kernel_rfl)) (gSo_spec fun ps r h => by obtain ⟨h1, rfl⟩ := lim_some h; exact c12_calls ps h1)
noncomputable abbrev bodyS0 : List AVal → List AObj → Res := evalC (cf LR2) (evalF (cf LR2) 201) ((lives.lookup 37).getD []) 0 0 201 (loopAt Try.f37 0)
noncomputable abbrev bodyS1 : List AVal → List AObj → Res := evalC (cf LR2) (evalF (cf LR2) 201) ((lives.lookup 37).getD []) 0 0 201 (loopAt Try.f37 1)
noncomputable abbrev bodyS2 : List AVal → List AObj → Res := evalC (cf LR2) (evalF (cf LR2) 201) ((lives.lookup 37).getD []) 0 0 201 (loopAt Try.f37 2)
def eqI (xs : List P2) (i : Nat) : Bool := eqB (pAt xs i) (pAt xs (i + 1))
def badR (xs : List P2) (i : Nat) : Bool := (firstAt (badK xs i) (xs.length - 1 - (i + 1)) (i + 1)).isSome
section
variable (ps : List P2) (h1 : 1 ≤ ps.length) (h200 : ps.length ≤ 200)
include h1 h200
theorem s12_0 {i : Nat} (hi : i ≤ ps.length - 1) : roundC 0 bodyS0 (s0T ps (ps.length - 1 : Nat) i) [] = some (rs0 LR2 ps (ps.length - 1 : Nat) i (nearP (pAt ps i)) (nearP (pAt ps (i + 1)))) := by
  have hs : ∀ {P : Prop}, (i < ps.length - 1 → P) → decide ((i : Int) < ((ps.length - 1 : Nat) : Int)) = true → P := fun f h => f (by have := of_decide_eq_true h; omega)
  refine rs0_eq LR2 ps _ i _ _ (hs fun h => ⟨by omega, by omega⟩) (hs fun h => by rw [Int.toNat_natCast]; exact clean_g _ (by kernel_rfl)) (hs fun h => ⟨by rw [wrS (by omega)]; omega, by rw [wrS (by omega)]; omega⟩) (hs fun h => by rw [wrS (by omega), Int.toNat_natCast]; exact clean_g _ (by kernel_rfl))
theorem s12_0loop : At 0 bodyS0 (ps.length - 1 + 1) (s0T ps (ps.length - 1 : Nat) (0 : Nat)) [] (some (match firstAt (eqI (nrL ps)) (ps.length - 1) 0 with | some _ => (.ret, sX, []) | none => (.exit 0, s0E ps (ps.length - 1 : Nat) (ps.length - 1 : Nat), []))) := by
  refine At.search (T := fun k => s0T ps (ps.length - 1 : Nat) k) (S := fun _ => []) (n := ps.length - 1) (c := eqI (nrL ps)) (X := fun _ => (.ret, sX, [])) (E := (.exit 0, s0E ps (ps.length - 1 : Nat) (ps.length - 1 : Nat), [])) ?_ ?_ ?_ (ps.length - 1) 0 (by omega)
  · intro k hk hc
    rw [s12_0 ps h1 h200 (by omega)]
    unfold eqI at hc
    rw [nrL_at (by omega), nrL_at (by omega)] at hc
    unfold rs0
    rw [decide_eq_true (by omega : (k : Int) < ((ps.length - 1 : Nat) : Int)), hc, wrS (by omega)]
    rfl
  · intro k hk hc
    refine ⟨?_, by simp⟩
    rw [s12_0 ps h1 h200 (by omega)]
    unfold eqI at hc
    rw [nrL_at (by omega), nrL_at (by omega)] at hc
    unfold rs0
    rw [decide_eq_true (by omega : (k : Int) < ((ps.length - 1 : Nat) : Int)), hc]
    rfl
  · refine ⟨?_, by simp⟩
    rw [s12_0 ps h1 h200 (by omega)]
    unfold rs0
    rw [decide_eq_false (by omega : ¬ ((ps.length - 1 : Nat) : Int) < ((ps.length - 1 : Nat) : Int))]
    rfl
theorem s12_2 {i k : Nat} (hik : i < k) (hk : k ≤ ps.length - 1) : roundC 0 bodyS2 (s2T ps (ps.length - 1 : Nat) i k) [] = some (rs2 LR2 ps (ps.length - 1 : Nat) i k (relate (pAt ps i) (pAt ps (i + 1)) (pAt ps k) (pAt ps (k + 1))) (closedB (nrL ps))) := by
  have hs : ∀ {P : Prop}, (k < ps.length - 1 → P) → decide ((k : Int) < ((ps.length - 1 : Nat) : Int)) = true → P := fun f h => f (by have := of_decide_eq_true h; omega)
  refine rs2_eq LR2 ps _ i k _ _ (hs fun h => ⟨by omega, by omega⟩) (hs fun h => ⟨by rw [wrS (by omega)]; omega, by rw [wrS (by omega)]; omega⟩) (hs fun h => ⟨by omega, by omega⟩) (hs fun h => ⟨by rw [wrS (by omega)]; omega, by rw [wrS (by omega)]; omega⟩)
    (hs fun h => by
      rw [wrS (by omega), wrS (by omega)]
      simp only [Int.toNat_natCast]
      exact pure_given (g := g4 fun a b c d => iP (relate a b c d)) (by kernel_rfl) rfl) (hs fun h _ _ _ _ => pure_given (g := gSo fun ps => lim ps (bP (closedB (nrL ps)))) (by kernel_rfl) (by rw [gSo_slP, lim_of h200] <;> rfl))
theorem s12_2step {i k : Nat} (hik : i < k) (hk : k < ps.length - 1) : roundC 0 bodyS2 (s2T ps (ps.length - 1 : Nat) i k) [] = some (bif badK (nrL ps) i k then (.ret, sX, []) else (.normal, s2T ps (ps.length - 1 : Nat) i (k + 1 : Nat), [])) := by
  rw [s12_2 ps h1 h200 hik (by omega)]
  have hb : badK (nrL ps) i k = (relate (pAt ps i) (pAt ps (i + 1)) (pAt ps k) (pAt ps (k + 1)) != wantI (nrL ps) i k) := by
    unfold badK
    rw [nrL_at (by omega), nrL_at (by omega), nrL_at (by omega), nrL_at (by omega), relate_near]
  rw [hb]
  generalize relate (pAt ps i) (pAt ps (i + 1)) (pAt ps k) (pAt ps (k + 1)) = v
  have hw : IntKind.i64.wrap (((ps.length - 1 : Nat) : Int) - 1) = ((ps.length - 2 : Nat) : Int) := by rw [IntWalk.i64_in _ (by omega)]; omega
  unfold rs2 wantI
  rw [nrL_length, decide_eq_true (by omega : (k : Int) < ((ps.length - 1 : Nat) : Int)), wrS (by omega), wrS (by omega), hw]
  have e1 : ((k : Int) == ((i + 1 : Nat) : Int)) = (k == i + 1) := by
    by_cases h : k = i + 1
    · subst h; simp
    · rw [beq_eq_false_iff_ne.2 (by omega : (k : Int) ≠ ((i + 1 : Nat) : Int)), beq_eq_false_iff_ne.2 h]
  have e2 : ((i : Int) == 0) = (i == 0) := by
    by_cases h : i = 0
    · subst h; rfl
    · rw [beq_eq_false_iff_ne.2 (by omega : (i : Int) ≠ 0), beq_eq_false_iff_ne.2 h]
  have e3 : ((k : Int) == ((ps.length - 2 : Nat) : Int)) = (k == ps.length - 2) := by
    by_cases h : k = ps.length - 2
    · rw [h]; simp
    · rw [beq_eq_false_iff_ne.2 (by omega : (k : Int) ≠ ((ps.length - 2 : Nat) : Int)), beq_eq_false_iff_ne.2 h]
  rw [e1, e2, e3]
  cases hk1 : (k == i + 1) with
  | true =>
    simp only [cond_true, Bool.true_or]
    cases v != 1 <;> rfl
  | false =>
    simp only [cond_true, cond_false, Bool.false_or]
    cases h0 : (i == 0) with
    | false =>
      simp only [cond_false, Bool.false_and]
      cases v != 0 <;> rfl
    | true =>
      cases h2 : (k == ps.length - 2) with
      | false =>
        simp only [cond_true, cond_false, Bool.false_and, Bool.and_false]
        cases v != 0 <;> rfl
      | true =>
        have hk2 := (beq_iff_eq (a := k) (b := ps.length - 2)).1 h2
        have hk3 := beq_eq_false_iff_ne.1 hk1
        have hi0 := (beq_iff_eq (a := i) (b := 0)).1 h0
        rw [decide_eq_true (by omega : ((ps.length - 1 : Nat) : Int) > 2)]
        simp only [cond_true, Bool.true_and]
        cases closedB (nrL ps) with
        | true => simp only [cond_true]; cases v != 1 <;> rfl
        | false => simp only [cond_false]; cases v != 0 <;> rfl
theorem s12_2loop {i : Nat} (hi : i < ps.length - 1) : At 0 bodyS2 (ps.length - 1 - (i + 1) + 1) (s2T ps (ps.length - 1 : Nat) i (i + 1 : Nat)) [] (some (match firstAt (badK (nrL ps) i) (ps.length - 1 - (i + 1)) (i + 1) with | some _ => (.ret, sX, []) | none => (.exit 4, s2E ps (ps.length - 1 : Nat) i (ps.length - 1 : Nat), []))) := by
  have hgen : ∀ (d k : Nat), i < k → k + d = ps.length - 1 → At 0 bodyS2 (d + 1) (s2T ps (ps.length - 1 : Nat) i k) [] (some (match firstAt (badK (nrL ps) i) d k with | some _ => (.ret, sX, []) | none => (.exit 4, s2E ps (ps.length - 1 : Nat) i (ps.length - 1 : Nat), []))) := by
    intro d
    induction d with
    | zero =>
      intro k hk he
      obtain rfl : k = ps.length - 1 := by omega
      refine At.leave ?_ (by simp)
      show _ = some (AExit.exit 4, s2E ps (ps.length - 1 : Nat) i (ps.length - 1 : Nat), [])
      rw [s12_2 ps h1 h200 hk (by omega)]
      unfold rs2
      rw [decide_eq_false (by omega : ¬ ((ps.length - 1 : Nat) : Int) < ((ps.length - 1 : Nat) : Int))]
      rfl
    | succ d ih =>
      intro k hk he
      have hst := s12_2step ps h1 h200 hk (by omega)
      unfold firstAt
      cases hb : badK (nrL ps) i k with
      | true =>
        rw [hb] at hst
        exact At.leave hst (by simp)
      | false =>
        rw [hb] at hst
        exact At.step hst (ih (k + 1) (by omega) (by omega))
  exact hgen _ _ (by omega) (by omega)
theorem s12_1step {i : Nat} (hi : i < ps.length - 1) : roundC 0 bodyS1 (s1T ps (ps.length - 1 : Nat) i) [] = some (bif badR (nrL ps) i then (.ret, sX, []) else (.normal, s1T ps (ps.length - 1 : Nat) (i + 1 : Nat), [])) := by
  have hloop := s12_2loop ps h1 h200 hi
  have hcan : canonTS 0 ([AVal.list ps.length (flatPP ps), .junk, .junk, AVal.v (Value.int IntKind.i64 ((ps.length - 1 : Nat) : Int)), .junk, AVal.v (Value.int IntKind.i64 i), AVal.v (Value.int IntKind.i64 ((i + 1 : Nat) : Int))] ++ jk 76) [] = some (s2T ps (ps.length - 1 : Nat) i (i + 1 : Nat), []) := by kernel_rfl
  unfold badR
  rw [nrL_length]
  cases hf : firstAt (badK (nrL ps) i) (ps.length - 1 - (i + 1)) (i + 1) with
  | some j =>
    rw [hf] at hloop
    have h := rs1x_eq LR2 ps (ps.length - 1 : Nat) i (fun _ => by rw [wrS (by omega)]; exact At.use (at_more hloop (m := 201) (by omega)) (by rfl) hcan)
    rw [show bodyS1 = _ from rfl]
    rw [h]
    unfold rs1x
    rw [decide_eq_true (by omega : (i : Int) < ((ps.length - 1 : Nat) : Int))]
    rfl
  | none =>
    rw [hf] at hloop
    have h := rs1_eq LR2 ps (ps.length - 1 : Nat) i (ps.length - 1 : Nat) (fun _ => by rw [wrS (by omega)]; exact At.use (at_more hloop (m := 201) (by omega)) (by rfl) hcan)
    rw [show bodyS1 = _ from rfl]
    rw [h]
    unfold rs1
    rw [decide_eq_true (by omega : (i : Int) < ((ps.length - 1 : Nat) : Int)), wrS (by omega)]
    rfl
theorem s12_1loop : At 0 bodyS1 (ps.length - 1 + 1) (s1T ps (ps.length - 1 : Nat) (0 : Nat)) [] (some (match firstAt (badR (nrL ps)) (ps.length - 1) 0 with | some _ => (.ret, sX, []) | none => (.exit 2, s1E ps (ps.length - 1 : Nat) (ps.length - 1 : Nat), []))) := by
  refine At.search (T := fun k => s1T ps (ps.length - 1 : Nat) k) (S := fun _ => []) (n := ps.length - 1) (c := badR (nrL ps)) (X := fun _ => (.ret, sX, [])) (E := (.exit 2, s1E ps (ps.length - 1 : Nat) (ps.length - 1 : Nat), [])) ?_ ?_ ?_ (ps.length - 1) 0 (by omega)
  · intro k hk hc
    rw [s12_1step ps h1 h200 hk, hc]
    rfl
  · intro k hk hc
    exact ⟨by rw [s12_1step ps h1 h200 hk, hc]; rfl, by simp⟩
  · refine ⟨?_, by simp⟩
    have h := rs1_eq LR2 ps (ps.length - 1 : Nat) (ps.length - 1 : Nat) 0 (fun h => by have := of_decide_eq_true h; omega)
    rw [show bodyS1 = _ from rfl]
    rw [h]
    unfold rs1
    rw [decide_eq_false (by omega : ¬ ((ps.length - 1 : Nat) : Int) < ((ps.length - 1 : Nat) : Int))]
    rfl
end
theorem simple_two (xs : List P2) : simpleB xs = ((firstAt (eqI xs) (xs.length - 1) 0).isNone && (firstAt (badR xs) (xs.length - 1) 0).isNone) := by
  unfold simpleB
  have hb : ∀ i, badI xs i = (eqI xs i || badR xs i) := fun i => rfl
  cases h1 : firstAt (eqI xs) (xs.length - 1) 0 with
  | some j =>
    have := firstAt_some h1
    cases h2 : firstAt (badI xs) (xs.length - 1) 0 with
    | some _ => rfl
    | none =>
      have h3 := firstAt_none h2 j (by omega) (by omega)
      rw [hb, this.2.2.1] at h3
      cases h3
  | none =>
    cases h4 : firstAt (badR xs) (xs.length - 1) 0 with
    | some j =>
      have := firstAt_some h4
      cases h2 : firstAt (badI xs) (xs.length - 1) 0 with
      | some _ => rfl
      | none =>
        have h3 := firstAt_none h2 j (by omega) (by omega)
        rw [hb, this.2.2.1, Bool.or_true] at h3
        cases h3
    | none =>
      rw [firstAt_eq_none (c := badI xs) fun i h5 h6 => by rw [hb, firstAt_none h1 i h5 h6, firstAt_none h4 i h5 h6]; rfl]
      rfl
theorem s12_calls (ps : List P2) (h200 : ps.length ≤ 200) : CallsP Try.prog 37 [slP ps] (bP (simpleB (nrL ps))) := by
  by_cases h1 : 1 ≤ ps.length
  · have hw : IntKind.i64.wrap ((ps.length : Int) - 1) = ((ps.length - 1 : Nat) : Int) := by rw [IntWalk.i64_in _ (by omega)]; omega
    rw [simple_two, nrL_length]
    have hl0 := s12_0loop ps h1 h200
    have hl1 := s12_1loop ps h1 h200
    cases hf : firstAt (eqI (nrL ps)) (ps.length - 1) 0 with
    | some j =>
      rw [hf] at hl0
      exact rvA_calls LR2 ps (by rw [hw]; exact At.use (at_more hl0 (m := 201) (by omega)) (by rfl) (by kernel_rfl))
    | none =>
      rw [hf] at hl0
      cases hg : firstAt (badR (nrL ps)) (ps.length - 1) 0 with
      | some j =>
        rw [hg] at hl1
        exact rvB_calls LR2 ps (ps.length - 1 : Nat) (by rw [hw]; exact At.use (at_more hl0 (m := 201) (by omega)) (by rfl) (by kernel_rfl)) (by rw [hw]; exact At.use (at_more hl1 (m := 201) (by omega)) (by rfl) (by kernel_rfl))
      | none =>
        rw [hg] at hl1
        exact rvC_calls LR2 ps (ps.length - 1 : Nat) (ps.length - 1 : Nat) (by rw [hw]; exact At.use (at_more hl0 (m := 201) (by omega)) (by rfl) (by kernel_rfl)) (by rw [hw]; exact At.use (at_more hl1 (m := 201) (by omega)) (by rfl) (by kernel_rfl))
  · obtain rfl : ps = [] := List.eq_nil_of_length_eq_zero (by omega)
    have l0 : At 0 bodyS0 1 (s0T [] (-1) (0 : Nat)) [] (some (.exit 0, s0E [] (-1) (0 : Nat), [])) := At.leave (rs0_eq LR2 [] (-1) 0 (0, 0) (0, 0) (fun h => by cases h) (fun h => by cases h) (fun h => by cases h) (fun h => by cases h)) (by simp)
    have l1 : At 0 bodyS1 1 (s1T [] (-1) (0 : Nat)) [] (some (.exit 2, s1E [] (-1) (0 : Nat), [])) := At.leave (rs1_eq LR2 [] (-1) 0 0 (fun h => by cases h)) (by simp)
    exact rvC_calls LR2 [] 0 0 (At.use (at_more l0 (m := 201) (by omega)) (by rfl) (by kernel_rfl)) (At.use (at_more l1 (m := 201) (by omega)) (by rfl) (by kernel_rfl))
noncomputable def LR3 : Lib Try.prog := LR2.add 37 (gSo fun ps => lim ps (bP (simpleB (nrL ps)))) (Vm.enters_of named_prog Try.func37 (by kernel_rfl)) (gSo_spec fun ps r h => by obtain ⟨h1, rfl⟩ := lim_some h; exact s12_calls ps h1)
noncomputable abbrev bodyO : List AVal → List AObj → Res := evalC (cf LR3) (evalF (cf LR3) 201) ((lives.lookup 24).getD []) 0 0 201 (loopAt Try.f24 0)
theorem o12_loop (ps : List P2) (h200 : ps.length ≤ 200) : At 0 bodyO (ps.length + 1) (okT ps (0 : Nat)) [] (some (match nokO ps with | some _ => (.ret, okX, []) | none => (.exit 0, okE ps ps.length, []))) := by
  have key : ∀ k : Nat, k ≤ ps.length → roundC 0 bodyO (okT ps k) [] = some (rk0 LR3 ps k (okP (pAt ps k))) := fun k hk =>
    rk0_eq LR3 ps k _ (fun h => by have := of_decide_eq_true h; exact ⟨by omega, by omega⟩) (fun h => by rw [Int.toNat_natCast]; exact pure_given (g := g1 fun p => bP (okP p)) (by kernel_rfl) rfl)
  refine At.search (T := fun k => okT ps k) (S := fun _ => []) (n := ps.length) (c := nokB ps) (X := fun _ => (.ret, okX, [])) (E := (.exit 0, okE ps ps.length, [])) ?_ ?_ ?_ ps.length 0 (by omega)
  · intro k hk hc
    rw [key k (by omega)]
    unfold nokB at hc
    rw [Bool.not_eq_false'] at hc
    unfold rk0
    rw [hc, decide_eq_true (by omega : (k : Int) < (ps.length : Int)), wrS (by omega)]
    rfl
  · intro k hk hc
    refine ⟨?_, by simp⟩
    rw [key k (by omega)]
    unfold nokB at hc
    rw [Bool.not_eq_true'] at hc
    unfold rk0
    rw [hc, decide_eq_true (by omega : (k : Int) < (ps.length : Int))]
    rfl
  · refine ⟨?_, by simp⟩
    rw [key _ (Nat.le_refl _)]
    unfold rk0
    rw [decide_eq_false (by omega : ¬ (ps.length : Int) < (ps.length : Int))]
    rfl
theorem nrL_id {ps : List P2} (h : nokO ps = none) : nrL ps = ps := by
  unfold nrL
  conv => rhs; rw [← List.map_id ps]
  refine List.map_congr_left fun p hp => ?_
  obtain ⟨i, hi, rfl⟩ := List.getElem_of_mem hp
  have := firstAt_none h i (by omega) (by omega)
  unfold nokB at this
  rw [Bool.not_eq_false', pAt_getElem hi] at this
  unfold okP at this
  simp only [Bool.and_eq_true, decide_eq_true_eq] at this
  exact nearP_id ⟨⟨this.1.1.1, this.1.1.2⟩, this.1.2, this.2⟩
theorem o12_calls (ps : List P2) : CallsP Try.prog 24 [slP ps] (bP (okB ps)) := by
  have hs : ∀ {P : Prop}, (2 ≤ ps.length → ps.length ≤ 64 → P) → decide ((ps.length : Int) < 2) = false → decide ((ps.length : Int) > 64) = false → P := fun f h1 h2 => f (by have := of_decide_eq_false h1; omega) (by have := of_decide_eq_false h2; omega)
  cases hn : nokO ps with
  | some j =>
    have key := rkA_calls LR3 ps (hs fun h2 h64 => by
      have hl := o12_loop ps (by omega)
      rw [hn] at hl
      exact At.use (at_more hl (m := 201) (by omega)) (by rfl) (by kernel_rfl))
    have e : rkA LR3 ps = bP (okB ps) := by
      unfold rkA okB
      rw [hn]
      simp only [Option.isSome_some, Bool.not_true, Bool.and_false, Bool.false_and]
      cases decide ((ps.length : Int) < 2) <;> cases decide ((ps.length : Int) > 64) <;> rfl
    rw [e] at key
    exact key
  | none =>
    have key := rkB_calls LR3 ps ps.length (simpleB ps) (hs fun h2 h64 => by
      have hl := o12_loop ps (by omega)
      rw [hn] at hl
      exact At.use (at_more hl (m := 201) (by omega)) (by rfl) (by kernel_rfl))
      (hs fun h2 h64 => pure_given (g := gSo fun ps => lim ps (bP (simpleB (nrL ps)))) (by kernel_rfl) (by rw [gSo_slP, lim_of (by omega), nrL_id hn] <;> rfl))
    have e : rkB LR3 ps ps.length (simpleB ps) = bP (okB ps) := by
      unfold rkB okB
      rw [hn]
      by_cases h2 : 2 ≤ ps.length
      · rw [decide_eq_false (by omega : ¬ (ps.length : Int) < 2), decide_eq_true h2]
        by_cases h64 : ps.length ≤ 64
        · rw [decide_eq_false (by omega : ¬ (ps.length : Int) > 64), decide_eq_true h64]
          rfl
        · rw [decide_eq_true (by omega : (ps.length : Int) > 64), decide_eq_false h64]
          rfl
      · rw [decide_eq_true (by omega : (ps.length : Int) < 2), decide_eq_false h2]
        rfl
    rw [e] at key
    exact key
noncomputable def LR4 : Lib Try.prog := LR3.add 24 (gSo fun ps => some (bP (okB ps))) (Vm.enters_of named_prog Try.func24 (by kernel_rfl)) (gSo_spec fun ps r h => by simp only [Option.some.injEq] at h; subst h; exact o12_calls ps)
end Go.Proofs.Ytmopbegmdegooaa
