/- The abstract machine: a plain interpreter of the model's code over values that name memory by objects of the call's own; nothing here is about one program. -/
import Derived.LoopN
import Derived.Laws.OwnMore
import Derived.Laws.MakeOwn
import Derived.Laws.Slices
import Derived.Below
import Derived.Orders
import Derived.Scope
import Derived.Laws.StructEq
namespace Go.Proofs.Ytmopbegmdegooaa.Vm
open Go Go.RowKit

/-! ## values and objects -/
/-- A value that leads to nothing that may still be written. -/
inductive PVal where
  | v (x : Value)
  | agg (xs : List PVal)
  | tup (xs : List PVal)
  | list (n : Nat) (xs : List PVal)
  | clip
  | fn (f : FuncId) (caps : List PVal)
  | junk
/-- A value: it may name objects of the call's own. -/
inductive AVal where
  | v (x : Value)
  | agg (xs : List AVal)
  | tup (xs : List AVal)
  | list (n : Nat) (xs : List PVal)
  | clip
  | row (o ep sz off len : Nat)
  | ptr (o ep off : Nat)
  | eptr (xs : List PVal)
  | fn (f : FuncId) (caps : List AVal)
  | mp (o : Nat)
  | junk
inductive AObj where
  | free
  | hidden
  | box (xs : List AVal)
  | row (sz ep : Nat) (fz : Option Nat) (xs : List AVal)
  | mapo (es : List (AVal × AVal))

mutual
def up : PVal → AVal
  | .v x => .v x
  | .agg xs => .agg (upL xs)
  | .tup xs => .tup (upL xs)
  | .list n xs => .list n xs
  | .clip => .clip
  | .fn f cs => .fn f (upL cs)
  | .junk => .junk
def upL : List PVal → List AVal
  | [] => []
  | x :: xs => up x :: upL xs
end

def AVal.cells : AVal → List AVal
  | .agg xs => xs
  | x => [x]
def AVal.one : AVal → Bool
  | .agg _ | .tup _ | .junk => false
  | .v x => x.oneCell'
  | _ => true
def AObj.ep? : AObj → Option Nat
  | .box _ => some 0
  | .row _ ep _ _ => some ep
  | .mapo _ => some 0
  | _ => none

def constA : Value → AVal
  | .agg cs => .agg (cs.toList.map .v)
  | x => .v x
def opd (T : List AVal) : Operand → AVal
  | .tmp t => T.getD t .junk
  | .const x => constA x
  | .func f => .fn f []
  | .global _ => .junk
def mapO {α β : Type} (f : α → Option β) : List α → Option (List β)
  | [] => some []
  | x :: xs => match f x, mapO f xs with
    | some y, some ys => some (y :: ys)
    | _, _ => none
def toV1 : AVal → Option Value
  | .v x => some x
  | _ => none
def toV : AVal → Option Value
  | .v x => some x
  | .agg xs => (mapO toV1 xs).map fun ys => .agg ys.toArray
  | _ => none

/-- What a piece of the model's semantics comes to that looks at no world. -/
def pureOf (P : Program) {α : Type} : Sem α → Option α
  | .pure a => some a
  | .program k => pureOf P (k P)
  | _ => none

def szOf (P : Program) (t : TypeId) : Option Nat := (P.info? t).map (·.size)
def aggT (P : Program) (t : TypeId) : Option Bool :=
  match P.underlying t with
  | some (.struct _) | some (.array _ _) => some true
  | some _ => some false
  | none => none
def partA (P : Program) (t : TypeId) (xs : List AVal) (off : Nat) : Option AVal :=
  match aggT P t, szOf P t with
  | some true, some n => if off + n ≤ xs.length then some (.agg ((xs.drop off).take n)) else none
  | some false, some _ => xs[off]?
  | _, _ => none
def putA (xs : List AVal) (off : Nat) (ys : List AVal) : Option (List AVal) :=
  if off + ys.length ≤ xs.length && ys.all AVal.one then some (xs.take off ++ ys ++ xs.drop (off + ys.length)) else none
def fillA (place : Nat → Option (Nat × Nat)) (xs : List AVal) : List (Nat × AVal) → Option (List AVal)
  | [] => some xs
  | (i, x) :: rest => match place i with
    | some (off, n) => if x.cells.length = n then (match putA xs off x.cells with | some ys => fillA place ys rest | none => none) else none
    | none => none
def zeroA (P : Program) (t : TypeId) : Option (List AVal) :=
  match P.info? t with
  | some i => match i.zero with
    | some z => some (z.cells.toList.map .v)
    | none => none
  | none => none
def placesA (P : Program) (t : TypeId) : Option (Nat → Option (Nat × Nat)) :=
  match P.underlying t with
  | some (.struct fs) => (mapO (fun f => (szOf P f.type).map fun n => (f.offset, n)) fs.toList).map fun l i => l[i]?
  | some (.array _ e) => (szOf P e).map fun n i => some (i * n, n)
  | _ => none

abbrev Eff := List (Nat × AObj)
def loadA (P : Program) (S : List AObj) (t : TypeId) : AVal → Option AVal
  | .ptr o ep off => match S[o]? with
    | some (.box xs) => if ep = 0 then partA P t xs off else none
    | some (.row _ e _ xs) => if e = ep then partA P t xs off else none
    | _ => none
  | .eptr xs => partA P t (upL xs) 0
  | _ => none
def storeA (P : Program) (S : List AObj) (t : TypeId) (a x : AVal) : Option Eff :=
  match a with
  | .ptr o ep off => if szOf P t = some x.cells.length then (match S[o]? with
    | some (.box xs) => if ep = 0 then (putA xs off x.cells).map fun ys => [(o, .box ys)] else none
    | some (.row sz e fr xs) => if e = ep ∧ fr = none then (putA xs off x.cells).map fun ys => [(o, .row sz e none ys)] else none
    | _ => none) else none
  | _ => none

/-- A bound of a slice expression. -/
def numA : Option AVal → Option (Option Nat)
  | none => some none
  | some (.v (.int _ n)) => if 0 ≤ n then some (some n.toNat) else none
  | _ => none
def mxOk (len H : Nat) (hs : Bool) : Option Nat → Bool
  | some m => decide (H ≤ m) && decide (m ≤ len) && hs
  | none => true
def boundsA (len : Nat) (lo hi mx : Option AVal) : Option (Nat × Nat × Option Nat) :=
  match numA lo, numA hi, numA mx with
  | some l, some h, some m =>
    if l.getD 0 ≤ h.getD len ∧ h.getD len ≤ len ∧ mxOk len (h.getD len) h.isSome m = true then some (l.getD 0, h.getD len, m) else none
  | _, _, _ => none
def cutA {α : Type} (xs : List α) (sz l h : Nat) : List α := (xs.drop (l * sz)).take ((h - l) * sz)
def sliceA (P : Program) (t : TypeId) (x : AVal) (lo hi mx : Option AVal) : Option AVal :=
  match P.underlying t with
  | some (.slice e) => match szOf P e with
    | some sz => match x with
      | .list n xs => match boundsA n lo hi mx with
        | some (l, h, m) => if m = some l then some .clip else some (.list (h - l) (cutA xs sz l h))
        | none => none
      | .row o ep sz' off len => if sz' = sz then (match boundsA len lo hi mx with
        | some (l, h, m) => if m = some l then some .clip else some (.row o ep sz (off + l) (h - l))
        | none => none) else none
      | .clip => match boundsA 0 lo hi mx with
        | some _ => some .clip
        | none => none
      | .v (.slice none 0 0) => match boundsA 0 lo hi mx with
        | some _ => some (.v (.slice none 0 0))
        | none => none
      | _ => none
    | none => none
  | _ => none

/-- The elements of a slice, as cells. -/
def elemsA (S : List AObj) (sz : Nat) : AVal → Option (Nat × List AVal)
  | .list n xs => if xs.length = n * sz then some (n, upL xs) else none
  | .clip => some (0, [])
  | .v (.slice none 0 0) => some (0, [])
  | .row o ep sz' off len => match S[o]? with
    | some (.row s e _ xs) => if s = sz ∧ sz' = sz ∧ e = ep ∧ (off + len) * sz ≤ xs.length then some (len, cutA xs sz off (off + len)) else none
    | _ => none
  | _ => none
def lenA : AVal → Option Nat
  | .list n _ => some n
  | .clip => some 0
  | .row _ _ _ _ len => some len
  | _ => none
def appendA (P : Program) (S : List AObj) (slot : Nat) (t : TypeId) (s x : AVal) : Option (AVal × Eff) :=
  match P.underlying t with
  | some (.slice e) => match P.info? e with
    | some i => if 0 < i.size ∧ i.zero.map (·.cells.size) = some i.size then (match elemsA S i.size x with
      | some (m, ys) =>
        if m = 0 then (match s with
          | .clip => some (.clip, [])
          | .v (.slice none 0 0) => some (.v (.slice none 0 0), [])
          | .row o ep sz off len => some (.row o ep sz off len, [])
          | .list n xs => some (.list n xs, [])
          | _ => none)
        else if ys.all AVal.one then (match s with
          | .clip | .v (.slice none 0 0) =>
            if m * i.bytes ≤ 140737488355328 ∧ m ≤ 9223372036854775807 then some (.row slot 0 i.size 0 m, [(slot, .row i.size 0 none ys)]) else none
          | .row o ep sz off len => match S[o]? with
            | some (.row sz' e' fr xs) =>
              if sz = i.size ∧ sz' = sz ∧ e' = ep ∧ (off + len) * sz = xs.length ∧ (len + m) * i.bytes ≤ 140737488355328 ∧ len + m ≤ 9223372036854775807 then
                some (.row o (ep + 1) sz 0 (len + m), [(o, .row sz (ep + 1) (fr.map fun _ => 0) (xs.drop (off * sz) ++ ys))])
              else none
            | _ => none
          | _ => none)
        else none
      | none => none) else none
    | none => none
  | _ => none

def binA (P : Program) (op : BinOp) (t : TypeId) (x y : Operand) (a b : AVal) : Option AVal :=
  match toV a, toV b with
  | some u, some w => (pureOf P (do eqGuard op t x y u w; binOp op t u w)).map .v
  | _, _ => none

/-- Two structs of numbers and truth values, cell by cell. -/
def eqCells (P : Program) : List Field → Nat → List AVal → List AVal → Option Bool
  | [], _, [], [] => some true
  | f :: fs, i, .v (.int k a) :: xs, .v (.int k' b) :: ys => match P.info? f.type with
    | some _ => match P.underlying f.type with
      | some (.int _) => if f.offset = i ∧ k = k' ∧ (f.name == "_") = false then (eqCells P fs (i + 1) xs ys).map fun r => (a == b) && r else none
      | _ => none
    | none => none
  | f :: fs, i, .v (.bool a) :: xs, .v (.bool b) :: ys => match P.info? f.type with
    | some _ => match P.underlying f.type with
      | some .bool => if f.offset = i ∧ (f.name == "_") = false then (eqCells P fs (i + 1) xs ys).map fun r => (a == b) && r else none
      | _ => none
    | none => none
  | _, _, _, _ => none
def eqAgg (P : Program) (op : BinOp) (t : TypeId) (a b : AVal) : Option AVal :=
  match a, b with
  | .agg xs, .agg ys => match P.underlying t with
    | some (.struct fs) => if P.stoodInHeld t = false ∧ P.eqGuardType P.depth t = false then (match op, eqCells P fs.toList 0 xs ys with
      | .eql, some r => some (.v (.bool r))
      | .neq, some r => some (.v (.bool (!r)))
      | _, _ => none) else none
    | _ => none
  | _, _ => none
def indexAddrA (P : Program) (t : TypeId) (x : AVal) (i : Int) : Option AVal :=
  match P.underlying t with
  | some (.slice e) => match szOf P e with
    | some sz => match x with
      | .list n xs => if 0 ≤ i ∧ i < n ∧ 0 < sz ∧ xs.length = n * sz then some (.eptr (xs.drop (i.toNat * sz))) else none
      | .row o ep sz' off len => if sz' = sz ∧ 0 ≤ i ∧ i < len then some (.ptr o ep ((off + i.toNat) * sz)) else none
      | _ => none
    | none => none
  | some (.array n e) => match szOf P e with
    | some sz => match x with
      | .ptr o ep off => if 0 ≤ i ∧ i < n then some (.ptr o ep (off + i.toNat * sz)) else none
      | .eptr xs => if 0 ≤ i ∧ i < n then some (.eptr (xs.drop (i.toNat * sz))) else none
      | _ => none
    | none => none
  | _ => none

def evalBuiltin (P : Program) (S : List AObj) (slot : Nat) (b : Builtin) (ts : Array TypeId) (ty : TypeId) (xs : List AVal) : Option (AVal × Eff) :=
  match b, xs with
  | .len, [x] => match P.underlying (ts.getD 0 0), lenA x with
    | some (.slice _), some n => if ts.size = 1 then some (.v (.int .i64 n), []) else none
    | _, _ => match x with
      | .v u => (pureOf P (Builtin.len_ ts ty #[u])).map fun r => (.v r, [])
      | _ => none
  | .append, [s, x] => if ts.toList = [ts.getD 0 0, ts.getD 0 0] then appendA P S slot (ts.getD 0 0) s x else none
  | .min, xs => (mapO toV1 xs).bind fun us => (pureOf P (Builtin.min_ ts ty us.toArray)).map fun r => (.v r, [])
  | .max, xs => (mapO toV1 xs).bind fun us => (pureOf P (Builtin.max_ ts ty us.toArray)).map fun r => (.v r, [])
  | _, _ => none

/-- One operation that is no call of code: its value, and what objects it turns. 'slot': the number of an object that it may make. -/
def evalOp (P : Program) (T : List AVal) (S : List AObj) (slot : Nat) (o : Oper) : Option (AVal × Eff) :=
  match o.op with
  | .move x => some (opd T x, [])
  | .assign x => some (opd T x, [])
  | .pick c a b => match opd T c with
    | .v (.bool t) => some (if t then opd T a else opd T b, [])
    | _ => none
  | .alloc t => match zeroA P t with
    | some zs => if zs.all AVal.one then some (.ptr slot 0 0, [(slot, .box zs)]) else none
    | none => none
  | .box _ x => if (opd T x).cells.all AVal.one then some (.ptr slot 0 0, [(slot, .box (opd T x).cells)]) else none
  | .build t parts => match zeroA P t, placesA P t with
    | some zs, some place => if zs.all AVal.one then (fillA place zs (parts.toList.map fun p => (p.1, opd T p.2))).map fun xs => (.agg xs, []) else none
    | _, _ => none
  | .buildSlice t n parts => match P.underlying t with
    | some (.slice e) => match szOf P e, zeroA P e with
      | some sz, some zs => if n * sz ≤ 16777216 ∧ 0 < sz ∧ zs.length = sz ∧ zs.all AVal.one then
          (fillA (fun i => some (i * sz, sz)) (List.replicate n zs).flatten (parts.toList.map fun p => (p.1, opd T p.2))).map fun xs => (.row slot 0 sz 0 n, [(slot, .row sz 0 none xs)])
        else none
      | _, _ => none
    | _ => none
  | .load t a => (loadA P S t (opd T a)).map fun x => (x, [])
  | .store t a x => (storeA P S t (opd T a) (opd T x)).map fun e => (.v undef, e)
  | .nilCheck x => match opd T x with
    | .ptr o ep off => some (.ptr o ep off, [])
    | .eptr xs => some (.eptr xs, [])
    | .fn f cs => some (.fn f cs, [])
    | _ => none
  | .binOp op t x y _ => match eqAgg P op t (opd T x) (opd T y) with
    | some r => some (r, [])
    | none => (binA P op t x y (opd T x) (opd T y)).map fun r => (r, [])
  | .unOp op _ x => match opd T x with
    | .v a => (pureOf P (Op.unary op a)).map fun r => (.v r, [])
    | _ => none
  | .convert s d x => match opd T x with
    | .v a => (pureOf P (convert s d a)).map fun r => (.v r, [])
    | _ => none
  | .makeFunc (.func f) first caps => if first.size = 0 then some (.fn f (caps.toList.map (opd T)), []) else none
  | .makeSlice t l c => match P.underlying t, opd T l, opd T c with
    | some (.slice e), .v (.int _ n), .v (.int _ m) => match P.info? e, zeroA P e with
      | some i, some zs => if n = m ∧ 0 ≤ n ∧ (i.bytes : Int) * n ≤ 281474976710656 ∧ n ≤ 9223372036854775807 ∧ 0 < i.size ∧ zs.length = i.size ∧ zs.all AVal.one then
          some (.row slot 0 i.size 0 n.toNat, [(slot, .row i.size 0 none (List.replicate n.toNat zs).flatten)])
        else none
      | _, _ => none
    | _, _, _ => none
  | .slice t x lo hi mx => (sliceA P t (opd T x) (lo.map (opd T)) (hi.map (opd T)) (mx.map (opd T))).map fun r => (r, [])
  | .fieldAddr s x f => match P.underlying s with
    | some (.struct fs) => match fs[f]? with
      | some fl => if (szOf P fl.type).any (0 < ·) then (match opd T x with
        | .ptr o ep off => some (.ptr o ep (off + fl.offset), [])
        | .eptr xs => some (.eptr (xs.drop fl.offset), [])
        | _ => none) else none
      | none => none
    | _ => none
  | .field t x f => match P.underlying t, opd T x with
    | some (.struct fs), .agg xs => match fs[f]? with
      | some fl => (partA P fl.type xs fl.offset).map fun r => (r, [])
      | none => none
    | _, _ => none
  | .indexAddr t x i => match opd T i with
    | .v (.int _ n) => (indexAddrA P t (opd T x) n).map fun r => (r, [])
    | _ => none
  | .index t x i => match opd T x, opd T i with
    | .agg xs, .v (.int _ n) => match P.underlying t with
      | some (.array len e) => match szOf P e with
        | some sz => if 0 ≤ n ∧ n < len then (partA P e xs (n.toNat * sz)).map fun r => (r, []) else none
        | none => none
      | _ => none
    | .v a, .v b => (pureOf P (Instr.index t a b)).map fun r => (.v r, [])
    | _, _ => none
  | .extract x k => match opd T x with
    | .tup xs => xs[k]?.map fun r => (r, [])
    | _ => none
  | .call { callee := .builtin b, args, argTypes } => evalBuiltin P S slot b argTypes o.type (args.toList.map (opd T))
  | _ => none

def setObj (S : List AObj) (o : Nat) (x : AObj) : List AObj := if o < S.length then S.set o x else S ++ [x]
def applyEff (S : List AObj) : Eff → List AObj
  | [] => S
  | (o, x) :: rest => applyEff (setObj S o x) rest

/-! ## what leads to objects, as what does not -/
def peek (S : List AObj) : Nat → AVal → Option PVal
  | 0, _ => none
  | _ + 1, .v x => some (.v x)
  | n + 1, .agg xs => (mapO (peek S n) xs).map .agg
  | n + 1, .tup xs => (mapO (peek S n) xs).map .tup
  | _ + 1, .list k xs => some (.list k xs)
  | _ + 1, .clip => some .clip
  | n + 1, .fn f cs => (mapO (peek S n) cs).map (.fn f)
  | n + 1, .row o ep sz off len => match S[o]? with
    | some (.row s e (some k) xs) => if s = sz ∧ e = ep ∧ (off + len) * sz ≤ k then (mapO (peek S n) (cutA xs sz off (off + len))).map (.list len) else none
    | _ => none
  | _ + 1, .junk => some .junk
  | _ + 1, _ => none
def mark (lo : Nat) : Nat → List AObj → AVal → List AObj
  | 0, S, _ => S
  | n + 1, S, .agg xs => xs.foldl (mark lo n) S
  | n + 1, S, .tup xs => xs.foldl (mark lo n) S
  | n + 1, S, .fn _ xs => xs.foldl (mark lo n) S
  | n + 1, S, .row o _ _ _ _ => match S[o]? with
    | some (.row s e _ xs) => if lo ≤ o then xs.foldl (mark lo n) (S.set o (.row s e (some xs.length) xs)) else S
    | _ => S
  | _ + 1, S, _ => S
def deep : Nat := 6

/-! ## calls -/
structure FnA where
  ntmps : Nat
  results : Array ResultVar
  body : Code
  /-- for each region, as bits, which temporaries are still of use behind it; what is not said so is forgotten -/
  live : List Nat
structure Cfg where
  P : Program
  tab : FuncId → Option FnA
  /-- 0: what is handed over and back leads to nothing that is written; 1: the same objects, none made that stays; 2: the same objects -/
  mode : FuncId → Nat
  givenP : FuncId → Option (List PVal → Option PVal)
  givenS : FuncId → Option (Nat → List AVal → List AObj → Option (AVal × List AObj))

abbrev Ev := Nat → FuncId → List AVal → List AObj → Option (AVal × List AObj)
def pureCall (c : Cfg) (ev : Ev) (f : FuncId) (ps : List PVal) : Option PVal :=
  match c.givenP f with
  | some g => g ps
  | none => match ev 0 f (upL ps) [] with
    | some (r, S) => peek (mark 0 deep S r) deep r
    | none => none
/-- A call at which no object turns. -/
def peekCall (c : Cfg) (ev : Ev) (f : FuncId) (args : List AVal) (S : List AObj) : Option AVal :=
  if (c.givenS f).isNone = true ∧ c.mode f = 0 then
    match mapO (peek S deep) args with
    | some ps => (pureCall c ev f ps).map up
    | none => none
  else none
def callA (c : Cfg) (ev : Ev) (lo : Nat) (f : FuncId) (args : List AVal) (S : List AObj) : Option (AVal × List AObj) :=
  match c.givenS f with
  | some g => g lo args S
  | none => match c.mode f with
    | 0 => match mapO (peek (args.foldl (mark lo deep) S) deep) args with
      | some ps => (pureCall c ev f ps).map fun r => (up r, args.foldl (mark lo deep) S)
      | none => none
    | 1 => match ev S.length f args S with
      | some (r, S') => (peek (mark S.length deep S' r) deep r).map fun r' => (up r', S)
      | none => none
    | _ => ev lo f args S

/-- The call of code that an operation is. -/
def isCall (o : Oper) : Option (Operand × List Operand) :=
  match o.op with
  | .call { callee := .value f, args, .. } => some (f, args.toList)
  | _ => none
def putT (T : List AVal) (d : Option Tmp) (x : AVal) : List AVal :=
  match d with
  | some d => T.set d x
  | none => T
def wantedA (ops : Array Oper) (T : List AVal) (o : Oper) : Option Bool :=
  match o.guard with
  | none => some true
  | some (j, want) => match (ops[j]?).bind (·.dst) with
    | some d => match T[d]? with
      | some (.v (.bool b)) => some (if want then b else !b)
      | some .junk => none
      | _ => some false
    | none => some false

def stepOp (c : Cfg) (ev : Ev) (lo : Nat) (T : List AVal) (S : List AObj) (slot : Nat) (o : Oper) : Option (AVal × List AObj) :=
  match isCall o with
  | some (f, xs) => match opd T f with
    | .fn g caps => callA c ev lo g (xs.map (opd T) ++ caps) S
    | _ => none
  | none => match evalOp c.P T S slot o with
    | some (x, e) => if e.all (fun p => lo ≤ p.1) then some (x, applyEff S e) else none
    | none => none
/-- The first free slot from lo on. -/
def slotFrom : Nat → List AObj → Nat
  | i, [] => i
  | i, .free :: _ => i
  | i, _ :: xs => slotFrom (i + 1) xs
def slotOf (lo : Nat) (S : List AObj) : Nat := bif Nat.ble lo S.length then slotFrom lo (S.drop lo) else S.length
def runOps (c : Cfg) (ev : Ev) (lo : Nat) (ops : Array Oper) : List Oper → List AVal → List AObj → Option (List AVal × List AObj)
  | [], T, S => some (T, S)
  | o :: rest, T, S => match wantedA ops T o with
    | some true => match stepOp c ev lo T S (slotOf lo S) o with
      | some (x, S') => runOps c ev lo ops rest (putT T o.dst x) S'
      | none => none
    | some false => runOps c ev lo ops rest (putT T o.dst (.v undef)) S
    | none => none

/-! ## a region that draws its order: each operation sees what is ordered ahead of it, and nothing that an unordered one turns -/
def insN (l : List Nat) (x : Nat) : List Nat := if l.contains x then l else x :: l
def predsOf (acc : List (List Nat)) (o : Oper) : List Nat :=
  o.after.toList.foldl (fun l e => if Region.binds .any e then (acc.getD e.on []).foldl insN (insN l e.on) else l) []
def predsAll : List Oper → List (List Nat) → List (List Nat)
  | [], acc => acc
  | o :: rest, acc => predsAll rest (acc ++ [predsOf acc o])
/-- The temporaries that an operation reads: its operands', its guard's. -/
def opReads (ops : Array Oper) (o : Oper) : List Nat :=
  (o.op.operands.toList.filterMap fun | .tmp t => some t | _ => none) ++ (match o.guard with | some (j, _) => ((ops[j]?).bind (·.dst)).toList | none => [])
def apartT (ops : Array Oper) (pr : List (List Nat)) : Bool :=
  (List.range ops.size).all fun i => (List.range ops.size).all fun j =>
    i == j || (pr.getD i []).contains j || (pr.getD j []).contains i ||
      (match ops[i]?, ops[j]? with
        | some a, some b => (match a.dst with | some d => !(opReads ops b).contains d && b.dst != some d | none => true)
        | _, _ => true)
def aheadOk (ops : Array Oper) : Bool :=
  (List.range ops.size).all fun i => match ops[i]? with
    | some o => o.after.all fun e => !Region.binds .any e || e.on < i
    | none => true
/-- The first look, at what values lead to alone: which objects does each operation turn? Whatever it says: the second look holds it to it. -/
def shapeOp (P : Program) (T : List AVal) (S : List AObj) (slot : Nat) (o : Oper) : AVal × List Nat × List AObj :=
  match o.op with
  | .move x | .assign x | .nilCheck x => (opd T x, [], S)
  | .pick _ a _ => (opd T a, [], S)
  | .alloc t => (.ptr slot 0 0, [slot], S.set slot (.box ((zeroA P t).getD [])))
  | .box _ x => (.ptr slot 0 0, [slot], S.set slot (.box (opd T x).cells))
  | .buildSlice _ _ parts => (.row slot 0 0 0 0, [slot], S.set slot (.row 0 0 none (parts.toList.map fun p => opd T p.2)))
  | .makeSlice _ _ _ => (.row slot 0 0 0 0, [slot], S.set slot (.row 0 0 none []))
  | .fieldAddr s x f => match P.underlying s, opd T x with
    | some (.struct fs), .ptr q ep off => match fs[f]? with
      | some fl => (.ptr q ep (off + fl.offset), [], S)
      | none => (.junk, [], S)
    | _, .mp q => (.mp q, [], S)
    | _, _ => (.junk, [], S)
  | .indexAddr _ x _ => match opd T x with
    | .ptr q _ _ => (.mp q, [], S)
    | .mp q => (.mp q, [], S)
    | .row q _ _ _ _ => (.mp q, [], S)
    | _ => (.junk, [], S)
  | .slice _ x _ _ _ => (opd T x, [], S)
  | .load _ a => match opd T a with
    | .ptr q _ off => match S[q]? with
      | some (.box xs) => (xs.getD off .junk, [], S)
      | _ => (.junk, [], S)
    | _ => (.junk, [], S)
  | .store _ a _ => match opd T a with
    | .ptr q _ _ => (.junk, [q], S)
    | .mp q => (.junk, [q], S)
    | _ => (.junk, [], S)
  | .makeFunc (.func f) _ caps => (.fn f (caps.toList.map (opd T)), [], S)
  | .call { callee := .builtin .append, args, .. } => match (args.toList.map (opd T)).getD 0 .junk with
    | .row q ep sz off len => (.row q ep sz off len, [q], S)
    | _ => (.row slot 0 0 0 0, [slot], S.set slot (.row 0 0 none []))
  | _ => (.junk, [], S)
def pass1 (P : Program) (lo : Nat) (n0 : Nat) : Nat → List Oper → List AVal → List AObj → List AObj × List (List Nat)
  | _, [], _, S => (S, [])
  | i, o :: rest, T, S => match isCall o with
    | some (f, xs) => match pass1 P lo n0 (i + 1) rest (putT T o.dst .junk) ((opd T f :: xs.map (opd T)).foldl (mark lo deep) S) with
      | (S1, W) => (S1, [] :: W)
    | none => match shapeOp P T S (n0 + i) o with
      | (x, w, S') => match pass1 P lo n0 (i + 1) rest (putT T o.dst x) S' with
        | (S1, W) => (S1, w :: W)
/-- Rows that come to be frozen are so from the first. -/
def freezeAt (lo : Nat) (S1 S : List AObj) (o : Nat) : List AObj :=
  match S[o]?, S1[o]? with
  | some (.row sz ep none zs), some (.row _ _ (some _) _) => if lo ≤ o then S.set o (.row sz ep (some zs.length) zs) else S
  | _, _ => S
def freezeAs (lo : Nat) (S S1 : List AObj) : List AObj := (List.range S.length).foldl (freezeAt lo S1) S
def unordered (pr : List (List Nat)) (n i : Nat) : List Nat :=
  (List.range n).filter fun j => j != i && !(pr.getD i []).contains j && !(pr.getD j []).contains i
def hideAll (U : List Nat) (S : List AObj) : List AObj := U.foldl (fun S o => S.set o .hidden) S
def drawOp (c : Cfg) (ev : Ev) (lo : Nat) (T : List AVal) (S : List AObj) (slot : Nat) (o : Oper) : Option (AVal × Eff) :=
  match isCall o with
  | some (f, xs) => match opd T f with
    | .fn g caps => (peekCall c ev g (xs.map (opd T) ++ caps) S).map fun r => (r, [])
    | _ => none
  | none => match evalOp c.P T S slot o with
    | some (x, e) => if e.all (fun p => lo ≤ p.1) then some (x, e) else none
    | none => none
def pass2 (c : Cfg) (ev : Ev) (lo : Nat) (ops : Array Oper) (pr W : List (List Nat)) (n0 : Nat) : Nat → List Oper → List AVal → List AObj → Option (List AVal × List AObj)
  | _, [], T, S => some (T, S)
  | i, o :: rest, T, S => match wantedA ops T o with
    | some true =>
      let U := (unordered pr ops.size i).flatMap fun j => W.getD j []
      match drawOp c ev lo T (hideAll U S) (n0 + i) o with
      | some (x, e) =>
        if e.all (fun p => (W.getD i []).contains p.1 && !U.contains p.1 && (p.1 < n0 || p.1 == n0 + i || ((pr.getD i []).any fun j => p.1 == n0 + j))) then
          pass2 c ev lo ops pr W n0 (i + 1) rest (putT T o.dst x) (applyEff S e)
        else none
      | none => none
    | some false => pass2 c ev lo ops pr W n0 (i + 1) rest (putT T o.dst (.v undef)) S
    | none => none
def runDraw (c : Cfg) (ev : Ev) (lo : Nat) (ops : Array Oper) (T : List AVal) (S : List AObj) : Option (List AVal × List AObj) :=
  let pr := predsAll ops.toList []
  if apartT ops pr && aheadOk ops then
    match pass1 c.P lo S.length 0 ops.toList T (S ++ List.replicate ops.size .free) with
    | (S1, W) => pass2 c ev lo ops pr W S.length 0 ops.toList T (freezeAs lo S S1 ++ List.replicate ops.size .free)
  else none

/-! ## putting in order: what nothing leads to is free; objects begin anew -/
mutual
/-- Does this value lead to object o? -/
def ment (o : Nat) : AVal → Bool
  | .row q _ _ _ _ => Nat.beq q o
  | .ptr q _ _ => Nat.beq q o
  | .mp q => Nat.beq q o
  | .agg xs => mentL o xs
  | .tup xs => mentL o xs
  | .fn _ xs => mentL o xs
  | _ => false
def mentL (o : Nat) : List AVal → Bool
  | [] => false
  | x :: xs => ment o x || mentL o xs
end
def mentO (o : Nat) : AObj → Bool
  | .box xs => mentL o xs
  | _ => false
def mentS (o : Nat) : List AObj → Bool
  | [] => false
  | x :: xs => mentO o x || mentS o xs
def plainV : AVal → Bool
  | .v _ | .list _ _ | .clip | .eptr _ | .junk => true
  | _ => false
def plainO : AObj → Bool
  | .row _ _ _ xs => xs.all plainV
  | .mapo _ => false
  | _ => true
/-- What is free from now on. -/
def sweep (base : Nat) (T : List AVal) (S0 : List AObj) : Nat → List AObj → List AObj
  | _, [] => []
  | i, x :: xs => (bif Nat.ble base i && !(mentL i T || mentS i S0) then .free else x) :: sweep base T S0 (i + 1) xs
def isFree : AObj → Bool
  | .free => true
  | _ => false
def trim (base : Nat) : Nat → List AObj → List AObj
  | _, [] => []
  | i, x :: xs => match trim base (i + 1) xs with
    | [] => bif isFree x && Nat.ble base i then [] else [x]
    | y :: ys => x :: y :: ys
def curO (S : List AObj) (o ep : Nat) : Bool :=
  match S[o]? with
  | some x => match x.ep? with
    | some e => Nat.beq e ep
    | none => false
  | none => false
mutual
/-- All that this value leads to is as it was when the value was made. -/
def curV (base : Nat) (S : List AObj) : AVal → Bool
  | .row o ep _ _ _ => !Nat.ble base o || curO S o ep
  | .ptr o ep _ => !Nat.ble base o || curO S o ep
  | .mp o => !Nat.ble base o
  | .agg xs => curL base S xs
  | .tup xs => curL base S xs
  | .fn _ xs => curL base S xs
  | _ => true
def curL (base : Nat) (S : List AObj) : List AVal → Bool
  | [] => true
  | x :: xs => curV base S x && curL base S xs
end
mutual
def newV (base : Nat) (S : List AObj) : AVal → AVal
  | .row o ep sz off len => bif Nat.ble base o then (bif curO S o ep then .row o 0 sz off len else .junk) else .row o ep sz off len
  | .ptr o ep off => bif Nat.ble base o then (bif curO S o ep then .ptr o 0 off else .junk) else .ptr o ep off
  | .mp o => bif Nat.ble base o then .junk else .mp o
  | .agg xs => .agg (newL base S xs)
  | .tup xs => .tup (newL base S xs)
  | .fn f xs => .fn f (newL base S xs)
  | .v x => .v x
  | .list n xs => .list n xs
  | .clip => .clip
  | .eptr xs => .eptr xs
  | .junk => .junk
def newL (base : Nat) (S : List AObj) : List AVal → List AVal
  | [] => []
  | x :: xs => newV base S x :: newL base S xs
end
def newO (base : Nat) (S : List AObj) (i : Nat) : AObj → AObj
  | .box xs => bif Nat.ble base i then .box (newL base S xs) else .box xs
  | .row sz ep fz xs => bif Nat.ble base i then .row sz 0 (fz.map fun _ => 0) xs else .row sz ep fz xs
  | x => x
def newS (base : Nat) (S0 : List AObj) : Nat → List AObj → List AObj
  | _, [] => []
  | i, x :: xs => newO base S0 i x :: newS base S0 (i + 1) xs
def okBox (base : Nat) (S0 : List AObj) (i : Nat) : AObj → Bool
  | .box xs => bif Nat.ble base i then curL base S0 xs else (List.range S0.length).all fun o => !Nat.ble base o || !mentL o xs
  | _ => true
def okBoxes (base : Nat) (S0 : List AObj) : Nat → List AObj → Bool
  | _, [] => true
  | i, x :: xs => okBox base S0 i x && okBoxes base S0 (i + 1) xs
def clean (base : Nat) (T : List AVal) (S : List AObj) : List AObj := trim base 0 (sweep base T S 0 S)
/-- In order, if all rows lead nowhere. -/
def canonTS (base : Nat) (T : List AVal) (S : List AObj) : Option (List AVal × List AObj) :=
  match clean base T (clean base T S) with
  | S2 => bif okBoxes base S2 0 S2 then some (newL base S2 T, newS base S2 0 S2) else none
def canon (base : Nat) (T : List AVal) (S : List AObj) : Option (List AVal × List AObj) :=
  bif S.all plainO then canonTS base T S else none

/-! ## code -/
inductive AExit where
  | normal
  | exit (id : Nat)
  | ret
abbrev Res := Option (AExit × List AVal × List AObj)
/-- At a loop's entry, behind each round, and at its end, all is put in order. -/
def iterC (base : Nat) (body : List AVal → List AObj → Res) : Nat → List AVal → List AObj → Res
  | 0, _, _ => none
  | n + 1, T, S => match canon base T S with
    | some (T1, S1) => match body T1 S1 with
      | some (.normal, T', S') => iterC base body n T' S'
      | some (x, T', S') => (canon base T' S').map fun r => (x, r.1, r.2)
      | none => none
    | none => none
def forget : Nat → List AVal → List AVal
  | _, [] => []
  | m, x :: xs => (bif Nat.beq (m % 2) 1 then x else .junk) :: forget (m / 2) xs
def forgetAt (lv : List Nat) (id : Nat) (T : List AVal) : List AVal :=
  match lv[id]? with
  | some m => forget m T
  | none => T
def evalC (c : Cfg) (ev : Ev) (lv : List Nat) (lo base n : Nat) : Code → List AVal → List AObj → Res
  | .skip, T, S => some (.normal, T, S)
  | .label _, T, S => some (.normal, T, S)
  | .region id ops false, T, S => (runOps c ev lo ops ops.toList T S).map fun r => (.normal, forgetAt lv id r.1, r.2)
  | .region id ops true, T, S => (runDraw c ev lo ops T S).map fun r => (.normal, forgetAt lv id r.1, r.2)
  | .seq a b, T, S => match evalC c ev lv lo base n a T S with
    | some (.normal, T', S') => evalC c ev lv lo base n b T' S'
    | r => r
  | .cond x a b, T, S => match opd T x with
    | .v (.bool t) => if t then evalC c ev lv lo base n a T S else evalC c ev lv lo base n b T S
    | _ => none
  | .block id a, T, S => match evalC c ev lv lo base n a T S with
    | some (.exit j, T', S') => some (if j = id then .normal else .exit j, T', S')
    | r => r
  | .loop a, T, S => iterC base (evalC c ev lv lo base n a) n T S
  | .exit id, T, S => some (.exit id, T, S)
  | .scope a, T, S => evalC c ev lv lo base n a T S
  | .ret, T, S => some (.ret, T, S)
  | _, _, _ => none

def resultA (P : Program) (T : List AVal) (S : List AObj) : ResultVar → Option AVal
  | .tmp t => some (T.getD t .junk)
  | .cell a t => loadA P S t (T.getD a .junk)
def resultsA (P : Program) (rs : Array ResultVar) (T : List AVal) (S : List AObj) : Option AVal :=
  match mapO (resultA P T S) rs.toList with
  | some [x] => some x
  | some xs => some (.tup xs)
  | none => none
def evalF (c : Cfg) : Nat → Ev
  | 0, _, _, _, _ => none
  | k + 1, lo, f, args, S => match c.tab f with
    | some a => match evalC c (evalF c k) a.live lo S.length k a.body (args ++ List.replicate (a.ntmps - args.length) (.v undef)) S with
      | some (.normal, T, S') => (resultsA c.P a.results T S').map fun r => (r, S')
      | some (.ret, T, S') => (resultsA c.P a.results T S').map fun r => (r, S')
      | _ => none
    | none => none

end Go.Proofs.Ytmopbegmdegooaa.Vm
