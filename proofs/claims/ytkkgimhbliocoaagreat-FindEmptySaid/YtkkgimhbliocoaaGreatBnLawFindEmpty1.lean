/- Texts put together: VmDef, VmRel, VmStep, VmOps, VmOps2, VmOps3, VmOps4. What is proved stands at the head of each part. -/
import Derived.LoopN
import Derived.Laws.OwnMore
import Derived.Laws.MakeOwn
import Derived.Laws.Slices
import Derived.Below
import Derived.Orders
import Derived.Scope
import Derived.Laws.StructEq
/- The abstract machine: a plain interpreter of the model's code over values that name memory by objects of the call's own; nothing here is about one program. -/
namespace Go.Proofs.YtkkgimhbliocoaaGreat.Vm
open Go Go.RowKit
noncomputable section

/-! ## values and objects -/
/-- A value that leads to nothing that may still be written. -/
inductive PVal where
  | v (x : Value)
  | agg (xs : List PVal)
  | tup (xs : List PVal)
  | list (n : Nat) (xs : List PVal)
  | clip
  | fn (f : FuncId) (caps : List PVal)
  | ptr (xs : List PVal)
  | map (ks : List Int) (vs : List PVal)
  | junk
/-- A value: it may name objects of the call's own. -/
inductive AVal where
  | v (x : Value)
  | agg (xs : List AVal)
  | tup (xs : List AVal)
  | list (n : Nat) (xs : List PVal)
  | clip
  | row (o ep sz off len : Nat)
  | ptr (o ep off : Nat)
  | eptr (xs : List PVal)
  | fn (f : FuncId) (caps : List AVal)
  | mp (o : Nat)
  | fmap (ks : List Int) (vs : List PVal)
  /-- what a range over a function hands to it -/
  | yld (o : Nat)
  | junk
/-- How a range over a function stands: ready for a round, in one, left by a jump. -/
inductive LpSt where
  | ready
  | busy
  | done (jump : Code)
  | over
inductive AObj where
  | free
  | hidden
  | box (xs : List AVal)
  | row (sz ep : Nat) (fz : Option Nat) (xs : List AVal)
  | mapo (fz : Bool) (ks : List Int) (vs : List AVal)
  /-- a range over a function that is under way -/
  | loop (lv : List Nat) (T : List AVal) (ps : Array Tmp) (asg body : Code) (st : LpSt)

mutual
def up : PVal → AVal
  | .v x => .v x
  | .agg xs => .agg (upL xs)
  | .tup xs => .tup (upL xs)
  | .list n xs => .list n xs
  | .clip => .clip
  | .fn f cs => .fn f (upL cs)
  | .ptr xs => .eptr xs
  | .map ks vs => .fmap ks vs
  | .junk => .junk
def upL : List PVal → List AVal
  | [] => []
  | x :: xs => up x :: upL xs
end

def AVal.cells : AVal → List AVal
  | .agg xs => xs
  | x => [x]
def AVal.one : AVal → Bool
  | .agg _ | .tup _ | .junk => false
  | .v x => x.oneCell'
  | _ => true
def AObj.ep? : AObj → Option Nat
  | .box _ => some 0
  | .row _ ep _ _ => some ep
  | .mapo _ _ _ => some 0
  | .loop _ _ _ _ _ _ => some 0
  | _ => none

def constA : Value → AVal
  | .agg cs => .agg (cs.toList.map .v)
  | x => .v x
/-- A temporary, by the shortest way that the kernel has. -/
def getF (T : List AVal) : Nat → AVal :=
  List.rec (motive := fun _ => Nat → AVal) (fun _ => .junk) (fun a _ ih n => Nat.rec (motive := fun _ => AVal) a (fun m _ => ih m) n) T
/-- A temporary is set; what comes next sees a list that is worked out. -/
def setK {α : Type} (T : List AVal) : Nat → AVal → (List AVal → α) → α :=
  List.rec (motive := fun _ => Nat → AVal → (List AVal → α) → α) (fun _ _ k => k [])
    (fun a as ih n x k => Nat.rec (motive := fun _ => α) (k (x :: as)) (fun m _ => ih m x fun as' => k (a :: as')) n) T
theorem getF_eq : ∀ (T : List AVal) (t : Nat), getF T t = T.getD t .junk
  | [], t => by simp [getF]
  | a :: as, 0 => rfl
  | a :: as, t + 1 => by
    have ih := getF_eq as t
    have e : getF (a :: as) (t + 1) = getF as t := rfl
    rw [e, ih]; simp
theorem setK_eq {α : Type} : ∀ (T : List AVal) (t : Nat) (x : AVal) (k : List AVal → α), setK T t x k = k (T.set t x)
  | [], t, x, k => rfl
  | a :: as, 0, x, k => rfl
  | a :: as, t + 1, x, k => by
    have ih := setK_eq as t x fun as' => k (a :: as')
    have e : setK (a :: as) (t + 1) x k = setK as t x fun as' => k (a :: as') := rfl
    rw [e, ih]; rfl
def opd (T : List AVal) : Operand → AVal
  | .tmp t => getF T t
  | .const x => constA x
  | .func f => .fn f []
  | .global _ => .junk
def mapO {α β : Type} (f : α → Option β) : List α → Option (List β)
  | [] => some []
  | x :: xs => match f x, mapO f xs with
    | some y, some ys => some (y :: ys)
    | _, _ => none
def toV1 : AVal → Option Value
  | .v x => some x
  | _ => none
def toV : AVal → Option Value
  | .v x => some x
  | .agg xs => (mapO toV1 xs).map fun ys => .agg ys.toArray
  | _ => none

/-- What a piece of the model's semantics comes to that looks at no world. -/
def pureOf (P : Program) {α : Type} : Sem α → Option α
  | .pure a => some a
  | .program k => pureOf P (k P)
  | _ => none

def szOf (P : Program) (t : TypeId) : Option Nat := (P.info? t).map (·.size)
def aggT (P : Program) (t : TypeId) : Option Bool :=
  match P.underlying t with
  | some (.struct _) | some (.array _ _) => some true
  | some _ => some false
  | none => none
def partA (P : Program) (t : TypeId) (xs : List AVal) (off : Nat) : Option AVal :=
  match aggT P t, szOf P t with
  | some true, some n => if off + n ≤ xs.length then some (.agg ((xs.drop off).take n)) else none
  | some false, some _ => xs[off]?
  | _, _ => none
def putA (xs : List AVal) (off : Nat) (ys : List AVal) : Option (List AVal) :=
  if off + ys.length ≤ xs.length && ys.all AVal.one then some (xs.take off ++ ys ++ xs.drop (off + ys.length)) else none
def fillA (place : Nat → Option (Nat × Nat)) (xs : List AVal) : List (Nat × AVal) → Option (List AVal)
  | [] => some xs
  | (i, x) :: rest => match place i with
    | some (off, n) => if x.cells.length = n then (match putA xs off x.cells with | some ys => fillA place ys rest | none => none) else none
    | none => none
def zeroA (P : Program) (t : TypeId) : Option (List AVal) :=
  match P.info? t with
  | some i => match i.zero with
    | some z => some (z.cells.toList.map .v)
    | none => none
  | none => none
def placesA (P : Program) (t : TypeId) : Option (Nat → Option (Nat × Nat)) :=
  match P.underlying t with
  | some (.struct fs) => (mapO (fun f => (szOf P f.type).map fun n => (f.offset, n)) fs.toList).map fun l i => l[i]?
  | some (.array _ e) => (szOf P e).map fun n i => some (i * n, n)
  | _ => none

abbrev Eff := List (Nat × AObj)
def loadA (P : Program) (S : List AObj) (t : TypeId) : AVal → Option AVal
  | .ptr o ep off => match S[o]? with
    | some (.box xs) => if ep = 0 then partA P t xs off else none
    | some (.row _ e _ xs) => if e = ep then partA P t xs off else none
    | _ => none
  | .eptr xs => partA P t (upL xs) 0
  | _ => none
def storeA (P : Program) (S : List AObj) (t : TypeId) (a x : AVal) : Option Eff :=
  match a with
  | .ptr o ep off => if szOf P t = some x.cells.length then (match S[o]? with
    | some (.box xs) => if ep = 0 then (putA xs off x.cells).map fun ys => [(o, .box ys)] else none
    | some (.row sz e fr xs) => if e = ep ∧ fr = none then (putA xs off x.cells).map fun ys => [(o, .row sz e none ys)] else none
    | _ => none) else none
  | _ => none

/-- A bound of a slice expression. -/
def numA : Option AVal → Option (Option Nat)
  | none => some none
  | some (.v (.int _ n)) => if 0 ≤ n then some (some n.toNat) else none
  | _ => none
def mxOk (len H : Nat) (hs : Bool) : Option Nat → Bool
  | some m => decide (H ≤ m) && decide (m ≤ len) && hs
  | none => true
def boundsA (len : Nat) (lo hi mx : Option AVal) : Option (Nat × Nat × Option Nat) :=
  match numA lo, numA hi, numA mx with
  | some l, some h, some m =>
    if l.getD 0 ≤ h.getD len ∧ h.getD len ≤ len ∧ mxOk len (h.getD len) h.isSome m = true then some (l.getD 0, h.getD len, m) else none
  | _, _, _ => none
def cutA {α : Type} (xs : List α) (sz l h : Nat) : List α := (xs.drop (l * sz)).take ((h - l) * sz)
def sliceA (P : Program) (t : TypeId) (x : AVal) (lo hi mx : Option AVal) : Option AVal :=
  match P.underlying t with
  | some (.slice e) => match szOf P e with
    | some sz => match x with
      | .list n xs => match boundsA n lo hi mx with
        | some (l, h, m) => if m = some l then some .clip else some (.list (h - l) (cutA xs sz l h))
        | none => none
      | .row o ep sz' off len => if sz' = sz then (match boundsA len lo hi mx with
        | some (l, h, m) => if m = some l then some .clip else some (.row o ep sz (off + l) (h - l))
        | none => none) else none
      | .clip => match boundsA 0 lo hi mx with
        | some _ => some .clip
        | none => none
      | .v (.slice none 0 0) => match boundsA 0 lo hi mx with
        | some _ => some (.v (.slice none 0 0))
        | none => none
      | _ => none
    | none => none
  | _ => none

/-- The elements of a slice, as cells. -/
def elemsA (S : List AObj) (sz : Nat) : AVal → Option (Nat × List AVal)
  | .list n xs => if xs.length = n * sz then some (n, upL xs) else none
  | .clip => some (0, [])
  | .v (.slice none 0 0) => some (0, [])
  | .row o ep sz' off len => match S[o]? with
    | some (.row s e _ xs) => if s = sz ∧ sz' = sz ∧ e = ep ∧ (off + len) * sz ≤ xs.length then some (len, cutA xs sz off (off + len)) else none
    | _ => none
  | _ => none
def lenA : AVal → Option Nat
  | .list n _ => some n
  | .clip => some 0
  | .row _ _ _ _ len => some len
  | _ => none
def appendA (P : Program) (S : List AObj) (slot : Nat) (t : TypeId) (s x : AVal) : Option (AVal × Eff) :=
  match P.underlying t with
  | some (.slice e) => match P.info? e with
    | some i => if 0 < i.size ∧ i.zero.map (·.cells.size) = some i.size then (match elemsA S i.size x with
      | some (m, ys) =>
        if m = 0 then (match s with
          | .clip => some (.clip, [])
          | .v (.slice none 0 0) => some (.v (.slice none 0 0), [])
          | .row o ep sz off len => some (.row o ep sz off len, [])
          | .list n xs => some (.list n xs, [])
          | _ => none)
        else if ys.all AVal.one then (match s with
          | .clip | .v (.slice none 0 0) =>
            if m * i.bytes ≤ 140737488355328 ∧ m ≤ 9223372036854775807 then some (.row slot 0 i.size 0 m, [(slot, .row i.size 0 none ys)]) else none
          | .row o ep sz off len => match S[o]? with
            | some (.row sz' e' fr xs) =>
              if sz = i.size ∧ sz' = sz ∧ e' = ep ∧ (off + len) * sz = xs.length ∧ (len + m) * i.bytes ≤ 140737488355328 ∧ len + m ≤ 9223372036854775807 then
                some (.row o (ep + 1) sz 0 (len + m), [(o, .row sz (ep + 1) (fr.map fun _ => 0) (xs.drop (off * sz) ++ ys))])
              else none
            | _ => none
          | _ => none)
        else none
      | none => none) else none
    | none => none
  | _ => none

/-- Behind what is in use of a row (what lies behind it is given up). -/
def appendS (P : Program) (S : List AObj) (slot : Nat) (t : TypeId) (s x : AVal) : Option (AVal × Eff) :=
  match s with
  | .row o ep sz off len => match S[o]? with
    | some (.row sz' e none xs) => if (off + len) * sz = xs.length then none else (match appendA P (S.set o (.row sz' e none (xs.take ((off + len) * sz)))) slot t (.row o ep sz off len) x with
      | some (r, [(q, y)]) => if q = o then some (r, [(q, y)]) else none
      | _ => none)
    | _ => none
  | _ => none
/-- Zero values put behind nothing. -/
def appendZ (P : Program) (slot : Nat) (t tn : TypeId) (s x : AVal) : Option (AVal × Eff) :=
  match P.underlying t, P.underlying tn with
  | some (.slice e), some (.int _) => match P.info? e, zeroA P e with
    | some i, some zs => match s, x with
      | .v (.slice none 0 0), .v (.int _ n) =>
        if 0 < n ∧ n * i.bytes ≤ 140737488355328 ∧ n ≤ 9223372036854775807 ∧ 0 < i.size ∧ zs.length = i.size ∧ zs.all AVal.one = true then
          some (.row slot 0 i.size 0 n.toNat, [(slot, .row i.size 0 none (List.replicate n.toNat zs).flatten)])
        else none
      | _, _ => none
    | _, _ => none
  | _, _ => none

def binA (P : Program) (op : BinOp) (t : TypeId) (x y : Operand) (a b : AVal) : Option AVal :=
  match toV a, toV b with
  | some u, some w => (pureOf P (do eqGuard op t x y u w; binOp op t u w)).map .v
  | _, _ => none

/-- Two structs of numbers and truth values, cell by cell. -/
def eqCells (P : Program) : List Field → Nat → List AVal → List AVal → Option Bool
  | [], _, [], [] => some true
  | f :: fs, i, .v (.int k a) :: xs, .v (.int k' b) :: ys => match P.info? f.type with
    | some _ => match P.underlying f.type with
      | some (.int _) => if f.offset = i ∧ k = k' ∧ (f.name == "_") = false then (eqCells P fs (i + 1) xs ys).map fun r => (a == b) && r else none
      | _ => none
    | none => none
  | f :: fs, i, .v (.bool a) :: xs, .v (.bool b) :: ys => match P.info? f.type with
    | some _ => match P.underlying f.type with
      | some .bool => if f.offset = i ∧ (f.name == "_") = false then (eqCells P fs (i + 1) xs ys).map fun r => (a == b) && r else none
      | _ => none
    | none => none
  | _, _, _, _ => none
def eqAgg (P : Program) (op : BinOp) (t : TypeId) (a b : AVal) : Option AVal :=
  match a, b with
  | .agg xs, .agg ys => match P.underlying t with
    | some (.struct fs) => if P.stoodInHeld t = false ∧ P.eqGuardType P.depth t = false then (match op, eqCells P fs.toList 0 xs ys with
      | .eql, some r => some (.v (.bool r))
      | .neq, some r => some (.v (.bool (!r)))
      | _, _ => none) else none
    | _ => none
  | .list _ (_ :: _), .v (.slice none 0 0) => match P.underlying t, op with
    | some (.slice _), .eql => some (.v (.bool false))
    | some (.slice _), .neq => some (.v (.bool true))
    | _, _ => none
  | .row _ _ _ _ _, .v (.slice none 0 0) => match P.underlying t, op with
    | some (.slice _), .eql => some (.v (.bool false))
    | some (.slice _), .neq => some (.v (.bool true))
    | _, _ => none
  | .eptr _, .v (.pointer none) => match P.underlying t, op with
    | some (.pointer _), .eql => some (.v (.bool false))
    | some (.pointer _), .neq => some (.v (.bool true))
    | _, _ => none
  | .ptr _ _ _, .v (.pointer none) => match P.underlying t, op with
    | some (.pointer _), .eql => some (.v (.bool false))
    | some (.pointer _), .neq => some (.v (.bool true))
    | _, _ => none
  | _, _ => none
def indexAddrA (P : Program) (t : TypeId) (x : AVal) (i : Int) : Option AVal :=
  match P.underlying t with
  | some (.slice e) => match szOf P e with
    | some sz => match x with
      | .list n xs => if 0 ≤ i ∧ i < n ∧ 0 < sz ∧ xs.length = n * sz then some (.eptr (xs.drop (i.toNat * sz))) else none
      | .row o ep sz' off len => if sz' = sz ∧ 0 ≤ i ∧ i < len then some (.ptr o ep ((off + i.toNat) * sz)) else none
      | _ => none
    | none => none
  | some (.array n e) => match szOf P e with
    | some sz => match x with
      | .ptr o ep off => if 0 ≤ i ∧ i < n then some (.ptr o ep (off + i.toNat * sz)) else none
      | .eptr xs => if 0 ≤ i ∧ i < n then some (.eptr (xs.drop (i.toNat * sz))) else none
      | _ => none
    | none => none
  | _ => none

def evalBuiltin (P : Program) (S : List AObj) (slot : Nat) (b : Builtin) (ts : Array TypeId) (ty : TypeId) (xs : List AVal) : Option (AVal × Eff) :=
  match b, xs with
  | .len, [x] => match P.underlying (ts.getD 0 0), lenA x with
    | some (.slice _), some n => if ts.size = 1 then some (.v (.int .i64 n), []) else none
    | _, _ => match x with
      | .v u => (pureOf P (Builtin.len_ ts ty #[u])).map fun r => (.v r, [])
      | _ => none
  | .append, [s, x] => if ts.toList = [ts.getD 0 0, ts.getD 0 0] then (match appendA P S slot (ts.getD 0 0) s x with
      | some r => some r
      | none => appendS P S slot (ts.getD 0 0) s x)
    else if ts.toList = [ts.getD 0 0, ts.getD 1 0] then appendZ P slot (ts.getD 0 0) (ts.getD 1 0) s x else none
  | .cap, [.v u] => (pureOf P (Builtin.cap_ ts ty #[u])).map fun r => (.v r, [])
  | .min, xs => (mapO toV1 xs).bind fun us => (pureOf P (Builtin.min_ ts ty us.toArray)).map fun r => (.v r, [])
  | .max, xs => (mapO toV1 xs).bind fun us => (pureOf P (Builtin.max_ ts ty us.toArray)).map fun r => (.v r, [])
  | _, _ => none

/-! ## maps whose keys are numbers -/
def getK (n : Int) : List Int → List AVal → Option AVal
  | k :: ks, v :: vs => bif n == k then some v else getK n ks vs
  | _, _ => none
def setKs (n : Int) : List Int → List Int
  | [] => [n]
  | k :: ks => bif n == k then k :: ks else k :: setKs n ks
def setVs (n : Int) (x : AVal) : List Int → List AVal → List AVal
  | k :: ks, v :: vs => bif n == k then x :: vs else v :: setVs n x ks vs
  | _, _ => [x]
/-- A map's keys and values. -/
def mapA (S : List AObj) : AVal → Option (List Int × List AVal)
  | .mp o => match S[o]? with
    | some (.mapo _ ks vs) => some (ks, vs)
    | _ => none
  | .fmap ks vs => some (ks, upL vs)
  | .v (.map none) => some ([], [])
  | _ => none
def lookA (z : AVal) (n : Int) (ok : Bool) (m : List Int × List AVal) : AVal :=
  bif ok then (match getK n m.1 m.2 with
    | some v => .tup [v, .v (.bool true)]
    | none => .tup [z, .v (.bool false)])
  else (match getK n m.1 m.2 with
    | some v => v
    | none => z)
def zeroV (P : Program) (t : TypeId) : Option AVal := (P.info? t).bind fun i => i.zero.map constA
/-- A map's type: its keys are numbers; what stands for what is not in it. -/
def mapT (P : Program) (t : TypeId) : Option AVal :=
  match P.underlying t with
  | some (.map kt et) => match P.underlying kt with
    | some (.int .i64) => zeroV P et
    | _ => none
  | _ => none
def updateA (P : Program) (S : List AObj) (t : TypeId) (m k x : AVal) : Option Eff :=
  match mapT P t, m, k with
  | some _, .mp o, .v (.int .i64 n) => match S[o]? with
    | some (.mapo false ks vs) => some [(o, .mapo false (setKs n ks) (setVs n x ks vs))]
    | _ => none
  | _, _, _ => none
def reserveA (T : List AVal) : Option Operand → Bool
  | none => true
  | some x => match opd T x with
    | .v (.int _ _) => true
    | _ => false
def setObj (S : List AObj) (o : Nat) (x : AObj) : List AObj := if o < S.length then S.set o x else S ++ [x]
def applyEff (S : List AObj) : Eff → List AObj
  | [] => S
  | (o, x) :: rest => applyEff (setObj S o x) rest

def deep : Nat := 6
def peek (S : List AObj) : Nat → AVal → Option PVal
  | 0, _ => none
  | _ + 1, .v x => some (.v x)
  | n + 1, .agg xs => (mapO (peek S n) xs).map .agg
  | n + 1, .tup xs => (mapO (peek S n) xs).map .tup
  | _ + 1, .list k xs => some (.list k xs)
  | _ + 1, .clip => some .clip
  | n + 1, .fn f cs => (mapO (peek S n) cs).map (.fn f)
  | n + 1, .row o ep sz off len => match S[o]? with
    | some (.row s e (some k) xs) => if s = sz ∧ e = ep ∧ (off + len) * sz ≤ k then (mapO (peek S n) (cutA xs sz off (off + len))).map (.list len) else none
    | _ => none
  | n + 1, .ptr o ep off => match S[o]? with
    | some (.row _ e (some k) xs) => if e = ep ∧ xs.length ≤ k then (mapO (peek S n) (xs.drop off)).map .ptr else none
    | _ => none
  | n + 1, .mp o => match S[o]? with
    | some (.mapo true ks vs) => (mapO (peek S n) vs).map (.map ks)
    | _ => none
  | _ + 1, .eptr xs => some (.ptr xs)
  | _ + 1, .fmap ks vs => some (.map ks vs)
  | _ + 1, .yld _ => none
  | _ + 1, .junk => some .junk
/-! ## slices in a slice: what they lead to is frozen -/
def isRowA : AVal → Bool
  | .row _ _ _ _ _ => true
  | _ => false
def frzE : List AObj → List AVal → Eff
  | _, [] => []
  | S, .row o _ _ _ _ :: rs => match S[o]? with
    | some (.row s e _ xs) => (o, .row s e (some xs.length) xs) :: frzE (S.set o (.row s e (some xs.length) xs)) rs
    | _ => frzE S rs
  | S, _ :: rs => frzE S rs
def frz1 (S : List AObj) (x : AVal) : Option AVal :=
  match x with
  | .row o ep sz off len => (peek S deep (.row o ep sz off len)).map up
  | x => some x
def frzO (S : List AObj) (x : AVal) : Option AVal :=
  match x with
  | .agg xs => (mapO (frz1 S) xs).map .agg
  | x => frz1 S x
def hasRow (x : AVal) : Bool :=
  match x with
  | .agg xs => xs.any isRowA
  | x => isRowA x
/-- A row that is named is there. -/
def thereB (S : List AObj) : AVal → Bool
  | .row o _ _ _ _ => match S[o]? with
    | some (.row _ _ _ _) => true
    | _ => false
  | _ => true
def sliceOfA (P : Program) (slot : Nat) (t : TypeId) (n : Nat) (vs : List (Nat × AVal)) : Option (AVal × Eff) :=
  match P.underlying t with
  | some (.slice e) => match szOf P e, zeroA P e with
    | some sz, some zs => if n * sz ≤ 16777216 ∧ 0 < sz ∧ zs.length = sz ∧ zs.all AVal.one then
        (fillA (fun i => some (i * sz, sz)) (List.replicate n zs).flatten vs).map fun xs => (.row slot 0 sz 0 n, [(slot, .row sz 0 none xs)])
      else none
    | _, _ => none
  | _ => none
def buildSliceA (P : Program) (S : List AObj) (slot : Nat) (t : TypeId) (n : Nat) (L : List (Nat × AVal)) : Option (AVal × Eff) :=
  bif L.any fun p => hasRow p.2 then
    bif (L.flatMap fun p => p.2.cells).all (thereB S) then
      (match mapO (fun (p : Nat × AVal) => (frzO (applyEff S (frzE S (L.flatMap fun p => p.2.cells))) p.2).map fun z => (p.1, z)) L with
      | some vs => (sliceOfA P slot t n vs).map fun r => (r.1, frzE S (L.flatMap fun p => p.2.cells) ++ r.2)
      | none => none)
    else none
  else sliceOfA P slot t n L
/-- One operation that is no call of code: its value, and what objects it turns. 'slot': the number of an object that it may make. -/
def evalOp (P : Program) (T : List AVal) (S : List AObj) (slot : Nat) (o : Oper) : Option (AVal × Eff) :=
  match o.op with
  | .move x => some (opd T x, [])
  | .assign x => some (opd T x, [])
  | .pick c a b => match opd T c with
    | .v (.bool t) => some (if t then opd T a else opd T b, [])
    | _ => none
  | .alloc t => match zeroA P t with
    | some zs => if zs.all AVal.one then some (.ptr slot 0 0, [(slot, .box zs)]) else none
    | none => none
  | .box _ x => if (opd T x).cells.all AVal.one then some (.ptr slot 0 0, [(slot, .box (opd T x).cells)]) else none
  | .build t parts => match zeroA P t, placesA P t with
    | some zs, some place => if zs.all AVal.one then (fillA place zs (parts.toList.map fun p => (p.1, opd T p.2))).map fun xs => (.agg xs, []) else none
    | _, _ => none
  | .buildSlice t n parts => buildSliceA P S slot t n (parts.toList.map fun p => (p.1, opd T p.2))
  | .load t a => (loadA P S t (opd T a)).map fun x => (x, [])
  | .store t a x => (storeA P S t (opd T a) (opd T x)).map fun e => (.v undef, e)
  | .nilCheck x => match opd T x with
    | .ptr o ep off => some (.ptr o ep off, [])
    | .eptr xs => some (.eptr xs, [])
    | .fn f cs => some (.fn f cs, [])
    | _ => none
  | .binOp op t x y _ => match eqAgg P op t (opd T x) (opd T y) with
    | some r => some (r, [])
    | none => (binA P op t x y (opd T x) (opd T y)).map fun r => (r, [])
  | .unOp op _ x => match opd T x with
    | .v a => (pureOf P (Op.unary op a)).map fun r => (.v r, [])
    | _ => none
  | .convert s d x => match opd T x with
    | .v a => (pureOf P (convert s d a)).map fun r => (.v r, [])
    | _ => none
  | .makeFunc (.func f) first caps => if first.size = 0 then some (.fn f (caps.toList.map (opd T)), []) else none
  | .makeSlice t l c => match P.underlying t, opd T l, opd T c with
    | some (.slice e), .v (.int _ n), .v (.int _ m) => match P.info? e, zeroA P e with
      | some i, some zs => if n = m ∧ 0 ≤ n ∧ (i.bytes : Int) * n ≤ 281474976710656 ∧ n ≤ 9223372036854775807 ∧ 0 < i.size ∧ zs.length = i.size ∧ zs.all AVal.one then
          some (.row slot 0 i.size 0 n.toNat, [(slot, .row i.size 0 none (List.replicate n.toNat zs).flatten)])
        else none
      | _, _ => none
    | _, _, _ => none
  | .slice t x lo hi mx => (sliceA P t (opd T x) (lo.map (opd T)) (hi.map (opd T)) (mx.map (opd T))).map fun r => (r, [])
  | .fieldAddr s x f => match P.underlying s with
    | some (.struct fs) => match fs[f]? with
      | some fl => if (szOf P fl.type).any (0 < ·) then (match opd T x with
        | .ptr o ep off => some (.ptr o ep (off + fl.offset), [])
        | .eptr xs => some (.eptr (xs.drop fl.offset), [])
        | _ => none) else none
      | none => none
    | _ => none
  | .field t x f => match P.underlying t, opd T x with
    | some (.struct fs), .agg xs => match fs[f]? with
      | some fl => (partA P fl.type xs fl.offset).map fun r => (r, [])
      | none => none
    | _, _ => none
  | .indexAddr t x i => match opd T i with
    | .v (.int _ n) => (indexAddrA P t (opd T x) n).map fun r => (r, [])
    | _ => none
  | .index t x i => match opd T x, opd T i with
    | .agg xs, .v (.int _ n) => match P.underlying t with
      | some (.array len e) => match szOf P e with
        | some sz => if 0 ≤ n ∧ n < len then (partA P e xs (n.toNat * sz)).map fun r => (r, []) else none
        | none => none
      | _ => none
    | .v a, .v b => (pureOf P (Instr.index t a b)).map fun r => (.v r, [])
    | _, _ => none
  | .makeMap t r => match mapT P t with
    | some _ => if reserveA T r then some (.mp slot, [(slot, .mapo false [] [])]) else none
    | none => none
  | .lookup t m k ok => match mapT P t, opd T k, mapA S (opd T m) with
    | some z, .v (.int .i64 n), some kv => some (lookA z n ok kv, [])
    | _, _, _ => none
  | .mapUpdate t m k y => (updateA P S t (opd T m) (opd T k) (opd T y)).map fun e => (.v undef, e)
  | .insert t m k y => (updateA P S t (opd T m) (opd T k) (opd T y)).map fun e => (.v undef, e)
  | .extract x k => match opd T x with
    | .tup xs => xs[k]?.map fun r => (r, [])
    | _ => none
  | .call { callee := .builtin b, args, argTypes } => evalBuiltin P S slot b argTypes o.type (args.toList.map (opd T))
  | _ => none

/-! ## what leads to objects, as what does not -/
def mark (lo : Nat) : Nat → List AObj → AVal → List AObj
  | 0, S, _ => S
  | n + 1, S, .agg xs => xs.foldl (mark lo n) S
  | n + 1, S, .tup xs => xs.foldl (mark lo n) S
  | n + 1, S, .fn _ xs => xs.foldl (mark lo n) S
  | n + 1, S, .row o _ _ _ _ => match S[o]? with
    | some (.row s e _ xs) => if lo ≤ o then xs.foldl (mark lo n) (S.set o (.row s e (some xs.length) xs)) else S
    | _ => S
  | n + 1, S, .ptr o _ _ => match S[o]? with
    | some (.row s e _ xs) => if lo ≤ o then xs.foldl (mark lo n) (S.set o (.row s e (some xs.length) xs)) else S
    | some (.box xs) => if lo ≤ o ∧ 0 < xs.length then xs.foldl (mark lo n) (S.set o (.row 1 0 (some xs.length) xs)) else S
    | _ => S
  | n + 1, S, .mp o => match S[o]? with
    | some (.mapo _ ks vs) => if lo ≤ o then vs.foldl (mark lo n) (S.set o (.mapo true ks vs)) else S
    | _ => S
  | _ + 1, S, _ => S

/-! ## calls -/
structure FnA where
  ntmps : Nat
  results : Array ResultVar
  body : Code
  /-- for each region, as bits, which temporaries are still of use behind it; what is not said so is forgotten -/
  live : List Nat
structure Cfg where
  P : Program
  tab : FuncId → Option FnA
  /-- 7: told of what is handed over as it stands, no object turns; 0: what is handed over and back leads to nothing that is written; 1: the same objects, none made that stays; 2: the same objects; 3: values are handed over, a row of its own may come back; 5: borrowed; 6: borrowed, rows of plain values are lent -/
  mode : FuncId → Nat
  givenP : FuncId → Option (List PVal → Option PVal)
  givenS : FuncId → Option (Nat → List AVal → List AObj → Option (AVal × List AObj))
  givenV : FuncId → Option (List AVal → Option AVal) := fun _ => none
def viewCall (c : Cfg) (f : FuncId) (args : List AVal) : Option AVal :=
  match c.givenV f with
  | some g => g args
  | none => none

/-- Calls of functions; rounds of a range over a function. -/
structure Ev where
  call : Nat → FuncId → List AVal → List AObj → Option (AVal × List AObj)
  yld : Nat → Nat → List AVal → List AObj → Option (AVal × List AObj)
instance : CoeFun Ev fun _ => Nat → FuncId → List AVal → List AObj → Option (AVal × List AObj) := ⟨Ev.call⟩
def pureCall (c : Cfg) (ev : Ev) (f : FuncId) (ps : List PVal) : Option PVal :=
  match c.givenP f with
  | some g => g ps
  | none => match ev 0 f (upL ps) [] with
    | some (r, S) => peek (mark 0 deep S r) deep r
    | none => none
/-- A call at which no object turns. -/
def peekCall (c : Cfg) (ev : Ev) (f : FuncId) (args : List AVal) (S : List AObj) : Option AVal :=
  if (c.givenS f).isNone = true ∧ (c.mode f = 0 ∨ c.mode f = 2) then
    match mapO (peek S deep) args with
    | some ps => (pureCall c ev f ps).map up
    | none => none
  else none
/-- The first free slot from lo on. -/
def slotFrom : Nat → List AObj → Nat
  | i, [] => i
  | i, .free :: _ => i
  | i, _ :: xs => slotFrom (i + 1) xs
def slotOf (lo : Nat) (S : List AObj) : Nat := bif Nat.ble lo S.length then slotFrom lo (S.drop lo) else S.length
/-- What a call by value makes: a value, or a row of its own. -/
inductive Fr where
  | val (p : PVal)
  | row (sz off len : Nat) (xs : List PVal)
def freshOf (c : Cfg) (ev : Ev) (f : FuncId) (ps : List PVal) : Option Fr :=
  match (match c.givenP f with | some g => g ps | none => none) with
  | some r => some (.val r)
  | none => match ev 0 f (upL ps) [] with
    | some (.row o e sz off len, S) => match S[o]? with
      | some (.row sz' e' none xs) => match (xs.foldl (mark 0 deep) S)[o]? with
        | some (.row _ _ none _) => if sz' = sz ∧ e' = e then (mapO (peek (xs.foldl (mark 0 deep) S) deep) xs).map (.row sz off len) else none
        | _ => none
      | _ => none
    | some (r, S) => (peek (mark 0 deep S r) deep r).map .val
    | none => none
def freshCall (c : Cfg) (ev : Ev) (f : FuncId) (slot : Nat) (args : List AVal) (S : List AObj) : Option (AVal × Eff) :=
  if (c.givenS f).isNone = true ∧ c.mode f = 3 then
    match mapO (peek S deep) args with
    | some ps => match freshOf c ev f ps with
      | some (.val p) => some (up p, [])
      | some (.row sz off len xs) => some (.row slot 0 sz off len, [(slot, .row sz 0 none (upL xs))])
      | none => none
    | none => none
  else none
/-! ## calls that borrow: what is handed over is only looked at, what comes back leads to nothing that was there; rows may be lent to be written -/
def hideAll (U : List Nat) (S : List AObj) : List AObj := U.foldl (fun S o => S.set o .hidden) S
/-- What is seen of a value now; what can't be seen is left out. -/
def peekT (S : List AObj) : Nat → AVal → PVal
  | 0, _ => .junk
  | _ + 1, .v x => .v x
  | n + 1, .agg xs => .agg (xs.map (peekT S n))
  | n + 1, .tup xs => .tup (xs.map (peekT S n))
  | _ + 1, .list k xs => .list k xs
  | _ + 1, .clip => .clip
  | n + 1, .fn f cs => .fn f (cs.map (peekT S n))
  | n + 1, .row o ep sz off len => match S[o]? with
    | some (.row s e _ xs) => bif Nat.beq s sz && (Nat.beq e ep && Nat.ble ((off + len) * sz) xs.length) then .list len ((cutA xs sz off (off + len)).map (peekT S n)) else .junk
    | _ => .junk
  | n + 1, .ptr o ep off => match S[o]? with
    | some (.row _ e _ xs) => bif Nat.beq e ep then .ptr ((xs.drop off).map (peekT S n)) else .junk
    | some (.box xs) => bif Nat.beq 0 ep then .ptr ((xs.drop off).map (peekT S n)) else .junk
    | _ => .junk
  | n + 1, .mp o => match S[o]? with
    | some (.mapo _ ks vs) => .map ks (vs.map (peekT S n))
    | _ => .junk
  | _ + 1, .eptr xs => .ptr xs
  | _ + 1, .fmap ks vs => .map ks vs
  | _ + 1, .yld _ => .junk
  | _ + 1, .junk => .junk
def isV : AVal → Bool
  | .v _ => true
  | _ => false
def flatB : AVal → Bool
  | .v _ => true
  | .clip => true
  | .agg xs => xs.all isV
  | _ => false
def flatA : AVal → Bool
  | .tup xs => xs.all flatB
  | x => flatB x
def toPV : AVal → PVal
  | .v x => .v x
  | _ => .junk
/-- A row that may be lent: it holds plain values, and nothing of it is frozen. -/
def lentB (S : List AObj) : AVal → Bool
  | .row o ep sz _ _ => match S[o]? with
    | some (.row s e none xs) => Nat.beq s sz && (Nat.beq e ep && xs.all isV)
    | _ => false
  | _ => false
def lentO (S : List AObj) : List AVal → List Nat
  | [] => []
  | .row o ep sz off len :: xs => bif lentB S (.row o ep sz off len) && !(lentO S xs).contains o then o :: lentO S xs else lentO S xs
  | _ :: xs => lentO S xs
def posO : List Nat → Nat → Nat
  | [], _ => 0
  | p :: L, o => bif Nat.beq p o then 0 else posO L o + 1
def lendV (S : List AObj) (L : List Nat) (x : AVal) : AVal :=
  bif lentB S x then (match x with
    | .row o _ sz off len => bif L.contains o then .row (posO L o) 0 sz off len else up (peekT (hideAll L S) deep x)
    | _ => .junk)
  else up (peekT (hideAll L S) deep x)
def lendO (S : List AObj) (o : Nat) : AObj :=
  match S[o]? with
  | some (.row sz _ _ xs) => .row sz 0 none xs
  | _ => .free
def backO (S S1 : List AObj) : Nat → List Nat → Option Eff
  | _, [] => some []
  | i, o :: L => match S[o]?, S1[i]? with
    | some (.row sz ep none _), some (.row s e none xs) => if s = sz ∧ e = 0 ∧ xs.all isV = true then (backO S S1 (i + 1) L).map fun r => (o, .row sz ep none xs) :: r else none
    | _, _ => none
def lendR (k : Nat) (S1 : List AObj) (r : AVal) : Option AVal :=
  match r with
  | .row q e sz off len => match S1[q]? with
    | some (.row s e' _ xs) => if k ≤ q ∧ s = sz ∧ e' = e ∧ (off + len) * sz ≤ xs.length ∧ (cutA xs sz off (off + len)).all isV = true then some (.list len ((cutA xs sz off (off + len)).map toPV)) else none
    | _ => none
  | r => bif flatA r then some r else none
/-- m = 5: all is borrowed; m = 6: rows of plain values are lent. -/
def lendCall (c : Cfg) (ev : Ev) (m : Nat) (f : FuncId) (args : List AVal) (S : List AObj) : Option (AVal × Eff) :=
  match c.givenS f, c.givenP f with
  | none, some g => match g (args.map (peekT S deep)) with
    | some r => bif flatA (up r) then some (up r, []) else none
    | none => none
  | none, none => match (bif Nat.beq m 6 then lentO S args else []) with
    | L => match ev 0 f (args.map (lendV S L)) (L.map (lendO S)) with
      | some (r, S1) => match lendR L.length S1 r, backO S S1 0 L with
        | some x, some e => some (x, e)
        | _, _ => none
      | none => none
  | _, _ => none
def callA (c : Cfg) (ev : Ev) (lo : Nat) (f : FuncId) (args : List AVal) (S : List AObj) : Option (AVal × List AObj) :=
  match c.givenS f with
  | some g => g lo args S
  | none => match c.mode f with
    | 0 => match mapO (peek (args.foldl (mark lo deep) S) deep) args with
      | some ps => (pureCall c ev f ps).map fun r => (up r, args.foldl (mark lo deep) S)
      | none => none
    | 1 => match ev S.length f args S with
      | some (r, S') => (peek (mark S.length deep S' r) deep r).map fun r' => (up r', S)
      | none => none
    | 3 => (freshCall c ev f (slotOf lo (args.foldl (mark lo deep) S)) args (args.foldl (mark lo deep) S)).map fun p => (p.1, applyEff (args.foldl (mark lo deep) S) p.2)
    | 5 => match lendCall c ev 5 f args S with
      | some (x, e) => bif e.all (fun p => lo ≤ p.1) then some (x, applyEff S e) else none
      | none => none
    | 6 => match lendCall c ev 6 f args S with
      | some (x, e) => bif e.all (fun p => lo ≤ p.1) then some (x, applyEff S e) else none
      | none => none
    | 7 => (viewCall c f args).map fun r => (r, S)
    | _ => ev lo f args S

/-- The call of code that an operation is. -/
def isCall (o : Oper) : Option (Operand × List Operand) :=
  match o.op with
  | .call { callee := .value f, args, .. } => some (f, args.toList)
  | _ => none
def putT (T : List AVal) (d : Option Tmp) (x : AVal) : List AVal :=
  match d with
  | some d => T.set d x
  | none => T
def putK {α : Type} (T : List AVal) (d : Option Tmp) (x : AVal) (k : List AVal → α) : α :=
  match d with
  | some d => setK T d x k
  | none => k T
theorem putK_eq {α : Type} (T : List AVal) (d : Option Tmp) (x : AVal) (k : List AVal → α) : putK T d x k = k (putT T d x) := by
  cases d with
  | none => rfl
  | some d => exact setK_eq T d x k
def wantedA (ops : Array Oper) (T : List AVal) (o : Oper) : Option Bool :=
  match o.guard with
  | none => some true
  | some (j, want) => match (ops[j]?).bind (·.dst) with
    | some d => match T[d]? with
      | some (.v (.bool b)) => some (if want then b else !b)
      | some .junk => none
      | _ => some false
    | none => some false

def stepOp (c : Cfg) (ev : Ev) (lo : Nat) (T : List AVal) (S : List AObj) (slot : Nat) (o : Oper) : Option (AVal × List AObj) :=
  match isCall o with
  | some (f, xs) => match opd T f with
    | .fn g caps => callA c ev lo g (xs.map (opd T) ++ caps) S
    | .yld q => ev.yld lo q (xs.map (opd T)) S
    | _ => none
  | none => match evalOp c.P T S slot o with
    | some (x, e) => if e.all (fun p => lo ≤ p.1) then some (x, applyEff S e) else none
    | none => none
def runOps (c : Cfg) (ev : Ev) (lo : Nat) (ops : Array Oper) : List Oper → List AVal → List AObj → Option (List AVal × List AObj)
  | [], T, S => some (T, S)
  | o :: rest, T, S => match wantedA ops T o with
    | some true => match stepOp c ev lo T S (slotOf lo S) o with
      | some (x, S') => putK T o.dst x fun T' => runOps c ev lo ops rest T' S'
      | none => none
    | some false => putK T o.dst (.v undef) fun T' => runOps c ev lo ops rest T' S
    | none => none

/-! ## a region that draws its order: each operation sees what is ordered ahead of it, and nothing that an unordered one turns -/
def insN (l : List Nat) (x : Nat) : List Nat := if l.contains x then l else x :: l
def predsOf (acc : List (List Nat)) (o : Oper) : List Nat :=
  o.after.toList.foldl (fun l e => if Region.binds .any e then (acc.getD e.on []).foldl insN (insN l e.on) else l) []
def predsAll : List Oper → List (List Nat) → List (List Nat)
  | [], acc => acc
  | o :: rest, acc => predsAll rest (acc ++ [predsOf acc o])
/-- The temporaries that an operation reads: its operands', its guard's. -/
def opReads (ops : Array Oper) (o : Oper) : List Nat :=
  (o.op.operands.toList.filterMap fun | .tmp t => some t | _ => none) ++ (match o.guard with | some (j, _) => ((ops[j]?).bind (·.dst)).toList | none => [])
def apartT (ops : Array Oper) (pr : List (List Nat)) : Bool :=
  (List.range ops.size).all fun i => (List.range ops.size).all fun j =>
    i == j || (pr.getD i []).contains j || (pr.getD j []).contains i ||
      (match ops[i]?, ops[j]? with
        | some a, some b => (match a.dst with | some d => !(opReads ops b).contains d && b.dst != some d | none => true)
        | _, _ => true)
def aheadOk (ops : Array Oper) : Bool :=
  (List.range ops.size).all fun i => match ops[i]? with
    | some o => o.after.all fun e => !Region.binds .any e || e.on < i
    | none => true
/-- A slice whose elements may lead somewhere. -/
def leadsT (P : Program) (t : TypeId) : Bool :=
  match P.underlying t with
  | some (.slice e) => match zeroA P e with
    | some zs => zs.any fun z => match z with
      | .v (.slice _ _ _) | .v (.map _) | .v (.pointer _) => true
      | _ => false
    | none => false
  | _ => false
/-- The first look, at what values lead to alone: which objects does each operation turn? Whatever it says: the second look holds it to it. -/
def shapeOp (P : Program) (T : List AVal) (S : List AObj) (slot : Nat) (o : Oper) : AVal × List Nat × List AObj :=
  match o.op with
  | .move x | .assign x | .nilCheck x => (opd T x, [], S)
  | .pick _ a _ => (opd T a, [], S)
  | .alloc t => (.ptr slot 0 0, [slot], S.set slot (.box ((zeroA P t).getD [])))
  | .box _ x => (.ptr slot 0 0, [slot], S.set slot (.box (opd T x).cells))
  | .buildSlice _ _ parts => (.row slot 0 0 0 0, [slot], S.set slot (.row 0 0 none (parts.toList.map fun p => opd T p.2)))
  | .makeSlice _ _ _ => (.row slot 0 0 0 0, [slot], S.set slot (.row 0 0 none []))
  | .fieldAddr s x f => match P.underlying s, opd T x with
    | some (.struct fs), .ptr q ep off => match fs[f]? with
      | some fl => (.ptr q ep (off + fl.offset), [], S)
      | none => (.junk, [], S)
    | _, .mp q => (.mp q, [], S)
    | _, _ => (.junk, [], S)
  | .indexAddr t x i => match opd T x with
    | .ptr q _ _ => (.mp q, [], S)
    | .mp q => (.mp q, [], S)
    | .row q ep sz off _ => bif leadsT P t then (match opd T i with
        | .v (.int _ n) => (.ptr q ep ((off + n.toNat) * sz), [], S)
        | _ => (.mp q, [], S)) else (.mp q, [], S)
    | _ => (.junk, [], S)
  | .slice _ x _ _ _ => (opd T x, [], S)
  | .load _ a => match opd T a with
    | .ptr q _ off => match S[q]? with
      | some (.box xs) => (xs.getD off .junk, [], S)
      | some (.row _ _ _ xs) => (xs.getD off .junk, [], S)
      | _ => (.junk, [], S)
    | _ => (.junk, [], S)
  | .store _ a _ => match opd T a with
    | .ptr q _ _ => (.junk, [q], S)
    | .mp q => (.junk, [q], S)
    | _ => (.junk, [], S)
  | .makeFunc (.func f) _ caps => (.fn f (caps.toList.map (opd T)), [], S)
  | .makeMap _ _ => (.mp slot, [slot], S.set slot (.mapo false [] []))
  | .lookup _ m k false => match mapA S (opd T m), opd T k with
    | some kv, .v (.int _ n) => ((getK n kv.1 kv.2).getD .junk, [], S)
    | _, _ => (.junk, [], S)
  | .mapUpdate _ m _ _ | .insert _ m _ _ => match opd T m with
    | .mp q => (.junk, [q], S)
    | _ => (.junk, [], S)
  | .call { callee := .builtin .append, args, .. } => match (args.toList.map (opd T)).getD 0 .junk with
    | .row q ep sz off len => (.row q ep sz off len, [q], S)
    | _ => (.row slot 0 0 0 0, [slot], S.set slot (.row 0 0 none []))
  | _ => (.junk, [], S)
def newRows (n0 : Nat) (xs : List AVal) : List Nat := xs.filterMap fun x => match x with
  | .row o _ _ _ _ => if n0 ≤ o then some o else none
  | _ => none
def pass1 (c : Cfg) (ev : Ev) (lo : Nat) (n0 : Nat) : Nat → List Oper → List AVal → List AObj → List AObj × List (List Nat)
  | _, [], _, S => (S, [])
  | i, o :: rest, T, S => match isCall o with
    | some (f, xs) => match (match opd T f with | .fn g _ => Nat.beq (c.mode g) 3 | _ => false) with
      | true => putK T o.dst (.row (n0 + i) 0 0 0 0) fun T' => match pass1 c ev lo n0 (i + 1) rest T' (((opd T f :: xs.map (opd T)).foldl (mark lo deep) S).set (n0 + i) (.row 0 0 none [])) with
        | (S1, W) => (S1, [n0 + i] :: W)
      | false => match (match opd T f with
          | .fn g caps => (match c.mode g with
            | 5 => some (5, match lendCall c ev 5 g (xs.map (opd T) ++ caps) S with | some (x, _) => x | none => .junk)
            | 6 => some (6, .junk)
            | 7 => some (5, (viewCall c g (xs.map (opd T) ++ caps)).getD .junk)
            | _ => none)
          | _ => none) with
        | some (m, x) => putK T o.dst x fun T' => match pass1 c ev lo n0 (i + 1) rest T' S with
          | (S1, W) => (S1, (bif Nat.beq m 6 then newRows 0 (xs.map (opd T)) else []) :: W)
        | none => putK T o.dst .junk fun T' => match pass1 c ev lo n0 (i + 1) rest T' ((opd T f :: xs.map (opd T)).foldl (mark lo deep) S) with
          | (S1, W) => (S1, newRows n0 (xs.map (opd T)) :: W)
    | none => match shapeOp c.P T S (n0 + i) o with
      | (x, w, S') => putK T o.dst x fun T' => match pass1 c ev lo n0 (i + 1) rest T' S' with
        | (S1, W) => (S1, w :: W)
/-- Rows that come to be frozen are so from the first. -/
def freezeAt (lo : Nat) (S1 S : List AObj) (o : Nat) : List AObj :=
  match S[o]?, S1[o]? with
  | some (.row sz ep none zs), some (.row _ _ (some _) _) => if lo ≤ o then S.set o (.row sz ep (some zs.length) zs) else S
  | _, _ => S
def freezeAs (lo : Nat) (S S1 : List AObj) : List AObj := (List.range S.length).foldl (freezeAt lo S1) S
def unordered (pr : List (List Nat)) (n i : Nat) : List Nat :=
  (List.range n).filter fun j => j != i && !(pr.getD i []).contains j && !(pr.getD j []).contains i
/-- A row that is not frozen yet. -/
def unfB (S : List AObj) : AVal → Bool
  | .row o _ _ _ _ => match S[o]? with
    | some (.row _ _ none _) => true
    | _ => false
  | _ => false
def frzU (S : List AObj) (xs : List AVal) : Eff := frzE S (xs.filter (unfB S))
/-- A call at which rows that the region made are frozen. -/
def drawCall0 (c : Cfg) (ev : Ev) (lo : Nat) (f : FuncId) (args : List AVal) (S : List AObj) : Option (AVal × Eff) :=
  match peekCall c ev f args (applyEff S (frzU S args)) with
  | some r => if (frzU S args).all (fun p => lo ≤ p.1) then some (r, frzU S args) else none
  | none => none
def drawCall5 (c : Cfg) (ev : Ev) (lo m : Nat) (f : FuncId) (args : List AVal) (S : List AObj) : Option (AVal × Eff) :=
  match lendCall c ev m f args S with
  | some (x, e) => if e.all (fun p => lo ≤ p.1) then some (x, e) else none
  | none => none
def drawCall (c : Cfg) (ev : Ev) (lo : Nat) (f : FuncId) (args : List AVal) (S : List AObj) : Option (AVal × Eff) :=
  match c.mode f with
  | 5 => drawCall5 c ev lo 5 f args S
  | 6 => drawCall5 c ev lo 6 f args S
  | 7 => (viewCall c f args).map fun r => (r, [])
  | _ => drawCall0 c ev lo f args S
def drawOp (c : Cfg) (ev : Ev) (lo : Nat) (T : List AVal) (S : List AObj) (slot : Nat) (o : Oper) : Option (AVal × Eff) :=
  match isCall o with
  | some (f, xs) => match opd T f with
    | .fn g caps => bif Nat.beq (c.mode g) 3 then (match freshCall c ev g slot (xs.map (opd T) ++ caps) S with
        | some (x, e) => if e.all (fun p => lo ≤ p.1) then some (x, e) else none
        | none => none)
      else drawCall c ev lo g (xs.map (opd T) ++ caps) S
    | _ => none
  | none => match evalOp c.P T S slot o with
    | some (x, e) => if e.all (fun p => lo ≤ p.1) then some (x, e) else none
    | none => none
def pass2 (c : Cfg) (ev : Ev) (lo : Nat) (ops : Array Oper) (pr W : List (List Nat)) (n0 : Nat) : Nat → List Oper → List AVal → List AObj → Option (List AVal × List AObj)
  | _, [], T, S => some (T, S)
  | i, o :: rest, T, S => match wantedA ops T o with
    | some true =>
      let U := (unordered pr ops.size i).flatMap fun j => W.getD j []
      match drawOp c ev lo T (hideAll U S) (n0 + i) o with
      | some (x, e) =>
        if e.all (fun p => (W.getD i []).contains p.1 && !U.contains p.1 && (p.1 < n0 || p.1 == n0 + i || ((pr.getD i []).any fun j => p.1 == n0 + j))) then
          putK T o.dst x fun T' => pass2 c ev lo ops pr W n0 (i + 1) rest T' (applyEff S e)
        else none
      | none => none
    | some false => putK T o.dst (.v undef) fun T' => pass2 c ev lo ops pr W n0 (i + 1) rest T' S
    | none => none
def runDraw (c : Cfg) (ev : Ev) (lo : Nat) (ops : Array Oper) (T : List AVal) (S : List AObj) : Option (List AVal × List AObj) :=
  let pr := predsAll ops.toList []
  if apartT ops pr && aheadOk ops then
    match pass1 c ev lo S.length 0 ops.toList T (S ++ List.replicate ops.size .free) with
    | (S1, W) => pass2 c ev lo ops pr W S.length 0 ops.toList T (freezeAs lo S S1 ++ List.replicate ops.size .free)
  else none

/-! ## putting in order: what nothing leads to is free; objects begin anew -/
mutual
/-- Does this value lead to object o? -/
def ment (o : Nat) : AVal → Bool
  | .row q _ _ _ _ => Nat.beq q o
  | .ptr q _ _ => Nat.beq q o
  | .mp q => Nat.beq q o
  | .yld q => Nat.beq q o
  | .agg xs => mentL o xs
  | .tup xs => mentL o xs
  | .fn _ xs => mentL o xs
  | _ => false
def mentL (o : Nat) : List AVal → Bool
  | [] => false
  | x :: xs => ment o x || mentL o xs
end
/-- rw: rows are looked into. -/
def mentO (rw : Bool) (o : Nat) : AObj → Bool
  | .box xs => mentL o xs
  | .mapo _ _ vs => mentL o vs
  | .loop _ T _ _ _ _ => mentL o T
  | .row _ _ _ xs => rw && mentL o xs
  | _ => false
def mentS (rw : Nat → Bool) (o : Nat) : Nat → List AObj → Bool
  | _, [] => false
  | i, x :: xs => mentO (rw i) o x || mentS rw o (i + 1) xs
mutual
/-- The objects to which a value leads. -/
def refV : AVal → List Nat
  | .row q _ _ _ _ => [q]
  | .ptr q _ _ => [q]
  | .mp q => [q]
  | .yld q => [q]
  | .agg xs => refL xs
  | .tup xs => refL xs
  | .fn _ xs => refL xs
  | _ => []
def refL : List AVal → List Nat
  | [] => []
  | x :: xs => refV x ++ refL xs
end
def refO (rw : Bool) : AObj → List Nat
  | .box xs => refL xs
  | .mapo _ _ vs => refL vs
  | .loop _ T _ _ _ _ => refL T
  | .row _ _ _ xs => bif rw then refL xs else []
  | _ => []
def refS (rw : Nat → Bool) : Nat → List AObj → List Nat
  | _, [] => []
  | i, x :: xs => refO (rw i) x ++ refS rw (i + 1) xs
def memR (o : Nat) : List Nat → Bool
  | [] => false
  | q :: qs => Nat.beq q o || memR o qs
def plainV : AVal → Bool
  | .v _ | .list _ _ | .clip | .eptr _ | .fmap _ _ | .junk => true
  | _ => false
def plainO : AObj → Bool
  | .row _ _ _ xs => xs.all plainV
  | _ => true
/-- What is free from now on: R is what is led to. -/
def sweep (base : Nat) (R : List Nat) : Nat → List AObj → List AObj
  | _, [] => []
  | i, x :: xs => (bif Nat.ble base i && !memR i R then .free else x) :: sweep base R (i + 1) xs
def isFree : AObj → Bool
  | .free => true
  | _ => false
def trim (base : Nat) : Nat → List AObj → List AObj
  | _, [] => []
  | i, x :: xs => match trim base (i + 1) xs with
    | [] => bif isFree x && Nat.ble base i then [] else [x]
    | y :: ys => x :: y :: ys
def curO (S : List AObj) (o ep : Nat) : Bool :=
  match S[o]? with
  | some x => match x.ep? with
    | some e => Nat.beq e ep
    | none => false
  | none => false
mutual
/-- All that this value leads to is as it was when the value was made. -/
def curV (base : Nat) (S : List AObj) : AVal → Bool
  | .row o ep _ _ _ => !Nat.ble base o || curO S o ep
  | .ptr o ep _ => !Nat.ble base o || curO S o ep
  | .mp o => !Nat.ble base o || curO S o 0
  | .yld o => !Nat.ble base o || curO S o 0
  | .agg xs => curL base S xs
  | .tup xs => curL base S xs
  | .fn _ xs => curL base S xs
  | _ => true
def curL (base : Nat) (S : List AObj) : List AVal → Bool
  | [] => true
  | x :: xs => curV base S x && curL base S xs
end
mutual
def newV (base : Nat) (S : List AObj) : AVal → AVal
  | .row o ep sz off len => bif Nat.ble base o then (bif curO S o ep then .row o 0 sz off len else .junk) else .row o ep sz off len
  | .ptr o ep off => bif Nat.ble base o then (bif curO S o ep then .ptr o 0 off else .junk) else .ptr o ep off
  | .mp o => bif Nat.ble base o then (bif curO S o 0 then .mp o else .junk) else .mp o
  | .yld o => bif Nat.ble base o then (bif curO S o 0 then .yld o else .junk) else .yld o
  | .agg xs => .agg (newL base S xs)
  | .tup xs => .tup (newL base S xs)
  | .fn f xs => .fn f (newL base S xs)
  | .v x => .v x
  | .list n xs => .list n xs
  | .clip => .clip
  | .eptr xs => .eptr xs
  | .fmap ks vs => .fmap ks vs
  | .junk => .junk
def newL (base : Nat) (S : List AObj) : List AVal → List AVal
  | [] => []
  | x :: xs => newV base S x :: newL base S xs
end
def newO (rw : Bool) (base : Nat) (S : List AObj) (i : Nat) : AObj → AObj
  | .box xs => bif Nat.ble base i then .box (newL base S xs) else .box xs
  | .row sz ep fz xs => bif Nat.ble base i then (bif rw then .row sz 0 fz (newL base S xs) else .row sz 0 (fz.map fun _ => 0) xs) else .row sz ep fz xs
  | .mapo fz ks vs => bif Nat.ble base i then .mapo fz ks (newL base S vs) else .mapo fz ks vs
  | .loop lv T ps a b st => bif Nat.ble base i then .loop lv (newL base S T) ps a b st else .loop lv T ps a b st
  | x => x
def newS (rw : Nat → Bool) (base : Nat) (S0 : List AObj) : Nat → List AObj → List AObj
  | _, [] => []
  | i, x :: xs => newO (rw i) base S0 i x :: newS rw base S0 (i + 1) xs
def okCells (base : Nat) (S0 : List AObj) (i : Nat) (xs : List AVal) : Bool := bif Nat.ble base i then curL base S0 xs else (refL xs).all fun o => !Nat.ble base o
def okBox (rw : Bool) (base : Nat) (S0 : List AObj) (i : Nat) : AObj → Bool
  | .box xs => okCells base S0 i xs
  | .mapo _ _ xs => okCells base S0 i xs
  | .loop _ xs _ _ _ _ => okCells base S0 i xs
  | .row _ _ _ xs => bif rw then okCells base S0 i xs else true
  | _ => true
def okBoxes (rw : Nat → Bool) (base : Nat) (S0 : List AObj) : Nat → List AObj → Bool
  | _, [] => true
  | i, x :: xs => okBox (rw i) base S0 i x && okBoxes rw base S0 (i + 1) xs
def clean (rw : Nat → Bool) (base : Nat) (T : List AVal) (S : List AObj) : List AObj := trim base 0 (sweep base (refL T ++ refS rw 0 S) 0 S)
/-- In order, if what is below leads to nothing of this call's own (else all stays). -/
def canonTR (rw : Nat → Bool) (base : Nat) (T : List AVal) (S : List AObj) : Option (List AVal × List AObj) :=
  match clean rw base T (clean rw base T S) with
  | S2 => bif okBoxes rw base S2 0 S2 then some (newL base S2 T, newS rw base S2 0 S2) else none
/-- Rows are not looked into (they lead nowhere). -/
def canonTS (base : Nat) (T : List AVal) (S : List AObj) : Option (List AVal × List AObj) := canonTR (fun _ => false) base T S
def canon (base : Nat) (T : List AVal) (S : List AObj) : Option (List AVal × List AObj) :=
  match canonTR (fun _ => !S.all plainO) base T S with
  | some r => some r
  | none => some (T, S)
/-- Code without ranges over functions. -/
def noRF : Code → Bool
  | .seq a b => noRF a && noRF b
  | .cond _ a b => noRF a && noRF b
  | .block _ a => noRF a
  | .loop a => noRF a
  | .scope a => noRF a
  | .rangeFunc _ _ _ _ => false
  | _ => true

/-! ## code -/
inductive AExit where
  | normal
  | exit (id : Nat)
  | ret
abbrev Res := Option (AExit × List AVal × List AObj)
/-- At a loop's entry, behind each round, and at its end, all is put in order. -/
def iterC (base : Nat) (body : List AVal → List AObj → Res) : Nat → List AVal → List AObj → Res
  | 0, _, _ => none
  | n + 1, T, S => match canon base T S with
    | some (T1, S1) => match body T1 S1 with
      | some (.normal, T', S') => iterC base body n T' S'
      | some (x, T', S') => (canon base T' S').map fun r => (x, r.1, r.2)
      | none => none
    | none => none
def forget : Nat → List AVal → List AVal
  | _, [] => []
  | m, x :: xs => (bif Nat.beq (m % 2) 1 then x else .junk) :: forget (m / 2) xs
def forgetAt (lv : List Nat) (id : Nat) (T : List AVal) : List AVal :=
  match lv[id]? with
  | some m => forget m T
  | none => T
def setSt (S : List AObj) (q : Nat) (st : LpSt) : List AObj :=
  match S[q]? with
  | some (.loop lv T ps asg body _) => S.set q (.loop lv T ps asg body st)
  | _ => S
/-- The function that was ranged over has come back. -/
def endLp (T : List AVal) (S : List AObj) (q : Nat) : Res :=
  match S[q]? with
  | some (.loop _ _ _ _ _ .ready) => some (.normal, T, setSt S q .over)
  | some (.loop _ _ _ _ _ (.done (.exit i))) => some (.exit i, T, setSt S q .over)
  | some (.loop _ _ _ _ _ (.done .ret)) => some (.ret, T, setSt S q .over)
  | _ => none
def evalC (c : Cfg) (ev : Ev) (lv : List Nat) (lo base n : Nat) : Code → List AVal → List AObj → Res
  | .skip, T, S => some (.normal, T, S)
  | .label _, T, S => some (.normal, T, S)
  | .region id ops false, T, S => (runOps c ev lo ops ops.toList T S).map fun r => (.normal, forgetAt lv id r.1, r.2)
  | .region id ops true, T, S => (runDraw c ev lo ops T S).map fun r => (.normal, forgetAt lv id r.1, r.2)
  | .seq a b, T, S => match evalC c ev lv lo base n a T S with
    | some (.normal, T', S') => evalC c ev lv lo base n b T' S'
    | r => r
  | .cond x a b, T, S => match opd T x with
    | .v (.bool t) => if t then evalC c ev lv lo base n a T S else evalC c ev lv lo base n b T S
    | _ => none
  | .block id a, T, S => match evalC c ev lv lo base n a T S with
    | some (.exit j, T', S') => some (if j = id then .normal else .exit j, T', S')
    | r => r
  | .loop a, T, S => iterC base (evalC c ev lv lo base n a) n T S
  | .exit id, T, S => some (.exit id, T, S)
  | .scope a, T, S => evalC c ev lv lo base n a T S
  | .ret, T, S => some (.ret, T, S)
  | .rangeFunc g ps asg body, T, S => match opd T g with
    | .fn f caps => bif Nat.ble lo S.length && noRF asg && noRF body && (c.givenS f).isNone && (c.givenP f).isNone then
        (match ev lo f (.yld S.length :: caps) (S ++ [.loop lv T ps asg body .ready]) with
        | some (_, S') => endLp T S' S.length
        | none => none)
      else none
    | _ => none
  | _, _, _ => none

def resultA (P : Program) (T : List AVal) (S : List AObj) : ResultVar → Option AVal
  | .tmp t => some (T.getD t .junk)
  | .cell a t => loadA P S t (T.getD a .junk)
def resultsA (P : Program) (rs : Array ResultVar) (T : List AVal) (S : List AObj) : Option AVal :=
  match mapO (resultA P T S) rs.toList with
  | some [x] => some x
  | some xs => some (.tup xs)
  | none => none
def putsT : List Tmp → List AVal → List AVal → List AVal
  | p :: ps, x :: xs, T => putsT ps xs (T.set p x)
  | _, _, T => T
def busyB (S : List AObj) (q : Nat) : Bool :=
  match S[q]? with
  | some (.loop _ _ _ _ _ .busy) => true
  | _ => false
def readyB (S : List AObj) (q : Nat) : Bool :=
  match S[q]? with
  | some (.loop _ _ _ _ _ .ready) => true
  | _ => false
/-- A round has ended. -/
def endRd (S : List AObj) (q : Nat) : AExit → Option (AVal × List AObj)
  | .normal => some (.v (.bool true), setSt S q .ready)
  | .exit i => some (.v (.bool false), setSt S q (.done (.exit i)))
  | .ret => some (.v (.bool false), setSt S q (.done .ret))
/-- A round: what was handed over, the loop's left sides, its body. -/
def roundA (c : Cfg) (ev : Ev) (k lo q : Nat) (args : List AVal) (S : List AObj) : Option (AVal × List AObj) :=
  match S[q]? with
  | some (.loop lv T ps asg body .ready) =>
    bif Nat.ble lo q && Nat.beq args.length ps.size && noRF asg && noRF body then
      (match evalC c ev lv lo S.length k asg (putsT ps.toList args T) S with
      | some (.normal, T1, S1) => bif readyB S1 q then
          (match evalC c ev lv lo S.length k body T1 (setSt S1 q .busy) with
          | some (x, _, S2) => bif busyB S2 q then endRd S2 q x else none
          | none => none)
        else none
      | _ => none)
    else none
  | _ => none
def evalF (c : Cfg) : Nat → Ev
  | 0 => ⟨fun _ _ _ _ => none, fun _ _ _ _ => none⟩
  | k + 1 => ⟨fun lo f args S => match c.tab f with
    | some a => match evalC c (evalF c k) a.live lo S.length k a.body (args ++ List.replicate (a.ntmps - args.length) (.v undef)) S with
      | some (.normal, T, S') => (resultsA c.P a.results T S').map fun r => (r, S')
      | some (.ret, T, S') => (resultsA c.P a.results T S').map fun r => (r, S')
      | _ => none
    | none => none, fun lo q args S => roundA c (evalF c k) k lo q args S⟩

end
end Go.Proofs.YtkkgimhbliocoaaGreat.Vm
/- How the abstract machine's values, objects and stores stand to the model's worlds; and that they go on standing so. -/
namespace Go.Proofs.YtkkgimhbliocoaaGreat.Vm
open Go Go.RowKit
set_option linter.unusedVariables false
set_option linter.unusedSimpArgs false
set_option linter.unnecessarySimpa false

structure Pl where
  b : Nat
  off : Nat
  cap : Nat
structure Ctx where
  ρ : Nat → Pl
  S : List AObj
  ok : Nat → Nat → Prop
  w : World

/-- What stands for good: cells, and maps. -/
structure Look where
  cell : Addr → Value → Prop
  mp : Nat → Array MapEntry → Prop
instance : CoeFun Look fun _ => Addr → Value → Prop := ⟨Look.cell⟩
structure Look.Le (L L' : Look) : Prop where
  cell : ∀ a x, L.cell a x → L'.cell a x
  mp : ∀ b es, L.mp b es → L'.mp b es
/-- A cell that is never written again holds x; a map that is never written again. -/
@[reducible] def sees (ok : Nat → Nat → Prop) (w : World) : Look := ⟨fun a x => ok a.block a.off ∧ w.cell? a = some x, fun b es => ok b 0 ∧ ∃ c, w.heap[b]? = some (.map es c)⟩
/-- A map's keys. -/
def EntK (es : Array MapEntry) (ks : List Int) : Prop := es.size = ks.length ∧ ∀ (i : Nat) (k : Int), ks[i]? = some k → ∃ e, es[i]? = some e ∧ e.key = .int .i64 k
/-- Stamps: the first entry's is 0, the next one's 1 .. -/
def BornOk (es : Array MapEntry) (c : Nat) : Prop := c = es.size ∧ ∀ (i : Nat) (e : MapEntry), es[i]? = some e → e.born = i
def EntV (es : Array MapEntry) (i : Nat) (y : Value) : Prop := ∃ e, es[i]? = some e ∧ e.val = y

mutual
def Rp (L : Look) : PVal → Value → Prop
  | .v x, u => u = x
  | .agg xs, u => ∃ cs, u = .agg cs ∧ cs.size = xs.length ∧ Rps L xs (fun i y => cs[i]? = some y) 0
  | .tup xs, u => ∃ cs, u = .tuple cs ∧ cs.size = xs.length ∧ Rps L xs (fun i y => cs[i]? = some y) 0
  | .list n xs, u => ∃ A c, u = .slice A n c ∧ n ≤ c ∧ Rps L xs (fun i y => ∃ a, A = some a ∧ L (a.add i) y) 0
  | .clip, u => ∃ A, u = .slice A 0 0
  | .fn f xs, u => ∃ cs, u = .func (.func f) #[] cs ∧ cs.size = xs.length ∧ Rps L xs (fun i y => cs[i]? = some y) 0
  | .ptr xs, u => ∃ a, u = .pointer (some a) ∧ Rps L xs (fun i y => L (a.add i) y) 0
  | .map ks vs, u => ∃ r es, u = .map (some r) ∧ L.mp r es ∧ EntK es ks ∧ es.size = vs.length ∧ Rps L vs (fun i y => EntV es i y) 0
  | .junk, _ => True
def Rps (L : Look) : List PVal → (Nat → Value → Prop) → Nat → Prop
  | [], _, _ => True
  | x :: xs, f, i => (∃ y, f i y ∧ Rp L x y) ∧ Rps L xs f (i + 1)
end

/-- An object that a value names: it is there, and where it lies, if nothing has turned it since. -/
def refAt (ρ : Nat → Pl) (S : List AObj) (o ep : Nat) (k : Pl → Prop) : Prop :=
  ∃ x e, S[o]? = some x ∧ x.ep? = some e ∧ ep ≤ e ∧ (ep = e → k (ρ o))

mutual
def Rv (C : Ctx) : AVal → Value → Prop
  | .v x, u => u = x
  | .agg xs, u => ∃ cs, u = .agg cs ∧ cs.size = xs.length ∧ Rvs C xs (fun i y => cs[i]? = some y) 0
  | .tup xs, u => ∃ cs, u = .tuple cs ∧ cs.size = xs.length ∧ Rvs C xs (fun i y => cs[i]? = some y) 0
  | .list n xs, u => ∃ A c, u = .slice A n c ∧ n ≤ c ∧ Rps (sees C.ok C.w) xs (fun i y => ∃ a, A = some a ∧ sees C.ok C.w (a.add i) y) 0
  | .clip, u => ∃ A, u = .slice A 0 0
  | .row o ep sz off len, u => ∃ a c, u = .slice (some a) len c ∧ len ≤ c ∧
      refAt C.ρ C.S o ep (fun p => (a = ⟨p.b, p.off + off * sz, none⟩ ∧ off + c ≤ p.cap) ∨ (len = 0 ∧ c = 0))
  | .ptr o ep off, u => ∃ a, u = .pointer (some a) ∧ refAt C.ρ C.S o ep (fun p => a = ⟨p.b, p.off + off, none⟩)
  | .eptr xs, u => ∃ a, u = .pointer (some a) ∧ Rps (sees C.ok C.w) xs (fun i y => sees C.ok C.w (a.add i) y) 0
  | .fn f xs, u => ∃ cs, u = .func (.func f) #[] cs ∧ cs.size = xs.length ∧ Rvs C xs (fun i y => cs[i]? = some y) 0
  | .mp o, u => ∃ r, u = .map (some r) ∧ refAt C.ρ C.S o 0 (fun p => r = p.b)
  | .fmap ks vs, u => ∃ r es, u = .map (some r) ∧ (sees C.ok C.w).mp r es ∧ EntK es ks ∧ es.size = vs.length ∧ Rps (sees C.ok C.w) vs (fun i y => EntV es i y) 0
  | .yld o, u => ∃ r, u = .func (.yield r) #[] #[] ∧ refAt C.ρ C.S o 0 (fun p => r = p.b)
  | .junk, _ => True
def Rvs (C : Ctx) : List AVal → (Nat → Value → Prop) → Nat → Prop
  | [], _, _ => True
  | x :: xs, f, i => (∃ y, f i y ∧ Rv C x y) ∧ Rvs C xs f (i + 1)
end

/-! ## reading -/
theorem Rps_get {L : Look} : ∀ {xs : List PVal} {f : Nat → Value → Prop} {i : Nat}, Rps L xs f i → ∀ j x, xs[j]? = some x → ∃ y, f (i + j) y ∧ Rp L x y
  | [], _, _, _, j, x, h => by simp at h
  | y :: ys, f, i, h, 0, x, hx => by
    simp only [Rps] at h
    simp only [List.getElem?_cons_zero, Option.some.injEq] at hx
    subst hx
    simpa using h.1
  | y :: ys, f, i, h, j + 1, x, hx => by
    simp only [Rps] at h
    have := Rps_get h.2 j x (by simpa using hx)
    rwa [show i + 1 + j = i + (j + 1) by omega] at this
theorem Rps_mk {L : Look} : ∀ {xs : List PVal} {f : Nat → Value → Prop} {i : Nat}, (∀ j x, xs[j]? = some x → ∃ y, f (i + j) y ∧ Rp L x y) → Rps L xs f i
  | [], _, _, _ => by simp [Rps]
  | x :: xs, f, i, h => by
    simp only [Rps]
    refine ⟨by simpa using h 0 x rfl, Rps_mk fun j y hy => ?_⟩
    have := h (j + 1) y (by simpa using hy)
    rwa [show i + (j + 1) = i + 1 + j by omega] at this
theorem Rvs_get {C : Ctx} : ∀ {xs : List AVal} {f : Nat → Value → Prop} {i : Nat}, Rvs C xs f i → ∀ j x, xs[j]? = some x → ∃ y, f (i + j) y ∧ Rv C x y
  | [], _, _, _, j, x, h => by simp at h
  | y :: ys, f, i, h, 0, x, hx => by
    simp only [Rvs] at h
    simp only [List.getElem?_cons_zero, Option.some.injEq] at hx
    subst hx
    simpa using h.1
  | y :: ys, f, i, h, j + 1, x, hx => by
    simp only [Rvs] at h
    have := Rvs_get h.2 j x (by simpa using hx)
    rwa [show i + 1 + j = i + (j + 1) by omega] at this
theorem Rvs_mk {C : Ctx} : ∀ {xs : List AVal} {f : Nat → Value → Prop} {i : Nat}, (∀ j x, xs[j]? = some x → ∃ y, f (i + j) y ∧ Rv C x y) → Rvs C xs f i
  | [], _, _, _ => by simp [Rvs]
  | x :: xs, f, i, h => by
    simp only [Rvs]
    refine ⟨by simpa using h 0 x rfl, Rvs_mk fun j y hy => ?_⟩
    have := h (j + 1) y (by simpa using hy)
    rwa [show i + (j + 1) = i + 1 + j by omega] at this

/-! ## going on -/
/-- What may turn while values stay what they are. -/
structure Grows (C C' : Ctx) : Prop where
  sees : Look.Le (Vm.sees C.ok C.w) (Vm.sees C'.ok C'.w)
  refs : ∀ o x e, C.S[o]? = some x → x.ep? = some e → ∃ x' e', C'.S[o]? = some x' ∧ x'.ep? = some e' ∧ (e' = e ∧ C'.ρ o = C.ρ o ∨ e < e')
theorem Look.Le.refl (L : Look) : Look.Le L L := ⟨fun _ _ h => h, fun _ _ h => h⟩
theorem Look.Le.trans {L M N : Look} (h : Look.Le L M) (k : Look.Le M N) : Look.Le L N := ⟨fun a x hx => k.cell a x (h.cell a x hx), fun b es hx => k.mp b es (h.mp b es hx)⟩
theorem Grows.refl (C : Ctx) : Grows C C := ⟨Look.Le.refl _, fun o x e h he => ⟨x, e, h, he, .inl ⟨rfl, rfl⟩⟩⟩
theorem Grows.trans {A B C : Ctx} (h : Grows A B) (k : Grows B C) : Grows A C := by
  refine ⟨h.sees.trans k.sees, fun o x e hx he => ?_⟩
  obtain ⟨x1, e1, h1, h2, h3⟩ := h.refs o x e hx he
  obtain ⟨x2, e2, k1, k2, k3⟩ := k.refs o x1 e1 h1 h2
  refine ⟨x2, e2, k1, k2, ?_⟩
  rcases h3 with ⟨rfl, h3⟩ | h3
  · rcases k3 with ⟨rfl, k3⟩ | k3
    · exact .inl ⟨rfl, k3.trans h3⟩
    · exact .inr k3
  · rcases k3 with ⟨rfl, _⟩ | k3
    · exact .inr h3
    · exact .inr (Nat.lt_trans h3 k3)
theorem refAt.grows {C C' : Ctx} (g : Grows C C') {o ep : Nat} {k : Pl → Prop} (h : refAt C.ρ C.S o ep k) : refAt C'.ρ C'.S o ep k := by
  obtain ⟨x, e, hx, he, hle, hk⟩ := h
  obtain ⟨x', e', hx', he', h3⟩ := g.refs o x e hx he
  refine ⟨x', e', hx', he', ?_, ?_⟩
  · rcases h3 with ⟨rfl, _⟩ | h3 <;> omega
  · rcases h3 with ⟨rfl, h3⟩ | h3
    · intro h; rw [h3]; exact hk h
    · intro h; omega
mutual
theorem Rp_mono {L L' : Look} (hL : Look.Le L L') : ∀ (x : PVal) (u : Value), Rp L x u → Rp L' x u
  | .v x, u, h => by simpa [Rp] using h
  | .agg xs, u, h => by
    simp only [Rp] at h ⊢
    obtain ⟨cs, h1, h2, h3⟩ := h
    exact ⟨cs, h1, h2, Rps_mono hL xs _ _ _ (fun _ _ h => h) h3⟩
  | .tup xs, u, h => by
    simp only [Rp] at h ⊢
    obtain ⟨cs, h1, h2, h3⟩ := h
    exact ⟨cs, h1, h2, Rps_mono hL xs _ _ _ (fun _ _ h => h) h3⟩
  | .list n xs, u, h => by
    simp only [Rp] at h ⊢
    obtain ⟨A, c, h1, h2, h3⟩ := h
    exact ⟨A, c, h1, h2, Rps_mono hL xs _ _ _ (fun i y h => by obtain ⟨a, ha, hs⟩ := h; exact ⟨a, ha, hL.cell _ _ hs⟩) h3⟩
  | .clip, u, h => by simpa [Rp] using h
  | .fn f xs, u, h => by
    simp only [Rp] at h ⊢
    obtain ⟨cs, h1, h2, h3⟩ := h
    exact ⟨cs, h1, h2, Rps_mono hL xs _ _ _ (fun _ _ h => h) h3⟩
  | .ptr xs, u, h => by
    simp only [Rp] at h ⊢
    obtain ⟨a, h1, h2⟩ := h
    exact ⟨a, h1, Rps_mono hL xs _ _ _ (fun i y h => hL.cell _ _ h) h2⟩
  | .map ks vs, u, h => by
    simp only [Rp] at h ⊢
    obtain ⟨r, es, h1, h2, h3, h4, h5⟩ := h
    exact ⟨r, es, h1, hL.mp _ _ h2, h3, h4, Rps_mono hL vs _ _ _ (fun _ _ h => h) h5⟩
  | .junk, u, h => by simp [Rp]
theorem Rps_mono {L L' : Look} (hL : Look.Le L L') : ∀ (xs : List PVal) (f f' : Nat → Value → Prop) (i : Nat), (∀ i y, f i y → f' i y) → Rps L xs f i → Rps L' xs f' i
  | [], _, _, _, _, _ => by simp [Rps]
  | x :: xs, f, f', i, hf, h => by
    simp only [Rps] at h ⊢
    obtain ⟨⟨y, hy, hr⟩, h2⟩ := h
    exact ⟨⟨y, hf _ _ hy, Rp_mono hL x y hr⟩, Rps_mono hL xs f f' (i + 1) hf h2⟩
end
mutual
theorem Rv_mono {C C' : Ctx} (g : Grows C C') : ∀ (x : AVal) (u : Value), Rv C x u → Rv C' x u
  | .v x, u, h => by simpa [Rv] using h
  | .agg xs, u, h => by
    simp only [Rv] at h ⊢
    obtain ⟨cs, h1, h2, h3⟩ := h
    exact ⟨cs, h1, h2, Rvs_mono g xs _ _ _ (fun _ _ h => h) h3⟩
  | .tup xs, u, h => by
    simp only [Rv] at h ⊢
    obtain ⟨cs, h1, h2, h3⟩ := h
    exact ⟨cs, h1, h2, Rvs_mono g xs _ _ _ (fun _ _ h => h) h3⟩
  | .list n xs, u, h => by
    simp only [Rv] at h ⊢
    obtain ⟨A, c, h1, h2, h3⟩ := h
    exact ⟨A, c, h1, h2, Rps_mono g.sees xs _ _ _ (fun i y h => by obtain ⟨a, ha, hs⟩ := h; exact ⟨a, ha, g.sees.cell _ _ hs⟩) h3⟩
  | .clip, u, h => by simpa [Rv] using h
  | .row o ep sz off len, u, h => by
    simp only [Rv] at h ⊢
    obtain ⟨A, c, h1, h2, h3⟩ := h
    exact ⟨A, c, h1, h2, h3.grows g⟩
  | .ptr o ep off, u, h => by
    simp only [Rv] at h ⊢
    obtain ⟨a, h1, h2⟩ := h
    exact ⟨a, h1, h2.grows g⟩
  | .eptr xs, u, h => by
    simp only [Rv] at h ⊢
    obtain ⟨a, h1, h2⟩ := h
    exact ⟨a, h1, Rps_mono g.sees xs _ _ _ (fun i y h => g.sees.cell _ _ h) h2⟩
  | .fn f xs, u, h => by
    simp only [Rv] at h ⊢
    obtain ⟨cs, h1, h2, h3⟩ := h
    exact ⟨cs, h1, h2, Rvs_mono g xs _ _ _ (fun _ _ h => h) h3⟩
  | .mp o, u, h => by
    simp only [Rv] at h ⊢
    obtain ⟨r, h1, h2⟩ := h
    exact ⟨r, h1, h2.grows g⟩
  | .fmap ks vs, u, h => by
    simp only [Rv] at h ⊢
    obtain ⟨r, es, h1, h2, h3, h4, h5⟩ := h
    exact ⟨r, es, h1, g.sees.mp _ _ h2, h3, h4, Rps_mono g.sees vs _ _ _ (fun _ _ h => h) h5⟩
  | .yld o, u, h => by
    simp only [Rv] at h ⊢
    obtain ⟨r, h1, h2⟩ := h
    exact ⟨r, h1, h2.grows g⟩
  | .junk, u, h => by simp [Rv]
theorem Rvs_mono {C C' : Ctx} (g : Grows C C') : ∀ (xs : List AVal) (f f' : Nat → Value → Prop) (i : Nat), (∀ i y, f i y → f' i y) → Rvs C xs f i → Rvs C' xs f' i
  | [], _, _, _, _, _ => by simp [Rvs]
  | x :: xs, f, f', i, hf, h => by
    simp only [Rvs] at h ⊢
    obtain ⟨⟨y, hy, hr⟩, h2⟩ := h
    exact ⟨⟨y, hf _ _ hy, Rv_mono g x y hr⟩, Rvs_mono g xs f f' (i + 1) hf h2⟩
end

/-! ## what leads to nothing, among the others -/
theorem upL_eq_map : ∀ xs : List PVal, upL xs = xs.map up
  | [] => rfl
  | x :: xs => by simp [upL, upL_eq_map xs]
@[simp] theorem length_upL (xs : List PVal) : (upL xs).length = xs.length := by simp [upL_eq_map]
mutual
theorem Rv_up {C : Ctx} : ∀ (x : PVal) (u : Value), Rv C (up x) u ↔ Rp (sees C.ok C.w) x u
  | .v x, u => by simp [up, Rv, Rp]
  | .agg xs, u => by
    simp only [up, Rv, Rp, length_upL]
    exact exists_congr fun cs => and_congr_right fun _ => and_congr_right fun _ => Rvs_up xs _ _
  | .tup xs, u => by
    simp only [up, Rv, Rp, length_upL]
    exact exists_congr fun cs => and_congr_right fun _ => and_congr_right fun _ => Rvs_up xs _ _
  | .list n xs, u => by simp [up, Rv, Rp]
  | .clip, u => by simp [up, Rv, Rp]
  | .fn f xs, u => by
    simp only [up, Rv, Rp, length_upL]
    exact exists_congr fun cs => and_congr_right fun _ => and_congr_right fun _ => Rvs_up xs _ _
  | .ptr xs, u => by simp [up, Rv, Rp]
  | .map ks vs, u => by simp [up, Rv, Rp]
  | .junk, u => by simp [up, Rv, Rp]
theorem Rvs_up {C : Ctx} : ∀ (xs : List PVal) (f : Nat → Value → Prop) (i : Nat), Rvs C (upL xs) f i ↔ Rps (sees C.ok C.w) xs f i
  | [], f, i => by simp [upL, Rvs, Rps]
  | x :: xs, f, i => by
    simp only [upL, Rvs, Rps]
    exact and_congr (exists_congr fun y => and_congr_right fun _ => Rv_up x y) (Rvs_up xs f (i + 1))
end

/-! ## objects, stores -/
def LpOk : LpSt → Loop → Prop
  | .ready, r => r.state = .ready ∧ r.pending = none
  | .busy, r => r.state = .busy ∧ r.pending = none
  | .done j, r => r.state = .done ∧ r.pending = some j
  | .over, _ => True
def Robj (C : Ctx) (o : Nat) : AObj → Prop
  | .free => True
  | .hidden => True
  | .box xs => ∃ cs t, C.w.heap[(C.ρ o).b]? = some (.cells cs t (0, 0)) ∧ cs.size = xs.length ∧ ((C.ρ o).off = 0 ∧ (C.ρ o).cap = xs.length) ∧ Rvs C xs (fun i y => cs[i]? = some y) 0 ∧ xs.all AVal.one = true
  | .row sz _ fz xs => ∃ cs t, C.w.heap[(C.ρ o).b]? = some (.cells cs t (0, 0)) ∧ (C.ρ o).off + (C.ρ o).cap * sz ≤ cs.size ∧ xs.length ≤ (C.ρ o).cap * sz ∧ 0 < sz ∧
      Rvs C xs (fun i y => cs[(C.ρ o).off + i]? = some y) 0 ∧ xs.all AVal.one = true ∧ (∀ k, fz = some k → k ≤ xs.length ∧ ∀ j, j < k → C.ok (C.ρ o).b ((C.ρ o).off + j))
  | .mapo fz ks vs => ∃ es c, C.w.heap[(C.ρ o).b]? = some (.map es c) ∧ EntK es ks ∧ es.size = vs.length ∧ Rvs C vs (fun i y => EntV es i y) 0 ∧ (fz = true → C.ok (C.ρ o).b 0) ∧ BornOk es c
  | .loop _ T ps asg body st => ∃ r : Loop, C.w.heap[(C.ρ o).b]? = some (.loop r) ∧ r.tmps.size = T.length ∧ Rvs C T (fun i y => r.tmps[i]? = some y) 0 ∧ (r.params = ps ∧ r.assign = asg ∧ r.body = body) ∧ LpOk st r
/-- What of an object is frozen. -/
def Fzn (x : AObj) (off j : Nat) : Prop := (∃ sz ep k xs, x = .row sz ep (some k) xs ∧ j < off + xs.length) ∨ ∃ ks vs, x = .mapo true ks vs

structure St (C : Ctx) : Prop where
  obj : ∀ o x, C.S[o]? = some x → Robj C o x
  inj : ∀ o o' x x' e e', C.S[o]? = some x → C.S[o']? = some x' → x.ep? = some e → x'.ep? = some e' → (C.ρ o).b = (C.ρ o').b → o = o'
  okIn : ∀ b j, C.ok b j → b < C.w.heap.size
  /-- what is never written again lies in no object, but where the object says so -/
  okRow : ∀ b j, C.ok b j → ∀ o x e, C.S[o]? = some x → x.ep? = some e → (C.ρ o).b = b → Fzn x (C.ρ o).off j

/-- From one world to a later one. -/
structure Ext (C C' : Ctx) : Prop where
  grows : Grows C C'
  os : C'.w.os = C.w.os
  tape : C'.w.tape = C.w.tape
  output : C'.w.output = C.w.output
  size : C.w.heap.size ≤ C'.w.heap.size
  ok : ∀ b j, C.ok b j → C'.ok b j
  frame : ∀ b, b < C.w.heap.size → (∀ o x e, C.S[o]? = some x → x.ep? = some e → (C.ρ o).b ≠ b) → C'.w.heap[b]? = C.w.heap[b]?
  okNew : ∀ b j, C'.ok b j → C.ok b j ∨ C.w.heap.size ≤ b ∨ ∃ o x e, C.S[o]? = some x ∧ x.ep? = some e ∧ (C.ρ o).b = b
  blocks : ∀ o x e, C'.S[o]? = some x → x.ep? = some e → C.w.heap.size ≤ (C'.ρ o).b ∨ ∃ o2 x2 e2, C.S[o2]? = some x2 ∧ x2.ep? = some e2 ∧ (C.ρ o2).b = (C'.ρ o).b
theorem Ext.refl (C : Ctx) : Ext C C :=
  ⟨Grows.refl C, rfl, rfl, rfl, Nat.le_refl _, fun _ _ h => h, fun _ _ _ => rfl, fun _ _ h => .inl h, fun o x e h he => .inr ⟨o, x, e, h, he, rfl⟩⟩
theorem Ext.trans {A B C : Ctx} (h : Ext A B) (k : Ext B C) : Ext A C := by
  refine ⟨h.grows.trans k.grows, k.os.trans h.os, k.tape.trans h.tape, k.output.trans h.output, Nat.le_trans h.size k.size, fun b j hb => k.ok b j (h.ok b j hb), fun b hb hn => ?_, fun b j hj => ?_, fun o x e hx he => ?_⟩
  · refine (k.frame b (Nat.lt_of_lt_of_le hb h.size) fun o x e hx he hbo => ?_).trans (h.frame b hb hn)
    rcases h.blocks o x e hx he with hge | ⟨o2, x2, e2, h1, h2, h3⟩
    · omega
    · exact hn o2 x2 e2 h1 h2 (h3.trans hbo)
  · rcases k.okNew b j hj with h1 | h1 | ⟨o, x, e, h1, h2, h3⟩
    · exact h.okNew b j h1
    · exact .inr (.inl (Nat.le_trans h.size h1))
    · rcases h.blocks o x e h1 h2 with hge | ⟨o2, x2, e2, k1, k2, k3⟩
      · exact .inr (.inl (by omega))
      · exact .inr (.inr ⟨o2, x2, e2, k1, k2, k3.trans h3⟩)
  · rcases k.blocks o x e hx he with hge | ⟨o2, x2, e2, h1, h2, h3⟩
    · exact .inl (Nat.le_trans h.size hge)
    · rcases h.blocks o2 x2 e2 h1 h2 with hge | ⟨o3, x3, e3, k1, k2, k3⟩
      · exact .inl (by omega)
      · exact .inr ⟨o3, x3, e3, k1, k2, k3.trans h3⟩
/-- Where no object is, all that was is as it was. -/
theorem Ext.below {C C' : Ctx} (h : Ext C C') (hS : C.S = []) : Below C.w.heap.size C.w C'.w :=
  ⟨h.os, h.tape, h.output, h.size, fun k hk => h.frame k hk fun o x e hx _ => by simp [hS] at hx⟩

/-- The temporaries. -/
def RT (C : Ctx) (T : List AVal) (tmps : Array Value) : Prop := tmps.size = T.length ∧ Rvs C T (fun i y => tmps[i]? = some y) 0
theorem RT.mono {C C' : Ctx} (g : Grows C C') {T : List AVal} {tmps : Array Value} (h : RT C T tmps) : RT C' T tmps := ⟨h.1, Rvs_mono g _ _ _ _ (fun _ _ h => h) h.2⟩
theorem RT.get {C : Ctx} {T : List AVal} {tmps : Array Value} (h : RT C T tmps) (t : Nat) : Rv C (T.getD t .junk) (tmps.getD t undef) := by
  rcases Nat.lt_or_ge t T.length with hlt | hge
  · obtain ⟨y, hy, hr⟩ := Rvs_get h.2 t T[t] (List.getElem?_eq_getElem hlt)
    simp only [Nat.zero_add] at hy
    have e1 : T.getD t .junk = T[t] := by simp [List.getD, List.getElem?_eq_getElem hlt]
    have e2 : tmps.getD t undef = y := by rw [Array.getD_eq_getD_getElem?, hy]; rfl
    rw [e1, e2]; exact hr
  · have e1 : T.getD t .junk = .junk := by simp [List.getD, List.getElem?_eq_none hge]
    rw [e1]; simp [Rv]
theorem RT.put {C : Ctx} {T : List AVal} {a : Act} (h : RT C T a.tmps) (d : Option Tmp) {x : AVal} {u : Value} (hr : Rv C x u) : RT C (putT T d x) (a.put d u).tmps := by
  cases d with
  | none => exact h
  | some d =>
    simp only [putT, Act.put]
    refine ⟨by simp [h.1], Rvs_mk fun j y hy => ?_⟩
    simp only [Nat.zero_add]
    rw [List.getElem?_set] at hy
    by_cases hd : d = j
    · subst hd
      rw [if_pos rfl] at hy
      split at hy
      · rename_i hlt
        simp only [Option.some.injEq] at hy
        subst hy
        exact ⟨u, by simp [Array.getElem?_setIfInBounds, h.1, hlt], hr⟩
      · simp at hy
    · rw [if_neg hd] at hy
      obtain ⟨z, hz, hr'⟩ := Rvs_get h.2 j y hy
      simp only [Nat.zero_add] at hz
      exact ⟨z, by simp [Array.getElem?_setIfInBounds, hd, hz], hr'⟩
theorem constA_rel (C : Ctx) (x : Value) : Rv C (constA x) x := by
  cases x with
  | agg cs =>
    simp only [constA, Rv]
    refine ⟨cs, rfl, by simp, Rvs_mk fun j y hy => ?_⟩
    simp only [List.getElem?_map, Array.getElem?_toList, Option.map_eq_some_iff] at hy
    obtain ⟨z, hz, rfl⟩ := hy
    exact ⟨z, by simpa using hz, by simp [Rv]⟩
  | _ => simp [constA, Rv]
theorem opd_rel {C : Ctx} {T : List AVal} {a : Act} (h : RT C T a.tmps) (x : Operand) : Rv C (opd T x) (a.eval x) := by
  cases x with
  | tmp t =>
    simp only [opd, getF_eq]
    exact h.get t
  | const u => exact constA_rel C u
  | func f => simp [opd, Act.eval, Rv, Rvs]
  | global g => simp [opd, Rv]

end Go.Proofs.YtkkgimhbliocoaaGreat.Vm
/- The steps on memory: a new block, a store, a row that grows: how the store of objects stands behind them. -/
namespace Go.Proofs.YtkkgimhbliocoaaGreat.Vm
open Go Go.RowKit
set_option linter.unusedVariables false
set_option linter.unusedSimpArgs false
set_option linter.unnecessarySimpa false

theorem pureOf_run (P : Program) {α : Type} : ∀ (s : Sem α) (a : α), pureOf P s = some a → ∀ w, s.run P w = .ok a w := by
  intro s
  induction s with
  | pure b => intro a h w; simp only [pureOf, Option.some.injEq] at h; subst h; rfl
  | program k ih => intro a h w; simp only [pureOf] at h; exact ih P a h w
  | _ => intro a h; simp [pureOf] at h

theorem addr_add (b o n : Nat) : Addr.add ⟨b, o, none⟩ n = ⟨b, o + n, none⟩ := Addr.add_lit b o n
theorem addr_add_add (a : Addr) (i j : Nat) : (a.add i).add j = a.add (i + j) := by
  unfold Addr.add
  by_cases hi : i = 0 <;> by_cases hj : j = 0 <;> simp [hi, hj, Nat.add_assoc]

/-! ## lists -/
theorem Rvs_drop {C : Ctx} {xs : List AVal} {f : Nat → Value → Prop} (h : Rvs C xs f 0) (k : Nat) : Rvs C (xs.drop k) (fun i y => f (k + i) y) 0 :=
  Rvs_mk fun j x hx => by
    rw [List.getElem?_drop] at hx
    obtain ⟨y, hy, hr⟩ := Rvs_get h (k + j) x hx
    exact ⟨y, by simpa using hy, hr⟩
theorem Rps_drop {L : Look} {xs : List PVal} {f : Nat → Value → Prop} (h : Rps L xs f 0) (k : Nat) : Rps L (xs.drop k) (fun i y => f (k + i) y) 0 :=
  Rps_mk fun j x hx => by
    rw [List.getElem?_drop] at hx
    obtain ⟨y, hy, hr⟩ := Rps_get h (k + j) x hx
    exact ⟨y, by simpa using hy, hr⟩
theorem Rps_take {L : Look} {xs : List PVal} {f : Nat → Value → Prop} (h : Rps L xs f 0) (k : Nat) : Rps L (xs.take k) f 0 :=
  Rps_mk fun j x hx => by
    rw [List.getElem?_take] at hx
    split at hx
    · exact Rps_get h j x hx
    · simp at hx
theorem Rvs_take {C : Ctx} {xs : List AVal} {f : Nat → Value → Prop} (h : Rvs C xs f 0) (k : Nat) : Rvs C (xs.take k) f 0 :=
  Rvs_mk fun j x hx => by
    rw [List.getElem?_take] at hx
    split at hx
    · exact Rvs_get h j x hx
    · simp at hx
theorem Rvs_append {C : Ctx} {xs ys : List AVal} {f : Nat → Value → Prop} (h : Rvs C xs f 0) (k : Rvs C ys (fun i y => f (xs.length + i) y) 0) : Rvs C (xs ++ ys) f 0 :=
  Rvs_mk fun j x hx => by
    rw [List.getElem?_append] at hx
    split at hx
    · exact Rvs_get h j x hx
    · rename_i hge
      obtain ⟨y, hy, hr⟩ := Rvs_get k (j - xs.length) x hx
      refine ⟨y, ?_, hr⟩
      simp only [Nat.zero_add] at hy ⊢
      rwa [show xs.length + (j - xs.length) = j by omega] at hy
/-- The values of cells, as a list. -/
theorem Rvs_list {C : Ctx} : ∀ {xs : List AVal} {f : Nat → Value → Prop} {i : Nat}, Rvs C xs f i →
    ∃ ys : List Value, ys.length = xs.length ∧ Rvs C xs (fun j y => ys[j]? = some y) 0 ∧ ∀ j y, ys[j]? = some y → f (i + j) y
  | [], f, i, _ => ⟨[], rfl, by simp [Rvs], by simp⟩
  | x :: xs, f, i, h => by
    simp only [Rvs] at h
    obtain ⟨⟨y, hy, hr⟩, h2⟩ := h
    obtain ⟨ys, h3, h4, h5⟩ := Rvs_list h2
    refine ⟨y :: ys, by simp [h3], Rvs_mk fun j z hz => ?_, fun j z hz => ?_⟩
    · cases j with
      | zero => simp only [List.getElem?_cons_zero, Option.some.injEq] at hz; subst hz; exact ⟨y, by simp, hr⟩
      | succ j =>
        obtain ⟨u, hu, hru⟩ := Rvs_get h4 j z (by simpa using hz)
        exact ⟨u, by simpa using hu, hru⟩
    · cases j with
      | zero => simp only [List.getElem?_cons_zero, Option.some.injEq] at hz; subst hz; simpa using hy
      | succ j =>
        have := h5 j z (by simpa using hz)
        rwa [show i + (j + 1) = i + 1 + j by omega]
theorem one_of {C : Ctx} {x : AVal} {u : Value} (h : Rv C x u) (h1 : x.one = true) : u.oneCell' = true := by
  cases x with
  | v y => simp only [Rv] at h; subst h; exact h1
  | agg xs => simp [AVal.one] at h1
  | tup xs => simp [AVal.one] at h1
  | list n xs => simp only [Rv] at h; obtain ⟨A, c, rfl, _⟩ := h; rfl
  | clip => simp only [Rv] at h; obtain ⟨A, rfl⟩ := h; rfl
  | row o ep sz off len => simp only [Rv] at h; obtain ⟨A, c, rfl, _⟩ := h; rfl
  | ptr o ep off => simp only [Rv] at h; obtain ⟨a, rfl, _⟩ := h; rfl
  | eptr xs => simp only [Rv] at h; obtain ⟨a, rfl, _⟩ := h; rfl
  | fn f xs => simp only [Rv] at h; obtain ⟨cs, rfl, _⟩ := h; rfl
  | mp o => simp only [Rv] at h; obtain ⟨r, rfl, _⟩ := h; rfl
  | fmap ks vs => simp only [Rv] at h; obtain ⟨r, es, rfl, _⟩ := h; rfl
  | yld o => simp only [Rv] at h; obtain ⟨r, rfl, _⟩ := h; rfl
  | junk => simp [AVal.one] at h1
theorem ones_of {C : Ctx} {xs : List AVal} {ys : List Value} (hl : ys.length = xs.length) (h : Rvs C xs (fun j y => ys[j]? = some y) 0) (h1 : xs.all AVal.one = true) : ∀ y ∈ ys, y.oneCell' = true := by
  intro y hy
  obtain ⟨j, hj, rfl⟩ := List.mem_iff_getElem.1 hy
  have hjx : j < xs.length := by omega
  obtain ⟨u, hu, hr⟩ := Rvs_get h j xs[j] (List.getElem?_eq_getElem hjx)
  simp only [Nat.zero_add, List.getElem?_eq_getElem hj, Option.some.injEq] at hu
  subst hu
  exact one_of hr (List.all_eq_true.1 h1 _ (List.getElem_mem hjx))
/-- The cells of a value. -/
theorem cells_rel {C : Ctx} {x : AVal} {u : Value} (h : Rv C x u) (h1 : x.cells.all AVal.one = true) : u.cells.size = x.cells.length ∧ Rvs C x.cells (fun i y => u.cells[i]? = some y) 0 := by
  cases x with
  | agg xs =>
    simp only [Rv] at h
    obtain ⟨cs, rfl, h2, h3⟩ := h
    exact ⟨h2, h3⟩
  | _ =>
    have ho := one_of h (by simpa [AVal.cells] using h1)
    have hc : u.cells = #[u] := by cases u <;> first | rfl | simp [Value.oneCell'] at ho
    rw [hc]
    exact ⟨rfl, by simp only [AVal.cells, Rvs, and_true]; exact ⟨u, rfl, h⟩⟩

/-! ## stores of objects -/
theorem setObj_get_same (S : List AObj) (o : Nat) (x : AObj) (h : o ≤ S.length) : (setObj S o x)[o]? = some x := by
  unfold setObj
  split
  · rw [List.getElem?_set]; simp; assumption
  · have : o = S.length := by omega
    subst this
    simp
theorem setObj_get_other (S : List AObj) (o q : Nat) (x : AObj) (h : o ≤ S.length) (hne : q ≠ o) : (setObj S o x)[q]? = S[q]? := by
  unfold setObj
  split
  · rw [List.getElem?_set]; simp [Ne.symm hne]
  · have : o = S.length := by omega
    subst this
    rw [List.getElem?_append]
    split
    · rfl
    · rw [List.getElem?_eq_none (by simp; omega), List.getElem?_eq_none (by omega)]
theorem setObj_length (S : List AObj) (o : Nat) (x : AObj) (h : o ≤ S.length) : S.length ≤ (setObj S o x).length := by
  unfold setObj; split <;> simp

/-- What an object says stands while its block stands. -/
theorem Robj.keep {C C' : Ctx} (g : Grows C C') (hok : ∀ b j, C.ok b j → C'.ok b j) {o : Nat} {x : AObj} (h : Robj C o x) (hρ : C'.ρ o = C.ρ o) (hb : ∀ e, x.ep? = some e → C'.w.heap[(C.ρ o).b]? = C.w.heap[(C.ρ o).b]?) : Robj C' o x := by
  cases x with
  | box xs =>
    obtain ⟨cs', t', h1, h2, h3, h4, h5⟩ := h
    exact ⟨cs', t', by rw [hρ, hb 0 rfl]; exact h1, h2, by rw [hρ]; exact h3, Rvs_mono g _ _ _ _ (fun _ _ h => h) h4, h5⟩
  | row sz ep fr xs =>
    obtain ⟨cs', t', h1, h2, h3, h4, h5, h6, h7⟩ := h
    exact ⟨cs', t', by rw [hρ, hb ep rfl]; exact h1, by rw [hρ]; exact h2, by rw [hρ]; exact h3, h4, by rw [hρ]; exact Rvs_mono g _ _ _ _ (fun _ _ h => h) h5, h6, fun k hk => ⟨(h7 k hk).1, fun j hj => by rw [hρ]; exact hok _ _ ((h7 k hk).2 j hj)⟩⟩
  | mapo fz ks vs =>
    obtain ⟨es, c, h1, h2, h3, h4, h5⟩ := h
    exact ⟨es, c, by rw [hρ, hb 0 rfl]; exact h1, h2, h3, Rvs_mono g _ _ _ _ (fun _ _ h => h) h4, ⟨fun hf => by rw [hρ]; exact hok _ _ (h5.1 hf), h5.2⟩⟩
  | loop lv T ps asg body st =>
    obtain ⟨r, h1, h2, h3, h4⟩ := h
    exact ⟨r, by rw [hρ, hb 0 rfl]; exact h1, h2, Rvs_mono g _ _ _ _ (fun _ _ h => h) h3, h4⟩
  | free => trivial
  | hidden => trivial
theorem Robj.lt {C : Ctx} {o : Nat} {x : AObj} {e : Nat} (h : Robj C o x) (he : x.ep? = some e) : (C.ρ o).b < C.w.heap.size := by
  cases x with
  | box xs => obtain ⟨cs, t, h, _⟩ := h; exact (Array.getElem?_eq_some_iff.1 h).1
  | row sz ep fr xs => obtain ⟨cs, t, h, _⟩ := h; exact (Array.getElem?_eq_some_iff.1 h).1
  | mapo fz ks vs => obtain ⟨es, c, h, _⟩ := h; exact (Array.getElem?_eq_some_iff.1 h).1
  | loop lv T ps asg body st => obtain ⟨r, h, _⟩ := h; exact (Array.getElem?_eq_some_iff.1 h).1
  | free => simp [AObj.ep?] at he
  | hidden => simp [AObj.ep?] at he

/-- A new block, as a new object. -/
theorem madeO {C : Ctx} (hS : St C) (slot : Nat) (hslot : slot = C.S.length ∨ C.S[slot]? = some .free) (ob : Obj) (x : AObj) (cap : Nat) (e : Nat) (he : x.ep? = some e)
    (w : World) (hw : w.heap = C.w.heap) (hos : w.os = C.w.os) (htape : w.tape = C.w.tape) (hout : w.output = C.w.output)
    (hobj : ∀ C' : Ctx, Grows C C' → C'.w = w.alloc ob → C'.ρ slot = ⟨C.w.heap.size, 0, cap⟩ → C'.ok = C.ok → Robj C' slot x) :
    ∃ ρ', St ⟨ρ', setObj C.S slot x, C.ok, w.alloc ob⟩ ∧ Ext C ⟨ρ', setObj C.S slot x, C.ok, w.alloc ob⟩ ∧ ρ' slot = ⟨C.w.heap.size, 0, cap⟩ := by
  have hle : slot ≤ C.S.length := by
    rcases hslot with rfl | h
    · exact Nat.le_refl _
    · exact Nat.le_of_lt (List.getElem?_eq_some_iff.1 h).1
  have hnot : ∀ y e', C.S[slot]? = some y → y.ep? = some e' → False := by
    intro y e' hy hye
    rcases hslot with h | h
    · rw [h, List.getElem?_eq_none (Nat.le_refl _)] at hy; cases hy
    · rw [h] at hy; cases hy; simp [AObj.ep?] at hye
  let ρ' : Nat → Pl := fun o => if o = slot then ⟨C.w.heap.size, 0, cap⟩ else C.ρ o
  have hρs : ρ' slot = ⟨C.w.heap.size, 0, cap⟩ := by simp [ρ']
  have hρo : ∀ o, o ≠ slot → ρ' o = C.ρ o := fun o ho => by simp [ρ', ho]
  have hlt : ∀ o y e', C.S[o]? = some y → y.ep? = some e' → (C.ρ o).b < C.w.heap.size := fun o y e' hy hye => (hS.obj o y hy).lt hye
  have hheap : ∀ b, b < C.w.heap.size → (w.alloc ob).heap[b]? = C.w.heap[b]? := fun b hb => by
    rw [Below.heap_alloc _ _ _ (by rw [hw]; exact hb), hw]
  have g : Grows C ⟨ρ', setObj C.S slot x, C.ok, w.alloc ob⟩ := by
    refine ⟨⟨fun a y ⟨h1, h2⟩ => ⟨h1, ?_⟩, fun b es ⟨h1, c, h2⟩ => ⟨h1, c, ?_⟩⟩, fun o y e' hy hye => ?_⟩
    · rw [← h2]
      exact World.cell?_of_block (hheap a.block (hS.okIn _ _ h1))
    · rw [← h2]
      exact hheap b (hS.okIn _ _ h1)
    · have ho : o ≠ slot := fun h => hnot y e' (h ▸ hy) hye
      exact ⟨y, e', by simpa [setObj_get_other _ _ _ _ hle ho] using hy, hye, .inl ⟨rfl, hρo o ho⟩⟩
  refine ⟨ρ', ?_, ?_, hρs⟩
  · refine ⟨fun o y hy => ?_, fun o o' y y' e1 e2 hy hy' h1 h2 hb => ?_, fun b j hb => ?_, fun b j hb o y e1 hy h1 hbo => ?_⟩
    · by_cases ho : o = slot
      · subst ho
        rw [setObj_get_same _ _ _ hle] at hy
        cases hy
        exact hobj _ g rfl hρs rfl
      · rw [setObj_get_other _ _ _ _ hle ho] at hy
        exact (hS.obj o y hy).keep g (fun _ _ h => h) (hρo o ho) fun e1 h1 => hheap _ (hlt o y e1 hy h1)
    · by_cases ho : o = slot <;> by_cases ho' : o' = slot
      · rw [ho, ho']
      · subst ho
        rw [setObj_get_other _ _ _ _ hle ho'] at hy'
        simp only [hρs, hρo o' ho'] at hb
        have := hlt o' y' e2 hy' h2
        omega
      · subst ho'
        rw [setObj_get_other _ _ _ _ hle ho] at hy
        simp only [hρs, hρo o ho] at hb
        have := hlt o y e1 hy h1
        omega
      · rw [setObj_get_other _ _ _ _ hle ho] at hy
        rw [setObj_get_other _ _ _ _ hle ho'] at hy'
        simp only [hρo o ho, hρo o' ho'] at hb
        exact hS.inj o o' y y' e1 e2 hy hy' h1 h2 hb
    · have := hS.okIn b j hb
      show b < (w.alloc ob).heap.size
      rw [World.size_alloc, hw]; omega
    · by_cases ho : o = slot
      · subst ho
        have := hS.okIn b j hb
        simp only [hρs] at hbo
        omega
      · rw [setObj_get_other _ _ _ _ hle ho] at hy
        simp only [hρo o ho] at hbo
        simp only [hρo o ho]
        exact hS.okRow b j hb o y e1 hy h1 hbo
  · refine ⟨g, hos, htape, hout, ?_, fun _ _ h => h, fun b hb _ => hheap b hb, fun b j hb => .inl hb, fun o y e1 hy h1 => ?_⟩
    · show C.w.heap.size ≤ (w.alloc ob).heap.size
      rw [World.size_alloc, hw]; omega
    · by_cases ho : o = slot
      · subst ho; left; simp only [hρs, Nat.le_refl]
      · rw [setObj_get_other _ _ _ _ hle ho] at hy
        exact .inr ⟨o, y, e1, hy, h1, by simp [hρo o ho]⟩

/-- A new block of cells, as a new object. -/
theorem made {C : Ctx} (hS : St C) (slot : Nat) (hslot : slot = C.S.length ∨ C.S[slot]? = some .free) (cs : Array Value) (t : TypeId) (x : AObj) (cap : Nat) (e : Nat) (he : x.ep? = some e)
    (w : World) (hw : w.heap = C.w.heap) (hos : w.os = C.w.os) (htape : w.tape = C.w.tape) (hout : w.output = C.w.output)
    (hobj : ∀ C' : Ctx, Grows C C' → C'.w = w.alloc (.cells cs t) → C'.ρ slot = ⟨C.w.heap.size, 0, cap⟩ → C'.ok = C.ok → Robj C' slot x) :
    ∃ ρ', St ⟨ρ', setObj C.S slot x, C.ok, w.alloc (.cells cs t)⟩ ∧ Ext C ⟨ρ', setObj C.S slot x, C.ok, w.alloc (.cells cs t)⟩ ∧ ρ' slot = ⟨C.w.heap.size, 0, cap⟩ :=
  madeO hS slot hslot (.cells cs t) x cap e he w hw hos htape hout hobj

/-- An object turns where it lies: the same block, other cells. -/
theorem turned {C : Ctx} (hS : St C) (o : Nat) (x x' : AObj) (e e' : Nat) (hx : C.S[o]? = some x) (he : x.ep? = some e) (he' : x'.ep? = some e') (cs : Array Value) (p : Pl) (hp : p.b = (C.ρ o).b)
    (hep : e' = e ∧ p = C.ρ o ∨ e < e')
    (hcells : ∃ old t, C.w.heap[p.b]? = some (.cells old t (0, 0)))
    (hrow : ∀ j, C.ok p.b j → (∃ sz ep k xs, x' = .row sz ep (some k) xs ∧ j < p.off + xs.length) ∧ ∀ old t, C.w.heap[p.b]? = some (.cells old t (0, 0)) → cs[j]? = old[j]?)
    (hobj : ∀ C' : Ctx, Grows C C' → C'.w = C.w.setRow p.b cs → C'.ρ o = p → C'.ok = C.ok → Robj C' o x') :
    ∃ ρ', St ⟨ρ', C.S.set o x', C.ok, C.w.setRow p.b cs⟩ ∧ Ext C ⟨ρ', C.S.set o x', C.ok, C.w.setRow p.b cs⟩ ∧ ρ' o = p := by
  have hlen : o < C.S.length := (List.getElem?_eq_some_iff.1 hx).1
  have hset : (C.S.set o x')[o]? = some x' := by rw [List.getElem?_set]; simp [hlen]
  have hsetO : ∀ q, q ≠ o → (C.S.set o x')[q]? = C.S[q]? := fun q hq => by rw [List.getElem?_set]; simp [Ne.symm hq]
  let ρ' : Nat → Pl := fun q => if q = o then p else C.ρ q
  have hρs : ρ' o = p := by simp [ρ']
  have hρo : ∀ q, q ≠ o → ρ' q = C.ρ q := fun q hq => by simp [ρ', hq]
  obtain ⟨old, t, hold⟩ := hcells
  have hother : ∀ b, b ≠ p.b → (C.w.setRow p.b cs).heap[b]? = C.w.heap[b]? := fun b hb => setRow_other _ _ _ _ hb
  have g : Grows C ⟨ρ', C.S.set o x', C.ok, C.w.setRow p.b cs⟩ := by
    refine ⟨⟨fun a y ⟨h1, h2⟩ => ⟨h1, ?_⟩, fun b es ⟨h1, c, h2⟩ => ⟨h1, c, ?_⟩⟩, fun q y e1 hy hye => ?_⟩
    · by_cases hb : a.block = p.b
      · have hk := (hrow a.off (hb ▸ h1)).2 old t hold
        have hsp : a.spot = none := by
          cases hs : a.spot with
          | none => rfl
          | some z => simp [World.cell?, hs] at h2; split at h2 <;> simp at h2
        obtain ⟨ab, ao, as⟩ := a
        simp only at hb hsp hk
        subst hb hsp
        show (C.w.setRow p.b cs).cell? ⟨p.b, ao, none⟩ = some y
        rw [cell_setRow_same _ _ _ _ _ _ _ hold, hk, ← h2, cell_of_row _ _ _ _ _ _ hold]
      · show (C.w.setRow p.b cs).cell? a = some y
        rw [← h2]; exact World.cell?_of_block (hother _ hb)
    · have hb : b ≠ p.b := fun hb => by rw [hb, hold] at h2; cases h2
      exact (hother b hb).trans h2
    · by_cases hq : q = o
      · subst hq
        rw [hx] at hy; cases hy
        rw [he] at hye; cases hye
        exact ⟨x', e', hset, he', hep.imp (fun h => ⟨h.1, hρs.trans h.2⟩) id⟩
      · exact ⟨y, e1, (hsetO q hq).trans hy, hye, .inl ⟨rfl, hρo q hq⟩⟩
  refine ⟨ρ', ?_, ?_, hρs⟩
  · refine ⟨fun q y hy => ?_, fun q q' y y' e1 e2 hy hy' h1 h2 hb => ?_, fun b j hb => ?_, fun b j hb q y e1 hy h1 hbo => ?_⟩
    · by_cases hq : q = o
      · subst hq
        simp only [hset] at hy
        cases hy
        exact hobj _ g rfl hρs rfl
      · simp only [hsetO q hq] at hy
        have hne : ∀ e1, y.ep? = some e1 → (C.ρ q).b ≠ p.b := fun e1 h1 hbb => hq (hS.inj q o y x e1 e hy hx h1 he (hbb.trans hp))
        exact (hS.obj q y hy).keep g (fun _ _ h => h) (hρo q hq) fun e1 h1 => hother _ (hne e1 h1)
    · by_cases hq : q = o <;> by_cases hq' : q' = o
      · rw [hq, hq']
      · subst hq
        simp only [hsetO q' hq'] at hy'
        simp only [hρs, hρo q' hq'] at hb
        exact hS.inj q q' x y' e e2 hx hy' he h2 (hp.symm.trans hb)
      · subst hq'
        simp only [hsetO q hq] at hy
        simp only [hρs, hρo q hq] at hb
        exact hS.inj q q' y x e1 e hy hx h1 he (hb.trans hp)
      · simp only [hsetO q hq] at hy
        simp only [hsetO q' hq'] at hy'
        simp only [hρo q hq, hρo q' hq'] at hb
        exact hS.inj q q' y y' e1 e2 hy hy' h1 h2 hb
    · have := hS.okIn b j hb
      show b < (C.w.setRow p.b cs).heap.size
      rw [size_setRow]; exact this
    · by_cases hq : q = o
      · subst hq
        simp only [hset] at hy
        cases hy
        simp only [hρs] at hbo
        subst hbo
        obtain ⟨⟨sz, ep, k, xs, h2, h3⟩, _⟩ := hrow j hb
        exact .inl ⟨sz, ep, k, xs, h2, by simp only [hρs]; exact h3⟩
      · simp only [hsetO q hq] at hy
        simp only [hρo q hq] at hbo
        simp only [hρo q hq]
        exact hS.okRow b j hb q y e1 hy h1 hbo
  · refine ⟨g, rfl, rfl, rfl, by simp, fun _ _ h => h, fun b hb hn => hother b (fun h => hn o x e hx he (by rw [h, hp])), fun b j hb => .inl hb, fun q y e1 hy h1 => ?_⟩
    by_cases hq : q = o
    · subst hq; exact .inr ⟨q, x, e, hx, he, by simp only [hρs, hp]⟩
    · simp only [hsetO q hq] at hy
      exact .inr ⟨q, y, e1, hy, h1, by simp only [hρo q hq]⟩

/-- A row moves to a new block. -/
theorem moved {C : Ctx} (hS : St C) (o : Nat) (x x' : AObj) (e e' : Nat) (hx : C.S[o]? = some x) (he : x.ep? = some e) (he' : x'.ep? = some e') (hep : e < e') (cs : Array Value) (t : TypeId) (cap : Nat)
    (w : World) (hw : w.heap = C.w.heap) (hos : w.os = C.w.os) (htape : w.tape = C.w.tape) (hout : w.output = C.w.output)
    (hobj : ∀ C' : Ctx, Grows C C' → C'.w = w.alloc (.cells cs t) → C'.ρ o = ⟨C.w.heap.size, 0, cap⟩ → C'.ok = C.ok → Robj C' o x') :
    ∃ ρ', St ⟨ρ', C.S.set o x', C.ok, w.alloc (.cells cs t)⟩ ∧ Ext C ⟨ρ', C.S.set o x', C.ok, w.alloc (.cells cs t)⟩ ∧ ρ' o = ⟨C.w.heap.size, 0, cap⟩ := by
  have hlen : o < C.S.length := (List.getElem?_eq_some_iff.1 hx).1
  have hset : (C.S.set o x')[o]? = some x' := by rw [List.getElem?_set]; simp [hlen]
  have hsetO : ∀ q, q ≠ o → (C.S.set o x')[q]? = C.S[q]? := fun q hq => by rw [List.getElem?_set]; simp [Ne.symm hq]
  let ρ' : Nat → Pl := fun q => if q = o then ⟨C.w.heap.size, 0, cap⟩ else C.ρ q
  have hρs : ρ' o = ⟨C.w.heap.size, 0, cap⟩ := by simp [ρ']
  have hρo : ∀ q, q ≠ o → ρ' q = C.ρ q := fun q hq => by simp [ρ', hq]
  have hlt : ∀ o y e', C.S[o]? = some y → y.ep? = some e' → (C.ρ o).b < C.w.heap.size := fun o y e' hy hye => (hS.obj o y hy).lt hye
  have hheap : ∀ b, b < C.w.heap.size → (w.alloc (.cells cs t)).heap[b]? = C.w.heap[b]? := fun b hb => by
    rw [Below.heap_alloc _ _ _ (by rw [hw]; exact hb), hw]
  have g : Grows C ⟨ρ', C.S.set o x', C.ok, w.alloc (.cells cs t)⟩ := by
    refine ⟨⟨fun a y ⟨h1, h2⟩ => ⟨h1, ?_⟩, fun b es ⟨h1, c, h2⟩ => ⟨h1, c, ?_⟩⟩, fun q y e1 hy hye => ?_⟩
    · rw [← h2]
      exact World.cell?_of_block (hheap a.block (hS.okIn _ _ h1))
    · rw [← h2]
      exact hheap b (hS.okIn _ _ h1)
    · by_cases hq : q = o
      · subst hq
        rw [hx] at hy; cases hy
        rw [he] at hye; cases hye
        exact ⟨x', e', hset, he', .inr hep⟩
      · exact ⟨y, e1, (hsetO q hq).trans hy, hye, .inl ⟨rfl, hρo q hq⟩⟩
  refine ⟨ρ', ?_, ?_, hρs⟩
  · refine ⟨fun q y hy => ?_, fun q q' y y' e1 e2 hy hy' h1 h2 hb => ?_, fun b j hb => ?_, fun b j hb q y e1 hy h1 hbo => ?_⟩
    · by_cases hq : q = o
      · subst hq
        simp only [hset] at hy
        cases hy
        exact hobj _ g rfl hρs rfl
      · simp only [hsetO q hq] at hy
        exact (hS.obj q y hy).keep g (fun _ _ h => h) (hρo q hq) fun e1 h1 => hheap _ (hlt q y e1 hy h1)
    · by_cases hq : q = o <;> by_cases hq' : q' = o
      · rw [hq, hq']
      · subst hq
        simp only [hsetO q' hq'] at hy'
        simp only [hρs, hρo q' hq'] at hb
        have := hlt q' y' e2 hy' h2
        omega
      · subst hq'
        simp only [hsetO q hq] at hy
        simp only [hρs, hρo q hq] at hb
        have := hlt q y e1 hy h1
        omega
      · simp only [hsetO q hq] at hy
        simp only [hsetO q' hq'] at hy'
        simp only [hρo q hq, hρo q' hq'] at hb
        exact hS.inj q q' y y' e1 e2 hy hy' h1 h2 hb
    · have := hS.okIn b j hb
      show b < (w.alloc (.cells cs t)).heap.size
      rw [World.size_alloc, hw]; omega
    · by_cases hq : q = o
      · subst hq
        have := hS.okIn b j hb
        simp only [hρs] at hbo
        omega
      · simp only [hsetO q hq] at hy
        simp only [hρo q hq] at hbo
        simp only [hρo q hq]
        exact hS.okRow b j hb q y e1 hy h1 hbo
  · refine ⟨g, hos, htape, hout, ?_, fun _ _ h => h, fun b hb _ => hheap b hb, fun b j hb => .inl hb, fun q y e1 hy h1 => ?_⟩
    · show C.w.heap.size ≤ (w.alloc (.cells cs t)).heap.size
      rw [World.size_alloc, hw]; omega
    · by_cases hq : q = o
      · subst hq; left; simp only [hρs, Nat.le_refl]
      · simp only [hsetO q hq] at hy
        exact .inr ⟨q, y, e1, hy, h1, by simp only [hρo q hq]⟩

/-- A map turns. -/
theorem turnedM {C : Ctx} (hS : St C) (o : Nat) (ks ks' : List Int) (vs vs' : List AVal) (hx : C.S[o]? = some (.mapo false ks vs)) (es' : Array MapEntry) (c' : Nat) (w' : World)
    (hw : w'.heap = C.w.heap.setIfInBounds (C.ρ o).b (.map es' c')) (hos : w'.os = C.w.os) (htape : w'.tape = C.w.tape) (hout : w'.output = C.w.output)
    (hbn : BornOk es' c') (hk : EntK es' ks') (hn : es'.size = vs'.length) (hv : ∀ C' : Ctx, Grows C C' → Rvs C' vs' (fun i y => EntV es' i y) 0) :
    St ⟨C.ρ, C.S.set o (.mapo false ks' vs'), C.ok, w'⟩ ∧ Ext C ⟨C.ρ, C.S.set o (.mapo false ks' vs'), C.ok, w'⟩ := by
  have hlen : o < C.S.length := (List.getElem?_eq_some_iff.1 hx).1
  have hset : (C.S.set o (.mapo false ks' vs'))[o]? = some (.mapo false ks' vs') := by rw [List.getElem?_set]; simp [hlen]
  have hsetO : ∀ q, q ≠ o → (C.S.set o (.mapo false ks' vs'))[q]? = C.S[q]? := fun q hq => by rw [List.getElem?_set]; simp [Ne.symm hq]
  have hlt : (C.ρ o).b < C.w.heap.size := (hS.obj o _ hx).lt (e := 0) rfl
  have hother : ∀ b, b ≠ (C.ρ o).b → w'.heap[b]? = C.w.heap[b]? := fun b hb => by
    rw [hw, Array.getElem?_setIfInBounds, if_neg (Ne.symm hb)]
  have hself : w'.heap[(C.ρ o).b]? = some (.map es' c') := by
    rw [hw, Array.getElem?_setIfInBounds, if_pos rfl, if_pos hlt]
  have hsize : w'.heap.size = C.w.heap.size := by rw [hw]; simp
  have hnok : ∀ j, ¬ C.ok (C.ρ o).b j := fun j hj => by
    rcases hS.okRow _ j hj o _ 0 hx rfl rfl with ⟨_, _, _, _, h, _⟩ | ⟨_, _, h⟩ <;> cases h
  have g : Grows C ⟨C.ρ, C.S.set o (.mapo false ks' vs'), C.ok, w'⟩ := by
    refine ⟨⟨fun a y ⟨h1, h2⟩ => ⟨h1, ?_⟩, fun b es ⟨h1, c, h2⟩ => ⟨h1, c, ?_⟩⟩, fun q y e1 hy hye => ?_⟩
    · have hb : a.block ≠ (C.ρ o).b := fun hb => hnok a.off (hb ▸ h1)
      show w'.cell? a = some y
      rw [← h2]; exact World.cell?_of_block (hother _ hb)
    · have hb : b ≠ (C.ρ o).b := fun hb => hnok 0 (hb ▸ h1)
      exact (hother b hb).trans h2
    · by_cases hq : q = o
      · subst hq
        rw [hx] at hy; cases hy
        exact ⟨_, 0, hset, rfl, .inl ⟨by simpa [AObj.ep?] using hye, rfl⟩⟩
      · exact ⟨y, e1, (hsetO q hq).trans hy, hye, .inl ⟨rfl, rfl⟩⟩
  have key : ∀ (q : Nat) (y : AObj) (e1 : Nat), (C.S.set o (.mapo false ks' vs'))[q]? = some y → y.ep? = some e1 → ∃ (y' : AObj) (e' : Nat), C.S[q]? = some y' ∧ y'.ep? = some e' := by
    intro q y e1 hy h1
    by_cases hq : q = o
    · subst hq; exact ⟨_, 0, hx, rfl⟩
    · exact ⟨y, e1, (hsetO q hq).symm.trans hy, h1⟩
  refine ⟨⟨fun q y hy => ?_, fun q q' y y' e1 e2 hy hy' h1 h2 hb => ?_, fun b j hb => ?_, fun b j hb q y e1 hy h1 hbo => ?_⟩,
    ⟨g, hos, htape, hout, by simp only [hsize]; exact Nat.le_refl _, fun _ _ h => h, fun b hb hn => hother b (fun h => hn o _ 0 hx rfl h.symm), fun b j hb => .inl hb, fun q y e1 hy h1 => ?_⟩⟩
  · by_cases hq : q = o
    · subst hq
      simp only [hset] at hy
      cases hy
      exact ⟨es', c', hself, hk, hn, hv _ g, (fun h => by cases h), hbn⟩
    · simp only [hsetO q hq] at hy
      have hne : ∀ e1, y.ep? = some e1 → (C.ρ q).b ≠ (C.ρ o).b := fun e1 h1 hbb => hq (hS.inj q o y _ e1 0 hy hx h1 rfl hbb)
      exact (hS.obj q y hy).keep g (fun _ _ h => h) rfl fun e1 h1 => hother _ (hne e1 h1)
  · obtain ⟨z, f1, k1, k2⟩ := key q y e1 hy h1
    obtain ⟨z', f2, k3, k4⟩ := key q' y' e2 hy' h2
    exact hS.inj q q' z z' f1 f2 k1 k3 k2 k4 hb
  · have := hS.okIn b j hb
    simp only [hsize]; exact this
  · by_cases hq : q = o
    · subst hq
      exact absurd hb (by simp only at hbo; subst hbo; exact hnok j)
    · simp only [hsetO q hq] at hy
      exact hS.okRow b j hb q y e1 hy h1 hbo
  · obtain ⟨z, f1, k1, k2⟩ := key q y e1 hy h1
    exact .inr ⟨q, z, f1, k1, k2, rfl⟩

end Go.Proofs.YtkkgimhbliocoaaGreat.Vm
/- Each operation of the abstract machine is the model's: the plain ones, loads, stores, what is built. -/
namespace Go.Proofs.YtkkgimhbliocoaaGreat.Vm
open Go Go.RowKit
set_option linter.unusedVariables false
set_option linter.unusedSimpArgs false
set_option linter.unnecessarySimpa false

def nextVal : Next → Option Value
  | .value u => some u
  | .skip => some undef
  | _ => none
def OpOk (P : Program) (o : Oper) (a : Act) (C : Ctx) (x : AVal) (S' : List AObj) : Prop :=
  ∃ nx u C', (execOp a.eval o).run P C.w = .ok nx C'.w ∧ nextVal nx = some u ∧ C'.S = S' ∧ St C' ∧ Ext C C' ∧ Rv C' x u
theorem OpOk.plain {P : Program} {o : Oper} {a : Act} {C : Ctx} {x : AVal} {u : Value} (hS : St C) (hr : (execOp a.eval o).run P C.w = .ok (.value u) C.w) (h : Rv C x u) : OpOk P o a C x C.S :=
  ⟨_, u, C, hr, rfl, rfl, hS, Ext.refl C, h⟩

/-! ## values that are the model's own -/
theorem toV1_rel {C : Ctx} {x : AVal} {y u : Value} (h : toV1 x = some y) (hr : Rv C x u) : u = y := by
  cases x <;> simp only [toV1, Option.some.injEq, reduceCtorEq] at h
  subst h
  simpa [Rv] using hr
theorem mapO_get {α β : Type} {f : α → Option β} : ∀ {xs : List α} {ys : List β}, mapO f xs = some ys → ys.length = xs.length ∧ ∀ (j : Nat) (x : α), xs[j]? = some x → ∃ y, f x = some y ∧ ys[j]? = some y
  | [], ys, h => by simp only [mapO, Option.some.injEq] at h; subst h; simp
  | x :: xs, ys, h => by
    simp only [mapO] at h
    split at h
    · rename_i y zs hy hz
      simp only [Option.some.injEq] at h
      subst h
      obtain ⟨h1, h2⟩ := mapO_get hz
      refine ⟨by simp [h1], fun j z hj => ?_⟩
      cases j with
      | zero => simp only [List.getElem?_cons_zero, Option.some.injEq] at hj; subst hj; exact ⟨y, hy, rfl⟩
      | succ j => simpa using h2 j z (by simpa using hj)
    · simp at h
theorem toVs_rel {C : Ctx} {xs : List AVal} {ys : List Value} (h : mapO toV1 xs = some ys) {f : Nat → Option Value} (hr : Rvs C xs (fun i y => f i = some y) 0) : ∀ j y, ys[j]? = some y → f j = some y := by
  intro j y hy
  obtain ⟨hl, hg⟩ := mapO_get h
  have hj : j < xs.length := by have := (List.getElem?_eq_some_iff.1 hy).1; omega
  obtain ⟨z, hz, hzy⟩ := hg j xs[j] (List.getElem?_eq_getElem hj)
  rw [hy, Option.some.injEq] at hzy
  subst hzy
  obtain ⟨u, hu, hru⟩ := Rvs_get hr j xs[j] (List.getElem?_eq_getElem hj)
  rw [toV1_rel hz hru] at hu
  simpa using hu
theorem toV_rel {C : Ctx} {x : AVal} {y u : Value} (h : toV x = some y) (hr : Rv C x u) : u = y := by
  cases x <;> simp only [toV, Option.some.injEq, reduceCtorEq, Option.map_eq_some_iff] at h
  · subst h; simpa [Rv] using hr
  · rename_i xs
    obtain ⟨ys, hy, rfl⟩ := h
    simp only [Rv] at hr
    obtain ⟨cs, rfl, hs, hc⟩ := hr
    have := toVs_rel hy hc
    congr 1
    apply Array.ext'
    apply List.ext_getElem?
    intro j
    obtain ⟨hl, _⟩ := mapO_get hy
    rcases Nat.lt_or_ge j ys.length with hj | hj
    · have := this j ys[j] (List.getElem?_eq_getElem hj)
      simp [this, List.getElem?_eq_getElem hj]
    · rw [List.getElem?_eq_none (by simp; omega), List.getElem?_eq_none (by simpa using hj)]

/-! ## parts -/
theorem run_isAgg {P : Program} {t : TypeId} {b : Bool} (h : aggT P t = some b) (w : World) : (isAgg t).run P w = .ok b w := by
  unfold aggT at h
  unfold isAgg
  cases hu : P.underlying t with
  | none => simp [hu] at h
  | some d =>
    rw [hu] at h
    simp only [Sem.run_bind, run_underlying hu, Result.andThen_ok]
    cases d <;> simp at h <;> subst h <;> rfl
theorem run_sizeOf {P : Program} {t : TypeId} {n : Nat} (h : szOf P t = some n) (w : World) : (sizeOf t).run P w = .ok n w := by
  simp only [szOf, Option.map_eq_some_iff] at h
  obtain ⟨i, hi, rfl⟩ := h
  simp [sizeOf, typeInfo, hi]
theorem partA_cases {P : Program} {t : TypeId} {xs : List AVal} {off : Nat} {x : AVal} (h : partA P t xs off = some x) :
    (∃ n, aggT P t = some true ∧ szOf P t = some n ∧ off + n ≤ xs.length ∧ x = .agg ((xs.drop off).take n)) ∨ (∃ n, aggT P t = some false ∧ szOf P t = some n ∧ xs[off]? = some x) := by
  unfold partA at h
  split at h
  · rename_i n h1 h2
    split at h
    · rename_i hle
      simp only [Option.some.injEq] at h
      exact .inl ⟨n, h1, h2, hle, h.symm⟩
    · simp at h
  · rename_i n h1 h2
    exact .inr ⟨n, h1, h2, h⟩
  · simp at h
theorem part_ok {P : Program} {C : Ctx} {t : TypeId} {xs : List AVal} {cs : Array Value} {off : Nat} {x : AVal} (h : partA P t xs off = some x) (hs : cs.size = xs.length)
    (hr : Rvs C xs (fun i y => cs[i]? = some y) 0) (w : World) : ∃ u, (part t cs off).run P w = .ok u w ∧ Rv C x u := by
  rcases partA_cases h with ⟨n, h1, h2, h3, rfl⟩ | ⟨n, h1, h2, h3⟩
  · refine ⟨.agg (cs.extract off (off + n)), ?_, ?_⟩
    · simp [part, run_isAgg h1, run_sizeOf h2]
    · simp only [Rv]
      refine ⟨_, rfl, by simp; omega, Rvs_mk fun j y hy => ?_⟩
      rw [List.getElem?_take] at hy
      split at hy
      · rename_i hj
        rw [List.getElem?_drop] at hy
        obtain ⟨z, hz, hrz⟩ := Rvs_get hr (off + j) y hy
        refine ⟨z, ?_, hrz⟩
        simp only [Nat.zero_add] at hz ⊢
        rw [Array.getElem?_extract, if_pos (by omega)]
        exact hz
      · simp at hy
  · obtain ⟨z, hz, hrz⟩ := Rvs_get hr off x h3
    simp only [Nat.zero_add] at hz
    refine ⟨z, ?_, hrz⟩
    simp [part, run_isAgg h1, hz]
theorem loadVar_ok {P : Program} {C : Ctx} {t : TypeId} {xs : List AVal} {a : Addr} {off : Nat} {x : AVal} (h : partA P t xs off = some x)
    (hr : Rvs C xs (fun i y => C.w.cell? (a.add i) = some y) 0) : ∃ u, (loadVar t (a.add off)).run P C.w = .ok u C.w ∧ Rv C x u := by
  rcases partA_cases h with ⟨n, h1, h2, h3, rfl⟩ | ⟨n, h1, h2, h3⟩
  · obtain ⟨ys, hl, hr1, hr2⟩ := Rvs_list (Rvs_take (Rvs_drop hr off) n)
    have hn : ys.length = n := by rw [hl]; simp; omega
    refine ⟨.agg ys.toArray, ?_, ?_⟩
    · have := run_loadCells_list (P := P) C.w (a.add off) ys (fun j v hj => by
        have := hr2 j v hj
        simp only [Nat.zero_add] at this
        rw [addr_add_add]; exact this)
      rw [hn] at this
      simp [loadVar, run_isAgg h1, run_sizeOf h2, this]
    · simp only [Rv]
      exact ⟨_, rfl, by simpa using hl, by simpa using hr1⟩
  · obtain ⟨z, hz, hrz⟩ := Rvs_get hr off x h3
    simp only [Nat.zero_add] at hz
    refine ⟨z, ?_, hrz⟩
    simp [loadVar, run_isAgg h1, hz]

/-! ## cells that are put -/
theorem putA_some {xs ys zs : List AVal} {off : Nat} (h : putA xs off ys = some zs) : off + ys.length ≤ xs.length ∧ ys.all AVal.one = true ∧ zs = xs.take off ++ ys ++ xs.drop (off + ys.length) := by
  unfold putA at h
  split at h
  · rename_i hc
    simp only [Bool.and_eq_true, decide_eq_true_eq] at hc
    simp only [Option.some.injEq] at h
    exact ⟨hc.1, hc.2, h.symm⟩
  · simp at h
theorem put_rel {C : Ctx} {xs ys zs : List AVal} {off : Nat} (h : putA xs off ys = some zs) {cs vs ds : List Value} (base : Nat)
    (hr : Rvs C xs (fun i y => cs[base + i]? = some y) 0) (hv : Rvs C ys (fun i y => vs[i]? = some y) 0) (hvl : vs.length = ys.length) (hcs : base + xs.length ≤ cs.length)
    (hds : ds = cs.take (base + off) ++ vs ++ cs.drop (base + off + vs.length)) : zs.length = xs.length ∧ ds.length = cs.length ∧ Rvs C zs (fun i y => ds[base + i]? = some y) 0 := by
  obtain ⟨h1, h2, rfl⟩ := putA_some h
  subst hds
  refine ⟨by simp; omega, by simp; omega, Rvs_mk fun j x hx => ?_⟩
  simp only [Nat.zero_add]
  have hlen1 : (xs.take off).length = off := by simp; omega
  rw [List.append_assoc, List.getElem?_append] at hx
  rw [List.append_assoc, List.getElem?_append]
  have hlc : (cs.take (base + off)).length = base + off := by simp; omega
  rw [hlen1] at hx
  rw [hlc]
  by_cases hj : j < off
  · rw [if_pos hj] at hx
    rw [if_pos (by omega)]
    rw [List.getElem?_take, if_pos hj] at hx
    obtain ⟨y, hy, hry⟩ := Rvs_get hr j x hx
    exact ⟨y, by rw [List.getElem?_take, if_pos (by omega)]; simpa using hy, hry⟩
  · rw [if_neg hj] at hx
    rw [if_neg (by omega)]
    rw [List.getElem?_append] at hx ⊢
    rw [show base + j - (base + off) = j - off by omega, hvl]
    by_cases hj2 : j - off < ys.length
    · rw [if_pos hj2] at hx ⊢
      obtain ⟨y, hy, hry⟩ := Rvs_get hv (j - off) x hx
      exact ⟨y, by simpa using hy, hry⟩
    · rw [if_neg hj2] at hx ⊢
      rw [List.getElem?_drop] at hx ⊢
      rw [show off + ys.length + (j - off - ys.length) = j by omega] at hx
      rw [show base + off + ys.length + (j - off - ys.length) = base + j by omega]
      obtain ⟨y, hy, hry⟩ := Rvs_get hr j x hx
      exact ⟨y, by simpa using hy, hry⟩
theorem put_one {xs ys zs : List AVal} {off : Nat} (h : putA xs off ys = some zs) (hx : xs.all AVal.one = true) : zs.all AVal.one = true := by
  obtain ⟨h1, h2, rfl⟩ := putA_some h
  rw [List.all_eq_true] at *
  intro z hz
  simp only [List.mem_append] at hz
  rcases hz with (hz | hz) | hz
  · exact hx z (List.mem_of_mem_take hz)
  · exact h2 z hz
  · exact hx z (List.mem_of_mem_drop hz)
theorem fold_set : ∀ (l : List Value) (i off : Nat) (cs : Array Value), off + i + l.length ≤ cs.size →
    ((l.zipIdx i).foldl (fun cs p => cs.setIfInBounds (off + p.2) p.1) cs).toList = cs.toList.take (off + i) ++ l ++ cs.toList.drop (off + i + l.length)
  | [], i, off, cs, _ => by simp
  | x :: l, i, off, cs, h => by
    simp only [List.length_cons] at h
    rw [List.zipIdx_cons, List.foldl_cons, fold_set l (i + 1) off _ (by simp; omega)]
    simp only [Array.toList_setIfInBounds, List.length_cons]
    apply List.ext_getElem?
    intro j
    have h1 : ((cs.toList.set (off + i) x).take (off + (i + 1))).length = off + i + 1 := by simp; omega
    have h2 : (cs.toList.take (off + i)).length = off + i := by simp; omega
    simp only [List.append_assoc]
    rw [List.getElem?_append (l₁ := (cs.toList.set (off + i) x).take (off + (i + 1))), List.getElem?_append (l₁ := cs.toList.take (off + i)), h1, h2]
    by_cases hj : j < off + i
    · rw [if_pos (by omega), if_pos hj, List.getElem?_take, if_pos (by omega), List.getElem?_take, if_pos hj, List.getElem?_set, if_neg (by omega)]
    · rw [if_neg hj]
      by_cases hj2 : j = off + i
      · subst hj2
        rw [if_pos (by omega), List.getElem?_take, if_pos (by omega), List.getElem?_set, if_pos rfl, if_pos (by simp; omega)]
        simp
      · rw [if_neg (by omega), List.getElem?_append (l₁ := l), List.getElem?_append (l₁ := x :: l)]
        simp only [List.length_cons]
        rw [show j - (off + i + 1) = j - (off + i) - 1 by omega]
        obtain ⟨m, hm⟩ : ∃ m, j - (off + i) = m + 1 := ⟨j - (off + i) - 1, by omega⟩
        rw [hm]
        simp only [Nat.add_sub_cancel, List.getElem?_cons_succ]
        by_cases hm2 : m < l.length
        · rw [if_pos hm2, if_pos (by omega)]
        · rw [if_neg hm2, if_neg (by omega), List.getElem?_drop, List.getElem?_drop, List.getElem?_set, if_neg (by omega)]
          congr 1
          omega
theorem fill_ok {C : Ctx} {place : Nat → Option (Nat × Nat)} : ∀ (ps : List (Nat × AVal)) (vs : List (Nat × Value)) (xs ys : List AVal) (cs : Array Value),
    fillA place xs ps = some ys → vs.map (·.1) = ps.map (·.1) → Rvs C (ps.map (·.2)) (fun i y => (vs.map (·.2))[i]? = some y) 0 → cs.size = xs.length → Rvs C xs (fun i y => cs[i]? = some y) 0 → xs.all AVal.one = true →
    ∃ ds, Instr.fill place cs vs = some ds ∧ ds.size = ys.length ∧ ys.length = xs.length ∧ Rvs C ys (fun i y => ds[i]? = some y) 0 ∧ ys.all AVal.one = true
  | [], vs, xs, ys, cs, h, hv, _, hs, hr, h1 => by
    simp only [List.map_nil, List.map_eq_nil_iff] at hv
    subst hv
    simp only [fillA, Option.some.injEq] at h
    subst h
    exact ⟨cs, rfl, hs, rfl, hr, h1⟩
  | (i, x) :: ps, vs, xs, ys, cs, h, hv, hr2, hs, hr, h1 => by
    cases vs with
    | nil => simp at hv
    | cons v vs =>
      obtain ⟨i', u⟩ := v
      simp only [List.map_cons, List.cons.injEq] at hv
      obtain ⟨rfl, hv⟩ := hv
      simp only [List.map_cons, Rvs] at hr2
      obtain ⟨⟨u', hu', hru⟩, hr3⟩ := hr2
      simp only [List.getElem?_cons_zero, Option.some.injEq] at hu'
      subst hu'
      simp only [fillA] at h
      split at h
      · rename_i off n hp
        split at h
        · rename_i hn
          split at h
          · rename_i zs hz
            obtain ⟨hb1, hb2, hb3⟩ := putA_some hz
            obtain ⟨hc1, hc2⟩ := cells_rel hru hb2
            have hfold := fold_set u.cells.toList 0 off cs (by simp only [Array.length_toList]; omega)
            simp only [Nat.add_zero, Array.length_toList] at hfold
            have hf2 : (u.cells.zipIdx.foldl (fun cs (c, j) => cs.setIfInBounds (off + j) c) cs).toList = cs.toList.take off ++ u.cells.toList ++ cs.toList.drop (off + u.cells.size) := by
              rw [← hfold, ← Array.foldl_toList]
              simp
            obtain ⟨hp1, hp2, hp3⟩ := put_rel (C := C) hz (cs := cs.toList) (vs := u.cells.toList) 0 (by simpa using hr) (by simpa using hc2) (by simpa using hc1) (by simp [hs]) rfl
            simp only [Nat.zero_add, Array.length_toList] at hp2 hp3
            obtain ⟨ds, h2, h3, h4, h5, h6⟩ := fill_ok (C := C) ps vs zs ys (u.cells.zipIdx.foldl (fun cs (c, j) => cs.setIfInBounds (off + j) c) cs) h hv
              (by refine Rvs_mk fun j y hy => ?_
                  obtain ⟨z, hz1, hz2⟩ := Rvs_get hr3 j y hy
                  refine ⟨z, ?_, hz2⟩
                  rw [show 0 + 1 + j = j + 1 by omega] at hz1
                  simpa using hz1)
              (by rw [← Array.length_toList, hf2, hp2, hp1, hs])
              (by refine Rvs_mk fun j y hy => ?_
                  obtain ⟨z, hz1, hz2⟩ := Rvs_get hp3 j y hy
                  refine ⟨z, ?_, hz2⟩
                  rw [← Array.getElem?_toList, hf2]
                  exact hz1)
              (put_one hz h1)
            refine ⟨ds, ?_, h3, h4.trans hp1, h5, h6⟩
            simp only [Instr.fill, hp]
            rw [if_neg (by simp only [Bool.or_eq_true, decide_eq_true_eq, not_or]; omega)]
            exact h2
          · simp at h
        · simp at h
      · simp at h

end Go.Proofs.YtkkgimhbliocoaaGreat.Vm
/- Each operation of the abstract machine is the model's: one theorem an operation. -/
namespace Go.Proofs.YtkkgimhbliocoaaGreat.Vm
open Go Go.RowKit
set_option linter.unusedVariables false
set_option linter.unusedSimpArgs false
set_option linter.unnecessarySimpa false

variable {P : Program} {o : Oper} {a : Act} {C : Ctx} {T : List AVal} {slot : Nat} {x : AVal} {e : Eff}

/-- An operation whose result is told by a computation that turns nothing. -/
theorem OpOk.of_run {s : Sem Value} {u : Value} {e : Eff} (hS : St C) (he : e = []) (hx : execOp a.eval o = (do pure (.value (← s)))) (hr : s.run P C.w = .ok u C.w) (h : Rv C x u) : OpOk P o a C x (applyEff C.S e) := by
  subst he
  exact OpOk.plain hS (by rw [hx]; simp [hr]) h
theorem map_eff {r : Option AVal} (h : r.map (fun r => ((r, []) : AVal × Eff)) = some (x, e)) : r = some x ∧ e = [] := by
  cases r with
  | none => simp at h
  | some y => simp only [Option.map_some, Option.some.injEq, Prod.mk.injEq] at h; exact ⟨by rw [h.1], h.2.symm⟩
theorem map_effV {r : Option Value} (h : r.map (fun r => ((.v r, []) : AVal × Eff)) = some (x, e)) : ∃ u, r = some u ∧ x = .v u ∧ e = [] := by
  cases r with
  | none => simp at h
  | some y => simp only [Option.map_some, Option.some.injEq, Prod.mk.injEq] at h; exact ⟨y, rfl, h.1.symm, h.2.symm⟩
theorem applyEff_one (S : List AObj) (q : Nat) (y : AObj) : applyEff S [(q, y)] = setObj S q y := rfl
theorem setObj_lt {S : List AObj} {q : Nat} {x y : AObj} (h : S[q]? = some x) : setObj S q y = S.set q y := by
  unfold setObj; rw [if_pos (List.getElem?_eq_some_iff.1 h).1]
theorem Rv_v {y u : Value} : Rv C (.v y) u ↔ u = y := by simp [Rv]
theorem zeroA_some {t : TypeId} {zs : List AVal} (h : zeroA P t = some zs) : ∃ i z, P.info? t = some i ∧ i.zero = some z ∧ zs = z.cells.toList.map .v := by
  unfold zeroA at h
  split at h
  · rename_i i hi
    split at h
    · rename_i z hz
      simp only [Option.some.injEq] at h
      exact ⟨i, z, hi, hz, h.symm⟩
    · simp at h
  · simp at h
theorem zero_rel (C : Ctx) (z : Value) : Rvs C (z.cells.toList.map .v) (fun i y => z.cells[i]? = some y) 0 :=
  Rvs_mk fun j x hx => by
    simp only [List.getElem?_map, Option.map_eq_some_iff] at hx
    obtain ⟨y, hy, rfl⟩ := hx
    exact ⟨y, by simpa using hy, by simp [Rv]⟩
theorem run_zero {t : TypeId} {i : TypeInfo} {z : Value} (hi : P.info? t = some i) (hz : i.zero = some z) (w : World) : (zeroValue t).run P w = .ok z w := by
  simp [zeroValue, typeInfo, hi, hz]

/-! ## variables in memory -/
theorem boxed (hS : St C) (hslot : slot = C.S.length ∨ C.S[slot]? = some .free) (t : TypeId) (xs : List AVal) (cs : Array Value) (hs : cs.size = xs.length) (hr : Rvs C xs (fun i y => cs[i]? = some y) 0)
    (h1 : xs.all AVal.one = true) (hrun : (execOp a.eval o).run P C.w = .ok (.value (.pointer (some ⟨C.w.heap.size, 0, none⟩))) (C.w.alloc (.cells cs t))) :
    OpOk P o a C (.ptr slot 0 0) (applyEff C.S [(slot, .box xs)]) := by
  have hle : slot ≤ C.S.length := by
    rcases hslot with rfl | h
    · exact Nat.le_refl _
    · exact Nat.le_of_lt (List.getElem?_eq_some_iff.1 h).1
  obtain ⟨ρ', h2, h3, h4⟩ := made hS slot hslot cs t (.box xs) xs.length 0 rfl C.w rfl rfl rfl rfl (fun C' g hw hρ hok' => by
    refine ⟨cs, t, ?_, hs, by rw [hρ]; exact ⟨rfl, rfl⟩, Rvs_mono g _ _ _ _ (fun _ _ h => h) hr, h1⟩
    rw [hρ, hw]; exact heap_alloc_new C.w _)
  refine ⟨_, _, _, hrun, rfl, rfl, h2, h3, ?_⟩
  simp only [Rv]
  refine ⟨_, rfl, .box xs, 0, setObj_get_same _ _ _ hle, rfl, Nat.le_refl _, fun _ => ?_⟩
  simp [h4]
theorem op_alloc {t : TypeId} (hS : St C) (hslot : slot = C.S.length ∨ C.S[slot]? = some .free) (ho : o.op = .alloc t)
    (h : evalOp P T C.S slot o = some (x, e)) : OpOk P o a C x (applyEff C.S e) := by
  simp only [evalOp, ho] at h
  split at h
  · rename_i zs hz
    split at h
    · rename_i h1
      simp only [Option.some.injEq, Prod.mk.injEq] at h
      obtain ⟨rfl, rfl⟩ := h
      obtain ⟨i, z, hi, hzz, rfl⟩ := zeroA_some hz
      refine boxed hS hslot t _ z.cells (by simp) (zero_rel C z) h1 ?_
      simp [execOp, ho, Instr.alloc, run_zero hi hzz, newVar, newRow]
    · simp at h
  · simp at h
theorem op_box {t : TypeId} {y : Operand} (hS : St C) (hT : RT C T a.tmps) (hslot : slot = C.S.length ∨ C.S[slot]? = some .free) (ho : o.op = .box t y)
    (h : evalOp P T C.S slot o = some (x, e)) : OpOk P o a C x (applyEff C.S e) := by
  simp only [evalOp, ho] at h
  split at h
  · rename_i h1
    simp only [Option.some.injEq, Prod.mk.injEq] at h
    obtain ⟨rfl, rfl⟩ := h
    obtain ⟨h2, h3⟩ := cells_rel (opd_rel hT y) h1
    refine boxed hS hslot t _ (a.eval y).cells h2 h3 h1 ?_
    simp [execOp, ho, Instr.box, newVar, newRow]
  · simp at h

/-! ## loads, stores -/
theorem box_cells {q : Nat} {xs : List AVal} (hS : St C) (h : C.S[q]? = some (.box xs)) : Rvs C xs (fun i y => C.w.cell? (Addr.add ⟨(C.ρ q).b, (C.ρ q).off, none⟩ i) = some y) 0 := by
  obtain ⟨cs, t, h1, h2, ⟨h3, _⟩, h4, h5⟩ := hS.obj q _ h
  refine Rvs_mk fun j x hx => ?_
  obtain ⟨y, hy, hr⟩ := Rvs_get h4 j x hx
  refine ⟨y, ?_, hr⟩
  simp only [Nat.zero_add] at hy ⊢
  rw [addr_add, h3, Nat.zero_add, cell_of_row _ _ _ _ _ _ h1]; exact hy
theorem row_cells {q sz ep : Nat} {fr : Option Nat} {xs : List AVal} (hS : St C) (h : C.S[q]? = some (.row sz ep fr xs)) : Rvs C xs (fun i y => C.w.cell? (Addr.add ⟨(C.ρ q).b, (C.ρ q).off, none⟩ i) = some y) 0 := by
  obtain ⟨cs, t, h1, h2, h3, h4, h5, h6, _⟩ := hS.obj q _ h
  refine Rvs_mk fun j x hx => ?_
  obtain ⟨y, hy, hr⟩ := Rvs_get h5 j x hx
  refine ⟨y, ?_, hr⟩
  simp only [Nat.zero_add] at hy ⊢
  rw [addr_add, cell_of_row _ _ _ _ _ _ h1]; exact hy
theorem list_cells {xs : List PVal} {ad : Addr} (h : Rps (sees C.ok C.w) xs (fun i y => sees C.ok C.w (ad.add i) y) 0) : Rvs C (upL xs) (fun i y => C.w.cell? (ad.add i) = some y) 0 :=
  (Rvs_up xs _ 0).2 (Rps_mono (Look.Le.refl _) xs _ _ 0 (fun i y h => h.2) h)
theorem load_ok {t : TypeId} {y : AVal} {u : Value} (hS : St C) (h : loadA P C.S t y = some x) (hr : Rv C y u) : ∃ v, (Instr.loadAt t u).run P C.w = .ok v C.w ∧ Rv C x v := by
  unfold loadA at h
  split at h
  · rename_i q ep off
    simp only [Rv] at hr
    obtain ⟨ad, rfl, obj, e0, h1, h2, h3, h4⟩ := hr
    split at h
    · rename_i xs hq
      split at h
      · rename_i he
        subst he
        rw [hq] at h1; cases h1
        simp only [AObj.ep?, Option.some.injEq] at h2
        subst h2
        rw [h4 rfl]
        obtain ⟨v, hv, hrv⟩ := loadVar_ok h (box_cells hS hq)
        rw [addr_add] at hv
        exact ⟨v, by simpa [Instr.loadAt, Instr.sureAddr] using hv, hrv⟩
      · simp at h
    · rename_i sz e1 fr xs hq
      split at h
      · rename_i he
        subst he
        rw [hq] at h1; cases h1
        simp only [AObj.ep?, Option.some.injEq] at h2
        subst h2
        rw [h4 rfl]
        obtain ⟨v, hv, hrv⟩ := loadVar_ok h (row_cells hS hq)
        rw [addr_add] at hv
        exact ⟨v, by simpa [Instr.loadAt, Instr.sureAddr] using hv, hrv⟩
      · simp at h
    · simp at h
  · rename_i xs
    simp only [Rv] at hr
    obtain ⟨ad, rfl, hc⟩ := hr
    obtain ⟨v, hv, hrv⟩ := loadVar_ok h (list_cells hc)
    have e1 : ad.add 0 = ad := by simp [Addr.add]
    rw [e1] at hv
    exact ⟨v, by simpa [Instr.loadAt, Instr.sureAddr] using hv, hrv⟩
  · simp at h
theorem op_load {t : TypeId} {y : Operand} (hS : St C) (hT : RT C T a.tmps) (ho : o.op = .load t y)
    (h : evalOp P T C.S slot o = some (x, e)) : OpOk P o a C x (applyEff C.S e) := by
  simp only [evalOp, ho] at h
  obtain ⟨h1, h2⟩ := map_eff h
  obtain ⟨v, hv, hr⟩ := load_ok hS h1 (opd_rel hT y)
  exact OpOk.of_run hS h2 (by simp [execOp, ho]) hv hr
theorem store_ok {t : TypeId} {y z : AVal} {u v : Value} (hS : St C) (h : storeA P C.S t y z = some e) (hr : Rv C y u) (hz : Rv C z v) :
    ∃ C', (Instr.storeAt t u v).run P C.w = .ok () C'.w ∧ C'.S = applyEff C.S e ∧ St C' ∧ Ext C C' := by
  unfold storeA at h
  split at h
  · rename_i q ep off
    simp only [Rv] at hr
    obtain ⟨ad, rfl, obj, e0, h1, h2, h3, h4⟩ := hr
    split at h
    · rename_i hsz
      split at h
      · rename_i xs hq
        split at h
        · rename_i he
          subst he
          rw [hq] at h1; cases h1
          simp only [AObj.ep?, Option.some.injEq] at h2
          subst h2
          rw [h4 rfl]
          simp only [Option.map_eq_some_iff] at h
          obtain ⟨ys, hp, rfl⟩ := h
          obtain ⟨hb1, hb2, hb3⟩ := putA_some hp
          obtain ⟨hc1, hc2⟩ := cells_rel hz hb2
          have hro := hS.obj q _ hq
          obtain ⟨cs, t0, hh, hs, ⟨hof, hcp⟩, hrs, hone⟩ := hro
          obtain ⟨hp1, hp2, hp3⟩ := put_rel (C := C) hp (cs := cs.toList) (vs := v.cells.toList) 0 (by simpa using hrs) (by simpa using hc2) (by simpa using hc1) (by simp [hs]) rfl
          have hv1 : ∀ z ∈ v.cells.toList, z.oneCell' = true := ones_of (C := C) (by simpa using hc1) (by simpa using hc2) hb2
          have hst := run_storeCells_at P (C.ρ q).b off t0 v.cells.toList 0 cs C.w hh (by simp; omega) hv1
          obtain ⟨ρ', k1, k2, k3⟩ := turned hS q (.box xs) (.box ys) 0 0 hq rfl rfl (cs.toList.take (0 + off) ++ v.cells.toList ++ cs.toList.drop (0 + off + v.cells.toList.length)).toArray (C.ρ q) rfl (.inl ⟨rfl, rfl⟩) ⟨cs, t0, hh⟩
            (fun j hj => by rcases hS.okRow _ j hj q _ 0 hq rfl rfl with ⟨_, _, _, _, hx, _⟩ | ⟨_, _, hx⟩ <;> cases hx)
            (fun C' g hw hρ hok' => by
              refine ⟨_, t0, by rw [hρ, hw]; exact setRow_heap _ _ _ _ _ _ hh, ?_, by rw [hρ, hp1]; exact ⟨hof, hcp⟩, ?_, put_one hp hone⟩
              · rw [List.size_toArray, hp2, Array.length_toList, hs, hp1]
              · refine Rvs_mono g _ _ _ _ (fun i y hy => ?_) hp3
                simpa using hy)
          refine ⟨_, ?_, ?_, k1, k2⟩
          · have hsize : (sizeOf t).run P C.w = .ok z.cells.length C.w := run_sizeOf hsz C.w
            simp only [Instr.storeAt, Instr.sureAddr, storeVar, Sem.run_bind, Sem.run_pure, Result.andThen_ok, hsize, hc1, ne_eq, not_true_eq_false, if_false, hof, Nat.zero_add, Sem.run_ite]
            simp only [Nat.zero_add, Nat.add_zero, hof] at hst ⊢
            rw [hst]
          · rw [applyEff_one, setObj_lt hq]
        · simp at h
      · rename_i sz e1 fr xs hq
        split at h
        · rename_i he
          obtain ⟨he, hfr⟩ := he
          subst he hfr
          rw [hq] at h1; cases h1
          simp only [AObj.ep?, Option.some.injEq] at h2
          subst h2
          rw [h4 rfl]
          simp only [Option.map_eq_some_iff] at h
          obtain ⟨ys, hp, rfl⟩ := h
          obtain ⟨hb1, hb2, hb3⟩ := putA_some hp
          obtain ⟨hc1, hc2⟩ := cells_rel hz hb2
          have hro := hS.obj q _ hq
          obtain ⟨cs, t0, hh, hs1, hs2, hs3, hrs, hone, _⟩ := hro
          obtain ⟨hp1, hp2, hp3⟩ := put_rel (C := C) hp (cs := cs.toList) (vs := v.cells.toList) (C.ρ q).off (by simpa using hrs) (by simpa using hc2) (by simpa using hc1) (by simp; omega) rfl
          have hv1 : ∀ z ∈ v.cells.toList, z.oneCell' = true := ones_of (C := C) (by simpa using hc1) (by simpa using hc2) hb2
          have hst := run_storeCells_at P (C.ρ q).b ((C.ρ q).off + off) t0 v.cells.toList 0 cs C.w hh (by simp; omega) hv1
          obtain ⟨ρ', k1, k2, k3⟩ := turned hS q (.row sz e1 none xs) (.row sz e1 none ys) e1 e1 hq rfl rfl (cs.toList.take ((C.ρ q).off + off) ++ v.cells.toList ++ cs.toList.drop ((C.ρ q).off + off + v.cells.toList.length)).toArray (C.ρ q) rfl (.inl ⟨rfl, rfl⟩) ⟨cs, t0, hh⟩
            (fun j hj => by rcases hS.okRow _ j hj q _ e1 hq rfl rfl with ⟨_, _, _, _, hx, _⟩ | ⟨_, _, hx⟩ <;> cases hx)
            (fun C' g hw hρ hok' => by
              refine ⟨_, t0, by rw [hρ, hw]; exact setRow_heap _ _ _ _ _ _ hh, ?_, by rw [hρ, hp1]; exact hs2, hs3, ?_, put_one hp hone, fun k hk => by cases hk⟩
              · rw [List.size_toArray, hp2, Array.length_toList, hρ]; exact hs1
              · rw [hρ]
                refine Rvs_mono g _ _ _ _ (fun i y hy => ?_) hp3
                simpa using hy)
          refine ⟨_, ?_, ?_, k1, k2⟩
          · have hsize : (sizeOf t).run P C.w = .ok z.cells.length C.w := run_sizeOf hsz C.w
            simp only [Instr.storeAt, Instr.sureAddr, storeVar, Sem.run_bind, Sem.run_pure, Result.andThen_ok, hsize, hc1, ne_eq, not_true_eq_false, if_false, Sem.run_ite]
            simp only [Nat.add_zero] at hst ⊢
            rw [hst]
          · rw [applyEff_one, setObj_lt hq]
        · simp at h
      · simp at h
    · simp at h
  · simp at h
theorem op_store {t : TypeId} {y z : Operand} (hS : St C) (hT : RT C T a.tmps) (ho : o.op = .store t y z)
    (h : evalOp P T C.S slot o = some (x, e)) : OpOk P o a C x (applyEff C.S e) := by
  simp only [evalOp, ho, Option.map_eq_some_iff, Prod.mk.injEq] at h
  obtain ⟨e', h1, rfl, rfl⟩ := h
  obtain ⟨C', k1, k2, k3, k4⟩ := store_ok hS h1 (opd_rel hT y) (opd_rel hT z)
  refine ⟨.skip, undef, C', ?_, rfl, k2, k3, k4, by simp [Rv]⟩
  simp [execOp, ho, k1]

end Go.Proofs.YtkkgimhbliocoaaGreat.Vm
/- Each operation of the abstract machine is the model's: what looks at no memory, structs, slices, indexes. -/
namespace Go.Proofs.YtkkgimhbliocoaaGreat.Vm
open Go Go.RowKit
set_option linter.unusedVariables false
set_option linter.unusedSimpArgs false
set_option linter.unnecessarySimpa false

variable {P : Program} {o : Oper} {a : Act} {C : Ctx} {T : List AVal} {slot : Nat} {x : AVal} {e : Eff}

theorem op_move {y : Operand} (hS : St C) (hT : RT C T a.tmps) (ho : o.op = .move y ∨ o.op = .assign y)
    (h : evalOp P T C.S slot o = some (x, e)) : OpOk P o a C x (applyEff C.S e) := by
  rcases ho with ho | ho <;>
  · simp only [evalOp, ho, Option.some.injEq, Prod.mk.injEq] at h
    obtain ⟨rfl, rfl⟩ := h
    exact OpOk.plain hS (by simp [execOp, ho]) (opd_rel hT y)
theorem op_pick {c y z : Operand} (hS : St C) (hT : RT C T a.tmps) (ho : o.op = .pick c y z)
    (h : evalOp P T C.S slot o = some (x, e)) : OpOk P o a C x (applyEff C.S e) := by
  simp only [evalOp, ho] at h
  split at h
  · rename_i t hc
    have hr := opd_rel hT c
    rw [hc, Rv_v] at hr
    simp only [Option.some.injEq, Prod.mk.injEq] at h
    obtain ⟨rfl, rfl⟩ := h
    refine OpOk.plain (u := if t then a.eval y else a.eval z) hS (by cases t <;> simp [execOp, ho, hr, asBool]) ?_
    cases t
    · exact opd_rel hT z
    · exact opd_rel hT y
  · simp at h
theorem scalar_part {P : Program} {t : TypeId} {d : TypeDesc} {inf : TypeInfo} (hi : P.info? t = some inf) (hu : P.underlying t = some d) (hd : (∃ k, d = .int k) ∨ d = .bool) {cs : Array Value} {i : Nat} {v : Value} (h : cs[i]? = some v) (w : World) : (part t cs i).run P w = .ok v w := by
  have ha : aggT P t = some false := by
    unfold aggT
    rw [hu]
    rcases hd with ⟨k, rfl⟩ | rfl <;> rfl
  simp [part, run_isAgg ha, h]
theorem eqCells_ok {P : Program} {C : Ctx} {cs ds : Array Value} (n : Nat) (w : World) : ∀ (fs : List Field) (i : Nat) (xs ys : List AVal) (r : Bool), eqCells P fs i xs ys = some r → Rvs C xs (fun i y => cs[i]? = some y) i → Rvs C ys (fun i y => ds[i]? = some y) i →
    (Op.eqFields (n + 1) cs ds fs).run P w = .ok r w
  | [], i, xs, ys, r, h, hx, hy => by
    unfold eqCells at h
    split at h
    · simp only [Option.some.injEq] at h
      subst h
      simp [Op.eqFields]
    · simp_all
    · simp_all
    · cases h
  | f :: fs, i, xs, ys, r, h, hx, hy => by
    unfold eqCells at h
    split at h
    · simp_all
    · rename_i k a xs' k' b ys' heq
      cases heq
      split at h
      · rename_i inf hinf
        split at h
        · rename_i k2 hu
          split at h
          · rename_i hc
            obtain ⟨ho, rfl, hn⟩ := hc
            simp only [Option.map_eq_some_iff] at h
            obtain ⟨r', hr', rfl⟩ := h
            simp only [Rvs, Rv] at hx hy
            obtain ⟨⟨u, hu1, rfl⟩, hx2⟩ := hx
            obtain ⟨⟨v, hv1, rfl⟩, hy2⟩ := hy
            have hn' : f.name ≠ "_" := by simpa using hn
            have ih := eqCells_ok n w fs _ xs' ys' r' hr' hx2 hy2
            rw [Op.eqFields]
            simp only [if_pos hn', Sem.run_bind, ho, scalar_part hinf hu (.inl ⟨_, rfl⟩) hu1 w, scalar_part hinf hu (.inl ⟨_, rfl⟩) hv1 w, Result.andThen_ok, run_equalIn_int w n f.type k k2 a b hu]
            cases hab : (a == b)
            · simp
            · simpa using ih
          · cases h
        · cases h
      · cases h
    · rename_i a xs' b ys' heq
      cases heq
      split at h
      · rename_i inf hinf
        split at h
        · rename_i hu
          split at h
          · rename_i hc
            obtain ⟨ho, hn⟩ := hc
            simp only [Option.map_eq_some_iff] at h
            obtain ⟨r', hr', rfl⟩ := h
            simp only [Rvs, Rv] at hx hy
            obtain ⟨⟨u, hu1, rfl⟩, hx2⟩ := hx
            obtain ⟨⟨v, hv1, rfl⟩, hy2⟩ := hy
            have hn' : f.name ≠ "_" := by simpa using hn
            have ih := eqCells_ok n w fs _ xs' ys' r' hr' hx2 hy2
            rw [Op.eqFields]
            simp only [if_pos hn', Sem.run_bind, ho, scalar_part hinf hu (.inr rfl) hu1 w, scalar_part hinf hu (.inr rfl) hv1 w, Result.andThen_ok, run_equalIn_bool w n f.type a b hu]
            cases hab : (a == b)
            · simp
            · simpa using ih
          · cases h
        · cases h
      · cases h
    · cases h
theorem equalIn_nil {P : Program} {t e : TypeId} (hu : P.underlying t = some (.slice e)) (d : Nat) (a : Addr) (n c : Nat) (w : World) : (Op.equalIn (d + 1) t (.slice (some a) n c) (.slice none 0 0)).run P w = .ok false w := by
  simp [Op.equalIn, Go.underlying, hu]
theorem nilSlice_ok {P : Program} {op : BinOp} {t : TypeId} {y z : Operand} {a : Addr} {n c : Nat} {x : AVal}
    (h : (match P.underlying t, op with
      | some (.slice _), .eql => some (AVal.v (.bool false))
      | some (.slice _), .neq => some (AVal.v (.bool true))
      | _, _ => none) = some x) (w : World) :
    ∃ r, (do eqGuard op t y z (.slice (some a) n c) (.slice none 0 0); binOp op t (.slice (some a) n c) (.slice none 0 0) : Sem Value).run P w = .ok (.bool r) w ∧ x = .v (.bool r) := by
  split at h
  · rename_i e hu
    simp only [Option.some.injEq] at h
    have key : (Op.equal t (.slice (some a) n c) (.slice none 0 0)).run P w = .ok false w := by
      unfold Op.equal Op.maxDepth
      exact equalIn_nil hu 9999 a n c w
    exact ⟨false, by simp [eqGuard, binOp, key], h.symm⟩
  · rename_i e hu
    simp only [Option.some.injEq] at h
    have key : (Op.equal t (.slice (some a) n c) (.slice none 0 0)).run P w = .ok false w := by
      unfold Op.equal Op.maxDepth
      exact equalIn_nil hu 9999 a n c w
    exact ⟨true, by simp [eqGuard, binOp, key], h.symm⟩
  · cases h
theorem equalIn_nilP {P : Program} {t e : TypeId} (hu : P.underlying t = some (.pointer e)) (d : Nat) (a : Addr) (w : World) : (Op.equalIn (d + 1) t (.pointer (some a)) (.pointer none)).run P w = .ok false w := by
  simp [Op.equalIn, Go.underlying, hu]
theorem nilPtr_ok {P : Program} {op : BinOp} {t : TypeId} {y z : Operand} {a : Addr} {x : AVal}
    (h : (match P.underlying t, op with
      | some (.pointer _), .eql => some (AVal.v (.bool false))
      | some (.pointer _), .neq => some (AVal.v (.bool true))
      | _, _ => none) = some x) (w : World) :
    ∃ r, (do eqGuard op t y z (.pointer (some a)) (.pointer none); binOp op t (.pointer (some a)) (.pointer none) : Sem Value).run P w = .ok (.bool r) w ∧ x = .v (.bool r) := by
  split at h
  · rename_i e hu
    simp only [Option.some.injEq] at h
    have key : (Op.equal t (.pointer (some a)) (.pointer none)).run P w = .ok false w := by
      unfold Op.equal Op.maxDepth
      exact equalIn_nilP hu 9999 a w
    exact ⟨false, by simp [eqGuard, binOp, key], h.symm⟩
  · rename_i e hu
    simp only [Option.some.injEq] at h
    have key : (Op.equal t (.pointer (some a)) (.pointer none)).run P w = .ok false w := by
      unfold Op.equal Op.maxDepth
      exact equalIn_nilP hu 9999 a w
    exact ⟨true, by simp [eqGuard, binOp, key], h.symm⟩
  · cases h
theorem eqAgg_ok {P : Program} {C : Ctx} {op : BinOp} {t : TypeId} {y z : Operand} {a b x : AVal} {u v : Value} (h : eqAgg P op t a b = some x) (ha : Rv C a u) (hb : Rv C b v) (w : World) :
    ∃ r, (do eqGuard op t y z u v; binOp op t u v : Sem Value).run P w = .ok (.bool r) w ∧ x = .v (.bool r) := by
  unfold eqAgg at h
  split at h
  · rename_i xs ys
    simp only [Rv] at ha hb
    obtain ⟨cs, rfl, h1, h2⟩ := ha
    obtain ⟨ds, rfl, h3, h4⟩ := hb
    split at h
    · rename_i fs hu
      split at h
      · rename_i hc
        have hf : P.fieldsOf t = fs := by simp [Program.fieldsOf, hu]
        have key : ∀ r, eqCells P fs.toList 0 xs ys = some r → (Op.equal t (.agg cs) (.agg ds)).run P w = .ok r w := by
          intro r hr
          unfold Op.equal Op.maxDepth
          rw [run_equalIn_struct (P := P) w 9999 t cs ds (by rw [hf]; exact hu) hc.1, hf]
          exact eqCells_ok 9998 w _ 0 xs ys r hr h2 h4
        split at h
        · rename_i r hr
          simp only [Option.some.injEq] at h
          exact ⟨r, by simp [eqGuard, hc.2, binOp, key r hr], h.symm⟩
        · rename_i r hr
          simp only [Option.some.injEq] at h
          exact ⟨!r, by simp [eqGuard, hc.2, binOp, key r hr], h.symm⟩
        · cases h
      · cases h
    · cases h
  · rename_i n p ps
    simp only [Rv] at ha hb
    obtain ⟨A, c, rfl, _, h3⟩ := ha
    subst hb
    simp only [Rps] at h3
    obtain ⟨⟨_, ⟨a', hA, _⟩, _⟩, _⟩ := h3
    subst hA
    exact nilSlice_ok h w
  · simp only [Rv] at ha hb
    obtain ⟨a', c, rfl, _⟩ := ha
    subst hb
    exact nilSlice_ok h w
  · simp only [Rv] at ha hb
    obtain ⟨a', rfl, _⟩ := ha
    subst hb
    exact nilPtr_ok h w
  · simp only [Rv] at ha hb
    obtain ⟨a', rfl, _⟩ := ha
    subst hb
    exact nilPtr_ok h w
  · cases h
theorem op_bin {op : BinOp} {t ty : TypeId} {y z : Operand} (hS : St C) (hT : RT C T a.tmps) (ho : o.op = .binOp op t y z ty)
    (h : evalOp P T C.S slot o = some (x, e)) : OpOk P o a C x (applyEff C.S e) := by
  simp only [evalOp, ho] at h
  split at h
  · rename_i r hr
    simp only [Option.some.injEq, Prod.mk.injEq] at h
    obtain ⟨rfl, rfl⟩ := h
    obtain ⟨b, h1, h2⟩ := eqAgg_ok (y := y) (z := z) hr (opd_rel hT y) (opd_rel hT z) C.w
    exact OpOk.of_run hS rfl (s := do eqGuard op t y z (a.eval y) (a.eval z); binOp op t (a.eval y) (a.eval z)) (by simp [execOp, ho]) h1 (by rw [h2]; simp [Rv])
  · obtain ⟨h1, h2⟩ := map_eff h
    unfold binA at h1
    split at h1
    · rename_i u w hu hw
      simp only [Option.map_eq_some_iff] at h1
      obtain ⟨r, hr, rfl⟩ := h1
      have e1 := toV_rel hu (opd_rel hT y)
      have e2 := toV_rel hw (opd_rel hT z)
      exact OpOk.of_run hS h2 (s := do eqGuard op t y z (a.eval y) (a.eval z); binOp op t (a.eval y) (a.eval z)) (by simp [execOp, ho]) (by rw [e1, e2]; exact pureOf_run P _ _ hr _) (by simp [Rv])
    · simp at h1
theorem op_un {op : UnOp} {t : TypeId} {y : Operand} (hS : St C) (hT : RT C T a.tmps) (ho : o.op = .unOp op t y)
    (h : evalOp P T C.S slot o = some (x, e)) : OpOk P o a C x (applyEff C.S e) := by
  simp only [evalOp, ho] at h
  split at h
  · rename_i u hu
    obtain ⟨r, hr, rfl, rfl⟩ := map_effV h
    have e1 := opd_rel hT y
    rw [hu, Rv_v] at e1
    exact OpOk.of_run hS rfl (s := Op.unary op (a.eval y)) (by simp [execOp, ho]) (by rw [e1]; exact pureOf_run P _ _ hr _) (by simp [Rv])
  · simp at h
theorem op_convert {s d : TypeId} {y : Operand} (hS : St C) (hT : RT C T a.tmps) (ho : o.op = .convert s d y)
    (h : evalOp P T C.S slot o = some (x, e)) : OpOk P o a C x (applyEff C.S e) := by
  simp only [evalOp, ho] at h
  split at h
  · rename_i u hu
    obtain ⟨r, hr, rfl, rfl⟩ := map_effV h
    have e1 := opd_rel hT y
    rw [hu, Rv_v] at e1
    exact OpOk.of_run hS rfl (s := convert s d (a.eval y)) (by simp [execOp, ho]) (by rw [e1]; exact pureOf_run P _ _ hr _) (by simp [Rv])
  · simp at h
theorem op_nilCheck {y : Operand} (hS : St C) (hT : RT C T a.tmps) (ho : o.op = .nilCheck y)
    (h : evalOp P T C.S slot o = some (x, e)) : OpOk P o a C x (applyEff C.S e) := by
  simp only [evalOp, ho] at h
  have hr := opd_rel hT y
  split at h
  · rename_i q ep off hq
    simp only [Option.some.injEq, Prod.mk.injEq] at h
    obtain ⟨rfl, rfl⟩ := h
    rw [hq] at hr
    have hr2 := hr
    simp only [Rv] at hr2
    obtain ⟨ad, had, _⟩ := hr2
    exact OpOk.plain (u := a.eval y) hS (by simp [execOp, ho, had]) hr
  · rename_i xs hq
    simp only [Option.some.injEq, Prod.mk.injEq] at h
    obtain ⟨rfl, rfl⟩ := h
    rw [hq] at hr
    have hr2 := hr
    simp only [Rv] at hr2
    obtain ⟨ad, had, _⟩ := hr2
    exact OpOk.plain (u := a.eval y) hS (by simp [execOp, ho, had]) hr
  · rename_i f cs hq
    simp only [Option.some.injEq, Prod.mk.injEq] at h
    obtain ⟨rfl, rfl⟩ := h
    rw [hq] at hr
    have hr2 := hr
    simp only [Rv] at hr2
    obtain ⟨vs, had, _⟩ := hr2
    exact OpOk.plain (u := a.eval y) hS (by simp [execOp, ho, had]) hr
  · simp at h
theorem opds_rel (hT : RT C T a.tmps) (l : List Operand) : Rvs C (l.map (opd T)) (fun i y => (l.map a.eval)[i]? = some y) 0 :=
  Rvs_mk fun j x hx => by
    simp only [List.getElem?_map, Option.map_eq_some_iff] at hx
    obtain ⟨y, hy, rfl⟩ := hx
    exact ⟨a.eval y, by simp [hy], opd_rel hT y⟩
theorem op_makeFunc {f : Fn} {first caps : Array Operand} (hS : St C) (hT : RT C T a.tmps) (ho : o.op = .makeFunc f first caps)
    (h : evalOp P T C.S slot o = some (x, e)) : OpOk P o a C x (applyEff C.S e) := by
  cases f with
  | func f =>
    simp only [evalOp, ho] at h
    split at h
    · rename_i h0
      simp only [Option.some.injEq, Prod.mk.injEq] at h
      obtain ⟨rfl, rfl⟩ := h
      have hf : first = #[] := Array.eq_empty_of_size_eq_zero h0
      subst hf
      refine OpOk.plain (u := .func (.func f) #[] (caps.map a.eval)) hS (by simp [execOp, ho, Instr.makeFunc]) ?_
      simp only [Rv]
      refine ⟨_, rfl, by simp, ?_⟩
      have := opds_rel hT caps.toList
      refine Rvs_mono (Grows.refl C) _ _ _ _ (fun i y hy => ?_) this
      rw [← Array.getElem?_toList, Array.toList_map]; exact hy
    · simp at h
  | _ => simp [evalOp, ho] at h
theorem op_extract {y : Operand} {k : Nat} (hS : St C) (hT : RT C T a.tmps) (ho : o.op = .extract y k)
    (h : evalOp P T C.S slot o = some (x, e)) : OpOk P o a C x (applyEff C.S e) := by
  simp only [evalOp, ho] at h
  split at h
  · rename_i xs hq
    obtain ⟨h1, h2⟩ := map_eff h
    have hr := opd_rel hT y
    rw [hq] at hr
    simp only [Rv] at hr
    obtain ⟨cs, hc, hs, hrs⟩ := hr
    obtain ⟨u, hu, hru⟩ := Rvs_get hrs k x h1
    simp only [Nat.zero_add] at hu
    exact OpOk.of_run hS h2 (s := Instr.extract (a.eval y) k) (by simp [execOp, ho]) (by simp [Instr.extract, hc, hu]) hru
  · simp at h

/-! ## structs -/
theorem op_field {t : TypeId} {y : Operand} {k : Nat} (hS : St C) (hT : RT C T a.tmps) (ho : o.op = .field t y k)
    (h : evalOp P T C.S slot o = some (x, e)) : OpOk P o a C x (applyEff C.S e) := by
  simp only [evalOp, ho] at h
  split at h
  · rename_i fs xs hu hq
    split at h
    · rename_i fl hf
      obtain ⟨h1, h2⟩ := map_eff h
      have hr := opd_rel hT y
      rw [hq] at hr
      simp only [Rv] at hr
      obtain ⟨cs, hc, hs, hrs⟩ := hr
      obtain ⟨u, hr1, hr2⟩ := part_ok h1 hs hrs C.w
      exact OpOk.of_run hS h2 (s := Instr.field t (a.eval y) k) (by simp [execOp, ho]) (by simp [Instr.field, run_underlying hu, hf, hc, asAgg, hr1]) hr2
    · simp at h
  · simp at h
theorem op_fieldAddr {t : TypeId} {y : Operand} {k : Nat} (hS : St C) (hT : RT C T a.tmps) (ho : o.op = .fieldAddr t y k)
    (h : evalOp P T C.S slot o = some (x, e)) : OpOk P o a C x (applyEff C.S e) := by
  simp only [evalOp, ho] at h
  split at h
  · rename_i fs hu
    split at h
    · rename_i fl hf
      split at h
      · rename_i hz
        have hr := opd_rel hT y
        obtain ⟨n, hn, hn0⟩ : ∃ n, szOf P fl.type = some n ∧ n ≠ 0 := by
          cases hs : szOf P fl.type with
          | none => simp [hs] at hz
          | some n => simp [hs] at hz; exact ⟨n, rfl, by omega⟩
        split at h
        · rename_i q ep off hq
          simp only [Option.some.injEq, Prod.mk.injEq] at h
          obtain ⟨rfl, rfl⟩ := h
          rw [hq] at hr
          simp only [Rv] at hr
          obtain ⟨ad, had, hrf⟩ := hr
          refine OpOk.of_run hS rfl (s := Instr.fieldAt t (a.eval y) k) (u := .pointer (some (ad.add fl.offset))) (by simp [execOp, ho])
            (by simp [Instr.fieldAt, run_underlying hu, hf, had, Instr.sureAddr, fieldPlace, run_sizeOf hn, hn0]) ?_
          simp only [Rv]
          obtain ⟨ob, e0, k1, k2, k3, k4⟩ := hrf
          refine ⟨_, rfl, ob, e0, k1, k2, k3, fun hh => ?_⟩
          rw [k4 hh, addr_add, Nat.add_assoc]
        · rename_i xs hq
          simp only [Option.some.injEq, Prod.mk.injEq] at h
          obtain ⟨rfl, rfl⟩ := h
          rw [hq] at hr
          simp only [Rv] at hr
          obtain ⟨ad, had, hrs⟩ := hr
          refine OpOk.of_run hS rfl (s := Instr.fieldAt t (a.eval y) k) (u := .pointer (some (ad.add fl.offset))) (by simp [execOp, ho])
            (by simp [Instr.fieldAt, run_underlying hu, hf, had, Instr.sureAddr, fieldPlace, run_sizeOf hn, hn0]) ?_
          simp only [Rv]
          refine ⟨_, rfl, ?_⟩
          have := Rps_drop hrs fl.offset
          refine Rps_mono (Look.Le.refl _) _ _ _ _ (fun i y hy => ?_) this
          rw [addr_add_add]; exact hy
        · simp at h
      · simp at h
    · simp at h
  · simp at h
theorem run_mapM_fields {α : Type} (f : Field → Sem α) (g : Field → Option α) (w : World) (hfg : ∀ x y, g x = some y → (f x).run P w = .ok y w) :
    ∀ (l : List Field) (ys : List α), mapO g l = some ys → (l.mapM f).run P w = .ok ys w
  | [], ys, h => by simp only [mapO, Option.some.injEq] at h; subst h; simp
  | x :: l, ys, h => by
    simp only [mapO] at h
    split at h
    · rename_i y zs hy hz
      simp only [Option.some.injEq] at h
      subst h
      simp [List.mapM_cons, hfg x y hy, run_mapM_fields f g w hfg l zs hz]
    · simp at h
theorem parts_rel (hT : RT C T a.tmps) (l : List (Nat × Operand)) : Rvs C ((l.map fun p => (p.1, opd T p.2)).map (·.2)) (fun i y => ((l.map fun p => (p.1, a.eval p.2)).map (·.2))[i]? = some y) 0 :=
  Rvs_mk fun j x hx => by
    simp only [List.map_map, List.getElem?_map, Option.map_eq_some_iff, Function.comp_apply] at hx
    obtain ⟨y, hy, rfl⟩ := hx
    exact ⟨a.eval y.2, by simp [hy], opd_rel hT y.2⟩
theorem parts_relG {g : AVal → AVal} {C' : Ctx} (hg : ∀ (x : Operand), Rv C' (g (opd T x)) (a.eval x)) (l : List (Nat × Operand)) : Rvs C' ((l.map fun p => (p.1, g (opd T p.2))).map (·.2)) (fun i y => ((l.map fun p => (p.1, a.eval p.2)).map (·.2))[i]? = some y) 0 :=
  Rvs_mk fun j x hx => by
    simp only [List.map_map, List.getElem?_map, Option.map_eq_some_iff, Function.comp_apply] at hx
    obtain ⟨y, hy, rfl⟩ := hx
    exact ⟨a.eval y.2, by simp [hy], hg y.2⟩
theorem op_build {t : TypeId} {parts : Array (Nat × Operand)} (hS : St C) (hT : RT C T a.tmps) (ho : o.op = .build t parts)
    (h : evalOp P T C.S slot o = some (x, e)) : OpOk P o a C x (applyEff C.S e) := by
  simp only [evalOp, ho] at h
  split at h
  · rename_i zs place hz hp
    split at h
    · rename_i hone
      simp only [Option.map_eq_some_iff, Prod.mk.injEq] at h
      obtain ⟨xs, h1, rfl, rfl⟩ := h
      obtain ⟨i, z, hi, hzz, rfl⟩ := zeroA_some hz
      obtain ⟨ds, k1, k2, k3, k4, k5⟩ := fill_ok (C := C) _ (parts.toList.map fun p => (p.1, a.eval p.2)) _ _ z.cells h1 (by simp [Function.comp_def]) (parts_rel hT parts.toList) (by simp) (zero_rel C z) hone
      refine OpOk.of_run hS rfl (s := Instr.build t (parts.map fun (i, x) => (i, a.eval x))) (u := .agg ds) (by simp [execOp, ho]) ?_ (by simp only [Rv]; exact ⟨ds, rfl, k2, k4⟩)
      have hl : (parts.map fun (i, x) => (i, a.eval x)).toList = parts.toList.map fun p => (p.1, a.eval p.2) := by simp
      unfold placesA at hp
      split at hp
      · rename_i fs hu
        simp only [Option.map_eq_some_iff] at hp
        obtain ⟨l, hl2, rfl⟩ := hp
        have hm : (fs.mapM fun f => (do pure (f.offset, ← sizeOf f.type) : Sem (Nat × Nat))).run P C.w = .ok l.toArray C.w := by
          rw [Array.mapM_eq_mapM_toList]
          have := run_mapM_fields (P := P) (fun f => (do pure (f.offset, ← sizeOf f.type) : Sem (Nat × Nat))) (fun f => (szOf P f.type).map fun n => (f.offset, n)) C.w (fun x y hy => by
            simp only [Option.map_eq_some_iff] at hy
            obtain ⟨n, hn, rfl⟩ := hy
            simp [run_sizeOf hn]) fs.toList l hl2
          simp only [Sem.run_map, this, Result.andThen_ok]
        have hk : Instr.fill (l.toArray[·]?) z.cells (parts.map fun (i, x) => (i, a.eval x)).toList = some ds := by rw [hl]; simpa using k1
        simp only [Instr.build, Sem.run_bind, run_zero hi hzz, Result.andThen_ok, run_underlying hu, hm, hk, Sem.run_pure]
      · rename_i n el hu
        simp only [Option.map_eq_some_iff] at hp
        obtain ⟨n, hn, rfl⟩ := hp
        have hk : Instr.fill (fun i => some (i * n, n)) z.cells (parts.map fun (i, x) => (i, a.eval x)).toList = some ds := by rw [hl]; exact k1
        simp only [Instr.build, Sem.run_bind, run_zero hi hzz, Result.andThen_ok, run_underlying hu, run_sizeOf hn, hk, Sem.run_pure]
      · simp at hp
    · simp at h
  · simp at h

end Go.Proofs.YtkkgimhbliocoaaGreat.Vm
/- Each operation of the abstract machine is the model's: slices that are made, cut, indexed, appended to. -/
namespace Go.Proofs.YtkkgimhbliocoaaGreat.Vm
open Go Go.RowKit
set_option linter.unusedVariables false
set_option linter.unusedSimpArgs false
set_option linter.unnecessarySimpa false

variable {P : Program} {o : Oper} {a : Act} {C : Ctx} {T : List AVal} {slot : Nat} {x : AVal} {e : Eff}

/-! ## rows that are made -/
theorem rowed (hS : St C) (hslot : slot = C.S.length ∨ C.S[slot]? = some .free) (t : TypeId) (xs : List AVal) (cs : Array Value) (sz n cap : Nat) (hsz : 0 < sz) (hx : xs.length = n * sz) (hn : n ≤ cap)
    (hcs : cap * sz ≤ cs.size) (hr : Rvs C xs (fun i y => cs[i]? = some y) 0) (h1 : xs.all AVal.one = true)
    (w : World) (hw : w.heap = C.w.heap) (hos : w.os = C.w.os) (htape : w.tape = C.w.tape) (hout : w.output = C.w.output)
    (hrun : (execOp a.eval o).run P C.w = .ok (.value (.slice (some ⟨C.w.heap.size, 0, none⟩) n cap)) (w.alloc (.cells cs t))) :
    OpOk P o a C (.row slot 0 sz 0 n) (applyEff C.S [(slot, .row sz 0 none xs)]) := by
  have hle : slot ≤ C.S.length := by
    rcases hslot with rfl | h
    · exact Nat.le_refl _
    · exact Nat.le_of_lt (List.getElem?_eq_some_iff.1 h).1
  obtain ⟨ρ', h2, h3, h4⟩ := made hS slot hslot cs t (.row sz 0 none xs) cap 0 rfl w hw hos htape hout (fun C' g hw' hρ hok' => by
    refine ⟨cs, t, ?_, by rw [hρ]; simpa using hcs, ?_, hsz, ?_, h1, fun k hk => by cases hk⟩
    · rw [hρ, hw', ← hw]; exact heap_alloc_new w _
    · rw [hρ, hx]; exact Nat.mul_le_mul_right _ hn
    · rw [hρ]
      exact Rvs_mono g _ _ _ _ (fun i y hy => by simpa using hy) hr)
  refine ⟨_, _, _, hrun, rfl, rfl, h2, h3, ?_⟩
  simp only [Rv]
  refine ⟨_, _, rfl, hn, .row sz 0 none xs, 0, setObj_get_same _ _ _ hle, rfl, Nat.le_refl _, fun _ => .inl ?_⟩
  simp [h4]
theorem get_flat {α : Type} (l : List α) : ∀ (n j : Nat), (List.replicate n l).flatten[j]? = if j < n * l.length then l[j % l.length]? else none
  | 0, j => by simp
  | n + 1, j => by
    rw [List.replicate_succ, List.flatten_cons, List.getElem?_append]
    by_cases hj : j < l.length
    · rw [if_pos hj, if_pos (by rw [Nat.add_mul]; omega), Nat.mod_eq_of_lt hj]
    · rw [if_neg hj, get_flat l n (j - l.length)]
      have hm : j % l.length = (j - l.length) % l.length := by rw [Nat.mod_eq_sub_mod (by omega)]
      rw [hm, Nat.add_mul, Nat.one_mul]
      by_cases h2 : j - l.length < n * l.length
      · rw [if_pos h2, if_pos (by omega)]
      · rw [if_neg h2, if_neg (by omega)]
theorem length_flat {α : Type} (l : List α) (n : Nat) : (List.replicate n l).flatten.length = n * l.length := by simp
theorem made_rel (C : Ctx) (z : Value) (n : Nat) (h0 : 0 < z.cells.size) : Rvs C (List.replicate n (z.cells.toList.map AVal.v)).flatten (fun i y => ((Array.range (n * z.cells.size)).map (fun k => z.cells[k % z.cells.size]!))[i]? = some y) 0 :=
  Rvs_mk fun j x hx => by
    rw [get_flat] at hx
    simp only [List.length_map, Array.length_toList, List.getElem?_map, Nat.zero_add] at hx ⊢
    split at hx
    · rename_i hj
      simp only [Option.map_eq_some_iff] at hx
      obtain ⟨u, hu, rfl⟩ := hx
      have hlt : j % z.cells.size < z.cells.size := Nat.mod_lt _ h0
      refine ⟨u, ?_, by simp [Rv]⟩
      rw [Array.getElem?_map, Array.getElem?_range, if_pos hj]
      simp only [Option.map_some, Option.some.injEq]
      rw [Array.getElem?_toList] at hu
      rw [getElem!_def, hu]
    · cases hx
theorem all_flat {l : List AVal} (h : l.all AVal.one = true) (n : Nat) : (List.replicate n l).flatten.all AVal.one = true := by
  rw [List.all_eq_true] at *
  intro y hy
  simp only [List.mem_flatten, List.mem_replicate] at hy
  obtain ⟨l', ⟨_, rfl⟩, hy⟩ := hy
  exact h y hy
theorem op_buildSlice0 {t : TypeId} {n : Nat} {parts : Array (Nat × Operand)} {g : AVal → AVal} (hS : St C) (hg : ∀ (x : Operand), Rv C (g (opd T x)) (a.eval x)) (hslot : slot = C.S.length ∨ C.S[slot]? = some .free) (ho : o.op = .buildSlice t n parts)
    (h : sliceOfA P slot t n (parts.toList.map fun p => (p.1, g (opd T p.2))) = some (x, e)) : OpOk P o a C x (applyEff C.S e) := by
  unfold sliceOfA at h
  split at h
  · rename_i el hu
    split at h
    · rename_i sz zs hsz hz
      split at h
      · rename_i hc
        obtain ⟨hc1, hc2, hc3, hc4⟩ := hc
        simp only [Option.map_eq_some_iff, Prod.mk.injEq] at h
        obtain ⟨xs, h1, rfl, rfl⟩ := h
        obtain ⟨i, z, hi, hzz, rfl⟩ := zeroA_some hz
        simp only [List.length_map, Array.length_toList] at hc3
        have hsize : ((Array.range (n * z.cells.size)).map (fun k => z.cells[k % z.cells.size]!)).size = (List.replicate n (z.cells.toList.map AVal.v)).flatten.length := by simp
        obtain ⟨ds, k1, k2, k3, k4, k5⟩ := fill_ok (C := C) _ (parts.toList.map fun p => (p.1, a.eval p.2)) _ _ _ h1 (by simp [Function.comp_def]) (parts_relG hg parts.toList) hsize (made_rel C z n (by omega)) (all_flat hc4 n)
        have hxl : xs.length = n * sz := by rw [k3]; simp [hc3]
        have hl : (parts.map fun (i, x) => (i, a.eval x)).toList = parts.toList.map fun p => (p.1, a.eval p.2) := by simp
        refine rowed hS hslot el xs ds sz n n hc2 hxl (Nat.le_refl _) (by rw [k2, hxl]; exact Nat.le_refl _) k4 k5 C.w rfl rfl rfl rfl ?_
        have hne : ¬ (n * sz > 2 ^ 24) := by omega
        by_cases hn0 : n * sz = 0
        · have hn : n = 0 := by
            rcases Nat.mul_eq_zero.1 hn0 with h | h
            · exact h
            · omega
          subst hn
          have hk : Instr.fill (fun i => some (i * sz, sz)) #[] (parts.toList.map fun p => (p.1, a.eval p.2)) = some ds := by
            rw [← k1, Nat.zero_mul, Array.range_zero', Array.map_empty]
          simp [execOp, ho, Instr.buildSlice, run_underlying hu, run_sizeOf hsz, Array.range_zero', hk, newRow]
        · have hk : Instr.fill (fun i => some (i * sz, sz)) ((Array.range (n * sz)).map (fun k => z.cells[k % z.cells.size]!)) (parts.map fun (i, x) => (i, a.eval x)).toList = some ds := by rw [hl, ← hc3]; rw [hc3] at k1 ⊢; exact k1
          simp only [execOp, ho, Instr.buildSlice, Sem.run_bind, run_underlying hu, Result.andThen_ok, run_sizeOf hsz, if_neg hne, hn0, if_false, run_zero hi hzz, Sem.run_pure, hk, newRow, run_newObj, World.alloc_eq]
      · simp at h
    · simp at h
  · simp at h
theorem op_makeSlice {t : TypeId} {l c : Operand} (hS : St C) (hT : RT C T a.tmps) (hslot : slot = C.S.length ∨ C.S[slot]? = some .free) (ho : o.op = .makeSlice t l c)
    (h : evalOp P T C.S slot o = some (x, e)) : OpOk P o a C x (applyEff C.S e) := by
  simp only [evalOp, ho] at h
  split at h
  · rename_i el kl n kc m hu hl hcq
    have e1 := opd_rel hT l
    have e2 := opd_rel hT c
    rw [hl, Rv_v] at e1
    rw [hcq, Rv_v] at e2
    split at h
    · rename_i i zs hi hz
      split at h
      · rename_i hc
        obtain ⟨rfl, hc1, hc2, hc3, hc4, hc5, hc6⟩ := hc
        simp only [Option.some.injEq, Prod.mk.injEq] at h
        obtain ⟨rfl, rfl⟩ := h
        obtain ⟨i', z, hi', hzz, rfl⟩ := zeroA_some hz
        rw [hi] at hi'; cases hi'
        simp only [List.length_map, Array.length_toList] at hc5
        have hmc : madeCells z.cells (n.toNat * i.size) = (Array.range (n.toNat * z.cells.size)).map (fun k => z.cells[k % z.cells.size]!) := by unfold madeCells; rw [← hc5]
        refine rowed hS hslot el _ (madeCells z.cells (n.toNat * i.size)) i.size n.toNat n.toNat hc4 (by simp [hc5]) (Nat.le_refl _) (by rw [size_madeCells]; exact Nat.le_refl _) ?_ (all_flat hc6 _) C.w rfl rfl rfl rfl ?_
        · rw [hmc]; exact made_rel C z _ (by omega)
        · have := run_make (P := P) C.w t el i z hu hi hzz kl kc n n hc1 (Int.le_refl _) hc2 hc3
          simp [execOp, ho, e1, e2, this]
      · simp at h
    · simp at h
  · simp at h

/-! ## cuts -/
theorem num_rel {q : Option Operand} {r : Option Nat} (hT : RT C T a.tmps) (h : numA (q.map (opd T)) = some r) :
    (q = none ∧ r = none) ∨ ∃ y k n, q = some y ∧ a.eval y = .int k n ∧ 0 ≤ n ∧ r = some n.toNat := by
  cases q with
  | none => simp only [Option.map_none, numA, Option.some.injEq] at h; exact .inl ⟨rfl, h.symm⟩
  | some y =>
    have h' : numA (some (opd T y)) = some r := h
    clear h
    unfold numA at h'
    split at h'
    · rename_i hc; cases hc
    · rename_i k n hc
      simp only [Option.some.injEq] at hc
      split at h'
      · rename_i h0
        simp only [Option.some.injEq] at h'
        have hr := opd_rel hT y
        rw [hc, Rv_v] at hr
        exact .inr ⟨y, k, n, rfl, hr, h0, h'.symm⟩
      · cases h'
    · cases h'
theorem bounds_ok {len cap : Nat} {lo hi mx : Option Operand} {l h : Nat} {m : Option Nat} (hT : RT C T a.tmps) (hb : boundsA len (lo.map (opd T)) (hi.map (opd T)) (mx.map (opd T)) = some (l, h, m)) (hlc : len ≤ cap) (w : World) :
    (Instr.sliceBounds true len cap (lo.map a.eval) (hi.map a.eval) (mx.map a.eval)).run P w = .ok (l, h, m.getD cap) w ∧ l ≤ h ∧ h ≤ len ∧ h ≤ m.getD cap ∧ m.getD cap ≤ cap ∧ (∀ k, m = some k → k ≤ len) := by
  unfold boundsA at hb
  split at hb
  · rename_i l' h' m' hl hh hm
    split at hb
    · rename_i hc
      simp only [Option.some.injEq, Prod.mk.injEq] at hb
      obtain ⟨rfl, rfl, rfl⟩ := hb
      obtain ⟨c1, c2, c3⟩ := hc
      rcases num_rel hT hm with ⟨rfl, rfl⟩ | ⟨ym, km, nm, rfl, em, gm, rfl⟩
      · simp only [Option.getD_none]
        refine ⟨?_, c1, c2, by omega, Nat.le_refl _, by simp⟩
        rcases num_rel hT hl with ⟨rfl, rfl⟩ | ⟨yl, kl, nl, rfl, el, gl, rfl⟩ <;> rcases num_rel hT hh with ⟨rfl, rfl⟩ | ⟨yh, kh, nh, rfl, eh, gh, rfl⟩
        · simp [Instr.sliceBounds]
        · simp only [Option.getD_some, Option.getD_none] at c1 c2 ⊢
          simp [Instr.sliceBounds, eh, run_sliceBound _ _ _ _ _ gh (show nh ≤ (cap : Int) by omega)]
        · simp only [Option.getD_some, Option.getD_none] at c1 c2 ⊢
          simp [Instr.sliceBounds, el, run_sliceBound _ _ _ _ _ gl (show nl ≤ (len : Int) by omega)]
        · simp only [Option.getD_some] at c1 c2 ⊢
          simp [Instr.sliceBounds, el, eh, run_sliceBound _ _ _ _ _ gh (show nh ≤ (cap : Int) by omega), run_sliceBound _ _ _ _ _ gl (show nl ≤ (nh.toNat : Int) by omega)]
      · simp only [mxOk, Bool.and_eq_true, decide_eq_true_eq] at c3
        obtain ⟨⟨c3, c4⟩, c5⟩ := c3
        simp only [Option.getD_some]
        refine ⟨?_, c1, c2, c3, by omega, by intro k hk; cases hk; exact c4⟩
        rcases num_rel hT hh with ⟨rfl, rfl⟩ | ⟨yh, kh, nh, rfl, eh, gh, rfl⟩
        · simp at c5
        · rcases num_rel hT hl with ⟨rfl, rfl⟩ | ⟨yl, kl, nl, rfl, el, gl, rfl⟩
          · simp only [Option.getD_some, Option.getD_none] at c1 c2 c3 ⊢
            simp [Instr.sliceBounds, em, eh, run_sliceBound _ _ _ _ _ gm (show nm ≤ (cap : Int) by omega), run_sliceBound _ _ _ _ _ gh (show nh ≤ (nm.toNat : Int) by omega)]
          · simp only [Option.getD_some] at c1 c2 c3 ⊢
            simp [Instr.sliceBounds, em, el, eh, run_sliceBound _ _ _ _ _ gm (show nm ≤ (cap : Int) by omega), run_sliceBound _ _ _ _ _ gh (show nh ≤ (nm.toNat : Int) by omega), run_sliceBound _ _ _ _ _ gl (show nl ≤ (nh.toNat : Int) by omega)]
    · cases hb
  · cases hb
theorem op_slice {t : TypeId} {y : Operand} {lo hi mx : Option Operand} (hS : St C) (hT : RT C T a.tmps) (ho : o.op = .slice t y lo hi mx)
    (h : evalOp P T C.S slot o = some (x, e)) : OpOk P o a C x (applyEff C.S e) := by
  simp only [evalOp, ho] at h
  obtain ⟨h1, h2⟩ := map_eff h
  have hr := opd_rel hT y
  unfold sliceA at h1
  split at h1
  · rename_i el hu
    have hel : P.elem t = el := by simp [Program.elem, hu]
    have hu' : P.underlying t = some (.slice (P.elem t)) := by rw [hel]; exact hu
    split at h1
    · rename_i sz hsz
      have run : ∀ (A : Option Addr) (n c l hb' : Nat) (m : Option Nat), a.eval y = .slice A n c → n ≤ c → boundsA n (lo.map (opd T)) (hi.map (opd T)) (mx.map (opd T)) = some (l, hb', m) →
          (Instr.sliceAt t (a.eval y) (lo.map a.eval) (hi.map a.eval) (mx.map a.eval)).run P C.w = .ok (sliced A l hb' (m.getD c) sz) C.w := by
        intro A n c l hb' m hv hnc hb
        obtain ⟨hb1, _⟩ := bounds_ok (P := P) hT hb hnc C.w
        rw [hv, run_sliceAt_slice C.w t _ _ _ _ hu', run_slice_any C.w t A n c hu', hb1]
        simp only [Result.andThen_ok, hel, run_sizeOf hsz]
      split at h1
      · rename_i n xs hq
        rw [hq] at hr
        simp only [Rv] at hr
        obtain ⟨A, c, hv, hnc, hrs⟩ := hr
        split at h1
        · rename_i l q' m hb
          obtain ⟨_, b1, b2, b3, b4, b5⟩ := bounds_ok (P := P) hT hb hnc C.w
          have hrun := run A n c l q' m hv hnc hb
          split at h1
          · rename_i hm
            simp only [Option.some.injEq] at h1
            subst h1 hm
            refine OpOk.of_run hS h2 (s := Instr.sliceAt t (a.eval y) (lo.map a.eval) (hi.map a.eval) (mx.map a.eval)) (by simp [execOp, ho]) hrun ?_
            simp only [Option.getD_some] at b3
            simp only [Rv, sliced, Option.getD_some, if_true]
            exact ⟨A, by rw [show q' - l = 0 by omega, Nat.sub_self]⟩
          · simp only [Option.some.injEq] at h1
            subst h1
            refine OpOk.of_run hS h2 (s := Instr.sliceAt t (a.eval y) (lo.map a.eval) (hi.map a.eval) (mx.map a.eval)) (by simp [execOp, ho]) hrun ?_
            simp only [Rv, sliced]
            refine ⟨_, _, rfl, by omega, ?_⟩
            by_cases hM : m.getD c = l
            · have : cutA xs sz l q' = [] := by simp [cutA, show q' - l = 0 by omega]
              rw [this]; simp [Rps]
            · rw [if_neg hM]
              refine Rps_mono (Look.Le.refl _) _ _ _ _ (fun i y hy => ?_) (Rps_take (Rps_drop hrs (l * sz)) ((q' - l) * sz))
              obtain ⟨a0, ha0, hs⟩ := hy
              exact ⟨a0.add (l * sz), by simp [ha0], by rw [addr_add_add]; exact hs⟩
        · cases h1
      · rename_i q ep sz' off len hq
        rw [hq] at hr
        simp only [Rv] at hr
        obtain ⟨a0, c, hv, hnc, hrf⟩ := hr
        split at h1
        · rename_i hse
          subst hse
          split at h1
          · rename_i l q' m hb
            obtain ⟨_, b1, b2, b3, b4, b5⟩ := bounds_ok (P := P) hT hb hnc C.w
            have hrun := run (some a0) len c l q' m hv hnc hb
            split at h1
            · rename_i hm
              simp only [Option.some.injEq] at h1
              subst h1 hm
              refine OpOk.of_run hS h2 (s := Instr.sliceAt t (a.eval y) (lo.map a.eval) (hi.map a.eval) (mx.map a.eval)) (by simp [execOp, ho]) hrun ?_
              simp only [Option.getD_some] at b3
              simp only [Rv, sliced, Option.getD_some, if_true]
              exact ⟨_, by rw [show q' - l = 0 by omega, Nat.sub_self]⟩
            · simp only [Option.some.injEq] at h1
              subst h1
              refine OpOk.of_run hS h2 (s := Instr.sliceAt t (a.eval y) (lo.map a.eval) (hi.map a.eval) (mx.map a.eval)) (by simp [execOp, ho]) hrun ?_
              simp only [Rv, sliced]
              obtain ⟨ob, e0, k1, k2, k3, k4⟩ := hrf
              by_cases hM : m.getD c = l
              · rw [if_pos hM]
                exact ⟨a0, _, rfl, by omega, ob, e0, k1, k2, k3, fun _ => .inr ⟨by omega, by omega⟩⟩
              · rw [if_neg hM]
                refine ⟨_, _, rfl, by omega, ob, e0, k1, k2, k3, fun hh => .inl ?_⟩
                rcases k4 hh with ⟨hA, hc⟩ | ⟨hA, hc⟩
                · refine ⟨?_, by omega⟩
                  rw [hA]
                  show Addr.add _ _ = _
                  rw [addr_add, Nat.add_assoc, ← Nat.add_mul]
                · omega
          · cases h1
        · cases h1
      · rename_i hq
        rw [hq] at hr
        simp only [Rv] at hr
        obtain ⟨A, hv⟩ := hr
        split at h1
        · rename_i r hb
          obtain ⟨l, q', m⟩ := r
          obtain ⟨_, b1, b2, b3, b4, b5⟩ := bounds_ok (P := P) (cap := 0) hT hb (Nat.le_refl _) C.w
          have hrun := run A 0 0 l q' m hv (Nat.le_refl _) hb
          simp only [Option.some.injEq] at h1
          subst h1
          refine OpOk.of_run hS h2 (s := Instr.sliceAt t (a.eval y) (lo.map a.eval) (hi.map a.eval) (mx.map a.eval)) (by simp [execOp, ho]) hrun ?_
          simp only [Rv, sliced]
          exact ⟨_, by rw [show q' - l = 0 by omega, show m.getD 0 - l = 0 by omega]⟩
        · cases h1
      · rename_i hq
        rw [hq, Rv_v] at hr
        split at h1
        · rename_i r hb
          obtain ⟨l, q', m⟩ := r
          obtain ⟨_, b1, b2, b3, b4, b5⟩ := bounds_ok (P := P) (cap := 0) hT hb (Nat.le_refl _) C.w
          have hrun := run none 0 0 l q' m hr (Nat.le_refl _) hb
          simp only [Option.some.injEq] at h1
          subst h1
          refine OpOk.of_run hS h2 (s := Instr.sliceAt t (a.eval y) (lo.map a.eval) (hi.map a.eval) (mx.map a.eval)) (by simp [execOp, ho]) hrun ?_
          simp only [Rv, sliced]
          rw [show q' - l = 0 by omega, show m.getD 0 - l = 0 by omega]
          split <;> rfl
        · cases h1
      · cases h1
    · cases h1
  · cases h1

/-! ## indexes -/
theorem op_indexAddr {t : TypeId} {y i : Operand} (hS : St C) (hT : RT C T a.tmps) (ho : o.op = .indexAddr t y i)
    (h : evalOp P T C.S slot o = some (x, e)) : OpOk P o a C x (applyEff C.S e) := by
  simp only [evalOp, ho] at h
  split at h
  · rename_i k n hi
    obtain ⟨h1, h2⟩ := map_eff h
    have hri := opd_rel hT i
    rw [hi, Rv_v] at hri
    have hr := opd_rel hT y
    unfold indexAddrA at h1
    split at h1
    · rename_i el hu
      have hel : P.elem t = el := by simp [Program.elem, hu]
      have hu' : P.underlying t = some (.slice (P.elem t)) := by rw [hel]; exact hu
      split at h1
      · rename_i sz hsz
        split at h1
        · rename_i m xs hq
          split at h1
          · rename_i hc
            obtain ⟨c1, c2, c3, c4⟩ := hc
            simp only [Option.some.injEq] at h1
            subst h1
            rw [hq] at hr
            simp only [Rv] at hr
            obtain ⟨A, c, hv, hnc, hrs⟩ := hr
            have hlt : n.toNat * sz < xs.length := by rw [c4]; exact Nat.mul_lt_mul_of_pos_right (by omega) c3
            obtain ⟨u, ⟨a0, ha0, _⟩, _⟩ := Rps_get hrs (n.toNat * sz) xs[n.toNat * sz] (List.getElem?_eq_getElem hlt)
            subst ha0
            refine OpOk.of_run hS h2 (s := Instr.indexAt t (a.eval y) (a.eval i)) (u := .pointer (some (a0.add (n.toNat * sz)))) (by simp [execOp, ho]) ?_ ?_
            · rw [hv, hri, run_indexAt_slice C.w t a0 m c k n hu', if_pos ⟨c1, c2⟩, hel, run_sizeOf hsz]; rfl
            · simp only [Rv]
              refine ⟨_, rfl, Rps_mono (Look.Le.refl _) _ _ _ _ (fun j v hj => ?_) (Rps_drop hrs (n.toNat * sz))⟩
              obtain ⟨a1, ha1, hs⟩ := hj
              cases ha1
              rw [addr_add_add]; exact hs
          · cases h1
        · rename_i q ep sz' off len hq
          split at h1
          · rename_i hc
            obtain ⟨rfl, c1, c2⟩ := hc
            simp only [Option.some.injEq] at h1
            subst h1
            rw [hq] at hr
            simp only [Rv] at hr
            obtain ⟨a0, c, hv, hnc, ob, e0, k1, k2, k3, k4⟩ := hr
            refine OpOk.of_run hS h2 (s := Instr.indexAt t (a.eval y) (a.eval i)) (u := .pointer (some (a0.add (n.toNat * sz')))) (by simp [execOp, ho]) ?_ ?_
            · rw [hv, hri, run_indexAt_slice C.w t a0 len c k n hu', if_pos ⟨c1, c2⟩, hel, run_sizeOf hsz]; rfl
            · simp only [Rv]
              refine ⟨_, rfl, ob, e0, k1, k2, k3, fun hh => ?_⟩
              rcases k4 hh with ⟨hA, hcc⟩ | ⟨hA, hcc⟩
              · rw [hA, addr_add, Nat.add_mul, Nat.add_assoc]
              · omega
          · cases h1
        · cases h1
      · cases h1
    · rename_i len el hu
      have hel : P.elem t = el := by simp [Program.elem, hu]
      have hln : P.arrayLen t = len := by simp [Program.arrayLen, hu]
      have hu' : P.underlying t = some (.array (P.arrayLen t) (P.elem t)) := by rw [hel, hln]; exact hu
      split at h1
      · rename_i sz hsz
        split at h1
        · rename_i q ep off hq
          split at h1
          · rename_i hc
            simp only [Option.some.injEq] at h1
            subst h1
            rw [hq] at hr
            simp only [Rv] at hr
            obtain ⟨a0, hv, ob, e0, k1, k2, k3, k4⟩ := hr
            refine OpOk.of_run hS h2 (s := Instr.indexAt t (a.eval y) (a.eval i)) (u := .pointer (some (a0.add (n.toNat * sz)))) (by simp [execOp, ho]) ?_ ?_
            · rw [hv, hri, run_indexAt_array C.w t a0 k n hu', hln, if_pos hc, hel, run_sizeOf hsz]; rfl
            · simp only [Rv]
              exact ⟨_, rfl, ob, e0, k1, k2, k3, fun hh => by rw [k4 hh, addr_add, Nat.add_assoc]⟩
          · cases h1
        · rename_i xs hq
          split at h1
          · rename_i hc
            simp only [Option.some.injEq] at h1
            subst h1
            rw [hq] at hr
            simp only [Rv] at hr
            obtain ⟨a0, hv, hrs⟩ := hr
            refine OpOk.of_run hS h2 (s := Instr.indexAt t (a.eval y) (a.eval i)) (u := .pointer (some (a0.add (n.toNat * sz)))) (by simp [execOp, ho]) ?_ ?_
            · rw [hv, hri, run_indexAt_array C.w t a0 k n hu', hln, if_pos hc, hel, run_sizeOf hsz]; rfl
            · simp only [Rv]
              refine ⟨_, rfl, Rps_mono (Look.Le.refl _) _ _ _ _ (fun j v hj => ?_) (Rps_drop hrs (n.toNat * sz))⟩
              rw [addr_add_add]; exact hj
          · cases h1
        · cases h1
      · cases h1
    · cases h1
  · simp at h
theorem op_index {t : TypeId} {y i : Operand} (hS : St C) (hT : RT C T a.tmps) (ho : o.op = .index t y i)
    (h : evalOp P T C.S slot o = some (x, e)) : OpOk P o a C x (applyEff C.S e) := by
  simp only [evalOp, ho] at h
  have hr := opd_rel hT y
  have hri := opd_rel hT i
  split at h
  · rename_i xs k n hq hi
    rw [hq] at hr
    rw [hi, Rv_v] at hri
    simp only [Rv] at hr
    obtain ⟨cs, hv, hs, hrs⟩ := hr
    split at h
    · rename_i len el hu
      split at h
      · rename_i sz hsz
        split at h
        · rename_i hc
          obtain ⟨h1, h2⟩ := map_eff h
          obtain ⟨u, hr1, hr2⟩ := part_ok h1 hs hrs C.w
          exact OpOk.of_run hS h2 (s := Instr.index t (a.eval y) (a.eval i)) (by simp [execOp, ho]) (by simp [Instr.index, hri, hv, asIntOf, run_underlying hu, hc, run_sizeOf hsz, hr1]) hr2
        · simp at h
      · simp at h
    · simp at h
  · rename_i u v hq hi
    obtain ⟨r, hr1, rfl, rfl⟩ := map_effV h
    rw [hq, Rv_v] at hr
    rw [hi, Rv_v] at hri
    exact OpOk.of_run hS rfl (s := Instr.index t (a.eval y) (a.eval i)) (by simp [execOp, ho]) (by rw [hr, hri]; exact pureOf_run P _ _ hr1 _) (by simp [Rv])
  · simp at h

end Go.Proofs.YtkkgimhbliocoaaGreat.Vm
