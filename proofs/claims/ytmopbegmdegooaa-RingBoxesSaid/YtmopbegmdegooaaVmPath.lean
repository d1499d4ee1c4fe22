/- The abstract machine along one path: what is asked of symbols on the way is handed back as a list of statements. -/
import Derived.Test.YtmopbegmdegooaaVmFun
namespace Go.Proofs.Ytmopbegmdegooaa.Vm
open Go Go.RowKit
set_option linter.unusedVariables false
set_option linter.unusedSimpArgs false
set_option linter.unnecessarySimpa false

inductive Hint where
  /-- that the operation comes to this is to be shown -/
  | op (x : AVal) (e : Eff)
  | load (x : AVal)
  | store (ys : List AVal)
  | idx
  | app
  /-- elements of a number that is a symbol are put behind a row, or make one -/
  | appX
  /-- a slice expression whose bounds are symbols -/
  | cut
  /-- what an operation on two numbers comes to is to be shown -/
  | val (v : Value)
  | call (r : AVal) (S : List AObj)
/-- How far a path came: no further (at an operation of a region); to a choice that is not made; to a loop of which nothing is said; to its end. -/
inductive Pth (α : Type) : Type where
  | bad (id i : Nat)
  | more (ob : List Prop)
  | loop (T : List AVal) (S : List AObj)
  | ok (a : α)
abbrev Hints := List (Nat × Nat × Hint)
def hintAt : Hints → Nat → Nat → Option Hint
  | [], _, _ => none
  | (a, b, h) :: hs, id, i => bif Nat.beq a id && Nat.beq b i then some h else hintAt hs id i

def idxP (P : Program) (t : TypeId) (x : AVal) (i : Int) : Option (AVal × Prop) :=
  match P.underlying t with
  | some (.slice e) => match szOf P e with
    | some sz => match x with
      | .list n xs => some (.eptr (xs.drop (i.toNat * sz)), 0 ≤ i ∧ i < n ∧ 0 < sz ∧ xs.length = n * sz)
      | .row o ep sz' off len => if sz' = sz then some (.ptr o ep ((off + i.toNat) * sz), 0 ≤ i ∧ i < len) else none
      | _ => none
    | none => none
  | some (.array n e) => match szOf P e with
    | some sz => match x with
      | .ptr o ep off => some (.ptr o ep (off + i.toNat * sz), 0 ≤ i ∧ i < n)
      | .eptr xs => some (.eptr (xs.drop (i.toNat * sz)), 0 ≤ i ∧ i < n)
      | _ => none
    | none => none
  | _ => none
theorem idxP_ok {P : Program} {t : TypeId} {x : AVal} {i : Int} {r : AVal} {p : Prop} (h : idxP P t x i = some (r, p)) (hp : p) : indexAddrA P t x i = some r := by
  unfold idxP at h
  unfold indexAddrA
  split at h
  · rename_i e he
    simp only [he]
    split at h
    · rename_i sz hsz
      simp only [hsz]
      split at h
      · simp only [Option.some.injEq, Prod.mk.injEq] at h
        obtain ⟨rfl, rfl⟩ := h
        simp only [if_pos hp]
      · split at h
        · rename_i hs
          simp only [Option.some.injEq, Prod.mk.injEq] at h
          obtain ⟨rfl, rfl⟩ := h
          simp only [hs, hp, and_self, if_true]
        · cases h
      · cases h
    · cases h
  · rename_i n e he
    simp only [he]
    split at h
    · rename_i sz hsz
      simp only [hsz]
      split at h
      · simp only [Option.some.injEq, Prod.mk.injEq] at h
        obtain ⟨rfl, rfl⟩ := h
        simp only [hp, and_self, if_true]
      · simp only [Option.some.injEq, Prod.mk.injEq] at h
        obtain ⟨rfl, rfl⟩ := h
        simp only [hp, and_self, if_true]
      · cases h
    · cases h
  · cases h
/-- Elements put behind a row that is there. -/
def appP (P : Program) (S : List AObj) (t : TypeId) (s x : AVal) : Option (AVal × Eff × Prop) :=
  match P.underlying t with
  | some (.slice e) => match P.info? e with
    | some i => if 0 < i.size ∧ i.zero.map (·.cells.size) = some i.size then (match elemsA S i.size x with
      | some (m + 1, ys) => if ys.all AVal.one then (match s with
          | .row o ep sz off len => match S[o]? with
            | some (.row sz' e' fr xs) => if sz = i.size ∧ sz' = sz ∧ e' = ep then
                some (.row o (ep + 1) sz 0 (len + (m + 1)), [(o, .row sz (ep + 1) (fr.map fun _ => 0) (xs.drop (off * sz) ++ ys))],
                  (off + len) * sz = xs.length ∧ (len + (m + 1)) * i.bytes ≤ 140737488355328 ∧ len + (m + 1) ≤ 9223372036854775807)
              else none
            | _ => none
          | _ => none) else none
      | _ => none) else none
    | none => none
  | _ => none
theorem appP_ok {P : Program} {S : List AObj} {slot : Nat} {t : TypeId} {s x : AVal} {r : AVal} {e : Eff} {p : Prop} (h : appP P S t s x = some (r, e, p)) (hp : p) : appendA P S slot t s x = some (r, e) := by
  unfold appP at h
  unfold appendA
  split at h
  · rename_i el hel
    simp only [hel]
    split at h
    · rename_i i hi
      simp only [hi]
      split at h
      · rename_i hz
        rw [if_pos hz]
        split at h
        · rename_i m ys hm
          simp only [hm]
          rw [if_neg (by omega)]
          split at h
          · rename_i hone
            rw [if_pos hone]
            split at h
            · rename_i o ep sz off len
              split at h
              · rename_i sz' e' fr xs hx
                simp only [hx]
                split at h
                · rename_i hc
                  simp only [Option.some.injEq, Prod.mk.injEq] at h
                  obtain ⟨rfl, rfl, rfl⟩ := h
                  rw [if_pos ⟨hc.1, hc.2.1, hc.2.2, hp⟩]
                · cases h
              · cases h
            · cases h
          · cases h
        · cases h
      · cases h
    · cases h
  · cases h

def loN : Option AVal → Nat
  | some (.v (.int _ n)) => n.toNat
  | _ => 0
def hiN (len : Nat) : Option AVal → Nat
  | some (.v (.int _ n)) => n.toNat
  | _ => len
def cutP (P : Program) (t : TypeId) (x : AVal) (lo hi : Option AVal) : Option (AVal × Prop) :=
  match P.underlying t with
  | some (.slice e) => match szOf P e with
    | some sz => match x with
      | .list n xs => some (.list (hiN n hi - loN lo) (cutA xs sz (loN lo) (hiN n hi)), boundsA n lo hi none = some (loN lo, hiN n hi, none))
      | .row o ep sz' off len => if sz' = sz then some (.row o ep sz (off + loN lo) (hiN len hi - loN lo), boundsA len lo hi none = some (loN lo, hiN len hi, none)) else none
      | _ => none
    | none => none
  | _ => none
theorem cutP_ok {P : Program} {t : TypeId} {x : AVal} {lo hi : Option AVal} {r : AVal} {p : Prop} (h : cutP P t x lo hi = some (r, p)) (hp : p) : sliceA P t x lo hi none = some r := by
  unfold cutP at h
  unfold sliceA
  split at h
  · rename_i e he
    simp only [he]
    split at h
    · rename_i sz hsz
      simp only [hsz]
      split at h
      · simp only [Option.some.injEq, Prod.mk.injEq] at h
        obtain ⟨rfl, rfl⟩ := h
        simp only [hp]
        rw [if_neg (by simp)]
      · split at h
        · rename_i hs
          simp only [Option.some.injEq, Prod.mk.injEq] at h
          obtain ⟨rfl, rfl⟩ := h
          simp only [hs, hp, if_true]
          rw [if_neg (by simp)]
        · cases h
      · cases h
    · cases h
  · cases h
def Ones (ys : List AVal) : Prop := ys.all AVal.one = true
def srcP (S : List AObj) (sz : Nat) : AVal → Option (Nat × List AVal × Prop)
  | .list n xs => some (n, upL xs, xs.length = n * sz)
  | .row o ep sz' off len => match S[o]? with
    | some (.row s e _ xs) => if s = sz ∧ sz' = sz ∧ e = ep then some (len, cutA xs sz off (off + len), (off + len) * sz ≤ xs.length) else none
    | _ => none
  | _ => none
theorem srcP_ok {S : List AObj} {sz : Nat} {x : AVal} {m : Nat} {ys : List AVal} {p : Prop} (h : srcP S sz x = some (m, ys, p)) (hp : p) : elemsA S sz x = some (m, ys) := by
  unfold srcP at h
  unfold elemsA
  split at h
  · simp only [Option.some.injEq, Prod.mk.injEq] at h
    obtain ⟨rfl, rfl, rfl⟩ := h
    simp only [hp, if_true]
  · split at h
    · rename_i hx
      split at h
      · rename_i hc
        simp only [Option.some.injEq, Prod.mk.injEq] at h
        obtain ⟨rfl, rfl, rfl⟩ := h
        simp only [hx]
        rw [if_pos ⟨hc.1, hc.2.1, hc.2.2, hp⟩]
      · cases h
    · cases h
  · cases h
def appXP (P : Program) (S : List AObj) (slot : Nat) (t : TypeId) (s x : AVal) : Option (AVal × Eff × List Prop) :=
  match P.underlying t with
  | some (.slice e) => match P.info? e with
    | some i => if 0 < i.size ∧ i.zero.map (·.cells.size) = some i.size then (match srcP S i.size x with
      | some (m, ys, p) => match s with
        | .clip | .v (.slice none 0 0) => some (.row slot 0 i.size 0 m, [(slot, .row i.size 0 none ys)], [p, 0 < m, Ones ys, m * i.bytes ≤ 140737488355328 ∧ m ≤ 9223372036854775807])
        | .row o ep sz off len => match S[o]? with
          | some (.row sz' e' fr xs) => if sz = i.size ∧ sz' = sz ∧ e' = ep then
              some (.row o (ep + 1) sz 0 (len + m), [(o, .row sz (ep + 1) (fr.map fun _ => 0) (xs.drop (off * sz) ++ ys))],
                [p, 0 < m, Ones ys, (off + len) * sz = xs.length ∧ (len + m) * i.bytes ≤ 140737488355328 ∧ len + m ≤ 9223372036854775807])
            else none
          | _ => none
        | _ => none
      | none => none) else none
    | none => none
  | _ => none
theorem appXP_ok {P : Program} {S : List AObj} {slot : Nat} {t : TypeId} {s x : AVal} {r : AVal} {e : Eff} {ps : List Prop} (h : appXP P S slot t s x = some (r, e, ps)) (hp : ∀ p ∈ ps, p) : appendA P S slot t s x = some (r, e) := by
  unfold appXP at h
  unfold appendA
  split at h
  · rename_i el hel
    simp only [hel]
    split at h
    · rename_i i hi
      simp only [hi]
      split at h
      · rename_i hz
        rw [if_pos hz]
        split at h
        · rename_i m ys p hm
          split at h
          · simp only [Option.some.injEq, Prod.mk.injEq] at h
            obtain ⟨rfl, rfl, rfl⟩ := h
            have h1 := hp p (by simp)
            have h2 : 0 < m := hp (0 < m) (by simp)
            have h3 : Ones ys := hp (Ones ys) (by simp)
            have h4 : m * i.bytes ≤ 140737488355328 ∧ m ≤ 9223372036854775807 := hp (m * i.bytes ≤ 140737488355328 ∧ m ≤ 9223372036854775807) (by simp)
            unfold Ones at h3
            simp only [srcP_ok hm h1]
            rw [if_neg (by omega), if_pos h3, if_pos h4]
          · simp only [Option.some.injEq, Prod.mk.injEq] at h
            obtain ⟨rfl, rfl, rfl⟩ := h
            have h1 := hp p (by simp)
            have h2 : 0 < m := hp (0 < m) (by simp)
            have h3 : Ones ys := hp (Ones ys) (by simp)
            have h4 : m * i.bytes ≤ 140737488355328 ∧ m ≤ 9223372036854775807 := hp (m * i.bytes ≤ 140737488355328 ∧ m ≤ 9223372036854775807) (by simp)
            unfold Ones at h3
            simp only [srcP_ok hm h1]
            rw [if_neg (by omega), if_pos h3, if_pos h4]
          · rename_i o ep sz off len
            split at h
            · rename_i sz' e' fr xs hx
              split at h
              · rename_i hc
                simp only [Option.some.injEq, Prod.mk.injEq] at h
                obtain ⟨rfl, rfl, rfl⟩ := h
                have h1 := hp p (by simp)
                have h2 : 0 < m := hp (0 < m) (by simp)
                have h3 : Ones ys := hp (Ones ys) (by simp)
                have h4 : (off + len) * sz = xs.length ∧ (len + m) * i.bytes ≤ 140737488355328 ∧ len + m ≤ 9223372036854775807 := hp _ (List.mem_cons_of_mem _ (List.mem_cons_of_mem _ (List.mem_cons_of_mem _ (List.mem_cons_self ..))))
                unfold Ones at h3
                simp only [srcP_ok hm h1]
                rw [if_neg (by omega), if_pos h3]
                simp only [hx]
                rw [if_pos ⟨hc.1, hc.2.1, hc.2.2, h4⟩]
              · cases h
            · cases h
          · cases h
        · cases h
      · cases h
    · cases h
  · cases h

def evalH (P : Program) (T : List AVal) (S : List AObj) (slot : Nat) (o : Oper) (h : Hint) : Option (AVal × Eff × List Prop) :=
  match h with
  | .op x e => some (x, e, [evalOp P T S slot o = some (x, e)])
  | .load x => match o.op with
    | .load t a => match opd T a with
      | .eptr xs => some (x, [], [partA P t (upL xs) 0 = some x])
      | .ptr q ep off => match S[q]? with
        | some (.box xs) => if ep = 0 then some (x, [], [partA P t xs off = some x]) else none
        | some (.row _ e _ xs) => if e = ep then some (x, [], [partA P t xs off = some x]) else none
        | _ => none
      | _ => none
    | _ => none
  | .appX => match o.op with
    | .call { callee := .builtin .append, args, argTypes } => match args.toList.map (opd T) with
      | [s, x] => if argTypes.toList = [argTypes.getD 0 0, argTypes.getD 0 0] then appXP P S slot (argTypes.getD 0 0) s x else none
      | _ => none
    | _ => none
  | .cut => match o.op with
    | .slice t x lo hi none => match cutP P t (opd T x) (lo.map (opd T)) (hi.map (opd T)) with
      | some (r, p) => some (r, [], [p])
      | none => none
    | _ => none
  | .val v => match o.op with
    | .binOp op t x y _ => match eqAgg P op t (opd T x) (opd T y) with
      | some _ => none
      | none => some (.v v, [], [binA P op t x y (opd T x) (opd T y) = some (.v v)])
    | _ => none
  | .store ys => match o.op with
    | .store t a x => match opd T a with
      | .ptr q ep off => match S[q]? with
        | some (.box xs) => if ep = 0 ∧ szOf P t = some (opd T x).cells.length then some (.v undef, [(q, .box ys)], [putA xs off (opd T x).cells = some ys]) else none
        | some (.row sz e fz xs) => if e = ep ∧ fz.isNone = true ∧ szOf P t = some (opd T x).cells.length then some (.v undef, [(q, .row sz e none ys)], [putA xs off (opd T x).cells = some ys]) else none
        | _ => none
      | _ => none
    | _ => none
  | .idx => match o.op with
    | .indexAddr t x i => match opd T i with
      | .v (.int _ n) => match idxP P t (opd T x) n with
        | some (r, p) => some (r, [], [p])
        | none => none
      | _ => none
    | _ => none
  | .app => match o.op with
    | .call { callee := .builtin .append, args, argTypes } => match args.toList.map (opd T) with
      | [s, x] => if argTypes.toList = [argTypes.getD 0 0, argTypes.getD 0 0] then (match appP P S (argTypes.getD 0 0) s x with
        | some (r, e, p) => some (r, e, [p])
        | none => none) else none
      | _ => none
    | _ => none
  | .call _ _ => none
theorem evalH_ok {P : Program} {T : List AVal} {S : List AObj} {slot : Nat} {o : Oper} {h : Hint} {x : AVal} {e : Eff} {ps : List Prop} (hh : evalH P T S slot o h = some (x, e, ps)) (hp : ∀ p ∈ ps, p) : evalOp P T S slot o = some (x, e) := by
  unfold evalH at hh
  split at hh
  · simp only [Option.some.injEq, Prod.mk.injEq] at hh
    obtain ⟨rfl, rfl, rfl⟩ := hh
    exact hp _ (by simp)
  · split at hh
    · rename_i t a ho
      split at hh
      · rename_i xs ha
        simp only [Option.some.injEq, Prod.mk.injEq] at hh
        obtain ⟨rfl, rfl, rfl⟩ := hh
        have := hp _ (List.mem_singleton.2 rfl)
        simp only [evalOp, ho, loadA, ha, this, Option.map_some]
      · rename_i q ep off ha
        split at hh
        · rename_i xs hq
          split at hh
          · rename_i hc
            simp only [Option.some.injEq, Prod.mk.injEq] at hh
            obtain ⟨rfl, rfl, rfl⟩ := hh
            have := hp _ (List.mem_singleton.2 rfl)
            simp only [evalOp, ho, loadA, ha, hq, hc, this, if_true, Option.map_some]
          · cases hh
        · rename_i _ e _ xs hq
          split at hh
          · rename_i hc
            simp only [Option.some.injEq, Prod.mk.injEq] at hh
            obtain ⟨rfl, rfl, rfl⟩ := hh
            have := hp _ (List.mem_singleton.2 rfl)
            simp only [evalOp, ho, loadA, ha, hq, hc, this, if_true, Option.map_some]
          · cases hh
        · cases hh
      · cases hh
    · cases hh
  · split at hh
    · rename_i args ts ho
      split at hh
      · rename_i s y ha
        split at hh
        · rename_i hts
          simp only [evalOp, ho, ha, evalBuiltin]
          rw [if_pos hts]
          exact appXP_ok hh hp
        · cases hh
      · cases hh
    · cases hh
  · split at hh
    · rename_i t y lo hi ho
      split at hh
      · rename_i r p hr
        simp only [Option.some.injEq, Prod.mk.injEq] at hh
        obtain ⟨rfl, rfl, rfl⟩ := hh
        simp only [evalOp, ho, Option.map_none, cutP_ok hr (hp _ (by simp)), Option.map_some]
      · cases hh
    · cases hh
  · split at hh
    · rename_i op t y z _ ho
      split at hh
      · cases hh
      · rename_i hag
        simp only [Option.some.injEq, Prod.mk.injEq] at hh
        obtain ⟨rfl, rfl, rfl⟩ := hh
        have := hp _ (List.mem_singleton.2 rfl)
        simp only [evalOp, ho, hag, this, Option.map_some]
    · cases hh
  · split at hh
    · rename_i t a y ho
      split at hh
      · rename_i q ep off ha
        split at hh
        · rename_i xs hq
          split at hh
          · rename_i hc
            simp only [Option.some.injEq, Prod.mk.injEq] at hh
            obtain ⟨rfl, rfl, rfl⟩ := hh
            have := hp _ (List.mem_singleton.2 rfl)
            simp only [evalOp, ho, storeA, ha, hq, hc.1, hc.2, this, if_true, Option.map_some]
          · cases hh
        · rename_i sz ee fz xs hq
          split at hh
          · rename_i hc
            simp only [Option.some.injEq, Prod.mk.injEq] at hh
            obtain ⟨rfl, rfl, rfl⟩ := hh
            have := hp _ (List.mem_singleton.2 rfl)
            have hf : fz = none := by cases fz <;> simp_all
            simp only [evalOp, ho, storeA, ha, hq, hc.1, hc.2.2, this, hf, and_self, if_true, Option.map_some]
          · cases hh
        · cases hh
      · cases hh
    · cases hh
  · split at hh
    · rename_i t y i ho
      split at hh
      · rename_i k n hi
        split at hh
        · rename_i r p hr
          simp only [Option.some.injEq, Prod.mk.injEq] at hh
          obtain ⟨rfl, rfl, rfl⟩ := hh
          simp only [evalOp, ho, hi, idxP_ok hr (hp _ (by simp)), Option.map_some]
        · cases hh
      · cases hh
    · cases hh
  · split at hh
    · rename_i args ts ho
      split at hh
      · rename_i s y ha
        split at hh
        · rename_i hts
          split at hh
          · rename_i r e' p hr
            simp only [Option.some.injEq, Prod.mk.injEq] at hh
            obtain ⟨rfl, rfl, rfl⟩ := hh
            simp only [evalOp, ho, ha, evalBuiltin]
            rw [if_pos hts]
            exact appP_ok hr (hp _ (by simp))
          · cases hh
        · cases hh
      · cases hh
    · cases hh
  · cases hh

/-- Where a path has come to: what is still to be chosen, how loops come out, which temporaries were chosen, what is to be shown. -/
structure PSt where
  bs : List Bool
  ls : List (AExit × List AVal × List AObj)
  kn : List Nat
  ob : List Prop
def allOb (ps : List Prop) : Prop := ∀ p ∈ ps, p
def memN : List Nat → Nat → Bool
  | [], _ => false
  | x :: xs, y => Nat.beq x y || memN xs y
def dropN : List Nat → Nat → List Nat
  | [], _ => []
  | x :: xs, y => bif Nat.beq x y then dropN xs y else x :: dropN xs y

/-- A choice that is made is remembered: the temporary is what was chosen. -/
def knowP (t : Nat) (T : List AVal) (st : PSt) : Pth (List AVal × PSt) :=
  bif memN st.kn t then .ok (T, st)
  else match T[t]? with
    | some (.v (.bool b)) => match st.bs with
      | c :: bs => .ok (T.set t (.v (.bool c)), ⟨bs, st.ls, t :: st.kn, (b = c) :: st.ob⟩)
      | [] => .more st.ob
    | _ => .ok (T, st)
def knowX (x : Operand) (T : List AVal) (st : PSt) : Pth (List AVal × PSt) :=
  match x with
  | .tmp t => knowP t T st
  | _ => .ok (T, st)
/-- What is known behind an operation. -/
def knAfter (o : Oper) (kn : List Nat) : List Nat :=
  match o.dst with
  | none => kn
  | some d => match o.op with
    | .move (.tmp t) | .assign (.tmp t) | .unOp _ _ (.tmp t) => bif memN kn t then d :: dropN kn d else dropN kn d
    | .move (.const _) | .assign (.const _) => d :: dropN kn d
    | _ => dropN kn d
def PSt.after (st : PSt) (o : Oper) : PSt := ⟨st.bs, st.ls, knAfter o st.kn, st.ob⟩
def wantedP (ops : Array Oper) (T : List AVal) (o : Oper) (st : PSt) : Pth (Bool × List AVal × PSt) :=
  match o.guard with
  | none => match o.op with
    | .pick x _ _ => match knowX x T st with
      | .ok (T, st) => .ok (true, T, st)
      | .more ob => .more ob
      | .loop T S => .loop T S
      | .bad id i => .bad id i
    | _ => .ok (true, T, st)
  | some (j, _) => match (ops[j]?).bind (·.dst) with
    | some d => match knowP d T st with
      | .ok (T, st) => match wantedA ops T o with
        | some true => match o.op with
          | .pick x _ _ => match knowX x T st with
            | .ok (T, st) => .ok (true, T, st)
            | .more ob => .more ob
            | .loop T S => .loop T S
            | .bad id i => .bad id i
          | _ => .ok (true, T, st)
        | some false => .ok (false, T, st)
        | none => .bad 2001 j
      | .more ob => .more ob
      | .loop T S => .loop T S
      | .bad id i => .bad id i
    | none => .bad 2002 j
theorem set_same {T : List AVal} {d : Nat} {x : AVal} (h : T[d]? = some x) : T.set d x = T := by
  apply List.ext_getElem?
  intro i
  rw [List.getElem?_set]
  by_cases hd : d = i
  · subst hd
    have := (List.getElem?_eq_some_iff.1 h).1
    rw [if_pos rfl, if_pos this, h]
  · rw [if_neg hd]
theorem knowP_ok {t : Nat} {T T1 : List AVal} {st st' : PSt} (h : knowP t T st = .ok (T1, st')) (hp : allOb st'.ob) : T1 = T ∧ allOb st.ob := by
  unfold knowP at h
  cases hm : memN st.kn t with
  | true =>
    rw [hm] at h
    simp only [cond_true, Pth.ok.injEq, Prod.mk.injEq] at h
    obtain ⟨rfl, rfl⟩ := h
    exact ⟨rfl, hp⟩
  | false =>
    rw [hm] at h
    simp only [cond_false] at h
    split at h
    · rename_i b hb
      split at h
      · simp only [Pth.ok.injEq, Prod.mk.injEq] at h
        obtain ⟨rfl, rfl⟩ := h
        rename_i cc bs hbs
        have h1 : b = cc := hp _ (by simp)
        subst h1
        exact ⟨set_same hb, fun p hp' => hp p (by simp [hp'])⟩
      · cases h
    · simp only [Pth.ok.injEq, Prod.mk.injEq] at h
      obtain ⟨rfl, rfl⟩ := h
      exact ⟨rfl, hp⟩
theorem knowX_ok {x : Operand} {T T1 : List AVal} {st st' : PSt} (h : knowX x T st = .ok (T1, st')) (hp : allOb st'.ob) : T1 = T ∧ allOb st.ob := by
  unfold knowX at h
  split at h
  · exact knowP_ok h hp
  · simp only [Pth.ok.injEq, Prod.mk.injEq] at h
    obtain ⟨rfl, rfl⟩ := h
    exact ⟨rfl, hp⟩
theorem wantedP_ok {ops : Array Oper} {T T1 : List AVal} {o : Oper} {st st' : PSt} {b : Bool} (h : wantedP ops T o st = .ok (b, T1, st')) (hp : allOb st'.ob) : T1 = T ∧ wantedA ops T o = some b ∧ allOb st.ob := by
  unfold wantedP at h
  split at h
  · rename_i hg
    have hw : wantedA ops T o = some true := by unfold wantedA; simp only [hg]
    split at h
    · split at h
      · rename_i hk
        simp only [Pth.ok.injEq, Prod.mk.injEq] at h
        obtain ⟨rfl, rfl, rfl⟩ := h
        obtain ⟨rfl, h2⟩ := knowX_ok hk hp
        exact ⟨rfl, hw, h2⟩
      · cases h
      · cases h
      · cases h
    · simp only [Pth.ok.injEq, Prod.mk.injEq] at h
      obtain ⟨rfl, rfl, rfl⟩ := h
      exact ⟨rfl, hw, hp⟩
  · split at h
    · split at h
      · rename_i hk0
        split at h
        · rename_i hw
          split at h
          · split at h
            · rename_i hk
              simp only [Pth.ok.injEq, Prod.mk.injEq] at h
              obtain ⟨rfl, rfl, rfl⟩ := h
              obtain ⟨rfl, h2⟩ := knowX_ok hk hp
              obtain ⟨rfl, h3⟩ := knowP_ok hk0 h2
              exact ⟨rfl, hw, h3⟩
            · cases h
            · cases h
            · cases h
          · simp only [Pth.ok.injEq, Prod.mk.injEq] at h
            obtain ⟨rfl, rfl, rfl⟩ := h
            obtain ⟨rfl, h3⟩ := knowP_ok hk0 hp
            exact ⟨rfl, hw, h3⟩
        · rename_i hw
          simp only [Pth.ok.injEq, Prod.mk.injEq] at h
          obtain ⟨rfl, rfl, rfl⟩ := h
          obtain ⟨rfl, h3⟩ := knowP_ok hk0 hp
          exact ⟨rfl, hw, h3⟩
        · cases h
      · cases h
      · cases h
      · cases h
    · cases h

section
variable (c : Cfg) (ev : Ev) (lv : List Nat) (lo base n : Nat) (hs : Hints)
def stepP (id i : Nat) (T : List AVal) (S : List AObj) (slot : Nat) (o : Oper) : Option (AVal × List AObj × List Prop) :=
  match hintAt hs id i with
  | none => match stepOp c ev lo T S slot o with
    | some (x, S') => some (x, S', [])
    | none => none
  | some h => match isCall o with
    | some (f, xs) => match h, opd T f with
      | .call r S', .fn g caps => some (r, S', [callA c ev lo g (xs.map (opd T) ++ caps) S = some (r, S')])
      | _, _ => none
    | none => match evalH c.P T S slot o h with
      | some (x, e, ps) => if e.all (fun p => lo ≤ p.1) then some (x, applyEff S e, ps) else none
      | none => none
def opsP (id : Nat) (ops : Array Oper) : Nat → List Oper → List AVal → List AObj → PSt → Pth (List AVal × List AObj × PSt)
  | _, [], T, S, st => .ok (T, S, st)
  | i, o :: rest, T, S, st => match wantedP ops T o st with
    | .ok (true, T, st) => match stepP c ev lo hs id i T S (slotOf lo S) o with
      | some (x, S', ps) => opsP id ops (i + 1) rest (putT T o.dst x) S' ⟨st.bs, st.ls, knAfter o st.kn, ps ++ st.ob⟩
      | none => .bad id i
    | .ok (false, T, st) => opsP id ops (i + 1) rest (putT T o.dst (.v undef)) S (st.after o)
    | .more ob => .more ob
    | .loop T S => .loop T S
    | .bad id i => .bad id i
def drawOpP (id i : Nat) (T : List AVal) (S : List AObj) (slot : Nat) (o : Oper) : Option (AVal × Eff × List Prop) :=
  match hintAt hs id i with
  | none => match drawOp c ev lo T S slot o with
    | some (x, e) => some (x, e, [])
    | none => none
  | some h => match isCall o with
    | some (f, xs) => match h, opd T f with
      | .call r _, .fn g caps => some (r, [], [peekCall c ev g (xs.map (opd T) ++ caps) S = some r])
      | _, _ => none
    | none => match evalH c.P T S slot o h with
      | some (x, e, ps) => if e.all (fun p => lo ≤ p.1) then some (x, e, ps) else none
      | none => none
def pass2P (id : Nat) (ops : Array Oper) (pr W : List (List Nat)) (n0 : Nat) : Nat → List Oper → List AVal → List AObj → PSt → Pth (List AVal × List AObj × PSt)
  | _, [], T, S, st => .ok (T, S, st)
  | i, o :: rest, T, S, st => match wantedP ops T o st with
    | .ok (true, T, st) =>
      match drawOpP c ev lo hs id i T (hideAll ((unordered pr ops.size i).flatMap fun j => W.getD j []) S) (n0 + i) o with
      | some (x, e, ps) =>
        if e.all (fun p => (W.getD i []).contains p.1 && !((unordered pr ops.size i).flatMap fun j => W.getD j []).contains p.1 && (p.1 < n0 || p.1 == n0 + i || ((pr.getD i []).any fun j => p.1 == n0 + j))) then
          pass2P id ops pr W n0 (i + 1) rest (putT T o.dst x) (applyEff S e) ⟨st.bs, st.ls, knAfter o st.kn, ps ++ st.ob⟩
        else .bad id i
      | none => .bad id i
    | .ok (false, T, st) => pass2P id ops pr W n0 (i + 1) rest (putT T o.dst (.v undef)) S (st.after o)
    | .more ob => .more ob
    | .loop T S => .loop T S
    | .bad id i => .bad id i
def drawP (id : Nat) (ops : Array Oper) (T : List AVal) (S : List AObj) (st : PSt) : Pth (List AVal × List AObj × PSt) :=
  let pr := predsAll ops.toList []
  if apartT ops pr && aheadOk ops then
    match pass1 c.P lo S.length 0 ops.toList T (S ++ List.replicate ops.size .free) with
    | (S1, W) => pass2P c ev lo hs id ops pr W S.length 0 ops.toList T (freezeAs lo S S1 ++ List.replicate ops.size .free) st
  else .bad id 1000
def evalP : Code → List AVal → List AObj → PSt → Pth (AExit × List AVal × List AObj × PSt)
  | .skip, T, S, st => .ok (.normal, T, S, st)
  | .label _, T, S, st => .ok (.normal, T, S, st)
  | .region id ops false, T, S, st => match opsP c ev lo hs id ops 0 ops.toList T S st with
    | .ok (T', S', st) => .ok (.normal, forgetAt lv id T', S', st)
    | .more ob => .more ob
    | .loop T S => .loop T S
    | .bad id i => .bad id i
  | .region id ops true, T, S, st => match drawP c ev lo hs id ops T S st with
    | .ok (T', S', st) => .ok (.normal, forgetAt lv id T', S', st)
    | .more ob => .more ob
    | .loop T S => .loop T S
    | .bad id i => .bad id i
  | .seq a b, T, S, st => match evalP a T S st with
    | .ok (.normal, T', S', st) => evalP b T' S' st
    | r => r
  | .cond x a b, T, S, st => match knowX x T st with
    | .ok (T, st) => match opd T x with
      | .v (.bool true) => evalP a T S st
      | .v (.bool false) => evalP b T S st
      | _ => .bad 1000 0
    | .more ob => .more ob
    | .loop T S => .loop T S
    | .bad id i => .bad id i
  | .block id a, T, S, st => match evalP a T S st with
    | .ok (.exit j, T', S', st) => .ok (bif Nat.beq j id then .normal else .exit j, T', S', st)
    | r => r
  | .loop a, T, S, st => match st.ls with
    | (x, T', S') :: ls => .ok (x, T', S', ⟨st.bs, ls, [], (iterC base (evalC c ev lv lo base n a) n T S = some (x, T', S')) :: st.ob⟩)
    | [] => .loop T S
  | .exit id, T, S, st => .ok (.exit id, T, S, st)
  | .scope a, T, S, st => evalP a T S st
  | .ret, T, S, st => .ok (.ret, T, S, st)
  | _, _, _, _ => .bad 1000 1
end
section
variable {c : Cfg} {ev : Ev} {lv : List Nat} {lo base n : Nat} {hs : Hints}
theorem allOb_append {ps qs : List Prop} (h : allOb (ps ++ qs)) : allOb ps ∧ allOb qs := ⟨fun p hp => h p (by simp [hp]), fun p hp => h p (by simp [hp])⟩
theorem stepP_ok {id i : Nat} {T : List AVal} {S : List AObj} {slot : Nat} {o : Oper} {x : AVal} {S' : List AObj} {ps : List Prop} (h : stepP c ev lo hs id i T S slot o = some (x, S', ps)) (hp : allOb ps) : stepOp c ev lo T S slot o = some (x, S') := by
  unfold stepP at h
  split at h
  · split at h
    · rename_i hx
      simp only [Option.some.injEq, Prod.mk.injEq] at h
      obtain ⟨rfl, rfl, rfl⟩ := h
      exact hx
    · cases h
  · split at h
    · rename_i f xs hcall
      split at h
      · rename_i r S2 g caps hf hq
        simp only [Option.some.injEq, Prod.mk.injEq] at h
        obtain ⟨rfl, rfl, rfl⟩ := h
        unfold stepOp
        simp only [hcall, hf]
        exact hp _ (List.mem_singleton.2 rfl)
      · cases h
    · rename_i hcall
      split at h
      · rename_i y e qs he
        split at h
        · rename_i hlo
          simp only [Option.some.injEq, Prod.mk.injEq] at h
          obtain ⟨rfl, rfl, rfl⟩ := h
          unfold stepOp
          simp only [hcall, evalH_ok he hp]
          rw [if_pos hlo]
        · cases h
      · cases h
theorem opsP_ok {id : Nat} {ops : Array Oper} : ∀ (rest : List Oper) (i : Nat) (T : List AVal) (S : List AObj) (st : PSt) (T' : List AVal) (S' : List AObj) (st' : PSt), opsP c ev lo hs id ops i rest T S st = .ok (T', S', st') → allOb st'.ob → runOps c ev lo ops rest T S = some (T', S') ∧ allOb st.ob
  | [], i, T, S, st, T', S', st', h, hp => by
    simp only [opsP, Pth.ok.injEq, Prod.mk.injEq] at h
    obtain ⟨rfl, rfl, rfl⟩ := h
    exact ⟨rfl, hp⟩
  | o :: rest, i, T, S, st, T', S', st', h, hp => by
    simp only [opsP] at h
    simp only [runOps]
    split at h
    · rename_i T1 st1 hw
      split at h
      · rename_i x S1 ps hx
        obtain ⟨h1, h2⟩ := opsP_ok rest _ _ _ _ _ _ _ h hp
        obtain ⟨h3, h4⟩ := allOb_append h2
        obtain ⟨rfl, h5, h6⟩ := wantedP_ok hw h4
        simp only [h5, stepP_ok hx h3]
        exact ⟨h1, h6⟩
      · cases h
    · rename_i T1 st1 hw
      obtain ⟨h1, h2⟩ := opsP_ok rest _ _ _ _ _ _ _ h hp
      obtain ⟨rfl, h5, h6⟩ := wantedP_ok hw h2
      simp only [h5]
      exact ⟨h1, h6⟩
    · cases h
    · cases h
    · cases h
theorem drawOpP_ok {id i : Nat} {T : List AVal} {S : List AObj} {slot : Nat} {o : Oper} {x : AVal} {e : Eff} {ps : List Prop} (h : drawOpP c ev lo hs id i T S slot o = some (x, e, ps)) (hp : allOb ps) : drawOp c ev lo T S slot o = some (x, e) := by
  unfold drawOpP at h
  split at h
  · split at h
    · rename_i hx
      simp only [Option.some.injEq, Prod.mk.injEq] at h
      obtain ⟨rfl, rfl, rfl⟩ := h
      exact hx
    · cases h
  · split at h
    · rename_i f xs hcall
      split at h
      · rename_i r S2 g caps hf hq
        simp only [Option.some.injEq, Prod.mk.injEq] at h
        obtain ⟨rfl, rfl, rfl⟩ := h
        unfold drawOp
        have := hp _ (List.mem_singleton.2 rfl)
        simp only [hcall, hf, this, Option.map_some]
      · cases h
    · rename_i hcall
      split at h
      · rename_i y e' qs he
        split at h
        · rename_i hlo
          simp only [Option.some.injEq, Prod.mk.injEq] at h
          obtain ⟨rfl, rfl, rfl⟩ := h
          unfold drawOp
          simp only [hcall, evalH_ok he hp]
          rw [if_pos hlo]
        · cases h
      · cases h
theorem pass2P_ok {id : Nat} {ops : Array Oper} {pr W : List (List Nat)} {n0 : Nat} : ∀ (rest : List Oper) (i : Nat) (T : List AVal) (S : List AObj) (st : PSt) (T' : List AVal) (S' : List AObj) (st' : PSt), pass2P c ev lo hs id ops pr W n0 i rest T S st = .ok (T', S', st') → allOb st'.ob → pass2 c ev lo ops pr W n0 i rest T S = some (T', S') ∧ allOb st.ob
  | [], i, T, S, st, T', S', st', h, hp => by
    simp only [pass2P, Pth.ok.injEq, Prod.mk.injEq] at h
    obtain ⟨rfl, rfl, rfl⟩ := h
    exact ⟨rfl, hp⟩
  | o :: rest, i, T, S, st, T', S', st', h, hp => by
    simp only [pass2P] at h
    simp only [pass2]
    split at h
    · rename_i T1 st1 hw
      split at h
      · rename_i x e ps hx
        split at h
        · rename_i hf
          obtain ⟨h1, h2⟩ := pass2P_ok rest _ _ _ _ _ _ _ h hp
          obtain ⟨h3, h4⟩ := allOb_append h2
          obtain ⟨rfl, h5, h6⟩ := wantedP_ok hw h4
          simp only [h5, drawOpP_ok hx h3]
          rw [if_pos hf]
          exact ⟨h1, h6⟩
        · cases h
      · cases h
    · rename_i T1 st1 hw
      obtain ⟨h1, h2⟩ := pass2P_ok rest _ _ _ _ _ _ _ h hp
      obtain ⟨rfl, h5, h6⟩ := wantedP_ok hw h2
      simp only [h5]
      exact ⟨h1, h6⟩
    · cases h
    · cases h
    · cases h
theorem drawP_ok {id : Nat} {ops : Array Oper} {T : List AVal} {S : List AObj} {st : PSt} {T' : List AVal} {S' : List AObj} {st' : PSt} (h : drawP c ev lo hs id ops T S st = .ok (T', S', st')) (hp : allOb st'.ob) : runDraw c ev lo ops T S = some (T', S') ∧ allOb st.ob := by
  unfold drawP at h
  unfold runDraw
  dsimp only at h ⊢
  split at h
  · rename_i hok
    rw [if_pos hok]
    generalize pass1 c.P lo S.length 0 ops.toList T (S ++ List.replicate ops.size .free) = q at h ⊢
    obtain ⟨S1, W⟩ := q
    exact pass2P_ok _ _ _ _ _ _ _ _ h hp
  · cases h
theorem evalP_ok : ∀ (code : Code) (T : List AVal) (S : List AObj) (st : PSt) (x : AExit) (T' : List AVal) (S' : List AObj) (st' : PSt), evalP c ev lv lo base n hs code T S st = .ok (x, T', S', st') → allOb st'.ob → evalC c ev lv lo base n code T S = some (x, T', S') ∧ allOb st.ob := by
  intro code
  induction code with
  | skip | label | exit | ret =>
    intro T S st x T' S' st' h hp
    simp only [evalP, Pth.ok.injEq, Prod.mk.injEq] at h
    obtain ⟨rfl, rfl, rfl, rfl⟩ := h
    exact ⟨rfl, hp⟩
  | region id ops draw =>
    intro T S st x T' S' st' h hp
    cases draw with
    | false =>
      simp only [evalP] at h
      split at h
      · rename_i T1 S1 st1 h1
        simp only [Pth.ok.injEq, Prod.mk.injEq] at h
        obtain ⟨rfl, rfl, rfl, rfl⟩ := h
        obtain ⟨h2, h3⟩ := opsP_ok _ _ _ _ _ _ _ _ h1 hp
        exact ⟨by simp only [evalC, h2, Option.map_some], h3⟩
      · cases h
      · cases h
      · cases h
    | true =>
      simp only [evalP] at h
      split at h
      · rename_i T1 S1 st1 h1
        simp only [Pth.ok.injEq, Prod.mk.injEq] at h
        obtain ⟨rfl, rfl, rfl, rfl⟩ := h
        obtain ⟨h2, h3⟩ := drawP_ok h1 hp
        exact ⟨by simp only [evalC, h2, Option.map_some], h3⟩
      · cases h
      · cases h
      · cases h
  | seq p q ihp ihq =>
    intro T S st x T' S' st' h hp
    simp only [evalP] at h
    split at h
    · rename_i T1 S1 st1 h1
      obtain ⟨h2, h3⟩ := ihq _ _ _ _ _ _ _ h hp
      obtain ⟨h4, h5⟩ := ihp _ _ _ _ _ _ _ h1 h3
      exact ⟨by simp only [evalC, h4, h2], h5⟩
    · rename_i hne
      obtain ⟨h4, h5⟩ := ihp _ _ _ _ _ _ _ h hp
      refine ⟨?_, h5⟩
      cases x with
      | normal => exact (hne _ _ _ h).elim
      | exit j => simp only [evalC, h4]
      | ret => simp only [evalC, h4]
  | cond y p q ihp ihq =>
    intro T S st x T' S' st' h hp
    simp only [evalP] at h
    split at h
    · rename_i T1 st1 hk
      split at h
      · rename_i ht
        obtain ⟨h1, h2⟩ := ihp _ _ _ _ _ _ _ h hp
        obtain ⟨rfl, h3⟩ := knowX_ok hk h2
        exact ⟨by simp only [evalC, ht, if_true, h1], h3⟩
      · rename_i ht
        obtain ⟨h1, h2⟩ := ihq _ _ _ _ _ _ _ h hp
        obtain ⟨rfl, h3⟩ := knowX_ok hk h2
        exact ⟨by simp only [evalC, ht, Bool.false_eq_true, if_false, h1], h3⟩
      · cases h
    · cases h
    · cases h
    · cases h
  | block id p ih =>
    intro T S st x T' S' st' h hp
    simp only [evalP] at h
    split at h
    · rename_i j T1 S1 st1 h1
      simp only [Pth.ok.injEq, Prod.mk.injEq] at h
      obtain ⟨rfl, rfl, rfl, rfl⟩ := h
      obtain ⟨h4, h5⟩ := ih _ _ _ _ _ _ _ h1 hp
      refine ⟨?_, h5⟩
      simp only [evalC, h4]
      by_cases hj : j = id
      · subst hj; simp
      · have : Nat.beq j id = false := by
          cases hb : Nat.beq j id with
          | false => rfl
          | true => exact absurd (Nat.eq_of_beq_eq_true hb) hj
        simp [hj, this]
    · rename_i hne
      obtain ⟨h4, h5⟩ := ih _ _ _ _ _ _ _ h hp
      refine ⟨?_, h5⟩
      cases x with
      | exit j => exact (hne _ _ _ _ h).elim
      | normal => simp only [evalC, h4]
      | ret => simp only [evalC, h4]
  | loop p ih =>
    intro T S st x T' S' st' h hp
    simp only [evalP] at h
    split at h
    · simp only [Pth.ok.injEq, Prod.mk.injEq] at h
      obtain ⟨rfl, rfl, rfl, rfl⟩ := h
      refine ⟨?_, fun p hp' => hp p (by simp [hp'])⟩
      simp only [evalC]
      exact hp _ (by simp)
    · cases h
  | scope p ih =>
    intro T S st x T' S' st' h hp
    simp only [evalP] at h
    obtain ⟨h4, h5⟩ := ih _ _ _ _ _ _ _ h hp
    exact ⟨by simp only [evalC, h4], h5⟩
  | _ => intro T S st x T' S' st' h hp; simp [evalP] at h
end
end Go.Proofs.Ytmopbegmdegooaa.Vm
