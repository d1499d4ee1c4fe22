/- Texts put together: Clone0, Auto, Loop, Gs, Line1, Line2. What is proved stands at the head of each part. -/
import Derived.Test.YtmopbegmdegooaaBnLine6
import Derived.Lib.SliceRun
/- slices.Clone of no points: a slice of no points comes back; nothing that was there is turned. -/
namespace Go.Proofs.Ytmopbegmdegooaa
open Go Go.RowKit Go.Shelf M
set_option linter.unusedVariables false
set_option linter.unusedSimpArgs false
set_option maxRecDepth 100000 in
set_option maxHeartbeats 2000000 in
theorem clone0_at (A : Option Addr) (c : Nat) (w : World) : Calls Try.prog 60 #[.slice A 0 c] w fun e w' => (∃ A' c', e = .returned (.slice A' 0 c')) ∧ Below w.heap.size w w' := by
  have q22 : ∀ (w : World) (a : Option Addr) (n c n' c' : Nat), (binOp .eql 24 (.slice a n c) (.slice none n' c')).run Try.prog w = .ok (.bool a.isNone) w := fun w a n c n' c' => Lib.run_eql_slice_nil w _ _ a n c n' c' Try.underlying24
  cases A with
  | none =>
    go_enter Try.func60, Try.ntmps60
    go_wp2
    go_ret
    exact ⟨⟨_, _, rfl⟩, Below.refl _ w⟩
  | some a =>
    go_enter Try.func60, Try.ntmps60
    go_wp2
    go_ret
    exact ⟨⟨_, _, rfl⟩, (Below.refl _ w).alloc (Nat.le_refl _) _⟩
open Vm in
theorem clone0_calls : CallsP Try.prog 60 [slP []] (slP []) := fun ok w vs h1 h2 hr => by
  obtain ⟨v, rfl, hv⟩ := vs_one h2 hr
  simp only [slP, Rp] at hv
  obtain ⟨A, c, rfl, _, _⟩ := hv
  refine (clone0_at A c w).mono fun e w' ⟨⟨A', c', he⟩, hb⟩ => ⟨_, ok, he, hb, fun _ _ h => h, fun _ _ h => .inl h, fun b j h => Nat.lt_of_lt_of_le (h1 b j h) hb.size, ?_⟩
  simp only [slP, Rp, flatPP, Rps]
  exact ⟨A', c', rfl, Nat.zero_le _, trivial⟩
open Vm
/-- A result that says less. -/
theorem callsP_wkR {P : Program} {F : FuncId} {ps : List PVal} {r r' : PVal} (h : CallsP P F ps r) (hw : Wk r r') : CallsP P F ps r' := fun ok w vs h1 h2 h3 =>
  (h ok w vs h1 h2 h3).mono fun e w' ⟨v, ok', k1, k2, k3, k4, k5, k6⟩ => ⟨v, ok', k1, k2, k3, k4, k5, hw _ _ k6⟩
theorem Wk_clip : Wk .clip (slP []) := unSl_wk rfl
def fC0 : List P2 → Option PVal
  | [] => some (slP [])
  | _ => none
noncomputable def NC0 : Lib Try.prog := N8.add 60 (fun ps => match ps with
    | [x] => (unSl x).bind fC0
    | _ => none) (Vm.enters_of named_prog Try.func60 (by kernel_rfl)) (fun ps r h => by
  split at h
  · rename_i x
    cases hx : unSl x with
    | none => rw [hx] at h; cases h
    | some l =>
      rw [hx] at h
      simp only [Option.bind_some] at h
      unfold fC0 at h
      split at h
      · simp only [Option.some.injEq] at h
        subst h
        exact callsP_weak clone0_calls ⟨unSl_wk hx, trivial⟩
      · cases h
  · cases h)
theorem turned_nil : CallsP Try.prog 30 [slP []] (slP []) :=
  callsP_wkR (callP_ok (cf_ok NC0) (k := 3) (hs := []) (f := 30) (ps := [slP []]) (bs := [false]) (ls := []) (out := none) (r := .clip) (ob := [false = false]) (by kernel_rfl) (allOb_cons rfl allOb_nil)) Wk_clip
def turnP : List P2 → List P2
  | [] => []
  | q :: qs => q :: qs.reverse
theorem turned_calls (ps : List P2) (h : ps.length ≤ 200) : CallsP Try.prog 30 [slP ps] (slP (turnP ps)) := by
  cases ps with
  | nil => exact turned_nil
  | cons q qs => exact turned_cons q qs (by simp only [List.length_cons] at h; omega)
end Go.Proofs.Ytmopbegmdegooaa
/- What is read off a slice of points at a place that is a symbol. -/
namespace Go.Proofs.Ytmopbegmdegooaa
open Go Vm M
set_option linter.unusedVariables false
set_option linter.unusedSimpArgs false
def pAt (ps : List P2) (k : Nat) : P2 := (intAt (upL ((flatPP ps).drop (k * 2))), intAt ((upL ((flatPP ps).drop (k * 2))).drop 1))
theorem pAt_eq (ps : List P2) (k : Nat) : pAt ps k = ps.getD k (0, 0) := by
  unfold pAt
  rw [flatPP_drop, upL_flatPP]
  cases h : ps.drop k with
  | nil =>
    have : ps.length ≤ k := List.drop_eq_nil_iff.1 h
    simp [flatP, intAt, List.getD, List.getElem?_eq_none this]
  | cons p l =>
    have : ps[k]? = some p := by
      have h2 := congrArg (·[0]?) h
      simpa using h2
    simp [flatP, intAt, List.getD, this]
theorem pAt_get {ps : List P2} {k : Nat} {q : P2} (h : ps[k]? = some q) : pAt ps k = q := by rw [pAt_eq]; simp [List.getD, h]
theorem pAt_getElem {ps : List P2} {k : Nat} (h : k < ps.length) : pAt ps k = ps[k] := pAt_get (List.getElem?_eq_getElem h)
theorem pAt_cast (ps : List P2) (k : Nat) : pAt ps (k : Int).toNat = pAt ps k := by rw [Int.toNat_natCast]
theorem drop_pAt {ps : List P2} {k : Nat} (h : k < ps.length) : (flatPP ps).drop (k * 2) = .v (.int .i64 (pAt ps k).1) :: .v (.int .i64 (pAt ps k).2) :: flatPP (ps.drop (k + 1)) := by
  rw [flatPP_drop, List.drop_eq_getElem_cons h, pAt_getElem h]
  rfl
theorem idx_ok {ps : List P2} {i : Int} (h : 0 ≤ i ∧ i < (ps.length : Int)) : 0 ≤ i ∧ i < (ps.length : Int) ∧ 0 < 2 ∧ (flatPP ps).length = ps.length * 2 := ⟨h.1, h.2, by omega, flatPP_length ps⟩
theorem part_pt {ps : List P2} {i : Int} (h : 0 ≤ i ∧ i < (ps.length : Int)) : partA Try.prog 23 (upL ((flatPP ps).drop (i.toNat * 2))) 0 = some (ptA (pAt ps i.toNat)) := by
  rw [drop_pAt (by omega)]
  unfold partA
  rw [agg23, sz23]
  simp [upL, up, ptA]
theorem part_x {ps : List P2} {i : Int} (h : 0 ≤ i ∧ i < (ps.length : Int)) : partA Try.prog 2 (upL (((flatPP ps).drop (i.toNat * 2)).drop 0)) 0 = some (iA (pAt ps i.toNat).1) := by
  rw [drop_pAt (by omega)]
  rfl
theorem part_y {ps : List P2} {i : Int} (h : 0 ≤ i ∧ i < (ps.length : Int)) : partA Try.prog 2 (upL (((flatPP ps).drop (i.toNat * 2)).drop 1)) 0 = some (iA (pAt ps i.toNat).2) := by
  rw [drop_pAt (by omega)]
  rfl
theorem partR_pt {ps : List P2} {i : Int} (h : 0 ≤ i ∧ i < (ps.length : Int)) : partA Try.prog 23 (upL (flatPP ps)) ((0 + i.toNat) * 2) = some (ptA (pAt ps i.toNat)) := by
  rw [upL_flatPP, Nat.zero_add, pAt_getElem (by omega : i.toNat < ps.length)]
  exact flatP_part (List.getElem?_eq_getElem (by omega)) agg23 sz23
theorem partR_x {ps : List P2} {i : Int} (h : 0 ≤ i ∧ i < (ps.length : Int)) : partA Try.prog 2 (upL (flatPP ps)) ((0 + i.toNat) * 2 + 0) = some (iA (pAt ps i.toNat).1) := by
  have e : (upL (flatPP ps))[(0 + i.toNat) * 2 + 0]? = some (iA (pAt ps i.toNat).1) := by
    have := drop_pAt (ps := ps) (k := i.toNat) (by omega)
    have h2 := congrArg (fun l => (upL l)[0]?) this
    simp only [upL_drop, List.getElem?_drop] at h2
    rw [Nat.zero_add]
    exact h2
  unfold partA
  exact e
theorem partR_y {ps : List P2} {i : Int} (h : 0 ≤ i ∧ i < (ps.length : Int)) : partA Try.prog 2 (upL (flatPP ps)) ((0 + i.toNat) * 2 + 1) = some (iA (pAt ps i.toNat).2) := by
  have e : (upL (flatPP ps))[(0 + i.toNat) * 2 + 1]? = some (iA (pAt ps i.toNat).2) := by
    have := drop_pAt (ps := ps) (k := i.toNat) (by omega)
    have h2 := congrArg (fun l => (upL l)[1]?) this
    simp only [upL_drop, List.getElem?_drop] at h2
    rw [Nat.zero_add]
    exact h2
  unfold partA
  exact e
end Go.Proofs.Ytmopbegmdegooaa
/- Loops of one counter: that come to their end, or are left where something is found. -/
namespace Go.Proofs.Ytmopbegmdegooaa
open Go Vm M
set_option linter.unusedVariables false
set_option linter.unusedSimpArgs false
theorem At.upto {base : Nat} {body : List AVal → List AObj → Res} {T : Nat → List AVal} {S : Nat → List AObj} {n m : Nat} {r : Res}
    (hs : ∀ k, k < n → roundC base body (T k) (S k) = some (.normal, T (k + 1), S (k + 1))) (he : At base body m (T n) (S n) r) : ∀ d k, k + d = n → At base body (d + m) (T k) (S k) r
  | 0, k, h => by
    obtain rfl : k = n := by omega
    rw [Nat.zero_add]
    exact he
  | d + 1, k, h => by
    rw [show d + 1 + m = (d + m) + 1 by omega]
    exact At.step (hs k (by omega)) (At.upto hs he d (k + 1) (by omega))
/-- The first number from k on, of d, at which c is. -/
def firstAt (c : Nat → Bool) : Nat → Nat → Option Nat
  | 0, _ => none
  | d + 1, k => bif c k then some k else firstAt c d (k + 1)
theorem firstAt_some {c : Nat → Bool} : ∀ {d k j : Nat}, firstAt c d k = some j → k ≤ j ∧ j < k + d ∧ c j = true ∧ ∀ i, k ≤ i → i < j → c i = false
  | 0, k, j, h => by simp [firstAt] at h
  | d + 1, k, j, h => by
    unfold firstAt at h
    cases hc : c k with
    | true =>
      rw [hc] at h
      simp only [cond_true, Option.some.injEq] at h
      subst h
      exact ⟨Nat.le_refl _, by omega, hc, fun i h1 h2 => by omega⟩
    | false =>
      rw [hc] at h
      simp only [cond_false] at h
      obtain ⟨h1, h2, h3, h4⟩ := firstAt_some h
      refine ⟨by omega, by omega, h3, fun i h5 h6 => ?_⟩
      by_cases hi : i = k
      · rw [hi]; exact hc
      · exact h4 i (by omega) h6
theorem firstAt_none {c : Nat → Bool} : ∀ {d k : Nat}, firstAt c d k = none → ∀ i, k ≤ i → i < k + d → c i = false
  | 0, k, h => fun i h1 h2 => by omega
  | d + 1, k, h => by
    unfold firstAt at h
    cases hc : c k with
    | true => rw [hc] at h; cases h
    | false =>
      rw [hc] at h
      simp only [cond_false] at h
      intro i h1 h2
      by_cases hi : i = k
      · rw [hi]; exact hc
      · exact firstAt_none h i (by omega) (by omega)
theorem firstAt_congr {c c' : Nat → Bool} : ∀ {d k : Nat}, (∀ i, k ≤ i → i < k + d → c i = c' i) → firstAt c d k = firstAt c' d k
  | 0, k, h => rfl
  | d + 1, k, h => by
    unfold firstAt
    rw [h k (by omega) (by omega), firstAt_congr (d := d) (k := k + 1) fun i h1 h2 => h i (by omega) (by omega)]
theorem firstAt_eq_some {c : Nat → Bool} {d k j : Nat} (h1 : k ≤ j) (h2 : j < k + d) (h3 : c j = true) (h4 : ∀ i, k ≤ i → i < j → c i = false) : firstAt c d k = some j := by
  cases h : firstAt c d k with
  | none => rw [firstAt_none h j h1 h2] at h3; cases h3
  | some i =>
    obtain ⟨g1, g2, g3, g4⟩ := firstAt_some h
    by_cases hlt : i < j
    · rw [h4 i g1 hlt] at g3; cases g3
    · by_cases hgt : j < i
      · rw [g4 j h1 hgt] at h3; cases h3
      · rw [show i = j by omega]
theorem firstAt_eq_none {c : Nat → Bool} {d k : Nat} (h : ∀ i, k ≤ i → i < k + d → c i = false) : firstAt c d k = none := by
  cases hf : firstAt c d k with
  | none => rfl
  | some j =>
    obtain ⟨g1, g2, g3, _⟩ := firstAt_some hf
    rw [h j g1 g2] at g3; cases g3
/-- A loop that looks for something. -/
theorem At.search {base : Nat} {body : List AVal → List AObj → Res} {T : Nat → List AVal} {S : Nat → List AObj} {n : Nat} {c : Nat → Bool} {X : Nat → AExit × List AVal × List AObj} {E : AExit × List AVal × List AObj}
    (hs : ∀ k, k < n → c k = false → roundC base body (T k) (S k) = some (.normal, T (k + 1), S (k + 1)))
    (hx : ∀ k, k < n → c k = true → roundC base body (T k) (S k) = some (X k) ∧ (X k).1 ≠ .normal)
    (he : roundC base body (T n) (S n) = some E ∧ E.1 ≠ .normal) : ∀ d k, k + d = n → At base body (d + 1) (T k) (S k) (some (match firstAt c d k with | some j => X j | none => E))
  | 0, k, h => by
    obtain rfl : k = n := by omega
    unfold firstAt
    obtain ⟨h1, h2⟩ := he
    exact At.leave h1 h2
  | d + 1, k, h => by
    unfold firstAt
    cases hc : c k with
    | true =>
      obtain ⟨h1, h2⟩ := hx k (by omega) hc
      exact At.leave h1 h2
    | false =>
      exact At.step (hs k (by omega) hc) (At.search hs hx he d (k + 1) (by omega))
theorem wrS {k : Nat} (h : k < 9000000000000000000) : IntKind.i64.wrap ((k : Int) + 1) = ((k + 1 : Nat) : Int) := by
  rw [IntWalk.i64_in _ (by omega)]
  omega
end Go.Proofs.Ytmopbegmdegooaa
/- Functions of slices, where something is told of them. -/
namespace Go.Proofs.Ytmopbegmdegooaa
open Go Vm M
set_option linter.unusedVariables false
set_option linter.unusedSimpArgs false
/-- One slice, two slices: where something is told of them. -/
def gSo (f : List P2 → Option PVal) : List PVal → Option PVal
  | [x] => match unSl x with
    | some ps => f ps
    | none => none
  | _ => none
theorem gSo_spec {P : Program} {F : FuncId} {f : List P2 → Option PVal} (h : ∀ ps r, f ps = some r → CallsP P F [slP ps] r) : ∀ ps r, gSo f ps = some r → CallsP P F ps r := by
  intro ps r hg
  unfold gSo at hg
  split at hg
  · split at hg
    · rename_i qs hq
      exact callsP_weak (h qs r hg) ⟨unSl_wk hq, trivial⟩
    · cases hg
  · cases hg
theorem gSo_slP (f : List P2 → Option PVal) (ps : List P2) : gSo f [slP ps] = f ps := by simp [gSo, unSl_slP]
def gSSo (f : List P2 → List P2 → Option PVal) : List PVal → Option PVal
  | [x, y] => match unSl x, unSl y with
    | some ps, some qs => f ps qs
    | _, _ => none
  | _ => none
theorem gSSo_spec {P : Program} {F : FuncId} {f : List P2 → List P2 → Option PVal} (h : ∀ ps qs r, f ps qs = some r → CallsP P F [slP ps, slP qs] r) : ∀ ps r, gSSo f ps = some r → CallsP P F ps r := by
  intro ps r hg
  unfold gSSo at hg
  split at hg
  · split at hg
    · rename_i qs p hq hp
      exact callsP_weak (h qs p r hg) ⟨unSl_wk hq, unSl_wk hp, trivial⟩
    · cases hg
  · cases hg
theorem gSSo_slP (f : List P2 → List P2 → Option PVal) (ps qs : List P2) : gSSo f [slP ps, slP qs] = f ps qs := by simp [gSSo, unSl_slP]
def fGrid (ps : List P2) : Option PVal := if ps.length ≤ 200 then some (slP (ps.map nearP)) else none
def fTurned (ps : List P2) : Option PVal := if ps.length ≤ 200 then some (slP (turnP ps)) else none
def fSame (xs ys : List P2) : Option PVal := if xs.length ≤ 200 then some (bP (decide (xs = ys))) else none
theorem fGrid_ok (ps : List P2) (r : PVal) (h : fGrid ps = some r) : CallsP Try.prog 29 [slP ps] r := by
  unfold fGrid at h
  split at h
  · rename_i h2
    simp only [Option.some.injEq] at h
    subst h
    exact grid_calls ps h2
  · cases h
theorem fTurned_ok (ps : List P2) (r : PVal) (h : fTurned ps = some r) : CallsP Try.prog 30 [slP ps] r := by
  unfold fTurned at h
  split at h
  · rename_i h2
    simp only [Option.some.injEq] at h
    subst h
    exact turned_calls ps h2
  · cases h
theorem fSame_ok (xs ys : List P2) (r : PVal) (h : fSame xs ys = some r) : CallsP Try.prog 31 [slP xs, slP ys] r := by
  unfold fSame at h
  split at h
  · rename_i h2
    simp only [Option.some.injEq] at h
    subst h
    exact same_calls xs ys h2
  · cases h
end Go.Proofs.Ytmopbegmdegooaa
/- Lines: where points are of the grid; closed lines; where a point is on a line. -/
namespace Go.Proofs.Ytmopbegmdegooaa
open Go Vm M
set_option linter.unusedVariables false
set_option linter.unusedSimpArgs false
def ptOkF (p : P2) : PVal :=
  (bif decide (Prod.fst p ≥ -1048576) then (bif decide (Prod.fst p ≤ 1048576) then (bif decide (Prod.snd p ≥ -1048576) then PVal.v (Value.bool (decide (Prod.snd p ≤ 1048576))) else PVal.v (Value.bool false)) else PVal.v (Value.bool false)) else PVal.v (Value.bool false))
theorem ptOkF_calls (p : P2) : CallsP Try.prog 63 [ptP p] (ptOkF p) := by
  have key := fun (bs : List Bool) (r : PVal) (ob : List Prop) (h : callP (cf N8) (evalF (cf N8) 1) 1 [] 63 [ptP p] bs [] (none) = .ok (r, ob)) (hp : allOb ob) => callP_ok (cf_ok N8) h hp
  unfold ptOkF
  exact bif_case (P := fun r => CallsP Try.prog 63 [ptP p] r)
    (fun h0 => bif_case (P := fun r => CallsP Try.prog 63 [ptP p] r)
     (fun h1 => bif_case (P := fun r => CallsP Try.prog 63 [ptP p] r)
      (fun h2 => key [true, true, true] (PVal.v (Value.bool (decide (Prod.snd p ≤ 1048576)))) _ (by kernel_rfl) (allOb_cons h2 (allOb_cons h1 (allOb_cons h0 allOb_nil))))
      (fun h2 => key [true, true, false] (PVal.v (Value.bool false)) _ (by kernel_rfl) (allOb_cons h2 (allOb_cons h1 (allOb_cons h0 allOb_nil)))))
     (fun h1 => key [true, false, false] (PVal.v (Value.bool false)) _ (by kernel_rfl) (allOb_cons lit_f (allOb_cons h1 (allOb_cons h0 allOb_nil)))))
    (fun h0 => key [false, false, false] (PVal.v (Value.bool false)) _ (by kernel_rfl) (allOb_cons lit_f (allOb_cons lit_f (allOb_cons h0 allOb_nil))))
def lcC (ps : List P2) : PVal :=
  (bif decide ((↑(List.length ps) : Int) ≥ 3) then PVal.v (Value.bool (eqB (pAt ps 0) (pAt ps (Int.toNat (IntKind.wrap IntKind.i64 ((↑(List.length ps) : Int) - 1)))))) else PVal.v (Value.bool false))
theorem lcC_calls (ps : List P2) (b0 : decide ((↑(List.length ps) : Int) ≥ 3) = true → (0 : Int) ≤ 0 ∧ (0 : Int) < (↑(List.length ps) : Int)) (b1 : decide ((↑(List.length ps) : Int) ≥ 3) = true → (0 : Int) ≤ IntKind.wrap IntKind.i64 ((↑(List.length ps) : Int) - 1) ∧ (IntKind.wrap IntKind.i64 ((↑(List.length ps) : Int) - 1) : Int) < (↑(List.length ps) : Int)) : CallsP Try.prog 34 [slP ps] (lcC ps) := by
  have key := fun (bs : List Bool) (r : PVal) (ob : List Prop) (h : callP (cf N8) (evalF (cf N8) 201) 201 [(9999, 0, Hint.idx)] 34 [slP ps] bs [] (none) = .ok (r, ob)) (hp : allOb ob) => callP_ok (cf_ok N8) h hp
  unfold lcC
  exact bif_case (P := fun r => CallsP Try.prog 34 [slP ps] r)
    (fun h0 => key [true] (PVal.v (Value.bool (eqB (pAt ps 0) (pAt ps (Int.toNat (IntKind.wrap IntKind.i64 ((↑(List.length ps) : Int) - 1))))))) _ (by kernel_rfl) (allOb_cons (by first | exact part_pt (b1 h0) | exact part_x (b1 h0) | exact part_y (b1 h0) | exact part_pt (b0 h0) | exact part_x (b0 h0) | exact part_y (b0 h0)) (allOb_cons (idx_ok (b1 h0)) (allOb_cons (by first | exact part_pt (b0 h0) | exact part_x (b0 h0) | exact part_y (b0 h0)) (allOb_cons (idx_ok (b0 h0)) (allOb_cons h0 allOb_nil))))))
    (fun h0 => key [false] (PVal.v (Value.bool false)) _ (by kernel_rfl) (allOb_cons h0 allOb_nil))
def atT (ps : List P2) (i : Int) : List AVal := [slA ps] ++ jk 2 ++ [AVal.ptr 0 0 0, .junk, iA (-1), iA i] ++ jk 20
def atS (p : P2) : List AObj := [.box (cellsP p)]
def atR (ps : List P2) (i : Int) (p : P2) : AExit × List AVal × List AObj :=
  (bif decide (IntKind.wrap IntKind.i64 (i + 1) < (↑(List.length ps) : Int)) then (bif on (pAt ps (Int.toNat i)) (pAt ps (Int.toNat (IntKind.wrap IntKind.i64 (i + 1)))) p then (AExit.exit 0, ((jk 5 ++ [AVal.v (Value.int IntKind.i64 i)] ++ jk 21), [])) else (AExit.normal, (([slA ps, AVal.junk, AVal.junk, AVal.ptr 0 0 0, AVal.junk, AVal.v (Value.int IntKind.i64 (-1)), AVal.v (Value.int IntKind.i64 (IntKind.wrap IntKind.i64 (i + 1)))] ++ jk 20), ([AObj.box [AVal.v (Value.int IntKind.i64 (Prod.fst p)), AVal.v (Value.int IntKind.i64 (Prod.snd p))]])))) else (AExit.exit 0, (([slA ps, AVal.junk, AVal.junk, AVal.ptr 0 0 0, AVal.junk, AVal.v (Value.int IntKind.i64 (-1)), AVal.v (Value.int IntKind.i64 i)] ++ jk 4 ++ [AVal.v (Value.bool false)] ++ jk 15), ([AObj.box [AVal.v (Value.int IntKind.i64 (Prod.fst p)), AVal.v (Value.int IntKind.i64 (Prod.snd p))]]))))
theorem atR_eq (ps : List P2) (i : Int) (p : P2) (b0 : decide (IntKind.wrap IntKind.i64 (i + 1) < (↑(List.length ps) : Int)) = true → (0 : Int) ≤ i ∧ (i : Int) < (↑(List.length ps) : Int)) (b1 : decide (IntKind.wrap IntKind.i64 (i + 1) < (↑(List.length ps) : Int)) = true → (0 : Int) ≤ IntKind.wrap IntKind.i64 (i + 1) ∧ (IntKind.wrap IntKind.i64 (i + 1) : Int) < (↑(List.length ps) : Int)) : roundC 0 (evalC (cf N8) (evalF (cf N8) 201) (Option.getD (List.lookup 39 lives) []) 0 0 201 (loopAt Try.f39 0)) (atT ps i) (atS p) = some (atR ps i p) := by
  have key := fun (bs : List Bool) (r : AExit × List AVal × List AObj) (ob : List Prop) (h : roundP (cf N8) (evalF (cf N8) 201) (Option.getD (List.lookup 39 lives) []) 0 0 201 [(9999, 0, Hint.idx)] (loopAt Try.f39 0) (atT ps i) (atS p) bs [] = .ok (r.1, r.2.1, r.2.2, ob)) (hp : allOb ob) => roundP_ok h hp
  unfold atR
  exact bif_case (P := fun r => roundC 0 (evalC (cf N8) (evalF (cf N8) 201) (Option.getD (List.lookup 39 lives) []) 0 0 201 (loopAt Try.f39 0)) (atT ps i) (atS p) = some r)
    (fun h0 => bif_case (P := fun r => roundC 0 (evalC (cf N8) (evalF (cf N8) 201) (Option.getD (List.lookup 39 lives) []) 0 0 201 (loopAt Try.f39 0)) (atT ps i) (atS p) = some r)
     (fun h1 => key [true, true] ((AExit.exit 0, ((jk 5 ++ [AVal.v (Value.int IntKind.i64 i)] ++ jk 21), []))) _ (by kernel_rfl) (allOb_cons (show Plain ([AObj.box [AVal.v (Value.int IntKind.i64 (Prod.fst p)), AVal.v (Value.int IntKind.i64 (Prod.snd p))]] ++ List.replicate 11 AObj.free) from by simp only [Plain, List.all_append, List.all_cons, List.all_nil, plainO, flatP_plain, Nat.zero_mul, List.drop_zero] <;> rfl) (allOb_cons h1 (allOb_cons (by first | exact part_pt (b1 h0) | exact part_x (b1 h0) | exact part_y (b1 h0) | exact part_pt (b0 h0) | exact part_x (b0 h0) | exact part_y (b0 h0)) (allOb_cons (idx_ok (b1 h0)) (allOb_cons (by first | exact part_pt (b0 h0) | exact part_x (b0 h0) | exact part_y (b0 h0)) (allOb_cons (idx_ok (b0 h0)) (allOb_cons h0 allOb_nil))))))))
     (fun h1 => key [true, false] ((AExit.normal, (([slA ps, AVal.junk, AVal.junk, AVal.ptr 0 0 0, AVal.junk, AVal.v (Value.int IntKind.i64 (-1)), AVal.v (Value.int IntKind.i64 (IntKind.wrap IntKind.i64 (i + 1)))] ++ jk 20), ([AObj.box [AVal.v (Value.int IntKind.i64 (Prod.fst p)), AVal.v (Value.int IntKind.i64 (Prod.snd p))]])))) _ (by kernel_rfl) (allOb_cons (show Plain ([AObj.box [AVal.v (Value.int IntKind.i64 (Prod.fst p)), AVal.v (Value.int IntKind.i64 (Prod.snd p))]] ++ List.replicate 11 AObj.free) from by simp only [Plain, List.all_append, List.all_cons, List.all_nil, plainO, flatP_plain, Nat.zero_mul, List.drop_zero] <;> rfl) (allOb_cons h1 (allOb_cons (by first | exact part_pt (b1 h0) | exact part_x (b1 h0) | exact part_y (b1 h0) | exact part_pt (b0 h0) | exact part_x (b0 h0) | exact part_y (b0 h0)) (allOb_cons (idx_ok (b1 h0)) (allOb_cons (by first | exact part_pt (b0 h0) | exact part_x (b0 h0) | exact part_y (b0 h0)) (allOb_cons (idx_ok (b0 h0)) (allOb_cons h0 allOb_nil)))))))))
    (fun h0 => key [false] ((AExit.exit 0, (([slA ps, AVal.junk, AVal.junk, AVal.ptr 0 0 0, AVal.junk, AVal.v (Value.int IntKind.i64 (-1)), AVal.v (Value.int IntKind.i64 i)] ++ jk 4 ++ [AVal.v (Value.bool false)] ++ jk 15), ([AObj.box [AVal.v (Value.int IntKind.i64 (Prod.fst p)), AVal.v (Value.int IntKind.i64 (Prod.snd p))]])))) _ (by kernel_rfl) (allOb_cons (show Plain ([AObj.box [AVal.v (Value.int IntKind.i64 (Prod.fst p)), AVal.v (Value.int IntKind.i64 (Prod.snd p))]]) from by simp only [Plain, List.all_append, List.all_cons, List.all_nil, plainO, flatP_plain, Nat.zero_mul, List.drop_zero] <;> rfl) (allOb_cons h0 allOb_nil)))
def atX (i : Int) : List AVal := jk 5 ++ [iA i] ++ jk 21
def atE (ps : List P2) (i : Int) : List AVal := [slA ps] ++ jk 2 ++ [AVal.ptr 0 0 0, .junk, iA (-1), iA i] ++ jk 4 ++ [bA false] ++ jk 15
def atAx (ps : List P2) (i : Int) (p : P2) : PVal :=
  PVal.v (Value.int IntKind.i64 i)
theorem atAx_calls (ps : List P2) (i : Int) (p : P2) (e0 : iterC 0 (evalC (cf N8) (evalF (cf N8) 201) ((lives.lookup 39).getD []) 0 0 201 (loopAt Try.f39 0)) 201 ([AVal.list (List.length ps) (flatPP ps), AVal.junk, AVal.junk, AVal.ptr 0 0 0, AVal.junk, AVal.v (Value.int IntKind.i64 (-1)), AVal.v (Value.int IntKind.i64 0)] ++ jk 20) ([AObj.box [AVal.v (Value.int IntKind.i64 (Prod.fst p)), AVal.v (Value.int IntKind.i64 (Prod.snd p))]]) = some (AExit.exit 0, ((jk 5 ++ [AVal.v (Value.int IntKind.i64 i)] ++ jk 21), []))) : CallsP Try.prog 39 [slP ps, ptP p] (atAx ps i p) := by
  have key := fun (bs : List Bool) (r : PVal) (ob : List Prop) (h : callP (cf N8) (evalF (cf N8) 201) 201 [(9999, 0, Hint.idx)] 39 [slP ps, ptP p] bs [(AExit.exit 0, atX i, [])] (none) = .ok (r, ob)) (hp : allOb ob) => callP_ok (cf_ok N8) h hp
  unfold atAx
  exact key [] (PVal.v (Value.int IntKind.i64 i)) _ (by kernel_rfl) (allOb_cons (by exact e0) allOb_nil)
def atAe (ps : List P2) (i : Int) (p : P2) : PVal :=
  PVal.v (Value.int IntKind.i64 (-1))
theorem atAe_calls (ps : List P2) (i : Int) (p : P2) (e0 : iterC 0 (evalC (cf N8) (evalF (cf N8) 201) ((lives.lookup 39).getD []) 0 0 201 (loopAt Try.f39 0)) 201 ([AVal.list (List.length ps) (flatPP ps), AVal.junk, AVal.junk, AVal.ptr 0 0 0, AVal.junk, AVal.v (Value.int IntKind.i64 (-1)), AVal.v (Value.int IntKind.i64 0)] ++ jk 20) ([AObj.box [AVal.v (Value.int IntKind.i64 (Prod.fst p)), AVal.v (Value.int IntKind.i64 (Prod.snd p))]]) = some (AExit.exit 0, (([AVal.list (List.length ps) (flatPP ps), AVal.junk, AVal.junk, AVal.ptr 0 0 0, AVal.junk, AVal.v (Value.int IntKind.i64 (-1)), AVal.v (Value.int IntKind.i64 i)] ++ jk 4 ++ [AVal.v (Value.bool false)] ++ jk 15), ([AObj.box [AVal.v (Value.int IntKind.i64 (Prod.fst p)), AVal.v (Value.int IntKind.i64 (Prod.snd p))]])))) : CallsP Try.prog 39 [slP ps, ptP p] (atAe ps i p) := by
  have key := fun (bs : List Bool) (r : PVal) (ob : List Prop) (h : callP (cf N8) (evalF (cf N8) 201) 201 [(9999, 0, Hint.idx)] 39 [slP ps, ptP p] bs [(AExit.exit 0, atE ps i, atS p)] (none) = .ok (r, ob)) (hp : allOb ob) => callP_ok (cf_ok N8) h hp
  unfold atAe
  exact key [] (PVal.v (Value.int IntKind.i64 (-1))) _ (by kernel_rfl) (allOb_cons (by exact e0) allOb_nil)
end Go.Proofs.Ytmopbegmdegooaa
/- Lines: what 'closed', 'where is a point' answer. -/
namespace Go.Proofs.Ytmopbegmdegooaa
open Go Vm M
set_option linter.unusedVariables false
set_option linter.unusedSimpArgs false
theorem ptok_calls (p : P2) : CallsP Try.prog 63 [ptP p] (bP (okP p)) := by
  have h := ptOkF_calls p
  have e : ptOkF p = bP (okP p) := by
    unfold ptOkF okP
    simp only [GE.ge]
    cases decide (-1048576 ≤ p.1) <;> cases decide (p.1 ≤ 1048576) <;> cases decide (-1048576 ≤ p.2) <;> rfl
  rw [e] at h
  exact h
def closedB (ps : List P2) : Bool := decide (3 ≤ ps.length) && eqB (pAt ps 0) (pAt ps (ps.length - 1))
theorem closed_calls (ps : List P2) (h200 : ps.length ≤ 200) : CallsP Try.prog 34 [slP ps] (bP (closedB ps)) := by
  by_cases h3 : 3 ≤ ps.length
  · have hw : IntKind.i64.wrap ((ps.length : Int) - 1) = ((ps.length - 1 : Nat) : Int) := by rw [IntWalk.i64_in _ (by omega)]; omega
    have h := lcC_calls ps (fun _ => by omega) (fun _ => by rw [hw]; omega)
    have e : lcC ps = bP (closedB ps) := by
      unfold lcC closedB
      rw [hw, Int.toNat_natCast, decide_eq_true (by omega : (ps.length : Int) ≥ 3), decide_eq_true h3]
      rfl
    rw [e] at h
    exact h
  · have n3 : decide ((ps.length : Int) ≥ 3) = false := decide_eq_false (by omega)
    have h := lcC_calls ps (fun h => by rw [n3] at h; cases h) (fun h => by rw [n3] at h; cases h)
    have e : lcC ps = bP (closedB ps) := by
      unfold lcC closedB
      rw [n3, decide_eq_false h3]
      rfl
    rw [e] at h
    exact h
/-- Where a point is on a line. -/
def atB (ps : List P2) (p : P2) (k : Nat) : Bool := on (pAt ps k) (pAt ps (k + 1)) p
def atO (ps : List P2) (p : P2) : Option Nat := firstAt (atB ps p) (ps.length - 1) 0
def atI (ps : List P2) (p : P2) : Int := match atO ps p with
  | some k => k
  | none => -1
noncomputable abbrev bodyAt : List AVal → List AObj → Res := evalC (cf N8) (evalF (cf N8) 201) ((lives.lookup 39).getD []) 0 0 201 (loopAt Try.f39 0)
theorem at_loop (ps : List P2) (p : P2) (h1 : 1 ≤ ps.length) (h200 : ps.length ≤ 200) :
    At 0 bodyAt (ps.length - 1 + 1) (atT ps (0 : Nat)) (atS p) (some (match atO ps p with | some j => (.exit 0, atX j, []) | none => (.exit 0, atE ps (ps.length - 1 : Nat), atS p))) := by
  have key : ∀ k : Nat, k ≤ ps.length - 1 → roundC 0 bodyAt (atT ps k) (atS p) = some (atR ps k p) := fun k hk =>
    atR_eq ps k p (fun _ => by omega) (fun h => by
      have := of_decide_eq_true h
      rw [wrS (by omega)] at this ⊢
      omega)
  refine At.search (T := fun k => atT ps k) (S := fun _ => atS p) (n := ps.length - 1) (c := atB ps p) (X := fun j => (.exit 0, atX j, [])) (E := (.exit 0, atE ps (ps.length - 1 : Nat), atS p)) ?_ ?_ ?_ (ps.length - 1) 0 (by omega)
  · intro k hk hc
    rw [key k (by omega)]
    unfold atR
    unfold atB at hc
    rw [wrS (by omega), decide_eq_true (by omega : ((k + 1 : Nat) : Int) < (ps.length : Int)), Int.toNat_natCast, Int.toNat_natCast, hc]
    rfl
  · intro k hk hc
    refine ⟨?_, by simp⟩
    rw [key k (by omega)]
    unfold atR
    unfold atB at hc
    rw [wrS (by omega), decide_eq_true (by omega : ((k + 1 : Nat) : Int) < (ps.length : Int)), Int.toNat_natCast, Int.toNat_natCast, hc]
    rfl
  · refine ⟨?_, by simp⟩
    rw [key _ (Nat.le_refl _)]
    unfold atR
    rw [wrS (by omega), decide_eq_false (by omega : ¬ ((ps.length - 1 + 1 : Nat) : Int) < (ps.length : Int))]
    rfl
theorem at_calls (ps : List P2) (p : P2) (h200 : ps.length ≤ 200) : CallsP Try.prog 39 [slP ps, ptP p] (iP (atI ps p)) := by
  by_cases h1 : 1 ≤ ps.length
  · have hl := at_loop ps p h1 h200
    unfold atI
    cases ha : atO ps p with
    | some j =>
      rw [ha] at hl
      exact atAx_calls ps j p (At.use (at_more hl (m := 201) (by omega)) (by rfl) (by kernel_rfl))
    | none =>
      rw [ha] at hl
      exact atAe_calls ps _ p (At.use (at_more hl (m := 201) (by omega)) (by rfl) (by kernel_rfl))
  · obtain rfl : ps = [] := List.eq_nil_of_length_eq_zero (by omega)
    have hw : ¬ IntKind.i64.wrap (((0 : Nat) : Int) + 1) < ((([] : List P2).length : Nat) : Int) := by rw [wrS (by omega)]; simp
    have hl : At 0 bodyAt 1 (atT [] (0 : Nat)) (atS p) (some (.exit 0, atE [] (0 : Nat), atS p)) := by
      refine At.leave ?_ (by simp)
      have h := atR_eq [] (0 : Nat) p (fun h => absurd (of_decide_eq_true h) hw) (fun h => absurd (of_decide_eq_true h) hw)
      rw [h]
      unfold atR
      rw [decide_eq_false hw]
      rfl
    have h := atAe_calls [] _ p (At.use (at_more hl (m := 201) (by omega)) (by rfl) (by kernel_rfl))
    exact h
/-- One slice and a point, where something is told of them. -/
def gSPo (f : List P2 → P2 → Option PVal) : List PVal → Option PVal
  | [x, y] => match unSl x, unPt y with
    | some ps, some p => f ps p
    | _, _ => none
  | _ => none
theorem gSPo_spec {P : Program} {F : FuncId} {f : List P2 → P2 → Option PVal} (h : ∀ ps p r, f ps p = some r → CallsP P F [slP ps, ptP p] r) : ∀ ps r, gSPo f ps = some r → CallsP P F ps r := by
  intro ps r hg
  unfold gSPo at hg
  split at hg
  · split at hg
    · rename_i qs p hq hp
      rw [unPt_some hp]
      exact callsP_weak (h qs p r hg) ⟨unSl_wk hq, Wk.refl _, trivial⟩
    · cases hg
  · cases hg
theorem gSPo_slP (f : List P2 → P2 → Option PVal) (ps : List P2) (p : P2) : gSPo f [slP ps, ptP p] = f ps p := by simp [gSPo, unSl_slP, unPt, ptP]
/-- A bound on a slice's length. -/
def lim (ps : List P2) (r : PVal) : Option PVal := if ps.length ≤ 200 then some r else none
theorem lim_some {ps : List P2} {r r' : PVal} (h : lim ps r = some r') : ps.length ≤ 200 ∧ r' = r := by
  unfold lim at h
  split at h
  · rename_i hl
    simp only [Option.some.injEq] at h
    exact ⟨hl, h.symm⟩
  · cases h
theorem lim_of {ps : List P2} {r : PVal} (h : ps.length ≤ 200) : lim ps r = some r := if_pos h
end Go.Proofs.Ytmopbegmdegooaa
