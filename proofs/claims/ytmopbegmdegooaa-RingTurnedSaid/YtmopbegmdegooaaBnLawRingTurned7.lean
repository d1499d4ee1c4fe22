/- RingTurned: the row. Proved: whatever the input, the law answers true and leaves its arguments as they were. -/
import Derived.Test.YtmopbegmdegooaaBnLawRingTurned6
import Derived.Lib.SliceRun
/- slices.Clone of no points: a slice of no points comes back; nothing that was there is turned. -/
namespace Go.Proofs.Ytmopbegmdegooaa
open Go Go.RowKit Go.Shelf M
set_option linter.unusedVariables false
set_option linter.unusedSimpArgs false
set_option maxRecDepth 100000 in
set_option maxHeartbeats 2000000 in
theorem clone0_at (A : Option Addr) (c : Nat) (w : World) : Calls Try.prog 60 #[.slice A 0 c] w fun e w' => (∃ A' c', e = .returned (.slice A' 0 c')) ∧ Below w.heap.size w w' := by
  have q22 : ∀ (w : World) (a : Option Addr) (n c n' c' : Nat), (binOp .eql 24 (.slice a n c) (.slice none n' c')).run Try.prog w = .ok (.bool a.isNone) w := fun w a n c n' c' => Lib.run_eql_slice_nil w _ _ a n c n' c' Try.underlying24
  cases A with
  | none =>
    go_enter Try.func60, Try.ntmps60
    go_wp2
    go_ret
    exact ⟨⟨_, _, rfl⟩, Below.refl _ w⟩
  | some a =>
    go_enter Try.func60, Try.ntmps60
    go_wp2
    go_ret
    exact ⟨⟨_, _, rfl⟩, (Below.refl _ w).alloc (Nat.le_refl _) _⟩
open Vm in
theorem clone0_calls : CallsP Try.prog 60 [slP []] (slP []) := fun ok w vs h1 h2 hr => by
  obtain ⟨v, rfl, hv⟩ := vs_one h2 hr
  simp only [slP, Rp] at hv
  obtain ⟨A, c, rfl, _, _⟩ := hv
  refine (clone0_at A c w).mono fun e w' ⟨⟨A', c', he⟩, hb⟩ => ⟨_, ok, he, hb, fun _ _ h => h, fun _ _ h => .inl h, fun b j h => Nat.lt_of_lt_of_le (h1 b j h) hb.size, ?_⟩
  simp only [slP, Rp, flatPP, Rps]
  exact ⟨A', c', rfl, Nat.zero_le _, trivial⟩
open Vm
/-- A result that says less. -/
theorem callsP_wkR {P : Program} {F : FuncId} {ps : List PVal} {r r' : PVal} (h : CallsP P F ps r) (hw : Wk r r') : CallsP P F ps r' := fun ok w vs h1 h2 h3 =>
  (h ok w vs h1 h2 h3).mono fun e w' ⟨v, ok', k1, k2, k3, k4, k5, k6⟩ => ⟨v, ok', k1, k2, k3, k4, k5, hw _ _ k6⟩
theorem Wk_clip : Wk .clip (slP []) := unSl_wk rfl
def fC0 : List P2 → Option PVal
  | [] => some (slP [])
  | _ => none
noncomputable def NC0 : Lib Try.prog := N8.add 60 (fun ps => match ps with
    | [x] => (unSl x).bind fC0
    | _ => none) (Vm.enters_of named_prog Try.func60 (by kernel_rfl)) (fun ps r h => by
  split at h
  · rename_i x
    cases hx : unSl x with
    | none => rw [hx] at h; cases h
    | some l =>
      rw [hx] at h
      simp only [Option.bind_some] at h
      unfold fC0 at h
      split at h
      · simp only [Option.some.injEq] at h
        subst h
        exact callsP_weak clone0_calls ⟨unSl_wk hx, trivial⟩
      · cases h
  · cases h)
theorem turned_nil : CallsP Try.prog 30 [slP []] (slP []) :=
  callsP_wkR (callP_ok (cf_ok NC0) (k := 3) (hs := []) (f := 30) (ps := [slP []]) (bs := [false]) (ls := []) (out := none) (r := .clip) (ob := [false = false]) (by kernel_rfl) (allOb_cons rfl allOb_nil)) Wk_clip
def turnP : List P2 → List P2
  | [] => []
  | q :: qs => q :: qs.reverse
theorem turned_calls (ps : List P2) (h : ps.length ≤ 200) : CallsP Try.prog 30 [slP ps] (slP (turnP ps)) := by
  cases ps with
  | nil => exact turned_nil
  | cons q qs => exact turned_cons q qs (by simp only [List.length_cons] at h; omega)
end Go.Proofs.Ytmopbegmdegooaa
/- The law RingTurned: its path. -/
namespace Go.Proofs.Ytmopbegmdegooaa
open Go Vm M
set_option linter.unusedVariables false
set_option linter.unusedSimpArgs false
/-- One slice, two slices: where something is told of them. -/
def gSo (f : List P2 → Option PVal) : List PVal → Option PVal
  | [x] => match unSl x with
    | some ps => f ps
    | none => none
  | _ => none
theorem gSo_spec {P : Program} {F : FuncId} {f : List P2 → Option PVal} (h : ∀ ps r, f ps = some r → CallsP P F [slP ps] r) : ∀ ps r, gSo f ps = some r → CallsP P F ps r := by
  intro ps r hg
  unfold gSo at hg
  split at hg
  · split at hg
    · rename_i qs hq
      exact callsP_weak (h qs r hg) ⟨unSl_wk hq, trivial⟩
    · cases hg
  · cases hg
theorem gSo_slP (f : List P2 → Option PVal) (ps : List P2) : gSo f [slP ps] = f ps := by simp [gSo, unSl_slP]
def gSSo (f : List P2 → List P2 → Option PVal) : List PVal → Option PVal
  | [x, y] => match unSl x, unSl y with
    | some ps, some qs => f ps qs
    | _, _ => none
  | _ => none
theorem gSSo_spec {P : Program} {F : FuncId} {f : List P2 → List P2 → Option PVal} (h : ∀ ps qs r, f ps qs = some r → CallsP P F [slP ps, slP qs] r) : ∀ ps r, gSSo f ps = some r → CallsP P F ps r := by
  intro ps r hg
  unfold gSSo at hg
  split at hg
  · split at hg
    · rename_i qs p hq hp
      exact callsP_weak (h qs p r hg) ⟨unSl_wk hq, unSl_wk hp, trivial⟩
    · cases hg
  · cases hg
theorem gSSo_slP (f : List P2 → List P2 → Option PVal) (ps qs : List P2) : gSSo f [slP ps, slP qs] = f ps qs := by simp [gSSo, unSl_slP]
def fGrid (ps : List P2) : Option PVal := if ps.length ≤ 200 then some (slP (ps.map nearP)) else none
def fTurned (ps : List P2) : Option PVal := if ps.length ≤ 200 then some (slP (turnP ps)) else none
def fSame (xs ys : List P2) : Option PVal := if xs.length ≤ 200 then some (bP (decide (xs = ys))) else none
theorem fGrid_ok (ps : List P2) (r : PVal) (h : fGrid ps = some r) : CallsP Try.prog 29 [slP ps] r := by
  unfold fGrid at h
  split at h
  · rename_i h2
    simp only [Option.some.injEq] at h
    subst h
    exact grid_calls ps h2
  · cases h
theorem fTurned_ok (ps : List P2) (r : PVal) (h : fTurned ps = some r) : CallsP Try.prog 30 [slP ps] r := by
  unfold fTurned at h
  split at h
  · rename_i h2
    simp only [Option.some.injEq] at h
    subst h
    exact turned_calls ps h2
  · cases h
theorem fSame_ok (xs ys : List P2) (r : PVal) (h : fSame xs ys = some r) : CallsP Try.prog 31 [slP xs, slP ys] r := by
  unfold fSame at h
  split at h
  · rename_i h2
    simp only [Option.some.injEq] at h
    subst h
    exact same_calls xs ys h2
  · cases h
noncomputable def RT1 : Lib Try.prog := R3.add 29 (gSo fGrid) (Vm.enters_of named_prog Try.func29 (by kernel_rfl)) (gSo_spec fGrid_ok)
noncomputable def RT2 : Lib Try.prog := RT1.add 30 (gSo fTurned) (Vm.enters_of named_prog Try.func30 (by kernel_rfl)) (gSo_spec fTurned_ok)
noncomputable def RT3 : Lib Try.prog := RT2.add 31 (gSSo fSame) (Vm.enters_of named_prog Try.func31 (by kernel_rfl)) (gSSo_spec fSame_ok)
def tlQ (p : P2) : List AObj := [.box (cellsP p)] ++ List.replicate 32 .free
def tlAll (ps : List P2) (ls : List P2) (ts : List P2) (us : List P2) (p : P2) (a1 : Int) (a2 : Int) (k1 : Int) (k2 : Int) (s : Bool) : PVal :=
  (bif decide ((↑(List.length ps) : Int) > 100) then PVal.v (Value.bool true) else (bif (↑(List.length ts) : Int) == (↑(List.length ls) : Int) then (bif a1 == IntKind.wrap IntKind.i64 (0 - a2) then (bif k1 == k2 then (bif s then PVal.v (Value.bool true) else PVal.v (Value.bool false)) else PVal.v (Value.bool false)) else PVal.v (Value.bool false)) else PVal.v (Value.bool false)))
theorem tlAll_calls (ps : List P2) (ls : List P2) (ts : List P2) (us : List P2) (p : P2) (a1 : Int) (a2 : Int) (k1 : Int) (k2 : Int) (s : Bool) (e0 : callA (cf RT3) (evalF (cf RT3) 5) 0 29 [slA ps] [.box (cellsP p)] = some (slA ls, [.box (cellsP p)])) (e1 : callA (cf RT3) (evalF (cf RT3) 5) 0 30 [slA ls] [.box (cellsP p)] = some (slA ts, [.box (cellsP p)])) (e2 : peekCall (cf RT3) (evalF (cf RT3) 5) 23 [slA ts] (tlQ p) = some (iA a1)) (e3 : peekCall (cf RT3) (evalF (cf RT3) 5) 23 [slA ls] (tlQ p) = some (iA a2)) (e4 : peekCall (cf RT3) (evalF (cf RT3) 5) 22 [slA ts, ptA p] (tlQ p) = some (iA k1)) (e5 : peekCall (cf RT3) (evalF (cf RT3) 5) 22 [slA ls, ptA p] (tlQ p) = some (iA k2)) (e6 : peekCall (cf RT3) (evalF (cf RT3) 5) 30 [slA ts] (tlQ p) = some (slA us)) (e7 : peekCall (cf RT3) (evalF (cf RT3) 5) 31 [slA us, slA ls] (tlQ p) = some (bA s)) : CallsP Try.prog 10 [slP ps, ptP p] (tlAll ps ls ts us p a1 a2 k1 k2 s) := by
  have key := fun (bs : List Bool) (r : PVal) (ob : List Prop) (h : callP (cf RT3) (evalF (cf RT3) 5) 5 [(3, 1, Hint.call (slA ls) [AObj.box (cellsP p)]), (4, 1, Hint.call (slA ts) [AObj.box (cellsP p)]), (5, 7, Hint.call (iA a1) []), (5, 9, Hint.call (iA a2) []), (5, 16, Hint.call (iA k1) []), (5, 19, Hint.call (iA k2) []), (5, 24, Hint.call (slA us) []), (5, 26, Hint.call (bA s) [])] 10 [slP ps, ptP p] bs [] (none) = .ok (r, ob)) (hp : allOb ob) => callP_ok (cf_ok RT3) h hp
  unfold tlAll
  exact bif_case (P := fun r => CallsP Try.prog 10 [slP ps, ptP p] r)
    (fun h0 => key [true] (PVal.v (Value.bool true)) _ (by kernel_rfl) (allOb_cons h0 allOb_nil))
    (fun h0 => bif_case (P := fun r => CallsP Try.prog 10 [slP ps, ptP p] r)
     (fun h1 => bif_case (P := fun r => CallsP Try.prog 10 [slP ps, ptP p] r)
      (fun h2 => bif_case (P := fun r => CallsP Try.prog 10 [slP ps, ptP p] r)
       (fun h3 => bif_case (P := fun r => CallsP Try.prog 10 [slP ps, ptP p] r)
        (fun h4 => key [false, true, true, true, true] (PVal.v (Value.bool true)) _ (by kernel_rfl) (allOb_cons h4 (allOb_cons (by exact e7) (allOb_cons (by exact e6) (allOb_cons h3 (allOb_cons (by exact e5) (allOb_cons (by exact e4) (allOb_cons h2 (allOb_cons (by exact e3) (allOb_cons (by exact e2) (allOb_cons h1 (allOb_cons (by exact e1) (allOb_cons (by exact e0) (allOb_cons h0 allOb_nil))))))))))))))
        (fun h4 => key [false, true, true, true, false] (PVal.v (Value.bool false)) _ (by kernel_rfl) (allOb_cons h4 (allOb_cons (by exact e7) (allOb_cons (by exact e6) (allOb_cons h3 (allOb_cons (by exact e5) (allOb_cons (by exact e4) (allOb_cons h2 (allOb_cons (by exact e3) (allOb_cons (by exact e2) (allOb_cons h1 (allOb_cons (by exact e1) (allOb_cons (by exact e0) (allOb_cons h0 allOb_nil)))))))))))))))
       (fun h3 => key [false, true, true, false, false] (PVal.v (Value.bool false)) _ (by kernel_rfl) (allOb_cons lit_f (allOb_cons h3 (allOb_cons (by exact e5) (allOb_cons (by exact e4) (allOb_cons h2 (allOb_cons (by exact e3) (allOb_cons (by exact e2) (allOb_cons h1 (allOb_cons (by exact e1) (allOb_cons (by exact e0) (allOb_cons h0 allOb_nil)))))))))))))
      (fun h2 => key [false, true, false, false, false] (PVal.v (Value.bool false)) _ (by kernel_rfl) (allOb_cons lit_f (allOb_cons lit_f (allOb_cons h2 (allOb_cons (by exact e3) (allOb_cons (by exact e2) (allOb_cons h1 (allOb_cons (by exact e1) (allOb_cons (by exact e0) (allOb_cons h0 allOb_nil)))))))))))
     (fun h1 => key [false, false, false, false, false] (PVal.v (Value.bool false)) _ (by kernel_rfl) (allOb_cons lit_f (allOb_cons lit_f (allOb_cons lit_f (allOb_cons h1 (allOb_cons (by exact e1) (allOb_cons (by exact e0) (allOb_cons h0 allOb_nil)))))))))
end Go.Proofs.Ytmopbegmdegooaa
/- The law RingTurned: what its code answers is true. -/
namespace Go.Proofs.Ytmopbegmdegooaa
open Go Vm M
set_option linter.unusedVariables false
set_option linter.unusedSimpArgs false
theorem nearP_in (p : P2) : inG (nearP p) := by
  unfold inG nearP near1
  simp only
  omega
theorem cross_boundG {x : SegP} (h1 : inG x.1) (h2 : inG x.2) : -2200000000000 ≤ cross x ∧ cross x ≤ 2200000000000 := by
  obtain ⟨⟨a1, a2⟩, a3, a4⟩ := h1
  obtain ⟨⟨b1, b2⟩, b3, b4⟩ := h2
  have m1 := mul_bound (A := 1048576) (B := 1048576) a1 a2 b3 b4
  have m2 := mul_bound (A := 1048576) (B := 1048576) a3 a4 b1 b2
  unfold cross
  omega
theorem segStep_eqG {s : Int} {x : SegP} (h1 : inG x.1) (h2 : inG x.2) (hs : -3000000000000000 ≤ s ∧ s ≤ 3000000000000000) : segStep s x = s + cross x := by
  have hc := cross_boundG h1 h2
  have g1 := nearP_id h1
  have g2 := nearP_id h2
  obtain ⟨⟨a1, a2⟩, a3, a4⟩ := h1
  obtain ⟨⟨b1, b2⟩, b3, b4⟩ := h2
  have m1 := mul_bound (A := 1048576) (B := 1048576) a1 a2 b3 b4
  have m2 := mul_bound (A := 1048576) (B := 1048576) a3 a4 b1 b2
  unfold segStep
  unfold cross at hc ⊢
  rw [g1, g2]
  rw [IntWalk.i64_in (x.1.1 * x.2.2) (by omega), IntWalk.i64_in (x.1.2 * x.2.1) (by omega), IntWalk.i64_in (x.1.1 * x.2.2 - x.1.2 * x.2.1) (by omega), IntWalk.i64_in _ (by omega)]
theorem segFold_eqG : ∀ (xs : List SegP) (s B : Int), (∀ x ∈ xs, inG x.1 ∧ inG x.2) → -B ≤ s → s ≤ B → B + 2200000000000 * (xs.length : Int) ≤ 2900000000000000 → xs.foldl segStep s = s + sumC xs := by
  intro xs
  induction xs with
  | nil => intro s B _ _ _ _; simp [sumC]
  | cons x xs ih =>
    intro s B h h1 h2 hk
    have hx := h x (by simp)
    have hc := cross_boundG hx.1 hx.2
    have hl : ((x :: xs).length : Int) = (xs.length : Int) + 1 := by simp
    rw [hl] at hk
    have e := segStep_eqG hx.1 hx.2 (s := s) ⟨by omega, by omega⟩
    have := ih (s + cross x) (B + 2200000000000) (fun y hy => h y (by simp [hy])) (by omega) (by omega) (by omega)
    rw [List.foldl_cons, e, this, sumC_cons]
    omega
theorem areaP_eqG {ps : List P2} (h : ∀ q ∈ ps, inG q) (hl : ps.length ≤ 1000) : areaP ps = sumC (ringS ps) := by
  unfold areaP
  split
  · rename_i h3
    rw [ringS_short h3]
  · rw [segs_eq]
    unfold segSum
    rw [segFold_eqG (ringS ps) 0 0 (fun x hx => ⟨h _ (ringS_mem hx).1, h _ (ringS_mem hx).2⟩) (by omega) (by omega) (by rw [ringS_length]; omega)]
    omega
theorem sumC_boundG : ∀ xs : List SegP, (∀ x ∈ xs, inG x.1 ∧ inG x.2) → -(2200000000000 * (xs.length : Int)) ≤ sumC xs ∧ sumC xs ≤ 2200000000000 * (xs.length : Int) := by
  intro xs
  induction xs with
  | nil => intro _; simp [sumC]
  | cons x xs ih =>
    intro h
    have hx := h x (by simp)
    have hc := cross_boundG hx.1 hx.2
    have := ih fun y hy => h y (by simp [hy])
    have hl : ((x :: xs).length : Int) = (xs.length : Int) + 1 := by simp
    rw [sumC_cons, hl]
    omega
theorem turnP_length (ps : List P2) : (turnP ps).length = ps.length := by cases ps <;> simp [turnP]
theorem turnP_turnP (ps : List P2) : turnP (turnP ps) = ps := by cases ps <;> simp [turnP]
theorem turnP_mem {ps : List P2} {q : P2} (h : q ∈ turnP ps) : q ∈ ps := by
  cases ps with
  | nil => exact h
  | cons a l => simpa [turnP] using h
theorem sumC_turnP (ps : List P2) : sumC (ringS (turnP ps)) = - sumC (ringS ps) := by
  cases ps with
  | nil => simp [turnP, ringS, sumC]
  | cons q l => simp only [turnP]; rw [ringS_turned, sumC_flip]
theorem inside_turnP (ps : List P2) (p : P2) : insideS (ringS (turnP ps)) p = insideS (ringS ps) p := by
  cases ps with
  | nil => rfl
  | cons q l => exact inside_turned q l p
theorem peek_slP {S : List AObj} (ps : List P2) : mapO (peek S deep) [slA ps] = some [slP ps] := rfl
theorem peek_slP2 {S : List AObj} (ps qs : List P2) : mapO (peek S deep) [slA ps, slA qs] = some [slP ps, slP qs] := rfl
theorem peek_slPt {S : List AObj} (ps : List P2) (p : P2) : mapO (peek S deep) [slA ps, ptA p] = some [slP ps, ptP p] := rfl
theorem up_slP (ps : List P2) : up (slP ps) = slA ps := rfl
theorem ringTurned_calls (ps : List P2) (p : P2) : CallsP Try.prog 10 [slP ps, ptP p] (bP true) := by
  by_cases h100 : (ps.length : Int) > 100
  · have h := callP_ok (cf_ok RT3) (k := 5) (hs := []) (f := 10) (ps := [slP ps, ptP p]) (bs := [true]) (ls := []) (out := none) (r := bP true) (ob := [decide ((ps.length : Int) > 100) = true]) (by kernel_rfl) (allOb_cons (decide_eq_true h100) allOb_nil)
    exact h
  · have hl : ps.length ≤ 100 := by omega
    generalize hls : ps.map nearP = ls
    have hll : ls.length = ps.length := by rw [← hls]; simp
    have hg : ∀ q ∈ ls, inG q := fun q hq => by
      rw [← hls] at hq
      obtain ⟨x, _, rfl⟩ := List.mem_map.1 hq
      exact nearP_in x
    have e0 : callA (cf RT3) (evalF (cf RT3) 5) 0 29 [slA ps] [.box (cellsP p)] = some (slA ls, [.box (cellsP p)]) :=
      callA_given (g := gSo fGrid) (ps := [slP ps]) (r := slP ls) rfl rfl rfl rfl (by kernel_rfl) (by rw [gSo_slP]; unfold fGrid; rw [if_pos (by omega), hls])
    have et : ∀ qs : List P2, qs.length ≤ 200 → gSo fTurned [slP qs] = some (slP (turnP qs)) := fun qs h => by rw [gSo_slP]; unfold fTurned; rw [if_pos h]
    have e1 : callA (cf RT3) (evalF (cf RT3) 5) 0 30 [slA ls] [.box (cellsP p)] = some (slA (turnP ls), [.box (cellsP p)]) :=
      callA_given (g := gSo fTurned) (ps := [slP ls]) (r := slP (turnP ls)) rfl rfl rfl rfl (by kernel_rfl) (et ls (by omega))
    have ea : ∀ qs : List P2, qs.length ≤ 200 → peekCall (cf RT3) (evalF (cf RT3) 5) 23 [slA qs] (tlQ p) = some (iA (areaP qs)) := fun qs h =>
      peekCall_given (g := gSb fun ps => iP (areaP ps)) (ps := [slP qs]) (r := iP (areaP qs)) rfl rfl rfl (by kernel_rfl) (gSb_slP _ (by omega))
    have ei : ∀ qs : List P2, qs.length ≤ 200 → peekCall (cf RT3) (evalF (cf RT3) 5) 22 [slA qs, ptA p] (tlQ p) = some (iA (insideP qs p)) := fun qs h =>
      peekCall_given (g := gSPb fun ps p => iP (insideP ps p)) (ps := [slP qs, ptP p]) (r := iP (insideP qs p)) rfl rfl rfl (by kernel_rfl) (gSPb_slP _ p (by omega))
    have e6 : peekCall (cf RT3) (evalF (cf RT3) 5) 30 [slA (turnP ls)] (tlQ p) = some (slA ls) :=
      peekCall_given (g := gSo fTurned) (ps := [slP (turnP ls)]) (r := slP ls) rfl rfl rfl (by kernel_rfl) (by rw [et _ (by rw [turnP_length]; omega), turnP_turnP])
    have e7 : peekCall (cf RT3) (evalF (cf RT3) 5) 31 [slA ls, slA ls] (tlQ p) = some (bA true) :=
      peekCall_given (g := gSSo fSame) (ps := [slP ls, slP ls]) (r := bP true) rfl rfl rfl (by kernel_rfl) (by rw [gSSo_slP]; unfold fSame; rw [if_pos (by omega)]; simp)
    have hc := tlAll_calls ps ls (turnP ls) ls p (areaP (turnP ls)) (areaP ls) (insideP (turnP ls) p) (insideP ls p) true e0 e1 (ea _ (by rw [turnP_length]; omega)) (ea _ (by omega)) (ei _ (by rw [turnP_length]; omega)) (ei _ (by omega)) e6 e7
    have e : tlAll ps ls (turnP ls) ls p (areaP (turnP ls)) (areaP ls) (insideP (turnP ls) p) (insideP ls p) true = bP true := by
      unfold tlAll
      have hb := sumC_boundG (ringS ls) (fun x hx => ⟨hg _ (ringS_mem hx).1, hg _ (ringS_mem hx).2⟩)
      rw [ringS_length] at hb
      have ha : areaP (turnP ls) = IntKind.i64.wrap (0 - areaP ls) := by
        rw [areaP_eqG (fun q hq => hg q (turnP_mem hq)) (by rw [turnP_length]; omega), areaP_eqG hg (by omega), sumC_turnP, IntWalk.i64_in _ (by omega), Int.zero_sub]
      have hi : insideP (turnP ls) p = insideP ls p := by rw [insideP_eq, insideP_eq, inside_turnP]
      rw [turnP_length, ← ha, hi]
      simp [bP]
    rw [e] at hc
    exact hc
end Go.Proofs.Ytmopbegmdegooaa
/- RingTurned: the row. Proved: whatever the input, the law answers true and leaves its arguments as they were. -/
namespace Go.Proofs.Ytmopbegmdegooaa
open Go Vm M Go.ChangeShapes Go.WideShapes Go.ChangeAt Go.RowKit
set_option linter.unusedVariables false
set_option maxRecDepth 100000 in
theorem ringTurned_lifted (os : Os) (started : os.Started) (H : Type) (enc : TypeId × Value → H) :
    ReturnsInHanded {} Try.checked os 10 .any (Rows.ringTurnedSpec.pre6 enc Try.prog Try.f10 Rows.ringTurnedRow.domain false) (Rows.ringTurnedSpec.post enc Try.prog Try.f10 false true false false) := by
  refine returnsInHanded_of_change_sized (C := Try.checked) own started (by kernel_rfl) Try.func10
    (ChangeSpec.witness6 (enc := enc) (C := Try.checked) false ⟨#[], #[.slice none 0 0, .agg #[.int .i64 0, .int .i64 0]], []⟩ 8 (by kernel_rfl) (by kernel_rfl) (by kernel_rfl) (by kernel_rfl)) ?_
  intro W base args ds gs before hval0 hW hcnd hsz0 _
  have hval : ∀ (j : Nat) t v, Try.f10.params[j]? = some t → args[j]? = some v → Value.okWide Try.prog W .any base t v := hval0
  have hW' := hW
  obtain ⟨p, q, hA0, hV, rfl, hfz, hnd⟩ := hW
  have hA : DataW.TrodAll enc Try.prog W 0 (fun _ => true) true Try.f10.params.toList args.toList ds p := hA0
  rw [Try.params10] at hA hval
  obtain ⟨v0, vs0, d0, ds0, p0, q0, hargs, rfl, rfl, h0, r0⟩ := trodAll_cons hA
  obtain ⟨v1, vs1, d1, ds1, p1, q1, rfl, rfl, rfl, h1, r1⟩ := trodAll_cons r0
  obtain ⟨rfl, rfl, rfl⟩ := trodAll_nil r1
  obtain rfl : args = #[v0, v1] := by cases args; simp_all
  obtain ⟨rfl, rfl⟩ := trodVars_none hV
  have lt : ∀ {t : TypeId} {v : Value} {d : DataW H} {ps : List MemPlace}, DataW.Trod enc Try.prog W 0 (fun _ => true) true t v d ps → ∀ x ∈ ps, x.block < W.heap.size := fun h => by obtain ⟨m, hm⟩ := h; exact DataW.trod_lt m _ _ _ hm
  obtain ⟨a0, hr0⟩ := open_sl (hval 0 24 v0 rfl rfl) h0
  obtain ⟨a1, rfl⟩ := open_pt (hval 1 23 v1 rfl rfl) h1
  refine (callsS (ringTurned_calls a0 a1) (w := W) (vs := #[v0, ptV a1]) rfl (Rps_cons rfl hr0 (Rps_cons rfl (Rp_pt _ a1) Rps_nil)) (u := .bool true) (fun L x h => Rp_bool h)).mono fun e W' ⟨he, bel⟩ => ?_
  subst he
  exact ⟨_, rfl, _, _, _, [], _, [], hW', trodAll_mk1 (shut_bool Try.underlying4 _), (trodAll_cons_mk (Below.trod laidOut (by kernel_rfl) (of_decide_eq_true (by kernel_rfl)) h0 bel (lt h0)) (trodAll_cons_mk (Below.trod laidOut (by kernel_rfl) (of_decide_eq_true (by kernel_rfl)) h1 bel (lt h1)) trodAll_mk0)), rfl, bel.frame _, fun h => by cases h⟩
theorem ringTurned_over : Rows.ringTurnedRow.holds Try.pinned (OpenSpec.ofChange Rows.ringTurnedSpec) :=
  OpenClaim.holds_of_wide 10 Try.f10 rfl rfl rfl rfl rfl rfl rfl ⟨rfl, rfl, rfl, rfl, rfl⟩ rfl rfl rfl rfl rfl (by kernel_rfl) Try.func10 (by kernel_rfl)
    (of_decide_eq_true (by kernel_rfl)) (by unfold Func.isWrapper; first | (rw [if_pos (by decide +kernel)]; kernel_rfl) | (rw [if_neg (by decide +kernel)]; exact ⟨rfl, rfl⟩))
    (fun os started H enc _ => ringTurned_lifted os started H enc)
theorem ringTurned_holds : Rows.RingTurnedSaid := ringTurned_over
#print axioms ringTurned_holds
end Go.Proofs.Ytmopbegmdegooaa
