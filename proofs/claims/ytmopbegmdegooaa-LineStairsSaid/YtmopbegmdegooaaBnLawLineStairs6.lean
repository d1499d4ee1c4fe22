/- Texts put together: OpenS, Shifts, ShiftsB, ShiftsC, Shifts2, ShiftsN, Shifts3, Parts, PartsB, Parts2, Grid12, Grid12B, Grid12C, Same12, Same12B, Turned, Turned2, Turned3. What is proved stands at the head of each part. -/
import Derived.Test.YtmopbegmdegooaaBnLawLineStairs5
import Derived.Deep.SlicePairs
import Derived.Test.YtmopbegmdegooaaRows
import Derived.ProofKit
import Derived.OpenShut
import Derived.ChangeOld
import Derived.SizedLaws
import Derived.Carry
import Derived.Lib.SmallJoins
import Derived.RowKit3
import Derived.WideLaws
import Derived.Laws.Rows
/- Arguments that are points, numbers, and slices of points: what the form hands a law, as the abstract machine's values. -/
namespace Go.Proofs.Ytmopbegmdegooaa
open Go Vm M Go.Deep Go.ChangeShapes Go.WideShapes Go.ChangeAt Go.RowKit
set_option linter.unusedVariables false
theorem own : ownKnob Try.prog.godebug = none := by kernel_rfl
theorem laidOut : laidOutB Try.prog = true := by kernel_rfl
section
variable {H : Type} {enc : TypeId × Value → H} {w : World} {base : Nat} {spare : Nat → Bool} {held : Bool}
theorem open_pt {r : Reach} {b0 : Nat} {v : Value} {d : DataW H} {ps : List MemPlace} (hval : Value.okWide Try.prog w r b0 23 v) (h : DataW.Trod enc Try.prog w base spare held 23 v d ps) : ∃ p : P2, v = ptV p := by
  obtain ⟨v0, v1, y0, y1, n, rfl, _, _, h0, h1⟩ := Go.Joins.open_agg2 Try.underlying23 (by kernel_rfl) (by kernel_rfl) hval h
  obtain ⟨x, hx, _, _⟩ := DataW.trod_int Try.underlying2 h0
  obtain ⟨y, hy, _, _⟩ := DataW.trod_int Try.underlying2 h1
  cases hx
  cases hy
  exact ⟨(x, y), rfl⟩
end
/-- A call by values, from no memory of the call's own. -/
theorem CallsP.calls {f : FuncId} {ps : List PVal} {r : PVal} (h : CallsP Try.prog f ps r) {vs : Array Value} {w : World} (hs : vs.size = ps.length) (hr : Rps (fun _ _ => False) ps (fun i y => vs[i]? = some y) 0) {u : Value} (hu : ∀ L x, Rp L r x → x = u) :
    Calls Try.prog f vs w fun e w' => e = .returned u ∧ Below w.heap.size w w' := by
  refine (h (fun _ _ => False) w vs (fun _ _ h => h.elim) hs (Rps_mono (fun _ _ h => h.elim) _ _ _ _ (fun _ _ h => h) hr)).mono ?_
  rintro e w' ⟨v, ok', rfl, hb, _, _, _, hv⟩
  exact ⟨by rw [hu _ _ hv], hb⟩
theorem Rp_pt (L : Addr → Value → Prop) (p : P2) : Rp L (ptP p) (ptV p) := by
  simp only [ptP, ptV, Rp]
  exact ⟨_, rfl, rfl, by simp [Rps, Rp]⟩
theorem Rp_int (L : Addr → Value → Prop) (n : Int) : Rp L (iP n) (.int .i64 n) := by simp [iP, Rp]
theorem Rp_bool {L : Addr → Value → Prop} {b : Bool} {x : Value} (h : Rp L (bP b) x) : x = .bool b := by simpa [bP, Rp] using h
theorem Rps_cons {L : Addr → Value → Prop} {x : PVal} {xs : List PVal} {f : Nat → Value → Prop} {i : Nat} {y : Value} (hy : f i y) (hr : Rp L x y) (h : Rps L xs f (i + 1)) : Rps L (x :: xs) f i := by
  simp only [Rps]
  exact ⟨⟨y, hy, hr⟩, h⟩
theorem Rps_nil {L : Addr → Value → Prop} {f : Nat → Value → Prop} {i : Nat} : Rps L [] f i := by simp [Rps]
theorem list_of {len : Nat} {R : Nat → P2 → Prop} (h : ∀ i, i < len → ∃ p, R i p) : ∃ ps : List P2, ps.length = len ∧ ∀ i p, ps[i]? = some p → R i p := by
  induction len with
  | zero => exact ⟨[], rfl, fun i p hp => by simp at hp⟩
  | succ n ih =>
    obtain ⟨ps, hl, hR⟩ := ih fun i hi => h i (by omega)
    obtain ⟨p, hp⟩ := h n (by omega)
    refine ⟨ps ++ [p], by simp [hl], fun i q hq => ?_⟩
    by_cases hi : i < n
    · rw [List.getElem?_append_left (by omega)] at hq
      exact hR i q hq
    · have := (List.getElem?_eq_some_iff.1 hq).1
      simp only [List.length_append, List.length_singleton] at this
      have e : i = n := by omega
      subst e
      rw [List.getElem?_append_right (by omega), hl, Nat.sub_self] at hq
      simp only [List.getElem?_cons_zero, Option.some.injEq] at hq
      exact hq ▸ hp
theorem rps_flat {L : Addr → Value → Prop} {A : Option Addr} : ∀ (ps : List P2) (k : Nat), (∀ i p, ps[i]? = some p → ∃ a, A = some a ∧ L (a.add (k + i * 2)) (.int .i64 p.1) ∧ L (a.add (k + i * 2 + 1)) (.int .i64 p.2)) → Rps L (flatPP ps) (fun i y => ∃ a, A = some a ∧ L (a.add i) y) k
  | [], k, _ => by simp [flatPP, Rps]
  | p :: ps, k, h => by
    obtain ⟨a, ha, h1, h2⟩ := h 0 p rfl
    simp only [flatPP, Rps, Rp]
    refine ⟨⟨_, ⟨a, ha, by simpa using h1⟩, rfl⟩, ⟨_, ⟨a, ha, by simpa using h2⟩, rfl⟩, rps_flat ps (k + 1 + 1) fun i q hq => ?_⟩
    obtain ⟨b, hb, h3, h4⟩ := h (i + 1) q (by simpa using hq)
    refine ⟨b, hb, ?_, ?_⟩
    · rw [show k + 1 + 1 + i * 2 = k + (i + 1) * 2 by omega]; exact h3
    · rw [show k + 1 + 1 + i * 2 + 1 = k + (i + 1) * 2 + 1 by omega]; exact h4
theorem cell_lt {w : World} {a : Addr} {v : Value} (h : w.cell? a = some v) : a.block < w.heap.size := by
  unfold World.cell? at h
  split at h
  · rename_i hb
    exact (Array.getElem?_eq_some_iff.1 hb).1
  · cases h
section
variable {H : Type} {enc : TypeId × Value → H} {W : World}
theorem open_sl {b0 : Nat} {v : Value} {d : DataW H} {pl : List MemPlace} (hval : Value.okWide Try.prog W .any b0 24 v) (h : DataW.Trod enc Try.prog W 0 (fun _ => true) true 24 v d pl) : ∃ ps : List P2, Rp (sees (fun b _ => b < W.heap.size) W) (slP ps) v := by
  obtain ⟨A, len, cap, rfl⟩ := okWide_slice Try.underlying24 hval
  obtain ⟨fuel, hf⟩ := h
  rcases open_slice_pairs Try.underlying24 Try.underlying23 (by kernel_rfl) rfl rfl (by kernel_rfl) (by kernel_rfl) hf with ⟨hcs, _⟩ | ⟨a, len', cap', m, n, V0, V1, D0, D1, P0, P1, hcs, _, hl, _, hm, _, hall⟩
  · simp [Value.cells] at hcs
    obtain ⟨rfl, rfl, rfl⟩ := hcs
    refine ⟨[], ?_⟩
    simp only [slP, flatPP, Rp, Rps]
    exact ⟨none, 0, rfl, Nat.le_refl _, trivial⟩
  · simp [Value.cells] at hcs
    obtain ⟨rfl, rfl, rfl⟩ := hcs
    simp only [if_true] at hm
    subst hm
    obtain ⟨ps, hps, hR⟩ := list_of (len := len) (R := fun i p => W.cell? (a.add (i * 2)) = some (.int .i64 p.1) ∧ W.cell? (a.add (i * 2 + 1)) = some (.int .i64 p.2)) fun i hi => by
      obtain ⟨c0, c1, t0, t1⟩ := hall i (by omega)
      obtain ⟨x, hx, _, _⟩ := DataW.trod_int Try.underlying2 t0
      obtain ⟨y, hy, _, _⟩ := DataW.trod_int Try.underlying2 t1
      simp only [List.cons.injEq, and_true] at hx hy
      exact ⟨(x, y), by rw [c0, hx], by rw [c1, hy]⟩
    refine ⟨ps, ?_⟩
    simp only [slP, Rp]
    refine ⟨some a, m, by rw [hps], by rw [hps]; exact hl, rps_flat ps 0 fun i p hp => ?_⟩
    obtain ⟨h0, h1⟩ := hR i p hp
    rw [Nat.zero_add]
    exact ⟨a, rfl, ⟨cell_lt h0, h0⟩, cell_lt h1, h1⟩
end
/-- A call by values, of memory that lay there. -/
theorem callsS {f : FuncId} {ps : List PVal} {r : PVal} (h : CallsP Try.prog f ps r) {vs : Array Value} {w : World} (hs : vs.size = ps.length) (hr : Rps (sees (fun b _ => b < w.heap.size) w) ps (fun i y => vs[i]? = some y) 0) {u : Value} (hu : ∀ L x, Rp L r x → x = u) :
    Calls Try.prog f vs w fun e w' => e = .returned u ∧ Below w.heap.size w w' := by
  refine (h (fun b _ => b < w.heap.size) w vs (fun _ _ h => h) hs hr).mono ?_
  rintro e w' ⟨v, ok', rfl, hb, _, _, _, hv⟩
  exact ⟨by rw [hu _ _ hv], hb⟩
end Go.Proofs.Ytmopbegmdegooaa
/- The law RingShifts: its loops' rounds. -/
namespace Go.Proofs.Ytmopbegmdegooaa
open Go Vm M
set_option linter.unusedVariables false
set_option linter.unusedSimpArgs false
def awake13F : PVal :=
  PVal.v (Value.bool true)
theorem awake13F_calls : CallsP Try.prog 21 [] awake13F := by
  have key := fun (bs : List Bool) (r : PVal) (ob : List Prop) (h : callP (cf R2) (evalF (cf R2) 9) 9 [] 21 [] bs [] (none) = .ok (r, ob)) (hp : allOb ob) => callP_ok (cf_ok R2) h hp
  unfold awake13F
  exact key [true, true, true] (PVal.v (Value.bool true)) _ (by kernel_rfl) (allOb_cons lit_t (allOb_cons lit_t (allOb_cons lit_t allOb_nil)))
theorem awake13_calls : CallsP Try.prog 21 [] (bP true) := awake13F_calls
noncomputable def R3 : Lib Try.prog := R2.add 21 (g0 (bP true)) (Vm.enters_of named_prog Try.func21 (by kernel_rfl)) (g0_spec awake13_calls)
def rsT (ps : List P2) (f x y i : Int) (a b c : AVal) : List AVal := [slA ps] ++ jk 3 ++ [iA f, .junk, .ptr 0 0 0] ++ jk 4 ++ [a, b, c, iA x, iA y, iA i] ++ jk 118
def rsTE (ps : List P2) (f x y i : Int) (a b c : AVal) : List AVal := jk 4 ++ [iA f, .junk, .ptr 0 0 0] ++ jk 4 ++ [a, b, c, iA x, iA y] ++ jk 15 ++ [bA false] ++ jk 103
def rsS0 (p : P2) : List AObj := [.box (cellsP p)]
def rsS (p : P2) (al bl : List P2) : List AObj := [.box (cellsP p)] ++ List.replicate 15 .free ++ [.row 2 0 none (flatP al)] ++ List.replicate 18 .free ++ [.row 2 0 none (flatP bl)]
def nilA : AVal := .v (.slice none 0 0)
def rsFirst (ps : List P2) (f : Int) (x : Int) (y : Int) (i : Int) (p : P2) (q : P2) (u : Int) (v : Int) : AExit × List AVal × List AObj :=
  (bif decide (i < ↑(List.length ps)) then (AExit.normal, (([AVal.list (List.length ps) (flatPP ps), AVal.junk, AVal.junk, AVal.junk, AVal.v (Value.int IntKind.i64 f), AVal.junk, AVal.ptr 0 0 0] ++ jk 4 ++ [AVal.row 16 0 2 0 1, AVal.row 35 0 2 0 1, AVal.v (Value.slice none 0 0), AVal.v (Value.int IntKind.i64 x), AVal.v (Value.int IntKind.i64 y), AVal.v (Value.int IntKind.i64 (IntKind.wrap IntKind.i64 (i + 1)))] ++ jk 118), ([AObj.box [AVal.v (Value.int IntKind.i64 (Prod.fst p)), AVal.v (Value.int IntKind.i64 (Prod.snd p))]] ++ List.replicate 15 AObj.free ++ [AObj.row 2 0 none [AVal.v (Value.int IntKind.i64 (Int.tmod (Prod.fst q) 100)), AVal.v (Value.int IntKind.i64 (Int.tmod (Prod.snd q) 100))]] ++ List.replicate 18 AObj.free ++ [AObj.row 2 0 none [AVal.v (Value.int IntKind.i64 (IntKind.wrap IntKind.i64 (u + x))), AVal.v (Value.int IntKind.i64 (IntKind.wrap IntKind.i64 (v + y)))]]))) else (AExit.exit 0, (([AVal.list (List.length ps) (flatPP ps), AVal.junk, AVal.junk, AVal.junk, AVal.v (Value.int IntKind.i64 f), AVal.junk, AVal.ptr 0 0 0] ++ jk 4 ++ [AVal.v (Value.slice none 0 0), AVal.v (Value.slice none 0 0), AVal.v (Value.slice none 0 0), AVal.v (Value.int IntKind.i64 x), AVal.v (Value.int IntKind.i64 y), AVal.v (Value.int IntKind.i64 i)] ++ jk 14 ++ [AVal.v (Value.bool false)] ++ jk 103), ([AObj.box [AVal.v (Value.int IntKind.i64 (Prod.fst p)), AVal.v (Value.int IntKind.i64 (Prod.snd p))]]))))
theorem rsFirst_eq (ps : List P2) (f : Int) (x : Int) (y : Int) (i : Int) (p : P2) (q : P2) (u : Int) (v : Int) (e0 : 0 ≤ i ∧ i < (ps.length : Int) ∧ 0 < 2 ∧ (flatPP ps).length = ps.length * 2) (e1 : partA Try.prog 2 (upL (((flatPP ps).drop (i.toNat * 2)).drop 0)) 0 = some (iA q.1)) (e2 : 0 ≤ i ∧ i < (ps.length : Int) ∧ 0 < 2 ∧ (flatPP ps).length = ps.length * 2) (e3 : partA Try.prog 2 (upL (((flatPP ps).drop (i.toNat * 2)).drop 1)) 0 = some (iA q.2)) (e4 : 0 ≤ i ∧ i < ((1 : Nat) : Int)) (e5 : partA Try.prog 2 [iA (q.1.tmod 100), iA (q.2.tmod 100)] ((0 + i.toNat) * 2 + 0) = some (iA u)) (e6 : 0 ≤ i ∧ i < ((1 : Nat) : Int)) (e7 : partA Try.prog 2 [iA (q.1.tmod 100), iA (q.2.tmod 100)] ((0 + i.toNat) * 2 + 1) = some (iA v)) : roundC 0 (evalC (cf R3) (evalF (cf R3) 61) (Option.getD (List.lookup 6 lives) []) 0 0 61 (loopAt Try.f6 0)) (rsT ps f x y i nilA nilA nilA) (rsS0 p) = some (rsFirst ps f x y i p q u v) := by
  have key := fun (bs : List Bool) (r : AExit × List AVal × List AObj) (ob : List Prop) (h : roundP (cf R3) (evalF (cf R3) 61) (Option.getD (List.lookup 6 lives) []) 0 0 61 [(8, 3, Hint.idx), (8, 5, Hint.load (iA (Prod.fst q))), (8, 9, Hint.idx), (8, 11, Hint.load (iA (Prod.snd q))), (9, 3, Hint.idx), (9, 5, Hint.load (iA u)), (9, 10, Hint.idx), (9, 12, Hint.load (iA v))] (loopAt Try.f6 0) (rsT ps f x y i nilA nilA nilA) (rsS0 p) bs [] = .ok (r.1, r.2.1, r.2.2, ob)) (hp : allOb ob) => roundP_ok h hp
  unfold rsFirst
  exact bif_case (P := fun r => roundC 0 (evalC (cf R3) (evalF (cf R3) 61) (Option.getD (List.lookup 6 lives) []) 0 0 61 (loopAt Try.f6 0)) (rsT ps f x y i nilA nilA nilA) (rsS0 p) = some r)
    (fun h0 => key [true] ((AExit.normal, (([AVal.list (List.length ps) (flatPP ps), AVal.junk, AVal.junk, AVal.junk, AVal.v (Value.int IntKind.i64 f), AVal.junk, AVal.ptr 0 0 0] ++ jk 4 ++ [AVal.row 16 0 2 0 1, AVal.row 35 0 2 0 1, AVal.v (Value.slice none 0 0), AVal.v (Value.int IntKind.i64 x), AVal.v (Value.int IntKind.i64 y), AVal.v (Value.int IntKind.i64 (IntKind.wrap IntKind.i64 (i + 1)))] ++ jk 118), ([AObj.box [AVal.v (Value.int IntKind.i64 (Prod.fst p)), AVal.v (Value.int IntKind.i64 (Prod.snd p))]] ++ List.replicate 15 AObj.free ++ [AObj.row 2 0 none [AVal.v (Value.int IntKind.i64 (Int.tmod (Prod.fst q) 100)), AVal.v (Value.int IntKind.i64 (Int.tmod (Prod.snd q) 100))]] ++ List.replicate 18 AObj.free ++ [AObj.row 2 0 none [AVal.v (Value.int IntKind.i64 (IntKind.wrap IntKind.i64 (u + x))), AVal.v (Value.int IntKind.i64 (IntKind.wrap IntKind.i64 (v + y)))]])))) _ (by kernel_rfl) (allOb_cons (show Plain ([AObj.box [AVal.v (Value.int IntKind.i64 (Prod.fst p)), AVal.v (Value.int IntKind.i64 (Prod.snd p))]] ++ List.replicate 14 AObj.free ++ [AObj.row 2 0 none [AVal.v (Value.int IntKind.i64 (Int.tmod (Prod.fst q) 100)), AVal.v (Value.int IntKind.i64 (Int.tmod (Prod.snd q) 100))], AObj.row 2 0 none [AVal.v (Value.int IntKind.i64 (Int.tmod (Prod.fst q) 100)), AVal.v (Value.int IntKind.i64 (Int.tmod (Prod.snd q) 100))]] ++ List.replicate 17 AObj.free ++ [AObj.row 2 0 none [AVal.v (Value.int IntKind.i64 (IntKind.wrap IntKind.i64 (u + x))), AVal.v (Value.int IntKind.i64 (IntKind.wrap IntKind.i64 (v + y)))], AObj.row 2 0 none [AVal.v (Value.int IntKind.i64 (IntKind.wrap IntKind.i64 (u + x))), AVal.v (Value.int IntKind.i64 (IntKind.wrap IntKind.i64 (v + y)))], AObj.free]) from by simp only [Plain, List.all_append, List.all_cons, List.all_nil, plainO, flatP_plain, Nat.zero_mul, List.drop_zero] <;> rfl) (allOb_cons (by exact e7) (allOb_cons (by exact e6) (allOb_cons (by exact e5) (allOb_cons (by exact e4) (allOb_cons (by exact e3) (allOb_cons (by exact e2) (allOb_cons (by exact e1) (allOb_cons (by exact e0) (allOb_cons h0 allOb_nil)))))))))))
    (fun h0 => key [false] ((AExit.exit 0, (([AVal.list (List.length ps) (flatPP ps), AVal.junk, AVal.junk, AVal.junk, AVal.v (Value.int IntKind.i64 f), AVal.junk, AVal.ptr 0 0 0] ++ jk 4 ++ [AVal.v (Value.slice none 0 0), AVal.v (Value.slice none 0 0), AVal.v (Value.slice none 0 0), AVal.v (Value.int IntKind.i64 x), AVal.v (Value.int IntKind.i64 y), AVal.v (Value.int IntKind.i64 i)] ++ jk 14 ++ [AVal.v (Value.bool false)] ++ jk 103), ([AObj.box [AVal.v (Value.int IntKind.i64 (Prod.fst p)), AVal.v (Value.int IntKind.i64 (Prod.snd p))]])))) _ (by kernel_rfl) (allOb_cons (show Plain ([AObj.box [AVal.v (Value.int IntKind.i64 (Prod.fst p)), AVal.v (Value.int IntKind.i64 (Prod.snd p))]]) from by simp only [Plain, List.all_append, List.all_cons, List.all_nil, plainO, flatP_plain, Nat.zero_mul, List.drop_zero] <;> rfl) (allOb_cons h0 allOb_nil)))
def rsNext (ps : List P2) (al : List P2) (bl : List P2) (f : Int) (x : Int) (y : Int) (i : Int) (n : Nat) (p : P2) (q : P2) (u : Int) (v : Int) : AExit × List AVal × List AObj :=
  (bif decide (i < ↑(List.length ps)) then (AExit.normal, (([AVal.list (List.length ps) (flatPP ps), AVal.junk, AVal.junk, AVal.junk, AVal.v (Value.int IntKind.i64 f), AVal.junk, AVal.ptr 0 0 0] ++ jk 4 ++ [AVal.row 16 0 2 0 (n + (0 + 1)), AVal.row 35 0 2 0 (n + (0 + 1)), AVal.v (Value.slice none 0 0), AVal.v (Value.int IntKind.i64 x), AVal.v (Value.int IntKind.i64 y), AVal.v (Value.int IntKind.i64 (IntKind.wrap IntKind.i64 (i + 1)))] ++ jk 118), ([AObj.box [AVal.v (Value.int IntKind.i64 (Prod.fst p)), AVal.v (Value.int IntKind.i64 (Prod.snd p))]] ++ List.replicate 15 AObj.free ++ [AObj.row 2 0 none (List.drop (0 * 2) (flatP al) ++ [iA (Int.tmod (Prod.fst q) 100), iA (Int.tmod (Prod.snd q) 100)])] ++ List.replicate 18 AObj.free ++ [AObj.row 2 0 none (List.drop (0 * 2) (flatP bl) ++ [iA (IntKind.wrap IntKind.i64 (u + x)), iA (IntKind.wrap IntKind.i64 (v + y))])]))) else (AExit.exit 0, (([AVal.list (List.length ps) (flatPP ps), AVal.junk, AVal.junk, AVal.junk, AVal.v (Value.int IntKind.i64 f), AVal.junk, AVal.ptr 0 0 0] ++ jk 4 ++ [AVal.row 16 0 2 0 n, AVal.row 35 0 2 0 n, AVal.v (Value.slice none 0 0), AVal.v (Value.int IntKind.i64 x), AVal.v (Value.int IntKind.i64 y), AVal.v (Value.int IntKind.i64 i)] ++ jk 14 ++ [AVal.v (Value.bool false)] ++ jk 103), ([AObj.box [AVal.v (Value.int IntKind.i64 (Prod.fst p)), AVal.v (Value.int IntKind.i64 (Prod.snd p))]] ++ List.replicate 15 AObj.free ++ [AObj.row 2 0 none (flatP al)] ++ List.replicate 18 AObj.free ++ [AObj.row 2 0 none (flatP bl)]))))
theorem rsNext_eq (ps : List P2) (al : List P2) (bl : List P2) (f : Int) (x : Int) (y : Int) (i : Int) (n : Nat) (p : P2) (q : P2) (u : Int) (v : Int) (e0 : 0 ≤ i ∧ i < (ps.length : Int) ∧ 0 < 2 ∧ (flatPP ps).length = ps.length * 2) (e1 : partA Try.prog 2 (upL (((flatPP ps).drop (i.toNat * 2)).drop 0)) 0 = some (iA q.1)) (e2 : 0 ≤ i ∧ i < (ps.length : Int) ∧ 0 < 2 ∧ (flatPP ps).length = ps.length * 2) (e3 : partA Try.prog 2 (upL (((flatPP ps).drop (i.toNat * 2)).drop 1)) 0 = some (iA q.2)) (e4 : (0 + n) * 2 = (flatP al).length ∧ (n + (0 + 1)) * 16 ≤ 140737488355328 ∧ n + (0 + 1) ≤ 9223372036854775807) (e5 : 0 ≤ i ∧ i < ((n + (0 + 1) : Nat) : Int)) (e6 : partA Try.prog 2 ((flatP al).drop (0 * 2) ++ [iA (q.1.tmod 100), iA (q.2.tmod 100)]) ((0 + i.toNat) * 2 + 0) = some (iA u)) (e7 : 0 ≤ i ∧ i < ((n + (0 + 1) : Nat) : Int)) (e8 : partA Try.prog 2 ((flatP al).drop (0 * 2) ++ [iA (q.1.tmod 100), iA (q.2.tmod 100)]) ((0 + i.toNat) * 2 + 1) = some (iA v)) (e9 : (0 + n) * 2 = (flatP bl).length ∧ (n + (0 + 1)) * 16 ≤ 140737488355328 ∧ n + (0 + 1) ≤ 9223372036854775807) : roundC 0 (evalC (cf R3) (evalF (cf R3) 61) (Option.getD (List.lookup 6 lives) []) 0 0 61 (loopAt Try.f6 0)) (rsT ps f x y i (AVal.row 16 0 2 0 n) (AVal.row 35 0 2 0 n) nilA) (rsS p al bl) = some (rsNext ps al bl f x y i n p q u v) := by
  have key := fun (bs : List Bool) (r : AExit × List AVal × List AObj) (ob : List Prop) (h : roundP (cf R3) (evalF (cf R3) 61) (Option.getD (List.lookup 6 lives) []) 0 0 61 [(8, 3, Hint.idx), (8, 5, Hint.load (iA (Prod.fst q))), (8, 9, Hint.idx), (8, 11, Hint.load (iA (Prod.snd q))), (8, 15, Hint.app), (9, 3, Hint.idx), (9, 5, Hint.load (iA u)), (9, 10, Hint.idx), (9, 12, Hint.load (iA v)), (9, 17, Hint.app)] (loopAt Try.f6 0) (rsT ps f x y i (AVal.row 16 0 2 0 n) (AVal.row 35 0 2 0 n) nilA) (rsS p al bl) bs [] = .ok (r.1, r.2.1, r.2.2, ob)) (hp : allOb ob) => roundP_ok h hp
  unfold rsNext
  exact bif_case (P := fun r => roundC 0 (evalC (cf R3) (evalF (cf R3) 61) (Option.getD (List.lookup 6 lives) []) 0 0 61 (loopAt Try.f6 0)) (rsT ps f x y i (AVal.row 16 0 2 0 n) (AVal.row 35 0 2 0 n) nilA) (rsS p al bl) = some r)
    (fun h0 => key [true] ((AExit.normal, (([AVal.list (List.length ps) (flatPP ps), AVal.junk, AVal.junk, AVal.junk, AVal.v (Value.int IntKind.i64 f), AVal.junk, AVal.ptr 0 0 0] ++ jk 4 ++ [AVal.row 16 0 2 0 (n + (0 + 1)), AVal.row 35 0 2 0 (n + (0 + 1)), AVal.v (Value.slice none 0 0), AVal.v (Value.int IntKind.i64 x), AVal.v (Value.int IntKind.i64 y), AVal.v (Value.int IntKind.i64 (IntKind.wrap IntKind.i64 (i + 1)))] ++ jk 118), ([AObj.box [AVal.v (Value.int IntKind.i64 (Prod.fst p)), AVal.v (Value.int IntKind.i64 (Prod.snd p))]] ++ List.replicate 15 AObj.free ++ [AObj.row 2 0 none (List.drop (0 * 2) (flatP al) ++ [iA (Int.tmod (Prod.fst q) 100), iA (Int.tmod (Prod.snd q) 100)])] ++ List.replicate 18 AObj.free ++ [AObj.row 2 0 none (List.drop (0 * 2) (flatP bl) ++ [iA (IntKind.wrap IntKind.i64 (u + x)), iA (IntKind.wrap IntKind.i64 (v + y))])])))) _ (by kernel_rfl) (allOb_cons (show Plain ([AObj.box [AVal.v (Value.int IntKind.i64 (Prod.fst p)), AVal.v (Value.int IntKind.i64 (Prod.snd p))]] ++ List.replicate 15 AObj.free ++ [AObj.row 2 1 none (List.drop (0 * 2) (flatP al) ++ [iA (Int.tmod (Prod.fst q) 100), iA (Int.tmod (Prod.snd q) 100)])] ++ List.replicate 18 AObj.free ++ [AObj.row 2 1 none (List.drop (0 * 2) (flatP bl) ++ [iA (IntKind.wrap IntKind.i64 (u + x)), iA (IntKind.wrap IntKind.i64 (v + y))])] ++ List.replicate 14 AObj.free ++ [AObj.row 2 0 none [AVal.v (Value.int IntKind.i64 (Int.tmod (Prod.fst q) 100)), AVal.v (Value.int IntKind.i64 (Int.tmod (Prod.snd q) 100))]] ++ List.replicate 18 AObj.free ++ [AObj.row 2 0 none [AVal.v (Value.int IntKind.i64 (IntKind.wrap IntKind.i64 (u + x))), AVal.v (Value.int IntKind.i64 (IntKind.wrap IntKind.i64 (v + y)))], AObj.free, AObj.free]) from by simp only [Plain, List.all_append, List.all_cons, List.all_nil, plainO, flatP_plain, Nat.zero_mul, List.drop_zero] <;> rfl) (allOb_cons (by exact e9) (allOb_cons (by exact e8) (allOb_cons (by exact e7) (allOb_cons (by exact e6) (allOb_cons (by exact e5) (allOb_cons (by exact e4) (allOb_cons (by exact e3) (allOb_cons (by exact e2) (allOb_cons (by exact e1) (allOb_cons (by exact e0) (allOb_cons h0 allOb_nil)))))))))))))
    (fun h0 => key [false] ((AExit.exit 0, (([AVal.list (List.length ps) (flatPP ps), AVal.junk, AVal.junk, AVal.junk, AVal.v (Value.int IntKind.i64 f), AVal.junk, AVal.ptr 0 0 0] ++ jk 4 ++ [AVal.row 16 0 2 0 n, AVal.row 35 0 2 0 n, AVal.v (Value.slice none 0 0), AVal.v (Value.int IntKind.i64 x), AVal.v (Value.int IntKind.i64 y), AVal.v (Value.int IntKind.i64 i)] ++ jk 14 ++ [AVal.v (Value.bool false)] ++ jk 103), ([AObj.box [AVal.v (Value.int IntKind.i64 (Prod.fst p)), AVal.v (Value.int IntKind.i64 (Prod.snd p))]] ++ List.replicate 15 AObj.free ++ [AObj.row 2 0 none (flatP al)] ++ List.replicate 18 AObj.free ++ [AObj.row 2 0 none (flatP bl)])))) _ (by kernel_rfl) (allOb_cons (show Plain ([AObj.box [AVal.v (Value.int IntKind.i64 (Prod.fst p)), AVal.v (Value.int IntKind.i64 (Prod.snd p))]] ++ List.replicate 15 AObj.free ++ [AObj.row 2 0 none (flatP al)] ++ List.replicate 18 AObj.free ++ [AObj.row 2 0 none (flatP bl)]) from by simp only [Plain, List.all_append, List.all_cons, List.all_nil, plainO, flatP_plain, Nat.zero_mul, List.drop_zero] <;> rfl) (allOb_cons h0 allOb_nil)))
end Go.Proofs.Ytmopbegmdegooaa
/- The law RingShifts: its second loop's rounds. -/
namespace Go.Proofs.Ytmopbegmdegooaa
open Go Vm M
set_option linter.unusedVariables false
set_option linter.unusedSimpArgs false
def rsU (f x y i : Int) (n : Nat) (c : AVal) : List AVal := jk 4 ++ [iA f, .junk, .ptr 0 0 0] ++ jk 4 ++ [.row 16 0 2 0 n, .row 35 0 2 0 n, c, iA x, iA y, .junk, iA i] ++ jk 117
def rsS3 (p : P2) (al bl cl : List P2) : List AObj := [.box (cellsP p), .free, .row 2 0 none (flatP cl)] ++ List.replicate 13 .free ++ [.row 2 0 none (flatP al)] ++ List.replicate 18 .free ++ [.row 2 0 none (flatP bl)]
def and255 (f : Int) : Int := IntKind.i64.wrap ((BitVec.ofInt IntKind.i64.bits f &&& BitVec.ofInt IntKind.i64.bits 255).toNat : Nat)
def rsC1 (al : List P2) (bl : List P2) (f : Int) (x : Int) (y : Int) (i : Int) (j : Int) (n : Nat) (p : P2) (q : P2) : AExit × List AVal × List AObj :=
  (bif decide (i < ↑n) then (AExit.normal, ((jk 4 ++ [AVal.v (Value.int IntKind.i64 f), AVal.junk, AVal.ptr 0 0 0] ++ jk 4 ++ [AVal.row 16 0 2 0 n, AVal.row 35 0 2 0 n, AVal.row 2 0 2 0 1, AVal.v (Value.int IntKind.i64 x), AVal.v (Value.int IntKind.i64 y), AVal.junk, AVal.v (Value.int IntKind.i64 (IntKind.wrap IntKind.i64 (i + 1)))] ++ jk 117), ([AObj.box [AVal.v (Value.int IntKind.i64 (Prod.fst p)), AVal.v (Value.int IntKind.i64 (Prod.snd p))], AObj.free, AObj.row 2 0 none [AVal.v (Value.int IntKind.i64 (Prod.fst q)), AVal.v (Value.int IntKind.i64 (Prod.snd q))]] ++ List.replicate 13 AObj.free ++ [AObj.row 2 0 none (flatP al)] ++ List.replicate 18 AObj.free ++ [AObj.row 2 0 none (flatP bl)]))) else (AExit.exit 2, ((jk 4 ++ [AVal.v (Value.int IntKind.i64 f), AVal.junk, AVal.ptr 0 0 0] ++ jk 4 ++ [AVal.row 16 0 2 0 n, AVal.row 35 0 2 0 n, AVal.v (Value.slice none 0 0), AVal.v (Value.int IntKind.i64 x), AVal.v (Value.int IntKind.i64 y), AVal.junk, AVal.v (Value.int IntKind.i64 i)] ++ jk 53 ++ [AVal.v (Value.bool false)] ++ jk 63), ([AObj.box [AVal.v (Value.int IntKind.i64 (Prod.fst p)), AVal.v (Value.int IntKind.i64 (Prod.snd p))]] ++ List.replicate 15 AObj.free ++ [AObj.row 2 0 none (flatP al)] ++ List.replicate 18 AObj.free ++ [AObj.row 2 0 none (flatP bl)]))))
theorem rsC1_eq (al : List P2) (bl : List P2) (f : Int) (x : Int) (y : Int) (i : Int) (j : Int) (n : Nat) (p : P2) (q : P2) (e0 : binA Try.prog BinOp.rem 3 (Operand.tmp 79) (Operand.tmp 81) (iA (IntKind.i64.wrap (i + and255 f))) (iA (n : Int)) = some (iA j)) (e1 : 0 ≤ j ∧ j < (n : Int)) (e2 : partA Try.prog 23 (flatP al) ((0 + j.toNat) * 2) = some (ptA q)) : roundC 0 (evalC (cf R3) (evalF (cf R3) 61) (Option.getD (List.lookup 6 lives) []) 0 0 61 (loopAt Try.f6 1)) (rsU f x y i n nilA) (rsS p al bl) = some (rsC1 al bl f x y i j n p q) := by
  have key := fun (bs : List Bool) (r : AExit × List AVal × List AObj) (ob : List Prop) (h : roundP (cf R3) (evalF (cf R3) 61) (Option.getD (List.lookup 6 lives) []) 0 0 61 [(13, 8, Hint.val (Value.int IntKind.i64 j)), (13, 9, Hint.idx), (13, 10, Hint.load (ptA q))] (loopAt Try.f6 1) (rsU f x y i n nilA) (rsS p al bl) bs [] = .ok (r.1, r.2.1, r.2.2, ob)) (hp : allOb ob) => roundP_ok h hp
  unfold rsC1
  exact bif_case (P := fun r => roundC 0 (evalC (cf R3) (evalF (cf R3) 61) (Option.getD (List.lookup 6 lives) []) 0 0 61 (loopAt Try.f6 1)) (rsU f x y i n nilA) (rsS p al bl) = some r)
    (fun h0 => key [true] ((AExit.normal, ((jk 4 ++ [AVal.v (Value.int IntKind.i64 f), AVal.junk, AVal.ptr 0 0 0] ++ jk 4 ++ [AVal.row 16 0 2 0 n, AVal.row 35 0 2 0 n, AVal.row 2 0 2 0 1, AVal.v (Value.int IntKind.i64 x), AVal.v (Value.int IntKind.i64 y), AVal.junk, AVal.v (Value.int IntKind.i64 (IntKind.wrap IntKind.i64 (i + 1)))] ++ jk 117), ([AObj.box [AVal.v (Value.int IntKind.i64 (Prod.fst p)), AVal.v (Value.int IntKind.i64 (Prod.snd p))], AObj.free, AObj.row 2 0 none [AVal.v (Value.int IntKind.i64 (Prod.fst q)), AVal.v (Value.int IntKind.i64 (Prod.snd q))]] ++ List.replicate 13 AObj.free ++ [AObj.row 2 0 none (flatP al)] ++ List.replicate 18 AObj.free ++ [AObj.row 2 0 none (flatP bl)])))) _ (by kernel_rfl) (allOb_cons (show Plain ([AObj.box [AVal.v (Value.int IntKind.i64 (Prod.fst p)), AVal.v (Value.int IntKind.i64 (Prod.snd p))], AObj.row 2 0 none [AVal.v (Value.int IntKind.i64 (Prod.fst q)), AVal.v (Value.int IntKind.i64 (Prod.snd q))], AObj.row 2 0 none [AVal.v (Value.int IntKind.i64 (Prod.fst q)), AVal.v (Value.int IntKind.i64 (Prod.snd q))]] ++ List.replicate 13 AObj.free ++ [AObj.row 2 0 none (flatP al)] ++ List.replicate 18 AObj.free ++ [AObj.row 2 0 none (flatP bl)]) from by simp only [Plain, List.all_append, List.all_cons, List.all_nil, plainO, flatP_plain, Nat.zero_mul, List.drop_zero] <;> rfl) (allOb_cons (by exact e2) (allOb_cons (by exact e1) (allOb_cons (by exact e0) (allOb_cons h0 allOb_nil))))))
    (fun h0 => key [false] ((AExit.exit 2, ((jk 4 ++ [AVal.v (Value.int IntKind.i64 f), AVal.junk, AVal.ptr 0 0 0] ++ jk 4 ++ [AVal.row 16 0 2 0 n, AVal.row 35 0 2 0 n, AVal.v (Value.slice none 0 0), AVal.v (Value.int IntKind.i64 x), AVal.v (Value.int IntKind.i64 y), AVal.junk, AVal.v (Value.int IntKind.i64 i)] ++ jk 53 ++ [AVal.v (Value.bool false)] ++ jk 63), ([AObj.box [AVal.v (Value.int IntKind.i64 (Prod.fst p)), AVal.v (Value.int IntKind.i64 (Prod.snd p))]] ++ List.replicate 15 AObj.free ++ [AObj.row 2 0 none (flatP al)] ++ List.replicate 18 AObj.free ++ [AObj.row 2 0 none (flatP bl)])))) _ (by kernel_rfl) (allOb_cons (show Plain ([AObj.box [AVal.v (Value.int IntKind.i64 (Prod.fst p)), AVal.v (Value.int IntKind.i64 (Prod.snd p))]] ++ List.replicate 15 AObj.free ++ [AObj.row 2 0 none (flatP al)] ++ List.replicate 18 AObj.free ++ [AObj.row 2 0 none (flatP bl)]) from by simp only [Plain, List.all_append, List.all_cons, List.all_nil, plainO, flatP_plain, Nat.zero_mul, List.drop_zero] <;> rfl) (allOb_cons h0 allOb_nil)))
def rsC2 (al : List P2) (bl : List P2) (cl : List P2) (f : Int) (x : Int) (y : Int) (i : Int) (j : Int) (n : Nat) (m : Nat) (p : P2) (q : P2) : AExit × List AVal × List AObj :=
  (bif decide (i < ↑n) then (AExit.normal, ((jk 4 ++ [AVal.v (Value.int IntKind.i64 f), AVal.junk, AVal.ptr 0 0 0] ++ jk 4 ++ [AVal.row 16 0 2 0 n, AVal.row 35 0 2 0 n, AVal.row 2 0 2 0 (m + (0 + 1)), AVal.v (Value.int IntKind.i64 x), AVal.v (Value.int IntKind.i64 y), AVal.junk, AVal.v (Value.int IntKind.i64 (IntKind.wrap IntKind.i64 (i + 1)))] ++ jk 117), ([AObj.box [AVal.v (Value.int IntKind.i64 (Prod.fst p)), AVal.v (Value.int IntKind.i64 (Prod.snd p))], AObj.free, AObj.row 2 0 none (List.drop (0 * 2) (flatP cl) ++ [iA (Prod.fst q), iA (Prod.snd q)])] ++ List.replicate 13 AObj.free ++ [AObj.row 2 0 none (flatP al)] ++ List.replicate 18 AObj.free ++ [AObj.row 2 0 none (flatP bl)]))) else (AExit.exit 2, ((jk 4 ++ [AVal.v (Value.int IntKind.i64 f), AVal.junk, AVal.ptr 0 0 0] ++ jk 4 ++ [AVal.row 16 0 2 0 n, AVal.row 35 0 2 0 n, AVal.row 2 0 2 0 m, AVal.v (Value.int IntKind.i64 x), AVal.v (Value.int IntKind.i64 y), AVal.junk, AVal.v (Value.int IntKind.i64 i)] ++ jk 53 ++ [AVal.v (Value.bool false)] ++ jk 63), ([AObj.box [AVal.v (Value.int IntKind.i64 (Prod.fst p)), AVal.v (Value.int IntKind.i64 (Prod.snd p))], AObj.free, AObj.row 2 0 none (flatP cl)] ++ List.replicate 13 AObj.free ++ [AObj.row 2 0 none (flatP al)] ++ List.replicate 18 AObj.free ++ [AObj.row 2 0 none (flatP bl)]))))
theorem rsC2_eq (al : List P2) (bl : List P2) (cl : List P2) (f : Int) (x : Int) (y : Int) (i : Int) (j : Int) (n : Nat) (m : Nat) (p : P2) (q : P2) (e0 : binA Try.prog BinOp.rem 3 (Operand.tmp 79) (Operand.tmp 81) (iA (IntKind.i64.wrap (i + and255 f))) (iA (n : Int)) = some (iA j)) (e1 : 0 ≤ j ∧ j < (n : Int)) (e2 : partA Try.prog 23 (flatP al) ((0 + j.toNat) * 2) = some (ptA q)) (e3 : (0 + m) * 2 = (flatP cl).length ∧ (m + (0 + 1)) * 16 ≤ 140737488355328 ∧ m + (0 + 1) ≤ 9223372036854775807) : roundC 0 (evalC (cf R3) (evalF (cf R3) 61) (Option.getD (List.lookup 6 lives) []) 0 0 61 (loopAt Try.f6 1)) (rsU f x y i n (AVal.row 2 0 2 0 m)) (rsS3 p al bl cl) = some (rsC2 al bl cl f x y i j n m p q) := by
  have key := fun (bs : List Bool) (r : AExit × List AVal × List AObj) (ob : List Prop) (h : roundP (cf R3) (evalF (cf R3) 61) (Option.getD (List.lookup 6 lives) []) 0 0 61 [(13, 8, Hint.val (Value.int IntKind.i64 j)), (13, 9, Hint.idx), (13, 10, Hint.load (ptA q)), (13, 12, Hint.app)] (loopAt Try.f6 1) (rsU f x y i n (AVal.row 2 0 2 0 m)) (rsS3 p al bl cl) bs [] = .ok (r.1, r.2.1, r.2.2, ob)) (hp : allOb ob) => roundP_ok h hp
  unfold rsC2
  exact bif_case (P := fun r => roundC 0 (evalC (cf R3) (evalF (cf R3) 61) (Option.getD (List.lookup 6 lives) []) 0 0 61 (loopAt Try.f6 1)) (rsU f x y i n (AVal.row 2 0 2 0 m)) (rsS3 p al bl cl) = some r)
    (fun h0 => key [true] ((AExit.normal, ((jk 4 ++ [AVal.v (Value.int IntKind.i64 f), AVal.junk, AVal.ptr 0 0 0] ++ jk 4 ++ [AVal.row 16 0 2 0 n, AVal.row 35 0 2 0 n, AVal.row 2 0 2 0 (m + (0 + 1)), AVal.v (Value.int IntKind.i64 x), AVal.v (Value.int IntKind.i64 y), AVal.junk, AVal.v (Value.int IntKind.i64 (IntKind.wrap IntKind.i64 (i + 1)))] ++ jk 117), ([AObj.box [AVal.v (Value.int IntKind.i64 (Prod.fst p)), AVal.v (Value.int IntKind.i64 (Prod.snd p))], AObj.free, AObj.row 2 0 none (List.drop (0 * 2) (flatP cl) ++ [iA (Prod.fst q), iA (Prod.snd q)])] ++ List.replicate 13 AObj.free ++ [AObj.row 2 0 none (flatP al)] ++ List.replicate 18 AObj.free ++ [AObj.row 2 0 none (flatP bl)])))) _ (by kernel_rfl) (allOb_cons (show Plain ([AObj.box [AVal.v (Value.int IntKind.i64 (Prod.fst p)), AVal.v (Value.int IntKind.i64 (Prod.snd p))], AObj.row 2 0 none [AVal.v (Value.int IntKind.i64 (Prod.fst q)), AVal.v (Value.int IntKind.i64 (Prod.snd q))], AObj.row 2 1 none (List.drop (0 * 2) (flatP cl) ++ [iA (Prod.fst q), iA (Prod.snd q)])] ++ List.replicate 13 AObj.free ++ [AObj.row 2 0 none (flatP al)] ++ List.replicate 18 AObj.free ++ [AObj.row 2 0 none (flatP bl)]) from by simp only [Plain, List.all_append, List.all_cons, List.all_nil, plainO, flatP_plain, Nat.zero_mul, List.drop_zero] <;> rfl) (allOb_cons (by exact e3) (allOb_cons (by exact e2) (allOb_cons (by exact e1) (allOb_cons (by exact e0) (allOb_cons h0 allOb_nil)))))))
    (fun h0 => key [false] ((AExit.exit 2, ((jk 4 ++ [AVal.v (Value.int IntKind.i64 f), AVal.junk, AVal.ptr 0 0 0] ++ jk 4 ++ [AVal.row 16 0 2 0 n, AVal.row 35 0 2 0 n, AVal.row 2 0 2 0 m, AVal.v (Value.int IntKind.i64 x), AVal.v (Value.int IntKind.i64 y), AVal.junk, AVal.v (Value.int IntKind.i64 i)] ++ jk 53 ++ [AVal.v (Value.bool false)] ++ jk 63), ([AObj.box [AVal.v (Value.int IntKind.i64 (Prod.fst p)), AVal.v (Value.int IntKind.i64 (Prod.snd p))], AObj.free, AObj.row 2 0 none (flatP cl)] ++ List.replicate 13 AObj.free ++ [AObj.row 2 0 none (flatP al)] ++ List.replicate 18 AObj.free ++ [AObj.row 2 0 none (flatP bl)])))) _ (by kernel_rfl) (allOb_cons (show Plain ([AObj.box [AVal.v (Value.int IntKind.i64 (Prod.fst p)), AVal.v (Value.int IntKind.i64 (Prod.snd p))], AObj.free, AObj.row 2 0 none (flatP cl)] ++ List.replicate 13 AObj.free ++ [AObj.row 2 0 none (flatP al)] ++ List.replicate 18 AObj.free ++ [AObj.row 2 0 none (flatP bl)]) from by simp only [Plain, List.all_append, List.all_cons, List.all_nil, plainO, flatP_plain, Nat.zero_mul, List.drop_zero] <;> rfl) (allOb_cons h0 allOb_nil)))
end Go.Proofs.Ytmopbegmdegooaa
/- The law RingShifts: what its code answers behind its loops. -/
namespace Go.Proofs.Ytmopbegmdegooaa
open Go Vm M
set_option linter.unusedVariables false
set_option linter.unusedSimpArgs false
def rsE0 (ps : List P2) (f x y i : Int) (n : Nat) : List AVal := [slA ps] ++ jk 3 ++ [iA f, .junk, .ptr 0 0 0] ++ jk 4 ++ [.row 16 0 2 0 n, .row 35 0 2 0 n, nilA, iA x, iA y, iA i] ++ jk 14 ++ [bA false] ++ jk 103
def rsE1 (f x y i : Int) (n m : Nat) : List AVal := jk 4 ++ [iA f, .junk, .ptr 0 0 0] ++ jk 4 ++ [.row 16 0 2 0 n, .row 35 0 2 0 n, .row 2 0 2 0 m, iA x, iA y, .junk, iA i] ++ jk 53 ++ [bA false] ++ jk 63
def rsF (p1 q1 : P2) (fa fb fc : Option Nat) (al bl cl : List P2) : List AObj := [.box (cellsP p1), .box (cellsP q1), .row 2 0 fc (flatP cl)] ++ List.replicate 13 .free ++ [.row 2 0 fa (flatP al)] ++ List.replicate 18 .free ++ [.row 2 0 fb (flatP bl)]
def rsP1 (p : P2) : P2 := (p.1.tmod 100, p.2.tmod 100)
def rsQ1 (p : P2) (x y : Int) : P2 := (IntKind.i64.wrap ((rsP1 p).1 + x), IntKind.i64.wrap ((rsP1 p).2 + y))
def lenF (l : List P2) : Option Nat := some (flatP l).length
def rsAll (ps : List P2) (al : List P2) (bl : List P2) (cl : List P2) (dx : Int) (dy : Int) (f : Int) (i0 : Int) (i1 : Int) (k1 : Int) (k2 : Int) (k3 : Int) (k4 : Int) (k5 : Int) (k6 : Int) (k7 : Int) (n : Nat) (m : Nat) (p : P2) : PVal :=
  (bif decide ((↑(List.length ps) : Int) > 60) then PVal.v (Value.bool true) else (bif k2 == k1 then (bif k3 == k1 then (bif k4 == k5 then (bif k6 == k7 then PVal.v (Value.bool true) else PVal.v (Value.bool false)) else PVal.v (Value.bool false)) else PVal.v (Value.bool false)) else PVal.v (Value.bool false)))
theorem rsAll_calls (ps : List P2) (al : List P2) (bl : List P2) (cl : List P2) (dx : Int) (dy : Int) (f : Int) (i0 : Int) (i1 : Int) (k1 : Int) (k2 : Int) (k3 : Int) (k4 : Int) (k5 : Int) (k6 : Int) (k7 : Int) (n : Nat) (m : Nat) (p : P2) (e0 : iterC 0 (evalC (cf R3) (evalF (cf R3) 61) ((lives.lookup 6).getD []) 0 0 61 (loopAt Try.f6 0)) 61 (rsT ps f (dx.tmod 10000) (dy.tmod 10000) 0 nilA nilA nilA) (rsS0 p) = some (.exit 0, rsE0 ps f (dx.tmod 10000) (dy.tmod 10000) i0 n, rsS p al bl)) (e1 : iterC 0 (evalC (cf R3) (evalF (cf R3) 61) ((lives.lookup 6).getD []) 0 0 61 (loopAt Try.f6 1)) 61 (rsU f (dx.tmod 10000) (dy.tmod 10000) 0 n nilA) (rsS p al bl) = some (.exit 2, rsE1 f (dx.tmod 10000) (dy.tmod 10000) i1 n m, rsS3 p al bl cl)) (e2 : callA (cf R3) (evalF (cf R3) 61) 0 22 [.row 16 0 2 0 n, ptA (rsP1 p)] (rsF (rsP1 p) (rsQ1 p (dx.tmod 10000) (dy.tmod 10000)) none none none al bl cl) = some (iA k1, rsF (rsP1 p) (rsQ1 p (dx.tmod 10000) (dy.tmod 10000)) (lenF al) none none al bl cl)) (e3 : callA (cf R3) (evalF (cf R3) 61) 0 22 [.row 35 0 2 0 n, ptA (rsQ1 p (dx.tmod 10000) (dy.tmod 10000))] (rsF (rsP1 p) (rsQ1 p (dx.tmod 10000) (dy.tmod 10000)) (lenF al) none none al bl cl) = some (iA k2, rsF (rsP1 p) (rsQ1 p (dx.tmod 10000) (dy.tmod 10000)) (lenF al) (lenF bl) none al bl cl)) (e4 : callA (cf R3) (evalF (cf R3) 61) 0 22 [.row 2 0 2 0 m, ptA (rsP1 p)] (rsF (rsP1 p) (rsQ1 p (dx.tmod 10000) (dy.tmod 10000)) (lenF al) (lenF bl) none al bl cl) = some (iA k3, rsF (rsP1 p) (rsQ1 p (dx.tmod 10000) (dy.tmod 10000)) (lenF al) (lenF bl) (lenF cl) al bl cl)) (e5 : callA (cf R3) (evalF (cf R3) 61) 0 23 [.row 35 0 2 0 n] (rsF (rsP1 p) (rsQ1 p (dx.tmod 10000) (dy.tmod 10000)) (lenF al) (lenF bl) (lenF cl) al bl cl) = some (iA k4, rsF (rsP1 p) (rsQ1 p (dx.tmod 10000) (dy.tmod 10000)) (lenF al) (lenF bl) (lenF cl) al bl cl)) (e6 : callA (cf R3) (evalF (cf R3) 61) 0 23 [.row 16 0 2 0 n] (rsF (rsP1 p) (rsQ1 p (dx.tmod 10000) (dy.tmod 10000)) (lenF al) (lenF bl) (lenF cl) al bl cl) = some (iA k5, rsF (rsP1 p) (rsQ1 p (dx.tmod 10000) (dy.tmod 10000)) (lenF al) (lenF bl) (lenF cl) al bl cl)) (e7 : callA (cf R3) (evalF (cf R3) 61) 0 23 [.row 2 0 2 0 m] (rsF (rsP1 p) (rsQ1 p (dx.tmod 10000) (dy.tmod 10000)) (lenF al) (lenF bl) (lenF cl) al bl cl) = some (iA k6, rsF (rsP1 p) (rsQ1 p (dx.tmod 10000) (dy.tmod 10000)) (lenF al) (lenF bl) (lenF cl) al bl cl)) (e8 : callA (cf R3) (evalF (cf R3) 61) 0 23 [.row 16 0 2 0 n] (rsF (rsP1 p) (rsQ1 p (dx.tmod 10000) (dy.tmod 10000)) (lenF al) (lenF bl) (lenF cl) al bl cl) = some (iA k7, rsF (rsP1 p) (rsQ1 p (dx.tmod 10000) (dy.tmod 10000)) (lenF al) (lenF bl) (lenF cl) al bl cl)) : CallsP Try.prog 6 [slP ps, ptP p, iP dx, iP dy, iP f] (rsAll ps al bl cl dx dy f i0 i1 k1 k2 k3 k4 k5 k6 k7 n m p) := by
  have key := fun (bs : List Bool) (r : PVal) (ob : List Prop) (h : callP (cf R3) (evalF (cf R3) 61) 61 [(16, 2, Hint.call (iA k1) (rsF (rsP1 p) (rsQ1 p (Int.tmod dx 10000) (Int.tmod dy 10000)) (lenF al) none none al bl cl)), (17, 2, Hint.call (iA k2) (rsF (rsP1 p) (rsQ1 p (Int.tmod dx 10000) (Int.tmod dy 10000)) (lenF al) (lenF bl) none al bl cl)), (17, 8, Hint.call (iA k3) (rsF (rsP1 p) (rsQ1 p (Int.tmod dx 10000) (Int.tmod dy 10000)) (lenF al) (lenF bl) (lenF cl) al bl cl)), (17, 14, Hint.call (iA k4) (rsF (rsP1 p) (rsQ1 p (Int.tmod dx 10000) (Int.tmod dy 10000)) (lenF al) (lenF bl) (lenF cl) al bl cl)), (17, 16, Hint.call (iA k5) (rsF (rsP1 p) (rsQ1 p (Int.tmod dx 10000) (Int.tmod dy 10000)) (lenF al) (lenF bl) (lenF cl) al bl cl)), (17, 21, Hint.call (iA k6) (rsF (rsP1 p) (rsQ1 p (Int.tmod dx 10000) (Int.tmod dy 10000)) (lenF al) (lenF bl) (lenF cl) al bl cl)), (17, 23, Hint.call (iA k7) (rsF (rsP1 p) (rsQ1 p (Int.tmod dx 10000) (Int.tmod dy 10000)) (lenF al) (lenF bl) (lenF cl) al bl cl))] 6 [slP ps, ptP p, iP dx, iP dy, iP f] bs [(AExit.exit 0, rsE0 ps f (Int.tmod dx 10000) (Int.tmod dy 10000) i0 n, rsS p al bl), (AExit.exit 2, rsE1 f (Int.tmod dx 10000) (Int.tmod dy 10000) i1 n m, rsS3 p al bl cl)] (none) = .ok (r, ob)) (hp : allOb ob) => callP_ok (cf_ok R3) h hp
  unfold rsAll
  exact bif_case (P := fun r => CallsP Try.prog 6 [slP ps, ptP p, iP dx, iP dy, iP f] r)
    (fun h0 => key [true] (PVal.v (Value.bool true)) _ (by kernel_rfl) (allOb_cons h0 allOb_nil))
    (fun h0 => bif_case (P := fun r => CallsP Try.prog 6 [slP ps, ptP p, iP dx, iP dy, iP f] r)
     (fun h1 => bif_case (P := fun r => CallsP Try.prog 6 [slP ps, ptP p, iP dx, iP dy, iP f] r)
      (fun h2 => bif_case (P := fun r => CallsP Try.prog 6 [slP ps, ptP p, iP dx, iP dy, iP f] r)
       (fun h3 => bif_case (P := fun r => CallsP Try.prog 6 [slP ps, ptP p, iP dx, iP dy, iP f] r)
        (fun h4 => key [false, true, true, true, true] (PVal.v (Value.bool true)) _ (by kernel_rfl) (allOb_cons h4 (allOb_cons (by exact e8) (allOb_cons (by exact e7) (allOb_cons h3 (allOb_cons (by exact e6) (allOb_cons (by exact e5) (allOb_cons h2 (allOb_cons (by exact e4) (allOb_cons h1 (allOb_cons (by exact e3) (allOb_cons (by exact e2) (allOb_cons (by exact e1) (allOb_cons (by exact e0) (allOb_cons h0 allOb_nil)))))))))))))))
        (fun h4 => key [false, true, true, true, false] (PVal.v (Value.bool false)) _ (by kernel_rfl) (allOb_cons h4 (allOb_cons (by exact e8) (allOb_cons (by exact e7) (allOb_cons h3 (allOb_cons (by exact e6) (allOb_cons (by exact e5) (allOb_cons h2 (allOb_cons (by exact e4) (allOb_cons h1 (allOb_cons (by exact e3) (allOb_cons (by exact e2) (allOb_cons (by exact e1) (allOb_cons (by exact e0) (allOb_cons h0 allOb_nil))))))))))))))))
       (fun h3 => key [false, true, true, false, false] (PVal.v (Value.bool false)) _ (by kernel_rfl) (allOb_cons lit_f (allOb_cons h3 (allOb_cons (by exact e6) (allOb_cons (by exact e5) (allOb_cons h2 (allOb_cons (by exact e4) (allOb_cons h1 (allOb_cons (by exact e3) (allOb_cons (by exact e2) (allOb_cons (by exact e1) (allOb_cons (by exact e0) (allOb_cons h0 allOb_nil))))))))))))))
      (fun h2 => key [false, true, false, false, false] (PVal.v (Value.bool false)) _ (by kernel_rfl) (allOb_cons lit_f (allOb_cons lit_f (allOb_cons h2 (allOb_cons (by exact e4) (allOb_cons h1 (allOb_cons (by exact e3) (allOb_cons (by exact e2) (allOb_cons (by exact e1) (allOb_cons (by exact e0) (allOb_cons h0 allOb_nil))))))))))))
     (fun h1 => key [false, false, false, false, false] (PVal.v (Value.bool false)) _ (by kernel_rfl) (allOb_cons lit_f (allOb_cons lit_f (allOb_cons lit_f (allOb_cons h1 (allOb_cons (by exact e3) (allOb_cons (by exact e2) (allOb_cons (by exact e1) (allOb_cons (by exact e0) (allOb_cons h0 allOb_nil)))))))))))
end Go.Proofs.Ytmopbegmdegooaa
/- The law RingShifts: true whatever the input. -/
namespace Go.Proofs.Ytmopbegmdegooaa
open Go Vm M
set_option linter.unusedVariables false
set_option linter.unusedSimpArgs false
noncomputable abbrev bodyRs0 : List AVal → List AObj → Res := evalC (cf R3) (evalF (cf R3) 61) ((lives.lookup 6).getD []) 0 0 61 (loopAt Try.f6 0)
noncomputable abbrev bodyRs1 : List AVal → List AObj → Res := evalC (cf R3) (evalF (cf R3) 61) ((lives.lookup 6).getD []) 0 0 61 (loopAt Try.f6 1)
def rsMv (x y : Int) (a : P2) : P2 := (IntKind.i64.wrap (a.1 + x), IntKind.i64.wrap (a.2 + y))
theorem iterC_more {base : Nat} {body : List AVal → List AObj → Res} {r : AExit × List AVal × List AObj} : ∀ (n : Nat) (T : List AVal) (S : List AObj), iterC base body n T S = some r → iterC base body (n + 1) T S = some r
  | 0, T, S, h => by simp [iterC] at h
  | n + 1, T, S, h => by
    unfold iterC at h ⊢
    cases hc : canon base T S with
    | none => rw [hc] at h; cases h
    | some c =>
      obtain ⟨T1, S1⟩ := c
      rw [hc] at h
      simp only at h ⊢
      cases hb : body T1 S1 with
      | none => rw [hb] at h; cases h
      | some b =>
        obtain ⟨x, T', S'⟩ := b
        rw [hb] at h
        cases x with
        | normal => exact iterC_more n T' S' h
        | exit i => exact h
        | ret => exact h
theorem at_more {base : Nat} {body : List AVal → List AObj → Res} {n m : Nat} {T1 : List AVal} {S1 : List AObj} {r : AExit × List AVal × List AObj} (h : At base body n T1 S1 (some r)) (hm : n ≤ m) : At base body m T1 S1 (some r) := by
  intro T S hc
  obtain ⟨d, rfl⟩ : ∃ d, m = n + d := ⟨m - n, by omega⟩
  induction d with
  | zero => exact h T S hc
  | succ d ih => exact iterC_more _ _ _ (ih (by omega))
section
variable (ps : List P2) (f x y : Int) (p : P2)
theorem sh_first {q : P2} (hq : ps[0]? = some q) : roundC 0 bodyRs0 (rsT ps f x y 0 nilA nilA nilA) (rsS0 p) = some (.normal, rsT ps f x y (1 : Nat) (.row 16 0 2 0 1) (.row 35 0 2 0 1) nilA, rsS p [rsP1 q] [rsMv x y (rsP1 q)]) := by
  have hl := lt_of_get hq
  have h := rsFirst_eq ps f x y 0 p q (rsP1 q).1 (rsP1 q).2 ⟨Int.le_refl _, by omega, by omega, flatPP_length ps⟩ (load_x (i := 0) hq) ⟨Int.le_refl _, by omega, by omega, flatPP_length ps⟩ (load_y (i := 0) hq) (by omega) (by rw [part_int]; rfl) (by omega) (by rw [part_int]; rfl)
  rw [h]
  unfold rsFirst
  rw [decide_eq_true (by omega : (0 : Int) < (ps.length : Int)), IntWalk.i64_in (0 + 1) (by omega)]
  rfl
theorem sh_next {k : Nat} {q : P2} {al bl : List P2} (hq : ps[k]? = some q) (h60 : ps.length ≤ 60) (ha : al.length = k) (hb : bl.length = k) :
    roundC 0 bodyRs0 (rsT ps f x y k (.row 16 0 2 0 k) (.row 35 0 2 0 k) nilA) (rsS p al bl) = some (.normal, rsT ps f x y (k + 1 : Nat) (.row 16 0 2 0 (k + 1)) (.row 35 0 2 0 (k + 1)) nilA, rsS p (al ++ [rsP1 q]) (bl ++ [rsMv x y (rsP1 q)])) := by
  have hl := lt_of_get hq
  have e1 : (al ++ [rsP1 q])[k]? = some (rsP1 q) := by rw [← ha]; simp
  have g1 := flatP_get (al ++ [rsP1 q]) k _ e1
  have s1 := flatP_snoc al (rsP1 q)
  have s2 := flatP_snoc bl (rsMv x y (rsP1 q))
  have h := rsNext_eq ps al bl f x y k k p q (rsP1 q).1 (rsP1 q).2 ⟨by omega, by omega, by omega, flatPP_length ps⟩ (load_x (i := k) hq) ⟨by omega, by omega, by omega, flatPP_length ps⟩ (load_y (i := k) hq)
    ⟨by rw [flatP_length]; omega, by omega, by omega⟩ ⟨by omega, by omega⟩
    (by rw [part_int]; rw [show (List.drop (0 * 2) (flatP al) ++ [iA (q.1.tmod 100), iA (q.2.tmod 100)]) = flatP (al ++ [rsP1 q]) from s1]; simpa using g1.1) ⟨by omega, by omega⟩
    (by rw [part_int]; rw [show (List.drop (0 * 2) (flatP al) ++ [iA (q.1.tmod 100), iA (q.2.tmod 100)]) = flatP (al ++ [rsP1 q]) from s1]; simpa using g1.2)
    ⟨by rw [flatP_length]; omega, by omega, by omega⟩
  rw [h]
  unfold rsNext
  rw [decide_eq_true (by omega : (k : Int) < (ps.length : Int)), IntWalk.i64_in ((k : Int) + 1) (by omega)]
  unfold rsS
  rw [← s1, ← s2]
  rfl
theorem sh_end {al bl : List P2} {n : Nat} : roundC 0 bodyRs0 (rsT ps f x y ps.length (.row 16 0 2 0 n) (.row 35 0 2 0 n) nilA) (rsS p al bl) = some (.exit 0, rsE0 ps f x y ps.length n, rsS p al bl) := by
  have hpl : Plain (rsS p al bl) := by
    unfold rsS
    simp only [Plain, List.all_append, List.all_cons, List.all_nil, plainO, flatP_plain] <;> rfl
  exact roundP_ok (hs := []) (bs := [false]) (ls := []) (ob := [Plain (rsS p al bl), decide ((ps.length : Int) < (ps.length : Int)) = false]) (by kernel_rfl) (allOb_cons hpl (allOb_cons (decide_eq_false (by omega)) allOb_nil))
def rsA (ps : List P2) (k : Nat) : List P2 := (ps.take k).map rsP1
def rsB (x y : Int) (ps : List P2) (k : Nat) : List P2 := (rsA ps k).map (rsMv x y)
theorem rsA_length {ps : List P2} {k : Nat} (h : k ≤ ps.length) : (rsA ps k).length = k := by simp [rsA, h]
theorem rsA_succ {ps : List P2} {k : Nat} {q : P2} (h : ps[k]? = some q) : rsA ps (k + 1) = rsA ps k ++ [rsP1 q] := by
  unfold rsA
  rw [List.take_add_one, h]
  simp
theorem sh_loop (h60 : ps.length ≤ 60) : ∀ (d k : Nat), 1 ≤ k → k + d = ps.length → At 0 bodyRs0 (d + 1) (rsT ps f x y k (.row 16 0 2 0 k) (.row 35 0 2 0 k) nilA) (rsS p (rsA ps k) (rsB x y ps k)) (some (.exit 0, rsE0 ps f x y ps.length ps.length, rsS p (rsA ps ps.length) (rsB x y ps ps.length)))
  | 0, k, _, hk => by
    obtain rfl : k = ps.length := by omega
    exact At.leave (sh_end ps f x y p) (by simp)
  | d + 1, k, h1, hk => by
    have hlt : k < ps.length := by omega
    have hq : ps[k]? = some ps[k] := List.getElem?_eq_getElem hlt
    have h := sh_next ps f x y p (al := rsA ps k) (bl := rsB x y ps k) hq h60 (rsA_length (by omega)) (by unfold rsB; rw [List.length_map]; exact rsA_length (by omega))
    refine At.step h ?_
    have := sh_loop h60 d (k + 1) (by omega) (by omega)
    unfold rsB at this ⊢
    rw [rsA_succ hq] at this
    rw [List.map_append] at this
    exact this
theorem sh_loop0 (h60 : ps.length ≤ 60) (h1 : 1 ≤ ps.length) : iterC 0 bodyRs0 61 (rsT ps f x y 0 nilA nilA nilA) (rsS0 p) = some (.exit 0, rsE0 ps f x y ps.length ps.length, rsS p (rsA ps ps.length) (rsB x y ps ps.length)) := by
  have hq : ps[0]? = some ps[0] := List.getElem?_eq_getElem (by omega)
  have hA : At 0 bodyRs0 (ps.length - 1 + 1 + 1) (rsT ps f x y 0 nilA nilA nilA) (rsS0 p) (some (.exit 0, rsE0 ps f x y ps.length ps.length, rsS p (rsA ps ps.length) (rsB x y ps ps.length))) := by
    refine At.step (sh_first ps f x y p hq) ?_
    have := sh_loop ps f x y p h60 (ps.length - 1) 1 (Nat.le_refl _) (by omega)
    have e : rsA ps 1 = [rsP1 ps[0]] := by rw [rsA_succ hq]; rfl
    unfold rsB at this
    rw [e] at this
    exact this
  exact At.use (at_more hA (m := 61) (by omega)) (by rfl) (by kernel_rfl)
end
theorem and255_bound (f : Int) : 0 ≤ and255 f ∧ and255 f ≤ 255 := by
  unfold and255
  have h : (BitVec.ofInt IntKind.i64.bits f &&& BitVec.ofInt IntKind.i64.bits 255).toNat ≤ 255 := by
    rw [BitVec.toNat_and]
    exact Nat.le_trans Nat.and_le_right (by decide)
  rw [IntWalk.i64_in _ (by omega)]
  omega
/-- The ring begun at another point. -/
def rsC (al : List P2) (s k : Nat) : List P2 := (List.range k).map fun i => al[(i + s) % al.length]?.getD (0, 0)
theorem rsC_succ (al : List P2) (s k : Nat) : rsC al s (k + 1) = rsC al s k ++ [al[(k + s) % al.length]?.getD (0, 0)] := by simp [rsC, List.range_succ]
theorem rsC_length (al : List P2) (s k : Nat) : (rsC al s k).length = k := by simp [rsC]
section
variable (f x y : Int) (p : P2) (al bl : List P2)
theorem sc_args {k n s : Nat} (hn : al.length = n) (hk : k < n) (h60 : n ≤ 60) (hs : and255 f = (s : Int)) :
    binA Try.prog BinOp.rem 3 (Operand.tmp 79) (Operand.tmp 81) (iA (IntKind.i64.wrap ((k : Int) + and255 f))) (iA (n : Int)) = some (iA (((k + s) % n : Nat) : Int)) ∧ (0 ≤ (((k + s) % n : Nat) : Int) ∧ (((k + s) % n : Nat) : Int) < (n : Int)) ∧
      partA Try.prog 23 (flatP al) ((0 + ((((k + s) % n : Nat) : Int)).toNat) * 2) = some (ptA (al[(k + s) % n]?.getD (0, 0))) := by
  have hb := and255_bound f
  have hm := Nat.mod_lt (k + s) (y := n) (by omega)
  refine ⟨?_, ⟨by omega, by omega⟩, ?_⟩
  · rw [IntWalk.i64_in _ (by omega), hs]
    have := binA_rem ((k : Int) + s) n (Operand.tmp 79) (Operand.tmp 81) (by omega)
    rw [this, Int.tmod_eq_emod_of_nonneg (by omega)]
    rfl
  · rw [Nat.zero_add, Int.toNat_natCast]
    have hq : al[(k + s) % n]? = some (al[(k + s) % n]?.getD (0, 0)) := by
      rw [List.getElem?_eq_getElem (by omega)]
      rfl
    exact flatP_part hq agg23 sz23
theorem sc_first {n s : Nat} (hn : al.length = n) (h1 : 1 ≤ n) (h60 : n ≤ 60) (hs : and255 f = (s : Int)) :
    roundC 0 bodyRs1 (rsU f x y 0 n nilA) (rsS p al bl) = some (.normal, rsU f x y (1 : Nat) n (.row 2 0 2 0 1), rsS3 p al bl (rsC al s 1)) := by
  obtain ⟨e0, e1, e2⟩ := sc_args f al (k := 0) hn (by omega) h60 hs
  have h := rsC1_eq al bl f x y 0 _ n p _ e0 e1 e2
  rw [h]
  unfold rsC1
  rw [decide_eq_true (by omega : (0 : Int) < (n : Int)), IntWalk.i64_in (0 + 1) (by omega)]
  subst hn
  rfl
theorem sc_next {k n s : Nat} {cl : List P2} (hn : al.length = n) (hk : k < n) (h60 : n ≤ 60) (hs : and255 f = (s : Int)) (hc : cl.length = k) :
    roundC 0 bodyRs1 (rsU f x y k n (.row 2 0 2 0 k)) (rsS3 p al bl cl) = some (.normal, rsU f x y (k + 1 : Nat) n (.row 2 0 2 0 (k + 1)), rsS3 p al bl (cl ++ [al[(k + s) % n]?.getD (0, 0)])) := by
  obtain ⟨e0, e1, e2⟩ := sc_args f al (k := k) hn hk h60 hs
  have s1 := flatP_snoc cl (al[(k + s) % n]?.getD (0, 0))
  have h := rsC2_eq al bl cl f x y k _ n k p _ e0 e1 e2 ⟨by rw [flatP_length]; omega, by omega, by omega⟩
  rw [h]
  unfold rsC2
  rw [decide_eq_true (by omega : (k : Int) < (n : Int)), IntWalk.i64_in ((k : Int) + 1) (by omega)]
  unfold rsS3
  rw [← s1]
  rfl
theorem sc_end {cl : List P2} {n m : Nat} : roundC 0 bodyRs1 (rsU f x y n n (.row 2 0 2 0 m)) (rsS3 p al bl cl) = some (.exit 2, rsE1 f x y n n m, rsS3 p al bl cl) := by
  have hpl : Plain (rsS3 p al bl cl) := by
    unfold rsS3
    simp only [Plain, List.all_append, List.all_cons, List.all_nil, plainO, flatP_plain] <;> rfl
  exact roundP_ok (hs := []) (bs := [false]) (ls := []) (ob := [Plain (rsS3 p al bl cl), decide ((n : Int) < (n : Int)) = false]) (by kernel_rfl) (allOb_cons hpl (allOb_cons (decide_eq_false (by omega)) allOb_nil))
theorem sc_loop {n s : Nat} (hn : al.length = n) (h60 : n ≤ 60) (hs : and255 f = (s : Int)) : ∀ (d k : Nat), 1 ≤ k → k + d = n → At 0 bodyRs1 (d + 1) (rsU f x y k n (.row 2 0 2 0 k)) (rsS3 p al bl (rsC al s k)) (some (.exit 2, rsE1 f x y n n n, rsS3 p al bl (rsC al s n)))
  | 0, k, _, hk => by
    obtain rfl : k = n := by omega
    exact At.leave (sc_end f x y p al bl) (by simp)
  | d + 1, k, h1, hk => by
    have h := sc_next f x y p al bl (cl := rsC al s k) hn (by omega) h60 hs (rsC_length _ _ _)
    refine At.step h ?_
    have := sc_loop hn h60 hs d (k + 1) (by omega) (by omega)
    rw [rsC_succ, hn] at this
    exact this
theorem sc_loop1 {n s : Nat} (hn : al.length = n) (h1 : 1 ≤ n) (h60 : n ≤ 60) (hs : and255 f = (s : Int)) : iterC 0 bodyRs1 61 (rsU f x y 0 n nilA) (rsS p al bl) = some (.exit 2, rsE1 f x y n n n, rsS3 p al bl (rsC al s n)) := by
  have hA : At 0 bodyRs1 (n - 1 + 1 + 1) (rsU f x y 0 n nilA) (rsS p al bl) (some (.exit 2, rsE1 f x y n n n, rsS3 p al bl (rsC al s n))) :=
    At.step (sc_first f x y p al bl hn h1 h60 hs) (sc_loop f x y p al bl hn h60 hs (n - 1) 1 (Nat.le_refl _) (by omega))
  have hpl : Plain (rsS p al bl) := by
    unfold rsS
    simp only [Plain, List.all_append, List.all_cons, List.all_nil, plainO, flatP_plain] <;> rfl
  exact At.use (at_more hA (m := 61) (by omega)) hpl (by kernel_rfl)
end
end Go.Proofs.Ytmopbegmdegooaa
/- The law RingShifts: of too many points, and of none. -/
namespace Go.Proofs.Ytmopbegmdegooaa
open Go Vm M
set_option linter.unusedVariables false
set_option linter.unusedSimpArgs false
def rsN0 (f x y : Int) : List AVal := [slA []] ++ jk 3 ++ [iA f, .junk, .ptr 0 0 0] ++ jk 4 ++ [nilA, nilA, nilA, iA x, iA y, iA 0] ++ jk 14 ++ [bA false] ++ jk 103
def rsNU (f x y : Int) : List AVal := jk 4 ++ [iA f, .junk, .ptr 0 0 0] ++ jk 4 ++ [nilA, nilA, nilA, iA x, iA y, .junk, iA 0] ++ jk 117
def rsN1 (f x y : Int) : List AVal := jk 4 ++ [iA f, .junk, .ptr 0 0 0] ++ jk 4 ++ [nilA, nilA, nilA, iA x, iA y, .junk, iA 0] ++ jk 53 ++ [bA false] ++ jk 63
def rsNil (p : P2) (dx : Int) (dy : Int) (f : Int) : PVal :=
  PVal.v (Value.bool true)
theorem rsNil_calls (p : P2) (dx : Int) (dy : Int) (f : Int) (e0 : iterC 0 (evalC (cf R3) (evalF (cf R3) 61) ((lives.lookup 6).getD []) 0 0 61 (loopAt Try.f6 0)) 61 (rsT [] f (dx.tmod 10000) (dy.tmod 10000) 0 nilA nilA nilA) (rsS0 p) = some (.exit 0, rsN0 f (dx.tmod 10000) (dy.tmod 10000), rsS0 p)) (e1 : iterC 0 (evalC (cf R3) (evalF (cf R3) 61) ((lives.lookup 6).getD []) 0 0 61 (loopAt Try.f6 1)) 61 (rsNU f (dx.tmod 10000) (dy.tmod 10000)) (rsS0 p) = some (.exit 2, rsN1 f (dx.tmod 10000) (dy.tmod 10000), rsS0 p)) : CallsP Try.prog 6 [slP [], ptP p, iP dx, iP dy, iP f] (rsNil p dx dy f) := by
  have key := fun (bs : List Bool) (r : PVal) (ob : List Prop) (h : callP (cf R3) (evalF (cf R3) 61) 61 [] 6 [slP [], ptP p, iP dx, iP dy, iP f] bs [(AExit.exit 0, rsN0 f (Int.tmod dx 10000) (Int.tmod dy 10000), rsS0 p), (AExit.exit 2, rsN1 f (Int.tmod dx 10000) (Int.tmod dy 10000), rsS0 p)] (none) = .ok (r, ob)) (hp : allOb ob) => callP_ok (cf_ok R3) h hp
  unfold rsNil
  exact key [false, true, true, true, true] (PVal.v (Value.bool true)) _ (by kernel_rfl) (allOb_cons lit_t (allOb_cons lit_t (allOb_cons lit_t (allOb_cons lit_t (allOb_cons (by exact e1) (allOb_cons (by exact e0) (allOb_cons lit_f allOb_nil)))))))
theorem rsNil_all (p : P2) (dx dy f : Int) : CallsP Try.prog 6 [slP [], ptP p, iP dx, iP dy, iP f] (bP true) := rsNil_calls p dx dy f (by kernel_rfl) (by kernel_rfl)
theorem rsLong (ps : List P2) (p : P2) (dx dy f : Int) (h : ps.length > 60) : CallsP Try.prog 6 [slP ps, ptP p, iP dx, iP dy, iP f] (bP true) :=
  callP_ok (cf_ok R3) (k := 61) (hs := []) (f := 6) (ps := [slP ps, ptP p, iP dx, iP dy, iP f]) (bs := [true]) (ls := []) (out := none) (r := bP true) (ob := [decide ((ps.length : Int) > 60) = true]) (by kernel_rfl) (allOb_cons (decide_eq_true (by omega)) allOb_nil)
end Go.Proofs.Ytmopbegmdegooaa
/- The law RingShifts: what its code answers is true. -/
namespace Go.Proofs.Ytmopbegmdegooaa
open Go Vm M
set_option linter.unusedVariables false
set_option linter.unusedSimpArgs false
/-- Numbers far from what a number can hold. -/
def small (p : P2) : Prop := (-20000 ≤ p.1 ∧ p.1 ≤ 20000) ∧ (-20000 ≤ p.2 ∧ p.2 ≤ 20000)
theorem small.inG {p : P2} (h : small p) : inG p := by
  obtain ⟨⟨h1, h2⟩, h3, h4⟩ := h
  exact ⟨⟨by omega, by omega⟩, by omega, by omega⟩
theorem cross_bound {x : SegP} (h1 : small x.1) (h2 : small x.2) : -800000000 ≤ cross x ∧ cross x ≤ 800000000 := by
  obtain ⟨⟨a1, a2⟩, a3, a4⟩ := h1
  obtain ⟨⟨b1, b2⟩, b3, b4⟩ := h2
  have m1 := mul_bound (A := 20000) (B := 20000) a1 a2 b3 b4
  have m2 := mul_bound (A := 20000) (B := 20000) a3 a4 b1 b2
  unfold cross
  omega
theorem segStep_eq {s : Int} {x : SegP} (h1 : small x.1) (h2 : small x.2) (hs : -1000000000000 ≤ s ∧ s ≤ 1000000000000) : segStep s x = s + cross x := by
  have hc := cross_bound h1 h2
  have g1 := h1.inG
  have g2 := h2.inG
  obtain ⟨⟨a1, a2⟩, a3, a4⟩ := h1
  obtain ⟨⟨b1, b2⟩, b3, b4⟩ := h2
  have m1 := mul_bound (A := 20000) (B := 20000) a1 a2 b3 b4
  have m2 := mul_bound (A := 20000) (B := 20000) a3 a4 b1 b2
  unfold segStep
  unfold cross at hc ⊢
  rw [nearP_id g1, nearP_id g2]
  rw [IntWalk.i64_in (x.1.1 * x.2.2) (by omega), IntWalk.i64_in (x.1.2 * x.2.1) (by omega), IntWalk.i64_in (x.1.1 * x.2.2 - x.1.2 * x.2.1) (by omega), IntWalk.i64_in _ (by omega)]
theorem segFold_eq : ∀ (xs : List SegP) (s B : Int), (∀ x ∈ xs, small x.1 ∧ small x.2) → -B ≤ s → s ≤ B → B + 800000000 * (xs.length : Int) ≤ 900000000000 → xs.foldl segStep s = s + sumC xs := by
  intro xs
  induction xs with
  | nil => intro s B _ _ _ _; simp [sumC]
  | cons x xs ih =>
    intro s B h h1 h2 hk
    have hx := h x (by simp)
    have hc := cross_bound hx.1 hx.2
    have hl : ((x :: xs).length : Int) = (xs.length : Int) + 1 := by simp
    rw [hl] at hk
    have e := segStep_eq hx.1 hx.2 (s := s) ⟨by omega, by omega⟩
    have := ih (s + cross x) (B + 800000000) (fun y hy => h y (by simp [hy])) (by omega) (by omega) (by omega)
    rw [List.foldl_cons, e, this, sumC_cons]
    omega
theorem ringS_length (ps : List P2) : (ringS ps).length = ps.length := by rw [← segs_eq, upto_length]
theorem areaP_eq {ps : List P2} (h : ∀ q ∈ ps, small q) (hl : ps.length ≤ 1000) : areaP ps = sumC (ringS ps) := by
  unfold areaP
  split
  · rename_i h3
    rw [ringS_short h3]
  · rw [segs_eq]
    unfold segSum
    rw [segFold_eq (ringS ps) 0 0 (fun x hx => ⟨h _ (ringS_mem hx).1, h _ (ringS_mem hx).2⟩) (by omega) (by omega) (by rw [ringS_length]; omega)]
    omega
theorem insideP_eq (ps : List P2) (p : P2) : insideP ps p = insideS (ringS ps) p := by
  unfold insideP
  rw [segs_eq]
theorem rsC_eq (al : List P2) (s : Nat) (h : 0 < al.length) : rsC al s al.length = al.drop (s % al.length) ++ al.take (s % al.length) := by
  have hm := Nat.mod_lt s h
  apply List.ext_getElem?
  intro i
  by_cases hi : i < al.length
  · have h1 : (rsC al s al.length)[i]? = some (al[(i + s) % al.length]?.getD (0, 0)) := by
      unfold rsC
      rw [List.getElem?_map, List.getElem?_range hi]
      rfl
    have e : (i + s) % al.length = (i + s % al.length) % al.length := by rw [Nat.add_mod, Nat.mod_eq_of_lt hi]
    rw [h1, e]
    generalize s % al.length = m at *
    by_cases h2 : i + m < al.length
    · rw [Nat.mod_eq_of_lt h2, List.getElem?_append_left (by simp; omega), List.getElem?_drop, Nat.add_comm m i, List.getElem?_eq_getElem h2]
      rfl
    · have e2 : (i + m) % al.length = i + m - al.length := by
        rw [Nat.mod_eq_sub_mod (by omega), Nat.mod_eq_of_lt (by omega)]
      rw [e2, List.getElem?_append_right (by simp; omega), List.length_drop, List.getElem?_take, if_pos (by omega)]
      rw [show i - (al.length - m) = i + m - al.length by omega, List.getElem?_eq_getElem (by omega)]
      rfl
  · rw [List.getElem?_eq_none (by rw [rsC_length]; omega), List.getElem?_eq_none (by simp; omega)]
theorem tmod_bound (a : Int) (n : Nat) (h : 0 < n) : -(n : Int) < a.tmod n ∧ a.tmod n < n := by
  have h1 := Int.tmod_lt_of_pos a (b := (n : Int)) (by omega)
  have h2 := Int.tmod_lt_of_pos (-a) (b := (n : Int)) (by omega)
  rw [Int.neg_tmod] at h2
  omega
theorem ringShifts_calls (ps : List P2) (p : P2) (dx dy f : Int) : CallsP Try.prog 6 [slP ps, ptP p, iP dx, iP dy, iP f] (bP true) := by
  by_cases h60 : ps.length > 60
  · exact rsLong ps p dx dy f h60
  · by_cases h1 : 1 ≤ ps.length
    · obtain ⟨s, hs⟩ : ∃ s : Nat, and255 f = (s : Int) := ⟨(and255 f).toNat, by have := and255_bound f; omega⟩
      have bx : -10000 < dx.tmod 10000 ∧ dx.tmod 10000 < 10000 := tmod_bound dx 10000 (by omega)
      have bb : -10000 < dy.tmod 10000 ∧ dy.tmod 10000 < 10000 := tmod_bound dy 10000 (by omega)
      have hl0 := sh_loop0 ps f (dx.tmod 10000) (dy.tmod 10000) p (by omega) h1
      generalize hal : rsA ps ps.length = al at hl0
      have hla : al.length = ps.length := by rw [← hal]; exact rsA_length (Nat.le_refl _)
      have hbl : rsB (dx.tmod 10000) (dy.tmod 10000) ps ps.length = al.map (rsMv (dx.tmod 10000) (dy.tmod 10000)) := by unfold rsB; rw [hal]
      rw [hbl] at hl0
      have hl1 := sc_loop1 f (dx.tmod 10000) (dy.tmod 10000) p al (al.map (rsMv (dx.tmod 10000) (dy.tmod 10000))) hla h1 (by omega) hs
      have hlb : (al.map (rsMv (dx.tmod 10000) (dy.tmod 10000))).length = ps.length := by simp [hla]
      have hlc : (rsC al s ps.length).length = ps.length := rsC_length _ _ _
      have hsm : ∀ q ∈ al, (-100 < q.1 ∧ q.1 < 100) ∧ (-100 < q.2 ∧ q.2 < 100) := by
        intro q hq
        rw [← hal] at hq
        unfold rsA at hq
        rw [List.mem_map] at hq
        obtain ⟨r, _, rfl⟩ := hq
        exact ⟨tmod_bound r.1 100 (by omega), tmod_bound r.2 100 (by omega)⟩
      have hmv : ∀ q : P2, ((-100 < q.1 ∧ q.1 < 100) ∧ (-100 < q.2 ∧ q.2 < 100)) → rsMv (dx.tmod 10000) (dy.tmod 10000) q = (q.1 + dx.tmod 10000, q.2 + dy.tmod 10000) := by
        intro q hq
        unfold rsMv
        rw [IntWalk.i64_in _ (by omega), IntWalk.i64_in _ (by omega)]
      have hmap : al.map (rsMv (dx.tmod 10000) (dy.tmod 10000)) = al.map fun q => (q.1 + dx.tmod 10000, q.2 + dy.tmod 10000) := List.map_congr_left fun q hq => hmv q (hsm q hq)
      have hp1 : (-100 < (rsP1 p).1 ∧ (rsP1 p).1 < 100) ∧ (-100 < (rsP1 p).2 ∧ (rsP1 p).2 < 100) := ⟨tmod_bound p.1 100 (by omega), tmod_bound p.2 100 (by omega)⟩
      have hq1 : rsQ1 p (dx.tmod 10000) (dy.tmod 10000) = ((rsP1 p).1 + dx.tmod 10000, (rsP1 p).2 + dy.tmod 10000) := hmv (rsP1 p) hp1
      have hrot : rsC al s ps.length = al.drop (s % al.length) ++ al.take (s % al.length) := by rw [← hla]; exact rsC_eq al s (by omega)
      have sA : ∀ q ∈ al, small q := fun q hq => by
        have := hsm q hq
        exact ⟨⟨by omega, by omega⟩, by omega, by omega⟩
      have k2 : insideP (al.map (rsMv (dx.tmod 10000) (dy.tmod 10000))) (rsQ1 p (dx.tmod 10000) (dy.tmod 10000)) = insideP al (rsP1 p) := by
        rw [insideP_eq, insideP_eq, hmap, hq1]
        refine inside_move (fun q hq => ?_) ⟨⟨⟨by omega, by omega⟩, by omega, by omega⟩, ⟨by simp only; omega, by simp only; omega⟩, by simp only; omega, by simp only; omega⟩
        have := hsm q hq
        exact ⟨⟨⟨by omega, by omega⟩, by omega, by omega⟩, ⟨by simp only; omega, by simp only; omega⟩, by simp only; omega, by simp only; omega⟩
      have k3 : insideP (rsC al s ps.length) (rsP1 p) = insideP al (rsP1 p) := by
        rw [insideP_eq, insideP_eq, hrot, inside_rot, List.take_append_drop]
      have k4 : areaP (al.map (rsMv (dx.tmod 10000) (dy.tmod 10000))) = areaP al := by
        rw [areaP_eq sA (by omega), areaP_eq (fun q hq => ?_) (by omega), hmap, sumC_move]
        rw [hmap, List.mem_map] at hq
        obtain ⟨r, hr, rfl⟩ := hq
        have := hsm r hr
        exact ⟨⟨by simp only; omega, by simp only; omega⟩, by simp only; omega, by simp only; omega⟩
      have k6 : areaP (rsC al s ps.length) = areaP al := by
        rw [areaP_eq sA (by omega), areaP_eq (fun q hq => ?_) (by omega), hrot, sumC_perm (ringS_rot _ _), List.take_append_drop]
        rw [hrot, List.mem_append] at hq
        exact sA q (hq.elim List.mem_of_mem_drop List.mem_of_mem_take)
      generalize hbq : al.map (rsMv (dx.tmod 10000) (dy.tmod 10000)) = bl at hl0 hl1 hlb k2 k4
      generalize hcq : rsC al s ps.length = cl at hl1 hlc k3 k6
      have b62 : ∀ l : List P2, l.length = ps.length → l.length < 4611686018427387904 := fun l h => by omega
      have cI : ∀ (l : List P2) (q : P2) (S S' : List AObj) (o : Nat) (fz : Option Nat), l.length = ps.length → S[o]? = some (.row 2 0 fz (flatP l)) → S.set o (.row 2 0 (some (flatP l).length) (flatP l)) = S' → callA (cf R3) (evalF (cf R3) 61) 0 22 [.row o 0 2 0 ps.length, ptA q] S = some (iA (insideP l q), S') := by
        intro l q S S' o fz hl hS hS'
        have := callA_rowPt (c := cf R3) (ev := evalF (cf R3) 61) (F := 22) (p := q) (r := iP (insideP l q)) (g := gSPb fun ps p => iP (insideP ps p)) rfl rfl rfl hS (gSPb_slP _ q (b62 l hl))
        rw [hl, hS'] at this
        exact this
      have cA : ∀ (l : List P2) (S S' : List AObj) (o : Nat) (fz : Option Nat), l.length = ps.length → S[o]? = some (.row 2 0 fz (flatP l)) → S.set o (.row 2 0 (some (flatP l).length) (flatP l)) = S' → callA (cf R3) (evalF (cf R3) 61) 0 23 [.row o 0 2 0 ps.length] S = some (iA (areaP l), S') := by
        intro l S S' o fz hl hS hS'
        have := callA_row (c := cf R3) (ev := evalF (cf R3) 61) (F := 23) (r := iP (areaP l)) (g := gSb fun ps => iP (areaP ps)) rfl rfl rfl hS (gSb_slP _ (b62 l hl))
        rw [hl, hS'] at this
        exact this
      have h := rsAll_calls ps al bl cl dx dy f ps.length ps.length (insideP al (rsP1 p)) (insideP bl (rsQ1 p (dx.tmod 10000) (dy.tmod 10000))) (insideP cl (rsP1 p)) (areaP bl) (areaP al) (areaP cl) (areaP al) ps.length ps.length p hl0 hl1
        (cI al _ _ _ 16 none hla rfl rfl) (cI bl _ _ _ 35 none hlb rfl rfl) (cI cl _ _ _ 2 none hlc rfl rfl) (cA bl _ _ 35 _ hlb rfl rfl) (cA al _ _ 16 _ hla rfl rfl) (cA cl _ _ 2 _ hlc rfl rfl) (cA al _ _ 16 _ hla rfl rfl)
      have e : rsAll ps al bl cl dx dy f ps.length ps.length (insideP al (rsP1 p)) (insideP bl (rsQ1 p (dx.tmod 10000) (dy.tmod 10000))) (insideP cl (rsP1 p)) (areaP bl) (areaP al) (areaP cl) (areaP al) ps.length ps.length p = bP true := by
        unfold rsAll
        rw [k2, k3, k4, k6]
        simp [bP]
      rw [e] at h
      exact h
    · obtain rfl : ps = [] := List.eq_nil_of_length_eq_zero (by omega)
      exact rsNil_all p dx dy f
end Go.Proofs.Ytmopbegmdegooaa
/- The law RingParts: its loop's rounds, and what stands behind it. -/
namespace Go.Proofs.Ytmopbegmdegooaa
open Go Vm M
set_option linter.unusedVariables false
set_option linter.unusedSimpArgs false
def rpT (ps : List P2) (a b i : Int) (x : AVal) : List AVal := [slA ps, iA a, iA b] ++ jk 4 ++ [x, iA i] ++ jk 76
def rpS (al : List P2) : List AObj := List.replicate 15 .free ++ [.row 2 0 none (flatP al)]
def rpFirst (ps : List P2) (a : Int) (b : Int) (i : Int) (q : P2) : AExit × List AVal × List AObj :=
  (bif decide (i < (↑(List.length ps) : Int)) then (AExit.normal, (([AVal.list (List.length ps) (flatPP ps), AVal.v (Value.int IntKind.i64 a), AVal.v (Value.int IntKind.i64 b)] ++ jk 4 ++ [AVal.row 15 0 2 0 1, AVal.v (Value.int IntKind.i64 (IntKind.wrap IntKind.i64 (i + 1)))] ++ jk 76), (List.replicate 15 AObj.free ++ [AObj.row 2 0 none [AVal.v (Value.int IntKind.i64 (Int.tmod (Prod.fst q) 100)), AVal.v (Value.int IntKind.i64 (Int.tmod (Prod.snd q) 100))]]))) else (AExit.exit 0, (([AVal.list (List.length ps) (flatPP ps), AVal.v (Value.int IntKind.i64 a), AVal.v (Value.int IntKind.i64 b)] ++ jk 4 ++ [AVal.v (Value.slice none 0 0), AVal.v (Value.int IntKind.i64 i)] ++ jk 14 ++ [AVal.v (Value.bool false)] ++ jk 61), [])))
theorem rpFirst_eq (ps : List P2) (a : Int) (b : Int) (i : Int) (q : P2) (e0 : 0 ≤ i ∧ i < (ps.length : Int) ∧ 0 < 2 ∧ (flatPP ps).length = ps.length * 2) (e1 : partA Try.prog 2 (upL (((flatPP ps).drop (i.toNat * 2)).drop 0)) 0 = some (iA q.1)) (e2 : 0 ≤ i ∧ i < (ps.length : Int) ∧ 0 < 2 ∧ (flatPP ps).length = ps.length * 2) (e3 : partA Try.prog 2 (upL (((flatPP ps).drop (i.toNat * 2)).drop 1)) 0 = some (iA q.2)) : roundC 0 (evalC (cf R3) (evalF (cf R3) 61) (Option.getD (List.lookup 7 lives) []) 0 0 61 (loopAt Try.f7 0)) (rpT ps a b i nilA) ([]) = some (rpFirst ps a b i q) := by
  have key := fun (bs : List Bool) (r : AExit × List AVal × List AObj) (ob : List Prop) (h : roundP (cf R3) (evalF (cf R3) 61) (Option.getD (List.lookup 7 lives) []) 0 0 61 [(7, 3, Hint.idx), (7, 5, Hint.load (iA (Prod.fst q))), (7, 9, Hint.idx), (7, 11, Hint.load (iA (Prod.snd q)))] (loopAt Try.f7 0) (rpT ps a b i nilA) ([]) bs [] = .ok (r.1, r.2.1, r.2.2, ob)) (hp : allOb ob) => roundP_ok h hp
  unfold rpFirst
  exact bif_case (P := fun r => roundC 0 (evalC (cf R3) (evalF (cf R3) 61) (Option.getD (List.lookup 7 lives) []) 0 0 61 (loopAt Try.f7 0)) (rpT ps a b i nilA) ([]) = some r)
    (fun h0 => key [true] ((AExit.normal, (([AVal.list (List.length ps) (flatPP ps), AVal.v (Value.int IntKind.i64 a), AVal.v (Value.int IntKind.i64 b)] ++ jk 4 ++ [AVal.row 15 0 2 0 1, AVal.v (Value.int IntKind.i64 (IntKind.wrap IntKind.i64 (i + 1)))] ++ jk 76), (List.replicate 15 AObj.free ++ [AObj.row 2 0 none [AVal.v (Value.int IntKind.i64 (Int.tmod (Prod.fst q) 100)), AVal.v (Value.int IntKind.i64 (Int.tmod (Prod.snd q) 100))]])))) _ (by kernel_rfl) (allOb_cons (show Plain (List.replicate 14 AObj.free ++ [AObj.row 2 0 none [AVal.v (Value.int IntKind.i64 (Int.tmod (Prod.fst q) 100)), AVal.v (Value.int IntKind.i64 (Int.tmod (Prod.snd q) 100))], AObj.row 2 0 none [AVal.v (Value.int IntKind.i64 (Int.tmod (Prod.fst q) 100)), AVal.v (Value.int IntKind.i64 (Int.tmod (Prod.snd q) 100))], AObj.free]) from by simp only [Plain, List.all_append, List.all_cons, List.all_nil, plainO, flatP_plain, Nat.zero_mul, List.drop_zero] <;> rfl) (allOb_cons (by exact e3) (allOb_cons (by exact e2) (allOb_cons (by exact e1) (allOb_cons (by exact e0) (allOb_cons h0 allOb_nil)))))))
    (fun h0 => key [false] ((AExit.exit 0, (([AVal.list (List.length ps) (flatPP ps), AVal.v (Value.int IntKind.i64 a), AVal.v (Value.int IntKind.i64 b)] ++ jk 4 ++ [AVal.v (Value.slice none 0 0), AVal.v (Value.int IntKind.i64 i)] ++ jk 14 ++ [AVal.v (Value.bool false)] ++ jk 61), []))) _ (by kernel_rfl) (allOb_cons (show Plain [] from by simp only [Plain, List.all_append, List.all_cons, List.all_nil, plainO, flatP_plain, Nat.zero_mul, List.drop_zero] <;> rfl) (allOb_cons h0 allOb_nil)))
def rpNext (ps : List P2) (al : List P2) (a : Int) (b : Int) (i : Int) (n : Nat) (q : P2) : AExit × List AVal × List AObj :=
  (bif decide (i < (↑(List.length ps) : Int)) then (AExit.normal, (([AVal.list (List.length ps) (flatPP ps), AVal.v (Value.int IntKind.i64 a), AVal.v (Value.int IntKind.i64 b)] ++ jk 4 ++ [AVal.row 15 0 2 0 (n + (0 + 1)), AVal.v (Value.int IntKind.i64 (IntKind.wrap IntKind.i64 (i + 1)))] ++ jk 76), (List.replicate 15 AObj.free ++ [AObj.row 2 0 none (List.drop (0 * 2) (flatP al) ++ [iA (Int.tmod (Prod.fst q) 100), iA (Int.tmod (Prod.snd q) 100)])]))) else (AExit.exit 0, (([AVal.list (List.length ps) (flatPP ps), AVal.v (Value.int IntKind.i64 a), AVal.v (Value.int IntKind.i64 b)] ++ jk 4 ++ [AVal.row 15 0 2 0 n, AVal.v (Value.int IntKind.i64 i)] ++ jk 14 ++ [AVal.v (Value.bool false)] ++ jk 61), (List.replicate 15 AObj.free ++ [AObj.row 2 0 none (flatP al)]))))
theorem rpNext_eq (ps : List P2) (al : List P2) (a : Int) (b : Int) (i : Int) (n : Nat) (q : P2) (e0 : 0 ≤ i ∧ i < (ps.length : Int) ∧ 0 < 2 ∧ (flatPP ps).length = ps.length * 2) (e1 : partA Try.prog 2 (upL (((flatPP ps).drop (i.toNat * 2)).drop 0)) 0 = some (iA q.1)) (e2 : 0 ≤ i ∧ i < (ps.length : Int) ∧ 0 < 2 ∧ (flatPP ps).length = ps.length * 2) (e3 : partA Try.prog 2 (upL (((flatPP ps).drop (i.toNat * 2)).drop 1)) 0 = some (iA q.2)) (e4 : (0 + n) * 2 = (flatP al).length ∧ (n + (0 + 1)) * 16 ≤ 140737488355328 ∧ n + (0 + 1) ≤ 9223372036854775807) : roundC 0 (evalC (cf R3) (evalF (cf R3) 61) (Option.getD (List.lookup 7 lives) []) 0 0 61 (loopAt Try.f7 0)) (rpT ps a b i (AVal.row 15 0 2 0 n)) (rpS al) = some (rpNext ps al a b i n q) := by
  have key := fun (bs : List Bool) (r : AExit × List AVal × List AObj) (ob : List Prop) (h : roundP (cf R3) (evalF (cf R3) 61) (Option.getD (List.lookup 7 lives) []) 0 0 61 [(7, 3, Hint.idx), (7, 5, Hint.load (iA (Prod.fst q))), (7, 9, Hint.idx), (7, 11, Hint.load (iA (Prod.snd q))), (7, 15, Hint.app)] (loopAt Try.f7 0) (rpT ps a b i (AVal.row 15 0 2 0 n)) (rpS al) bs [] = .ok (r.1, r.2.1, r.2.2, ob)) (hp : allOb ob) => roundP_ok h hp
  unfold rpNext
  exact bif_case (P := fun r => roundC 0 (evalC (cf R3) (evalF (cf R3) 61) (Option.getD (List.lookup 7 lives) []) 0 0 61 (loopAt Try.f7 0)) (rpT ps a b i (AVal.row 15 0 2 0 n)) (rpS al) = some r)
    (fun h0 => key [true] ((AExit.normal, (([AVal.list (List.length ps) (flatPP ps), AVal.v (Value.int IntKind.i64 a), AVal.v (Value.int IntKind.i64 b)] ++ jk 4 ++ [AVal.row 15 0 2 0 (n + (0 + 1)), AVal.v (Value.int IntKind.i64 (IntKind.wrap IntKind.i64 (i + 1)))] ++ jk 76), (List.replicate 15 AObj.free ++ [AObj.row 2 0 none (List.drop (0 * 2) (flatP al) ++ [iA (Int.tmod (Prod.fst q) 100), iA (Int.tmod (Prod.snd q) 100)])])))) _ (by kernel_rfl) (allOb_cons (show Plain (List.replicate 15 AObj.free ++ [AObj.row 2 1 none (List.drop (0 * 2) (flatP al) ++ [iA (Int.tmod (Prod.fst q) 100), iA (Int.tmod (Prod.snd q) 100)])] ++ List.replicate 14 AObj.free ++ [AObj.row 2 0 none [AVal.v (Value.int IntKind.i64 (Int.tmod (Prod.fst q) 100)), AVal.v (Value.int IntKind.i64 (Int.tmod (Prod.snd q) 100))], AObj.free, AObj.free]) from by simp only [Plain, List.all_append, List.all_cons, List.all_nil, plainO, flatP_plain, Nat.zero_mul, List.drop_zero] <;> rfl) (allOb_cons (by exact e4) (allOb_cons (by exact e3) (allOb_cons (by exact e2) (allOb_cons (by exact e1) (allOb_cons (by exact e0) (allOb_cons h0 allOb_nil))))))))
    (fun h0 => key [false] ((AExit.exit 0, (([AVal.list (List.length ps) (flatPP ps), AVal.v (Value.int IntKind.i64 a), AVal.v (Value.int IntKind.i64 b)] ++ jk 4 ++ [AVal.row 15 0 2 0 n, AVal.v (Value.int IntKind.i64 i)] ++ jk 14 ++ [AVal.v (Value.bool false)] ++ jk 61), (List.replicate 15 AObj.free ++ [AObj.row 2 0 none (flatP al)])))) _ (by kernel_rfl) (allOb_cons (show Plain (List.replicate 15 AObj.free ++ [AObj.row 2 0 none (flatP al)]) from by simp only [Plain, List.all_append, List.all_cons, List.all_nil, plainO, flatP_plain, Nat.zero_mul, List.drop_zero] <;> rfl) (allOb_cons h0 allOb_nil)))
end Go.Proofs.Ytmopbegmdegooaa
/- The law RingParts: what its code answers behind its loop. -/
namespace Go.Proofs.Ytmopbegmdegooaa
open Go Vm M
set_option linter.unusedVariables false
set_option linter.unusedSimpArgs false
def rpE (ps : List P2) (a b i : Int) (n : Nat) : List AVal := [slA ps, iA a, iA b] ++ jk 4 ++ [.row 15 0 2 0 n, iA i] ++ jk 14 ++ [bA false] ++ jk 61
def rpQ (al : List P2) (x1 x3 : List AVal) (f0 f15 f28 : Option Nat) : List AObj := [.row 2 1 f0 x1] ++ List.replicate 14 .free ++ [.row 2 0 f15 (flatP al)] ++ List.replicate 12 .free ++ [.row 2 2 f28 x3] ++ List.replicate 10 .free
def rpAllE (ps : List P2) (al : List P2) (av : Int) (bv : Int) (A : Int) (B : Int) (i0 : Int) (k1 : Int) (k2 : Int) (k3 : Int) (n : Nat) : PVal :=
  (bif IntKind.wrap IntKind.i64 (k1 + k2) == k3 then PVal.v (Value.bool true) else PVal.v (Value.bool false))
theorem rpAllE_calls (ps : List P2) (al : List P2) (av : Int) (bv : Int) (A : Int) (B : Int) (i0 : Int) (k1 : Int) (k2 : Int) (k3 : Int) (n : Nat) (p2 : decide (A > B) = false) (p1 : decide ((↑(List.length ps) : Int) > 60) = false) (p0 : decide ((↑(List.length ps) : Int) < 3) = false) (e0 : iterC 0 (evalC (cf R3) (evalF (cf R3) 61) ((lives.lookup 7).getD []) 0 0 61 (loopAt Try.f7 0)) 61 (rpT ps av bv 0 nilA) [] = some (.exit 0, rpE ps av bv i0 n, rpS al)) (e1 : binA Try.prog BinOp.rem 3 (Operand.tmp 43) (Operand.tmp 45) (iA (and255 av)) (iA (n : Int)) = some (iA A)) (e2 : binA Try.prog BinOp.rem 3 (Operand.tmp 48) (Operand.tmp 50) (iA (and255 bv)) (iA (n : Int)) = some (iA B)) (e3 : boundsA n (some (iA A)) (some (iA (IntKind.i64.wrap (B + 1)))) none = some ((A).toNat, (IntKind.i64.wrap (B + 1)).toNat, none)) (e4 : (0 + 0) * 2 = ([] : List AVal).length ∧ (0 + ((IntKind.i64.wrap (B + 1)).toNat - (A).toNat)) * 16 ≤ 140737488355328 ∧ 0 + ((IntKind.i64.wrap (B + 1)).toNat - (A).toNat) ≤ 9223372036854775807) (e5 : Ones (cutA (flatP al) 2 (0 + (A).toNat) (0 + (A).toNat + ((IntKind.i64.wrap (B + 1)).toNat - (A).toNat)))) (e6 : 0 < ((IntKind.i64.wrap (B + 1)).toNat - (A).toNat)) (e7 : (0 + (A).toNat + ((IntKind.i64.wrap (B + 1)).toNat - (A).toNat)) * 2 ≤ (flatP al).length) (e8 : boundsA n (some (iA B)) none none = some ((B).toNat, n, none)) (e9 : (0 + 0) * 2 = ([] : List AVal).length ∧ (0 + (n - (B).toNat)) * 16 ≤ 140737488355328 ∧ 0 + (n - (B).toNat) ≤ 9223372036854775807) (e10 : Ones (cutA (flatP al) 2 (0 + (B).toNat) (0 + (B).toNat + (n - (B).toNat)))) (e11 : 0 < (n - (B).toNat)) (e12 : (0 + (B).toNat + (n - (B).toNat)) * 2 ≤ (flatP al).length) (e13 : boundsA n none (some (iA (IntKind.i64.wrap (A + 1)))) none = some (0, (IntKind.i64.wrap (A + 1)).toNat, none)) (e14 : (0 + (0 + (n - (B).toNat))) * 2 = ((List.drop (0 * 2) ([] : List AVal) ++ cutA (flatP al) 2 (0 + (B).toNat) (0 + (B).toNat + (n - (B).toNat)))).length ∧ ((0 + (n - (B).toNat)) + ((IntKind.i64.wrap (A + 1)).toNat - 0)) * 16 ≤ 140737488355328 ∧ (0 + (n - (B).toNat)) + ((IntKind.i64.wrap (A + 1)).toNat - 0) ≤ 9223372036854775807) (e15 : Ones (cutA (flatP al) 2 (0 + 0) (0 + 0 + ((IntKind.i64.wrap (A + 1)).toNat - 0)))) (e16 : 0 < ((IntKind.i64.wrap (A + 1)).toNat - 0)) (e17 : (0 + 0 + ((IntKind.i64.wrap (A + 1)).toNat - 0)) * 2 ≤ (flatP al).length) (e18 : callA (cf R3) (evalF (cf R3) 61) 0 23 [.row 0 1 2 0 (0 + ((IntKind.i64.wrap (B + 1)).toNat - (A).toNat))] (rpQ al (List.drop (0 * 2) ([] : List AVal) ++ cutA (flatP al) 2 (0 + (A).toNat) (0 + (A).toNat + ((IntKind.i64.wrap (B + 1)).toNat - (A).toNat))) (List.drop (0 * 2) (List.drop (0 * 2) ([] : List AVal) ++ cutA (flatP al) 2 (0 + (B).toNat) (0 + (B).toNat + (n - (B).toNat))) ++ cutA (flatP al) 2 (0 + 0) (0 + 0 + ((IntKind.i64.wrap (A + 1)).toNat - 0))) none none none) = some (iA k1, (rpQ al (List.drop (0 * 2) ([] : List AVal) ++ cutA (flatP al) 2 (0 + (A).toNat) (0 + (A).toNat + ((IntKind.i64.wrap (B + 1)).toNat - (A).toNat))) (List.drop (0 * 2) (List.drop (0 * 2) ([] : List AVal) ++ cutA (flatP al) 2 (0 + (B).toNat) (0 + (B).toNat + (n - (B).toNat))) ++ cutA (flatP al) 2 (0 + 0) (0 + 0 + ((IntKind.i64.wrap (A + 1)).toNat - 0))) (some (List.drop (0 * 2) ([] : List AVal) ++ cutA (flatP al) 2 (0 + (A).toNat) (0 + (A).toNat + ((IntKind.i64.wrap (B + 1)).toNat - (A).toNat))).length) none none))) (e19 : callA (cf R3) (evalF (cf R3) 61) 0 23 [.row 28 2 2 0 (0 + (n - (B).toNat) + ((IntKind.i64.wrap (A + 1)).toNat - 0))] (rpQ al (List.drop (0 * 2) ([] : List AVal) ++ cutA (flatP al) 2 (0 + (A).toNat) (0 + (A).toNat + ((IntKind.i64.wrap (B + 1)).toNat - (A).toNat))) (List.drop (0 * 2) (List.drop (0 * 2) ([] : List AVal) ++ cutA (flatP al) 2 (0 + (B).toNat) (0 + (B).toNat + (n - (B).toNat))) ++ cutA (flatP al) 2 (0 + 0) (0 + 0 + ((IntKind.i64.wrap (A + 1)).toNat - 0))) (some (List.drop (0 * 2) ([] : List AVal) ++ cutA (flatP al) 2 (0 + (A).toNat) (0 + (A).toNat + ((IntKind.i64.wrap (B + 1)).toNat - (A).toNat))).length) none none) = some (iA k2, (rpQ al (List.drop (0 * 2) ([] : List AVal) ++ cutA (flatP al) 2 (0 + (A).toNat) (0 + (A).toNat + ((IntKind.i64.wrap (B + 1)).toNat - (A).toNat))) (List.drop (0 * 2) (List.drop (0 * 2) ([] : List AVal) ++ cutA (flatP al) 2 (0 + (B).toNat) (0 + (B).toNat + (n - (B).toNat))) ++ cutA (flatP al) 2 (0 + 0) (0 + 0 + ((IntKind.i64.wrap (A + 1)).toNat - 0))) (some (List.drop (0 * 2) ([] : List AVal) ++ cutA (flatP al) 2 (0 + (A).toNat) (0 + (A).toNat + ((IntKind.i64.wrap (B + 1)).toNat - (A).toNat))).length) none (some (List.drop (0 * 2) (List.drop (0 * 2) ([] : List AVal) ++ cutA (flatP al) 2 (0 + (B).toNat) (0 + (B).toNat + (n - (B).toNat))) ++ cutA (flatP al) 2 (0 + 0) (0 + 0 + ((IntKind.i64.wrap (A + 1)).toNat - 0))).length)))) (e20 : callA (cf R3) (evalF (cf R3) 61) 0 23 [.row 15 0 2 0 n] (rpQ al (List.drop (0 * 2) ([] : List AVal) ++ cutA (flatP al) 2 (0 + (A).toNat) (0 + (A).toNat + ((IntKind.i64.wrap (B + 1)).toNat - (A).toNat))) (List.drop (0 * 2) (List.drop (0 * 2) ([] : List AVal) ++ cutA (flatP al) 2 (0 + (B).toNat) (0 + (B).toNat + (n - (B).toNat))) ++ cutA (flatP al) 2 (0 + 0) (0 + 0 + ((IntKind.i64.wrap (A + 1)).toNat - 0))) (some (List.drop (0 * 2) ([] : List AVal) ++ cutA (flatP al) 2 (0 + (A).toNat) (0 + (A).toNat + ((IntKind.i64.wrap (B + 1)).toNat - (A).toNat))).length) none (some (List.drop (0 * 2) (List.drop (0 * 2) ([] : List AVal) ++ cutA (flatP al) 2 (0 + (B).toNat) (0 + (B).toNat + (n - (B).toNat))) ++ cutA (flatP al) 2 (0 + 0) (0 + 0 + ((IntKind.i64.wrap (A + 1)).toNat - 0))).length)) = some (iA k3, (rpQ al (List.drop (0 * 2) ([] : List AVal) ++ cutA (flatP al) 2 (0 + (A).toNat) (0 + (A).toNat + ((IntKind.i64.wrap (B + 1)).toNat - (A).toNat))) (List.drop (0 * 2) (List.drop (0 * 2) ([] : List AVal) ++ cutA (flatP al) 2 (0 + (B).toNat) (0 + (B).toNat + (n - (B).toNat))) ++ cutA (flatP al) 2 (0 + 0) (0 + 0 + ((IntKind.i64.wrap (A + 1)).toNat - 0))) (some (List.drop (0 * 2) ([] : List AVal) ++ cutA (flatP al) 2 (0 + (A).toNat) (0 + (A).toNat + ((IntKind.i64.wrap (B + 1)).toNat - (A).toNat))).length) (some (flatP al).length) (some (List.drop (0 * 2) (List.drop (0 * 2) ([] : List AVal) ++ cutA (flatP al) 2 (0 + (B).toNat) (0 + (B).toNat + (n - (B).toNat))) ++ cutA (flatP al) 2 (0 + 0) (0 + 0 + ((IntKind.i64.wrap (A + 1)).toNat - 0))).length)))) : CallsP Try.prog 7 [slP ps, iP av, iP bv] (rpAllE ps al av bv A B i0 k1 k2 k3 n) := by
  have key := fun (bs : List Bool) (r : PVal) (ob : List Prop) (h : callP (cf R3) (evalF (cf R3) 61) 61 [(8, 4, Hint.val (Value.int IntKind.i64 A)), (8, 9, Hint.val (Value.int IntKind.i64 B)), (11, 5, Hint.cut), (11, 6, Hint.appX), (12, 3, Hint.cut), (12, 4, Hint.appX), (12, 8, Hint.cut), (12, 9, Hint.appX), (13, 1, Hint.call (iA k1) (rpQ al (List.drop (0 * 2) [] ++ cutA (flatP al) 2 (0 + Int.toNat A) (0 + Int.toNat A + (Int.toNat (IntKind.wrap IntKind.i64 (B + 1)) - Int.toNat A))) (List.drop (0 * 2) (List.drop (0 * 2) [] ++ cutA (flatP al) 2 (0 + Int.toNat B) (0 + Int.toNat B + (n - Int.toNat B))) ++ cutA (flatP al) 2 (0 + 0) (0 + 0 + (Int.toNat (IntKind.wrap IntKind.i64 (A + 1)) - 0))) (some (List.length (List.drop (0 * 2) [] ++ cutA (flatP al) 2 (0 + Int.toNat A) (0 + Int.toNat A + (Int.toNat (IntKind.wrap IntKind.i64 (B + 1)) - Int.toNat A))))) none none)), (13, 3, Hint.call (iA k2) (rpQ al (List.drop (0 * 2) [] ++ cutA (flatP al) 2 (0 + Int.toNat A) (0 + Int.toNat A + (Int.toNat (IntKind.wrap IntKind.i64 (B + 1)) - Int.toNat A))) (List.drop (0 * 2) (List.drop (0 * 2) [] ++ cutA (flatP al) 2 (0 + Int.toNat B) (0 + Int.toNat B + (n - Int.toNat B))) ++ cutA (flatP al) 2 (0 + 0) (0 + 0 + (Int.toNat (IntKind.wrap IntKind.i64 (A + 1)) - 0))) (some (List.length (List.drop (0 * 2) [] ++ cutA (flatP al) 2 (0 + Int.toNat A) (0 + Int.toNat A + (Int.toNat (IntKind.wrap IntKind.i64 (B + 1)) - Int.toNat A))))) none (some (List.length (List.drop (0 * 2) (List.drop (0 * 2) [] ++ cutA (flatP al) 2 (0 + Int.toNat B) (0 + Int.toNat B + (n - Int.toNat B))) ++ cutA (flatP al) 2 (0 + 0) (0 + 0 + (Int.toNat (IntKind.wrap IntKind.i64 (A + 1)) - 0))))))), (13, 6, Hint.call (iA k3) (rpQ al (List.drop (0 * 2) [] ++ cutA (flatP al) 2 (0 + Int.toNat A) (0 + Int.toNat A + (Int.toNat (IntKind.wrap IntKind.i64 (B + 1)) - Int.toNat A))) (List.drop (0 * 2) (List.drop (0 * 2) [] ++ cutA (flatP al) 2 (0 + Int.toNat B) (0 + Int.toNat B + (n - Int.toNat B))) ++ cutA (flatP al) 2 (0 + 0) (0 + 0 + (Int.toNat (IntKind.wrap IntKind.i64 (A + 1)) - 0))) (some (List.length (List.drop (0 * 2) [] ++ cutA (flatP al) 2 (0 + Int.toNat A) (0 + Int.toNat A + (Int.toNat (IntKind.wrap IntKind.i64 (B + 1)) - Int.toNat A))))) (some (List.length (flatP al))) (some (List.length (List.drop (0 * 2) (List.drop (0 * 2) [] ++ cutA (flatP al) 2 (0 + Int.toNat B) (0 + Int.toNat B + (n - Int.toNat B))) ++ cutA (flatP al) 2 (0 + 0) (0 + 0 + (Int.toNat (IntKind.wrap IntKind.i64 (A + 1)) - 0)))))))] 7 [slP ps, iP av, iP bv] bs [(AExit.exit 0, rpE ps av bv i0 n, rpS al)] (none) = .ok (r, ob)) (hp : allOb ob) => callP_ok (cf_ok R3) h hp
  unfold rpAllE
  exact bif_case (P := fun r => CallsP Try.prog 7 [slP ps, iP av, iP bv] r)
    (fun h0 => key [false, false, false, true] (PVal.v (Value.bool true)) _ (by kernel_rfl) (allOb_cons h0 (allOb_cons (by exact e20) (allOb_cons (by exact e19) (allOb_cons (by exact e18) (allOb_cons (by exact e17) (allOb_cons (by exact e16) (allOb_cons (by exact e15) (allOb_cons (by exact e14) (allOb_cons (by exact e13) (allOb_cons (by exact e12) (allOb_cons (by exact e11) (allOb_cons (by exact e10) (allOb_cons (by exact e9) (allOb_cons (by exact e8) (allOb_cons (by exact e7) (allOb_cons (by exact e6) (allOb_cons (by exact e5) (allOb_cons (by exact e4) (allOb_cons (by exact e3) (allOb_cons p2 (allOb_cons (by exact e2) (allOb_cons (by exact e1) (allOb_cons (by exact e0) (allOb_cons p1 (allOb_cons p0 allOb_nil))))))))))))))))))))))))))
    (fun h0 => key [false, false, false, false] (PVal.v (Value.bool false)) _ (by kernel_rfl) (allOb_cons h0 (allOb_cons (by exact e20) (allOb_cons (by exact e19) (allOb_cons (by exact e18) (allOb_cons (by exact e17) (allOb_cons (by exact e16) (allOb_cons (by exact e15) (allOb_cons (by exact e14) (allOb_cons (by exact e13) (allOb_cons (by exact e12) (allOb_cons (by exact e11) (allOb_cons (by exact e10) (allOb_cons (by exact e9) (allOb_cons (by exact e8) (allOb_cons (by exact e7) (allOb_cons (by exact e6) (allOb_cons (by exact e5) (allOb_cons (by exact e4) (allOb_cons (by exact e3) (allOb_cons p2 (allOb_cons (by exact e2) (allOb_cons (by exact e1) (allOb_cons (by exact e0) (allOb_cons p1 (allOb_cons p0 allOb_nil))))))))))))))))))))))))))
def rpAllF (ps : List P2) (al : List P2) (av : Int) (bv : Int) (A : Int) (B : Int) (i0 : Int) (k1 : Int) (k2 : Int) (k3 : Int) (n : Nat) : PVal :=
  (bif IntKind.wrap IntKind.i64 (k1 + k2) == k3 then PVal.v (Value.bool true) else PVal.v (Value.bool false))
theorem rpAllF_calls (ps : List P2) (al : List P2) (av : Int) (bv : Int) (A : Int) (B : Int) (i0 : Int) (k1 : Int) (k2 : Int) (k3 : Int) (n : Nat) (p2 : decide (A > B) = true) (p1 : decide ((↑(List.length ps) : Int) > 60) = false) (p0 : decide ((↑(List.length ps) : Int) < 3) = false) (e0 : iterC 0 (evalC (cf R3) (evalF (cf R3) 61) ((lives.lookup 7).getD []) 0 0 61 (loopAt Try.f7 0)) 61 (rpT ps av bv 0 nilA) [] = some (.exit 0, rpE ps av bv i0 n, rpS al)) (e1 : binA Try.prog BinOp.rem 3 (Operand.tmp 43) (Operand.tmp 45) (iA (and255 av)) (iA (n : Int)) = some (iA A)) (e2 : binA Try.prog BinOp.rem 3 (Operand.tmp 48) (Operand.tmp 50) (iA (and255 bv)) (iA (n : Int)) = some (iA B)) (e3 : boundsA n (some (iA B)) (some (iA (IntKind.i64.wrap (A + 1)))) none = some ((B).toNat, (IntKind.i64.wrap (A + 1)).toNat, none)) (e4 : (0 + 0) * 2 = ([] : List AVal).length ∧ (0 + ((IntKind.i64.wrap (A + 1)).toNat - (B).toNat)) * 16 ≤ 140737488355328 ∧ 0 + ((IntKind.i64.wrap (A + 1)).toNat - (B).toNat) ≤ 9223372036854775807) (e5 : Ones (cutA (flatP al) 2 (0 + (B).toNat) (0 + (B).toNat + ((IntKind.i64.wrap (A + 1)).toNat - (B).toNat)))) (e6 : 0 < ((IntKind.i64.wrap (A + 1)).toNat - (B).toNat)) (e7 : (0 + (B).toNat + ((IntKind.i64.wrap (A + 1)).toNat - (B).toNat)) * 2 ≤ (flatP al).length) (e8 : boundsA n (some (iA A)) none none = some ((A).toNat, n, none)) (e9 : (0 + 0) * 2 = ([] : List AVal).length ∧ (0 + (n - (A).toNat)) * 16 ≤ 140737488355328 ∧ 0 + (n - (A).toNat) ≤ 9223372036854775807) (e10 : Ones (cutA (flatP al) 2 (0 + (A).toNat) (0 + (A).toNat + (n - (A).toNat)))) (e11 : 0 < (n - (A).toNat)) (e12 : (0 + (A).toNat + (n - (A).toNat)) * 2 ≤ (flatP al).length) (e13 : boundsA n none (some (iA (IntKind.i64.wrap (B + 1)))) none = some (0, (IntKind.i64.wrap (B + 1)).toNat, none)) (e14 : (0 + (0 + (n - (A).toNat))) * 2 = ((List.drop (0 * 2) ([] : List AVal) ++ cutA (flatP al) 2 (0 + (A).toNat) (0 + (A).toNat + (n - (A).toNat)))).length ∧ ((0 + (n - (A).toNat)) + ((IntKind.i64.wrap (B + 1)).toNat - 0)) * 16 ≤ 140737488355328 ∧ (0 + (n - (A).toNat)) + ((IntKind.i64.wrap (B + 1)).toNat - 0) ≤ 9223372036854775807) (e15 : Ones (cutA (flatP al) 2 (0 + 0) (0 + 0 + ((IntKind.i64.wrap (B + 1)).toNat - 0)))) (e16 : 0 < ((IntKind.i64.wrap (B + 1)).toNat - 0)) (e17 : (0 + 0 + ((IntKind.i64.wrap (B + 1)).toNat - 0)) * 2 ≤ (flatP al).length) (e18 : callA (cf R3) (evalF (cf R3) 61) 0 23 [.row 0 1 2 0 (0 + ((IntKind.i64.wrap (A + 1)).toNat - (B).toNat))] (rpQ al (List.drop (0 * 2) ([] : List AVal) ++ cutA (flatP al) 2 (0 + (B).toNat) (0 + (B).toNat + ((IntKind.i64.wrap (A + 1)).toNat - (B).toNat))) (List.drop (0 * 2) (List.drop (0 * 2) ([] : List AVal) ++ cutA (flatP al) 2 (0 + (A).toNat) (0 + (A).toNat + (n - (A).toNat))) ++ cutA (flatP al) 2 (0 + 0) (0 + 0 + ((IntKind.i64.wrap (B + 1)).toNat - 0))) none none none) = some (iA k1, (rpQ al (List.drop (0 * 2) ([] : List AVal) ++ cutA (flatP al) 2 (0 + (B).toNat) (0 + (B).toNat + ((IntKind.i64.wrap (A + 1)).toNat - (B).toNat))) (List.drop (0 * 2) (List.drop (0 * 2) ([] : List AVal) ++ cutA (flatP al) 2 (0 + (A).toNat) (0 + (A).toNat + (n - (A).toNat))) ++ cutA (flatP al) 2 (0 + 0) (0 + 0 + ((IntKind.i64.wrap (B + 1)).toNat - 0))) (some (List.drop (0 * 2) ([] : List AVal) ++ cutA (flatP al) 2 (0 + (B).toNat) (0 + (B).toNat + ((IntKind.i64.wrap (A + 1)).toNat - (B).toNat))).length) none none))) (e19 : callA (cf R3) (evalF (cf R3) 61) 0 23 [.row 28 2 2 0 (0 + (n - (A).toNat) + ((IntKind.i64.wrap (B + 1)).toNat - 0))] (rpQ al (List.drop (0 * 2) ([] : List AVal) ++ cutA (flatP al) 2 (0 + (B).toNat) (0 + (B).toNat + ((IntKind.i64.wrap (A + 1)).toNat - (B).toNat))) (List.drop (0 * 2) (List.drop (0 * 2) ([] : List AVal) ++ cutA (flatP al) 2 (0 + (A).toNat) (0 + (A).toNat + (n - (A).toNat))) ++ cutA (flatP al) 2 (0 + 0) (0 + 0 + ((IntKind.i64.wrap (B + 1)).toNat - 0))) (some (List.drop (0 * 2) ([] : List AVal) ++ cutA (flatP al) 2 (0 + (B).toNat) (0 + (B).toNat + ((IntKind.i64.wrap (A + 1)).toNat - (B).toNat))).length) none none) = some (iA k2, (rpQ al (List.drop (0 * 2) ([] : List AVal) ++ cutA (flatP al) 2 (0 + (B).toNat) (0 + (B).toNat + ((IntKind.i64.wrap (A + 1)).toNat - (B).toNat))) (List.drop (0 * 2) (List.drop (0 * 2) ([] : List AVal) ++ cutA (flatP al) 2 (0 + (A).toNat) (0 + (A).toNat + (n - (A).toNat))) ++ cutA (flatP al) 2 (0 + 0) (0 + 0 + ((IntKind.i64.wrap (B + 1)).toNat - 0))) (some (List.drop (0 * 2) ([] : List AVal) ++ cutA (flatP al) 2 (0 + (B).toNat) (0 + (B).toNat + ((IntKind.i64.wrap (A + 1)).toNat - (B).toNat))).length) none (some (List.drop (0 * 2) (List.drop (0 * 2) ([] : List AVal) ++ cutA (flatP al) 2 (0 + (A).toNat) (0 + (A).toNat + (n - (A).toNat))) ++ cutA (flatP al) 2 (0 + 0) (0 + 0 + ((IntKind.i64.wrap (B + 1)).toNat - 0))).length)))) (e20 : callA (cf R3) (evalF (cf R3) 61) 0 23 [.row 15 0 2 0 n] (rpQ al (List.drop (0 * 2) ([] : List AVal) ++ cutA (flatP al) 2 (0 + (B).toNat) (0 + (B).toNat + ((IntKind.i64.wrap (A + 1)).toNat - (B).toNat))) (List.drop (0 * 2) (List.drop (0 * 2) ([] : List AVal) ++ cutA (flatP al) 2 (0 + (A).toNat) (0 + (A).toNat + (n - (A).toNat))) ++ cutA (flatP al) 2 (0 + 0) (0 + 0 + ((IntKind.i64.wrap (B + 1)).toNat - 0))) (some (List.drop (0 * 2) ([] : List AVal) ++ cutA (flatP al) 2 (0 + (B).toNat) (0 + (B).toNat + ((IntKind.i64.wrap (A + 1)).toNat - (B).toNat))).length) none (some (List.drop (0 * 2) (List.drop (0 * 2) ([] : List AVal) ++ cutA (flatP al) 2 (0 + (A).toNat) (0 + (A).toNat + (n - (A).toNat))) ++ cutA (flatP al) 2 (0 + 0) (0 + 0 + ((IntKind.i64.wrap (B + 1)).toNat - 0))).length)) = some (iA k3, (rpQ al (List.drop (0 * 2) ([] : List AVal) ++ cutA (flatP al) 2 (0 + (B).toNat) (0 + (B).toNat + ((IntKind.i64.wrap (A + 1)).toNat - (B).toNat))) (List.drop (0 * 2) (List.drop (0 * 2) ([] : List AVal) ++ cutA (flatP al) 2 (0 + (A).toNat) (0 + (A).toNat + (n - (A).toNat))) ++ cutA (flatP al) 2 (0 + 0) (0 + 0 + ((IntKind.i64.wrap (B + 1)).toNat - 0))) (some (List.drop (0 * 2) ([] : List AVal) ++ cutA (flatP al) 2 (0 + (B).toNat) (0 + (B).toNat + ((IntKind.i64.wrap (A + 1)).toNat - (B).toNat))).length) (some (flatP al).length) (some (List.drop (0 * 2) (List.drop (0 * 2) ([] : List AVal) ++ cutA (flatP al) 2 (0 + (A).toNat) (0 + (A).toNat + (n - (A).toNat))) ++ cutA (flatP al) 2 (0 + 0) (0 + 0 + ((IntKind.i64.wrap (B + 1)).toNat - 0))).length)))) : CallsP Try.prog 7 [slP ps, iP av, iP bv] (rpAllF ps al av bv A B i0 k1 k2 k3 n) := by
  have key := fun (bs : List Bool) (r : PVal) (ob : List Prop) (h : callP (cf R3) (evalF (cf R3) 61) 61 [(8, 4, Hint.val (Value.int IntKind.i64 A)), (8, 9, Hint.val (Value.int IntKind.i64 B)), (11, 5, Hint.cut), (11, 6, Hint.appX), (12, 3, Hint.cut), (12, 4, Hint.appX), (12, 8, Hint.cut), (12, 9, Hint.appX), (13, 1, Hint.call (iA k1) (rpQ al (List.drop (0 * 2) [] ++ cutA (flatP al) 2 (0 + Int.toNat B) (0 + Int.toNat B + (Int.toNat (IntKind.wrap IntKind.i64 (A + 1)) - Int.toNat B))) (List.drop (0 * 2) (List.drop (0 * 2) [] ++ cutA (flatP al) 2 (0 + Int.toNat A) (0 + Int.toNat A + (n - Int.toNat A))) ++ cutA (flatP al) 2 (0 + 0) (0 + 0 + (Int.toNat (IntKind.wrap IntKind.i64 (B + 1)) - 0))) (some (List.length (List.drop (0 * 2) [] ++ cutA (flatP al) 2 (0 + Int.toNat B) (0 + Int.toNat B + (Int.toNat (IntKind.wrap IntKind.i64 (A + 1)) - Int.toNat B))))) none none)), (13, 3, Hint.call (iA k2) (rpQ al (List.drop (0 * 2) [] ++ cutA (flatP al) 2 (0 + Int.toNat B) (0 + Int.toNat B + (Int.toNat (IntKind.wrap IntKind.i64 (A + 1)) - Int.toNat B))) (List.drop (0 * 2) (List.drop (0 * 2) [] ++ cutA (flatP al) 2 (0 + Int.toNat A) (0 + Int.toNat A + (n - Int.toNat A))) ++ cutA (flatP al) 2 (0 + 0) (0 + 0 + (Int.toNat (IntKind.wrap IntKind.i64 (B + 1)) - 0))) (some (List.length (List.drop (0 * 2) [] ++ cutA (flatP al) 2 (0 + Int.toNat B) (0 + Int.toNat B + (Int.toNat (IntKind.wrap IntKind.i64 (A + 1)) - Int.toNat B))))) none (some (List.length (List.drop (0 * 2) (List.drop (0 * 2) [] ++ cutA (flatP al) 2 (0 + Int.toNat A) (0 + Int.toNat A + (n - Int.toNat A))) ++ cutA (flatP al) 2 (0 + 0) (0 + 0 + (Int.toNat (IntKind.wrap IntKind.i64 (B + 1)) - 0))))))), (13, 6, Hint.call (iA k3) (rpQ al (List.drop (0 * 2) [] ++ cutA (flatP al) 2 (0 + Int.toNat B) (0 + Int.toNat B + (Int.toNat (IntKind.wrap IntKind.i64 (A + 1)) - Int.toNat B))) (List.drop (0 * 2) (List.drop (0 * 2) [] ++ cutA (flatP al) 2 (0 + Int.toNat A) (0 + Int.toNat A + (n - Int.toNat A))) ++ cutA (flatP al) 2 (0 + 0) (0 + 0 + (Int.toNat (IntKind.wrap IntKind.i64 (B + 1)) - 0))) (some (List.length (List.drop (0 * 2) [] ++ cutA (flatP al) 2 (0 + Int.toNat B) (0 + Int.toNat B + (Int.toNat (IntKind.wrap IntKind.i64 (A + 1)) - Int.toNat B))))) (some (List.length (flatP al))) (some (List.length (List.drop (0 * 2) (List.drop (0 * 2) [] ++ cutA (flatP al) 2 (0 + Int.toNat A) (0 + Int.toNat A + (n - Int.toNat A))) ++ cutA (flatP al) 2 (0 + 0) (0 + 0 + (Int.toNat (IntKind.wrap IntKind.i64 (B + 1)) - 0)))))))] 7 [slP ps, iP av, iP bv] bs [(AExit.exit 0, rpE ps av bv i0 n, rpS al)] (none) = .ok (r, ob)) (hp : allOb ob) => callP_ok (cf_ok R3) h hp
  unfold rpAllF
  exact bif_case (P := fun r => CallsP Try.prog 7 [slP ps, iP av, iP bv] r)
    (fun h0 => key [false, false, true, true] (PVal.v (Value.bool true)) _ (by kernel_rfl) (allOb_cons h0 (allOb_cons (by exact e20) (allOb_cons (by exact e19) (allOb_cons (by exact e18) (allOb_cons (by exact e17) (allOb_cons (by exact e16) (allOb_cons (by exact e15) (allOb_cons (by exact e14) (allOb_cons (by exact e13) (allOb_cons (by exact e12) (allOb_cons (by exact e11) (allOb_cons (by exact e10) (allOb_cons (by exact e9) (allOb_cons (by exact e8) (allOb_cons (by exact e7) (allOb_cons (by exact e6) (allOb_cons (by exact e5) (allOb_cons (by exact e4) (allOb_cons (by exact e3) (allOb_cons p2 (allOb_cons (by exact e2) (allOb_cons (by exact e1) (allOb_cons (by exact e0) (allOb_cons p1 (allOb_cons p0 allOb_nil))))))))))))))))))))))))))
    (fun h0 => key [false, false, true, false] (PVal.v (Value.bool false)) _ (by kernel_rfl) (allOb_cons h0 (allOb_cons (by exact e20) (allOb_cons (by exact e19) (allOb_cons (by exact e18) (allOb_cons (by exact e17) (allOb_cons (by exact e16) (allOb_cons (by exact e15) (allOb_cons (by exact e14) (allOb_cons (by exact e13) (allOb_cons (by exact e12) (allOb_cons (by exact e11) (allOb_cons (by exact e10) (allOb_cons (by exact e9) (allOb_cons (by exact e8) (allOb_cons (by exact e7) (allOb_cons (by exact e6) (allOb_cons (by exact e5) (allOb_cons (by exact e4) (allOb_cons (by exact e3) (allOb_cons p2 (allOb_cons (by exact e2) (allOb_cons (by exact e1) (allOb_cons (by exact e0) (allOb_cons p1 (allOb_cons p0 allOb_nil))))))))))))))))))))))))))
def rpShort (ps : List P2) (av : Int) (bv : Int) : PVal :=
  PVal.v (Value.bool true)
theorem rpShort_calls (ps : List P2) (av : Int) (bv : Int) (p0 : decide ((↑(List.length ps) : Int) < 3) = true) : CallsP Try.prog 7 [slP ps, iP av, iP bv] (rpShort ps av bv) := by
  have key := fun (bs : List Bool) (r : PVal) (ob : List Prop) (h : callP (cf R3) (evalF (cf R3) 61) 61 [] 7 [slP ps, iP av, iP bv] bs [] (none) = .ok (r, ob)) (hp : allOb ob) => callP_ok (cf_ok R3) h hp
  unfold rpShort
  exact key [true, true] (PVal.v (Value.bool true)) _ (by kernel_rfl) (allOb_cons lit_t (allOb_cons p0 allOb_nil))
def rpLong (ps : List P2) (av : Int) (bv : Int) : PVal :=
  PVal.v (Value.bool true)
theorem rpLong_calls (ps : List P2) (av : Int) (bv : Int) (p1 : decide ((↑(List.length ps) : Int) > 60) = true) (p0 : decide ((↑(List.length ps) : Int) < 3) = false) : CallsP Try.prog 7 [slP ps, iP av, iP bv] (rpLong ps av bv) := by
  have key := fun (bs : List Bool) (r : PVal) (ob : List Prop) (h : callP (cf R3) (evalF (cf R3) 61) 61 [] 7 [slP ps, iP av, iP bv] bs [] (none) = .ok (r, ob)) (hp : allOb ob) => callP_ok (cf_ok R3) h hp
  unfold rpLong
  exact key [false, true] (PVal.v (Value.bool true)) _ (by kernel_rfl) (allOb_cons p1 (allOb_cons p0 allOb_nil))
end Go.Proofs.Ytmopbegmdegooaa
/- The law RingParts: its loop; rows that are put together. -/
namespace Go.Proofs.Ytmopbegmdegooaa
open Go Vm M
set_option linter.unusedVariables false
set_option linter.unusedSimpArgs false
noncomputable abbrev bodyRp : List AVal → List AObj → Res := evalC (cf R3) (evalF (cf R3) 61) ((lives.lookup 7).getD []) 0 0 61 (loopAt Try.f7 0)
section
variable (ps : List P2) (a b : Int)
theorem rp_first {q : P2} (hq : ps[0]? = some q) : roundC 0 bodyRp (rpT ps a b 0 nilA) [] = some (.normal, rpT ps a b (1 : Nat) (.row 15 0 2 0 1), rpS [rsP1 q]) := by
  have hl := lt_of_get hq
  have h := rpFirst_eq ps a b 0 q ⟨Int.le_refl _, by omega, by omega, flatPP_length ps⟩ (load_x (i := 0) hq) ⟨Int.le_refl _, by omega, by omega, flatPP_length ps⟩ (load_y (i := 0) hq)
  rw [h]
  unfold rpFirst
  rw [decide_eq_true (by omega : (0 : Int) < (ps.length : Int)), IntWalk.i64_in (0 + 1) (by omega)]
  rfl
theorem rp_next {k : Nat} {q : P2} {al : List P2} (hq : ps[k]? = some q) (h60 : ps.length ≤ 60) (ha : al.length = k) :
    roundC 0 bodyRp (rpT ps a b k (.row 15 0 2 0 k)) (rpS al) = some (.normal, rpT ps a b (k + 1 : Nat) (.row 15 0 2 0 (k + 1)), rpS (al ++ [rsP1 q])) := by
  have hl := lt_of_get hq
  have s1 := flatP_snoc al (rsP1 q)
  have h := rpNext_eq ps al a b k k q ⟨by omega, by omega, by omega, flatPP_length ps⟩ (load_x (i := k) hq) ⟨by omega, by omega, by omega, flatPP_length ps⟩ (load_y (i := k) hq) ⟨by rw [flatP_length]; omega, by omega, by omega⟩
  rw [h]
  unfold rpNext
  rw [decide_eq_true (by omega : (k : Int) < (ps.length : Int)), IntWalk.i64_in ((k : Int) + 1) (by omega)]
  unfold rpS
  rw [← s1]
  rfl
theorem rp_end {al : List P2} {n : Nat} : roundC 0 bodyRp (rpT ps a b ps.length (.row 15 0 2 0 n)) (rpS al) = some (.exit 0, rpE ps a b ps.length n, rpS al) := by
  have hpl : Plain (rpS al) := by
    unfold rpS
    simp only [Plain, List.all_append, List.all_cons, List.all_nil, plainO, flatP_plain] <;> rfl
  exact roundP_ok (hs := []) (bs := [false]) (ls := []) (ob := [Plain (rpS al), decide ((ps.length : Int) < (ps.length : Int)) = false]) (by kernel_rfl) (allOb_cons hpl (allOb_cons (decide_eq_false (by omega)) allOb_nil))
theorem rp_loop (h60 : ps.length ≤ 60) : ∀ (d k : Nat), 1 ≤ k → k + d = ps.length → At 0 bodyRp (d + 1) (rpT ps a b k (.row 15 0 2 0 k)) (rpS (rsA ps k)) (some (.exit 0, rpE ps a b ps.length ps.length, rpS (rsA ps ps.length)))
  | 0, k, _, hk => by
    obtain rfl : k = ps.length := by omega
    exact At.leave (rp_end ps a b) (by simp)
  | d + 1, k, h1, hk => by
    have hlt : k < ps.length := by omega
    have hq : ps[k]? = some ps[k] := List.getElem?_eq_getElem hlt
    refine At.step (rp_next ps a b (al := rsA ps k) hq h60 (rsA_length (by omega))) ?_
    have := rp_loop h60 d (k + 1) (by omega) (by omega)
    rw [rsA_succ hq] at this
    exact this
theorem rp_loop0 (h60 : ps.length ≤ 60) (h1 : 1 ≤ ps.length) : iterC 0 bodyRp 61 (rpT ps a b 0 nilA) [] = some (.exit 0, rpE ps a b ps.length ps.length, rpS (rsA ps ps.length)) := by
  have hq : ps[0]? = some ps[0] := List.getElem?_eq_getElem (by omega)
  have hA : At 0 bodyRp (ps.length - 1 + 1 + 1) (rpT ps a b 0 nilA) [] (some (.exit 0, rpE ps a b ps.length ps.length, rpS (rsA ps ps.length))) := by
    refine At.step (rp_first ps a b hq) ?_
    have := rp_loop ps a b h60 (ps.length - 1) 1 (Nat.le_refl _) (by omega)
    have e : rsA ps 1 = [rsP1 ps[0]] := by rw [rsA_succ hq]; rfl
    rw [e] at this
    exact this
  exact At.use (at_more hA (m := 61) (by omega)) (by rfl) (by kernel_rfl)
end
theorem flatP_one : ∀ ps : List P2, Ones (flatP ps)
  | [] => rfl
  | p :: ps => by
    have := flatP_one ps
    unfold Ones at this ⊢
    simp [flatP, AVal.one, Value.oneCell', this]
theorem cutA_flat (al : List P2) (l h : Nat) : cutA (flatP al) 2 l h = flatP ((al.drop l).take (h - l)) := by
  unfold cutA
  rw [flatP_drop]
  generalize al.drop l = ps
  generalize h - l = k
  induction ps generalizing k with
  | nil => simp [flatP]
  | cons p ps ih =>
    cases k with
    | zero => simp [flatP]
    | succ k =>
      rw [show (k + 1) * 2 = k * 2 + 1 + 1 by omega]
      simp only [flatP, List.take_succ_cons]
      rw [ih k]
theorem callA_rowE {c : Cfg} {ev : Ev} {F : FuncId} {S S' : List AObj} {o e len : Nat} {fz : Option Nat} {ps : List P2} {xs : List AVal} {r : PVal} {g : List PVal → Option PVal} (h0 : c.givenS F = none) (hm : c.mode F = 0) (hg : c.givenP F = some g)
    (hx : xs = flatP ps) (hlen : len = ps.length) (h : S[o]? = some (.row 2 e fz xs)) (hS' : S.set o (.row 2 e (some xs.length) xs) = S') (hr : g [slP ps] = some r) : callA c ev 0 F [.row o e 2 0 len] S = some (up r, S') := by
  subst hx hlen hS'
  have ho := (List.getElem?_eq_some_iff.1 h).1
  refine callA_given h0 hm (mark_row (n := 5) (ep := e) (off := 0) (len := ps.length) h) ?_ hg hr
  simp only [mapO]
  have hp : peek (S.set o (.row 2 e (some (flatP ps).length) (flatP ps))) (4 + 2) (.row o e 2 0 ps.length) = some (slP ps) := by
    have hg' : (S.set o (.row 2 e (some (flatP ps).length) (flatP ps)))[o]? = some (.row 2 e (some (flatP ps).length) (flatP ps)) := by rw [List.getElem?_set_self ho]
    simp only [peek, hg']
    rw [if_pos ⟨trivial, trivial, by rw [flatP_length]; omega⟩]
    have e' : cutA (flatP ps) 2 0 (0 + ps.length) = flatP ps := by
      unfold cutA
      rw [Nat.zero_mul, List.drop_zero, List.take_of_length_le (by rw [flatP_length]; omega)]
    rw [e', peek_flat]
    rfl
  rw [show deep = 4 + 2 from rfl, hp]
theorem boundsA_both {n a b : Nat} (h1 : a ≤ b) (h2 : b ≤ n) : boundsA n (some (iA (a : Int))) (some (iA (b : Int))) none = some (a, b, none) := by
  simp [boundsA, numA, iA, mxOk, h1, h2]
theorem boundsA_lo {n a : Nat} (h1 : a ≤ n) : boundsA n (some (iA (a : Int))) none none = some (a, n, none) := by
  simp [boundsA, numA, iA, mxOk, h1]
theorem boundsA_hi {n b : Nat} (h2 : b ≤ n) : boundsA n none (some (iA (b : Int))) none = some (0, b, none) := by
  simp [boundsA, numA, iA, mxOk, h2]
end Go.Proofs.Ytmopbegmdegooaa
/- terrierlaw12.Grid: its loop's rounds, and its call. -/
namespace Go.Proofs.Ytmopbegmdegooaa
open Go Vm M
set_option linter.unusedVariables false
set_option linter.unusedSimpArgs false
def grT (ps : List P2) (x : AVal) (i : Int) : List AVal := [slA ps] ++ jk 2 ++ [x, iA i] ++ jk 15
def grE (ps : List P2) (x : AVal) (i : Int) : List AVal := [slA ps] ++ jk 2 ++ [x, iA i] ++ jk 3 ++ [bA false] ++ jk 11
def grS (gs : List P2) : List AObj := [.free, .row 2 0 none (flatP gs)]
def gr1 (ps : List P2) (i : Int) (q : P2) : AExit × List AVal × List AObj :=
  (bif decide (i < (↑(List.length ps) : Int)) then (AExit.normal, (([AVal.list (List.length ps) (flatPP ps), AVal.junk, AVal.junk, AVal.row 1 0 2 0 1, AVal.v (Value.int IntKind.i64 (IntKind.wrap IntKind.i64 (i + 1)))] ++ jk 15), ([AObj.free, AObj.row 2 0 none [AVal.v (Value.int IntKind.i64 (Prod.fst (nearP (Prod.fst q, Prod.snd q)))), AVal.v (Value.int IntKind.i64 (Prod.snd (nearP (Prod.fst q, Prod.snd q))))]]))) else (AExit.exit 0, (([AVal.list (List.length ps) (flatPP ps), AVal.junk, AVal.junk, AVal.v (Value.slice none 0 0), AVal.v (Value.int IntKind.i64 i), AVal.junk, AVal.junk, AVal.junk, AVal.v (Value.bool false)] ++ jk 11), [])))
theorem gr1_eq (ps : List P2) (i : Int) (q : P2) (e0 : 0 ≤ i ∧ i < (ps.length : Int) ∧ 0 < 2 ∧ (flatPP ps).length = ps.length * 2) (e1 : partA Try.prog 23 (upL ((flatPP ps).drop (i.toNat * 2))) 0 = some (ptA q)) : roundC 0 (evalC (cf N8) (evalF (cf N8) 201) (Option.getD (List.lookup 29 lives) []) 0 0 201 (loopAt Try.f29 0)) (grT ps (AVal.v (Value.slice none 0 0)) i) ([]) = some (gr1 ps i q) := by
  have key := fun (bs : List Bool) (r : AExit × List AVal × List AObj) (ob : List Prop) (h : roundP (cf N8) (evalF (cf N8) 201) (Option.getD (List.lookup 29 lives) []) 0 0 201 [(5, 3, Hint.idx), (5, 4, Hint.load (ptA q))] (loopAt Try.f29 0) (grT ps (AVal.v (Value.slice none 0 0)) i) ([]) bs [] = .ok (r.1, r.2.1, r.2.2, ob)) (hp : allOb ob) => roundP_ok h hp
  unfold gr1
  exact bif_case (P := fun r => roundC 0 (evalC (cf N8) (evalF (cf N8) 201) (Option.getD (List.lookup 29 lives) []) 0 0 201 (loopAt Try.f29 0)) (grT ps (AVal.v (Value.slice none 0 0)) i) ([]) = some r)
    (fun h0 => key [true] ((AExit.normal, (([AVal.list (List.length ps) (flatPP ps), AVal.junk, AVal.junk, AVal.row 1 0 2 0 1, AVal.v (Value.int IntKind.i64 (IntKind.wrap IntKind.i64 (i + 1)))] ++ jk 15), ([AObj.free, AObj.row 2 0 none [AVal.v (Value.int IntKind.i64 (Prod.fst (nearP (Prod.fst q, Prod.snd q)))), AVal.v (Value.int IntKind.i64 (Prod.snd (nearP (Prod.fst q, Prod.snd q))))]])))) _ (by kernel_rfl) (allOb_cons (show Plain ([AObj.row 2 0 none [AVal.v (Value.int IntKind.i64 (Prod.fst (nearP (Prod.fst q, Prod.snd q)))), AVal.v (Value.int IntKind.i64 (Prod.snd (nearP (Prod.fst q, Prod.snd q))))], AObj.row 2 0 none [AVal.v (Value.int IntKind.i64 (Prod.fst (nearP (Prod.fst q, Prod.snd q)))), AVal.v (Value.int IntKind.i64 (Prod.snd (nearP (Prod.fst q, Prod.snd q))))]]) from by simp only [Plain, List.all_append, List.all_cons, List.all_nil, plainO, flatP_plain, Nat.zero_mul, List.drop_zero] <;> rfl) (allOb_cons (by exact e1) (allOb_cons (by exact e0) (allOb_cons h0 allOb_nil)))))
    (fun h0 => key [false] ((AExit.exit 0, (([AVal.list (List.length ps) (flatPP ps), AVal.junk, AVal.junk, AVal.v (Value.slice none 0 0), AVal.v (Value.int IntKind.i64 i), AVal.junk, AVal.junk, AVal.junk, AVal.v (Value.bool false)] ++ jk 11), []))) _ (by kernel_rfl) (allOb_cons (show Plain [] from by simp only [Plain, List.all_append, List.all_cons, List.all_nil, plainO, flatP_plain, Nat.zero_mul, List.drop_zero] <;> rfl) (allOb_cons h0 allOb_nil)))
def gr2 (ps : List P2) (gs : List P2) (i : Int) (n : Nat) (q : P2) : AExit × List AVal × List AObj :=
  (bif decide (i < (↑(List.length ps) : Int)) then (AExit.normal, (([AVal.list (List.length ps) (flatPP ps), AVal.junk, AVal.junk, AVal.row 1 0 2 0 (n + (0 + 1)), AVal.v (Value.int IntKind.i64 (IntKind.wrap IntKind.i64 (i + 1)))] ++ jk 15), ([AObj.free, AObj.row 2 0 none (List.drop (0 * 2) (flatP gs) ++ [iA (Prod.fst (nearP q)), iA (Prod.snd (nearP q))])]))) else (AExit.exit 0, (([AVal.list (List.length ps) (flatPP ps), AVal.junk, AVal.junk, AVal.row 1 0 2 0 n, AVal.v (Value.int IntKind.i64 i), AVal.junk, AVal.junk, AVal.junk, AVal.v (Value.bool false)] ++ jk 11), ([AObj.free, AObj.row 2 0 none (flatP gs)]))))
theorem gr2_eq (ps : List P2) (gs : List P2) (i : Int) (n : Nat) (q : P2) (e0 : 0 ≤ i ∧ i < (ps.length : Int) ∧ 0 < 2 ∧ (flatPP ps).length = ps.length * 2) (e1 : partA Try.prog 23 (upL ((flatPP ps).drop (i.toNat * 2))) 0 = some (ptA q)) (e2 : (0 + n) * 2 = (flatP gs).length ∧ (n + (0 + 1)) * 16 ≤ 140737488355328 ∧ n + (0 + 1) ≤ 9223372036854775807) : roundC 0 (evalC (cf N8) (evalF (cf N8) 201) (Option.getD (List.lookup 29 lives) []) 0 0 201 (loopAt Try.f29 0)) (grT ps (AVal.row 1 0 2 0 n) i) (grS gs) = some (gr2 ps gs i n q) := by
  have key := fun (bs : List Bool) (r : AExit × List AVal × List AObj) (ob : List Prop) (h : roundP (cf N8) (evalF (cf N8) 201) (Option.getD (List.lookup 29 lives) []) 0 0 201 [(5, 3, Hint.idx), (5, 4, Hint.load (ptA q)), (5, 7, Hint.app)] (loopAt Try.f29 0) (grT ps (AVal.row 1 0 2 0 n) i) (grS gs) bs [] = .ok (r.1, r.2.1, r.2.2, ob)) (hp : allOb ob) => roundP_ok h hp
  unfold gr2
  exact bif_case (P := fun r => roundC 0 (evalC (cf N8) (evalF (cf N8) 201) (Option.getD (List.lookup 29 lives) []) 0 0 201 (loopAt Try.f29 0)) (grT ps (AVal.row 1 0 2 0 n) i) (grS gs) = some r)
    (fun h0 => key [true] ((AExit.normal, (([AVal.list (List.length ps) (flatPP ps), AVal.junk, AVal.junk, AVal.row 1 0 2 0 (n + (0 + 1)), AVal.v (Value.int IntKind.i64 (IntKind.wrap IntKind.i64 (i + 1)))] ++ jk 15), ([AObj.free, AObj.row 2 0 none (List.drop (0 * 2) (flatP gs) ++ [iA (Prod.fst (nearP q)), iA (Prod.snd (nearP q))])])))) _ (by kernel_rfl) (allOb_cons (show Plain ([AObj.row 2 0 none [AVal.v (Value.int IntKind.i64 (Prod.fst (nearP (Prod.fst q, Prod.snd q)))), AVal.v (Value.int IntKind.i64 (Prod.snd (nearP (Prod.fst q, Prod.snd q))))], AObj.row 2 1 none (List.drop (0 * 2) (flatP gs) ++ [iA (Prod.fst (nearP q)), iA (Prod.snd (nearP q))])]) from by simp only [Plain, List.all_append, List.all_cons, List.all_nil, plainO, flatP_plain, Nat.zero_mul, List.drop_zero] <;> rfl) (allOb_cons (by exact e2) (allOb_cons (by exact e1) (allOb_cons (by exact e0) (allOb_cons h0 allOb_nil))))))
    (fun h0 => key [false] ((AExit.exit 0, (([AVal.list (List.length ps) (flatPP ps), AVal.junk, AVal.junk, AVal.row 1 0 2 0 n, AVal.v (Value.int IntKind.i64 i), AVal.junk, AVal.junk, AVal.junk, AVal.v (Value.bool false)] ++ jk 11), ([AObj.free, AObj.row 2 0 none (flatP gs)])))) _ (by kernel_rfl) (allOb_cons (show Plain ([AObj.free, AObj.row 2 0 none (flatP gs)]) from by simp only [Plain, List.all_append, List.all_cons, List.all_nil, plainO, flatP_plain, Nat.zero_mul, List.drop_zero] <;> rfl) (allOb_cons h0 allOb_nil)))
end Go.Proofs.Ytmopbegmdegooaa
/- terrierlaw12.Grid: its call; terrierref12.Same: its loop's rounds. -/
namespace Go.Proofs.Ytmopbegmdegooaa
open Go Vm M
set_option linter.unusedVariables false
set_option linter.unusedSimpArgs false
def grAll (ps : List P2) (gs : List P2) (i : Int) (n : Nat) : PVal :=
  PVal.list (List.length gs) (flatPP gs)
theorem grAll_calls (ps : List P2) (gs : List P2) (i : Int) (n : Nat) (e0 : iterC 0 (evalC (cf N8) (evalF (cf N8) 201) ((lives.lookup 29).getD []) 0 0 201 (loopAt Try.f29 0)) 201 (grT ps (.v (.slice none 0 0)) 0) [] = some (.exit 0, grE ps (.row 1 0 2 0 n) i, grS gs)) (e1 : peek (Vm.mark 0 deep (grS gs) (.row 1 0 2 0 n)) deep (.row 1 0 2 0 n) = some (slP gs)) : CallsP Try.prog 29 [slP ps] (grAll ps gs i n) := by
  have key := fun (bs : List Bool) (r : PVal) (ob : List Prop) (h : callP (cf N8) (evalF (cf N8) 201) 201 [] 29 [slP ps] bs [(AExit.exit 0, grE ps (AVal.row 1 0 2 0 n) i, grS gs)] (some (slP gs)) = .ok (r, ob)) (hp : allOb ob) => callP_ok (cf_ok N8) h hp
  unfold grAll
  exact key [] (PVal.list (List.length gs) (flatPP gs)) _ (by kernel_rfl) (allOb_cons (by exact e1) (allOb_cons (by exact e0) allOb_nil))
def grNil : PVal :=
  PVal.v (Value.slice none 0 0)
theorem grNil_calls (e0 : iterC 0 (evalC (cf N8) (evalF (cf N8) 201) ((lives.lookup 29).getD []) 0 0 201 (loopAt Try.f29 0)) 201 (grT [] (.v (.slice none 0 0)) 0) [] = some (.exit 0, grE [] (.v (.slice none 0 0)) 0, [])) : CallsP Try.prog 29 [slP []] grNil := by
  have key := fun (bs : List Bool) (r : PVal) (ob : List Prop) (h : callP (cf N8) (evalF (cf N8) 201) 201 [] 29 [slP []] bs [(AExit.exit 0, grE [] (AVal.v (Value.slice none 0 0)) 0, [])] (none) = .ok (r, ob)) (hp : allOb ob) => callP_ok (cf_ok N8) h hp
  unfold grNil
  exact key [] (PVal.v (Value.slice none 0 0)) _ (by kernel_rfl) (allOb_cons (by exact e0) allOb_nil)
def smT (xs ys : List P2) (i : Int) : List AVal := [slA xs, slA ys] ++ jk 3 ++ [iA i] ++ jk 20
def sm1 (xs : List P2) (ys : List P2) (i : Int) (p : P2) (q : P2) : AExit × List AVal × List AObj :=
  (bif decide (i < (↑(List.length xs) : Int)) then (bif !eqB p q then (AExit.ret, ((jk 4 ++ [AVal.v (Value.bool false)] ++ jk 21), [])) else (AExit.normal, (([AVal.list (List.length xs) (flatPP xs), AVal.list (List.length ys) (flatPP ys), AVal.junk, AVal.junk, AVal.junk, AVal.v (Value.int IntKind.i64 (IntKind.wrap IntKind.i64 (i + 1)))] ++ jk 20), []))) else (AExit.exit 0, (([AVal.list (List.length xs) (flatPP xs), AVal.list (List.length ys) (flatPP ys), AVal.junk, AVal.junk, AVal.junk, AVal.v (Value.int IntKind.i64 i)] ++ jk 8 ++ [AVal.v (Value.bool false)] ++ jk 11), [])))
theorem sm1_eq (xs : List P2) (ys : List P2) (i : Int) (p : P2) (q : P2) (e0 : 0 ≤ i ∧ i < (xs.length : Int) ∧ 0 < 2 ∧ (flatPP xs).length = xs.length * 2) (e1 : partA Try.prog 23 (upL ((flatPP xs).drop (i.toNat * 2))) 0 = some (ptA p)) (e2 : 0 ≤ i ∧ i < (ys.length : Int) ∧ 0 < 2 ∧ (flatPP ys).length = ys.length * 2) (e3 : partA Try.prog 23 (upL ((flatPP ys).drop (i.toNat * 2))) 0 = some (ptA q)) : roundC 0 (evalC (cf N8) (evalF (cf N8) 201) (Option.getD (List.lookup 31 lives) []) 0 0 201 (loopAt Try.f31 0)) (smT xs ys i) ([]) = some (sm1 xs ys i p q) := by
  have key := fun (bs : List Bool) (r : AExit × List AVal × List AObj) (ob : List Prop) (h : roundP (cf N8) (evalF (cf N8) 201) (Option.getD (List.lookup 31 lives) []) 0 0 201 [(6, 2, Hint.idx), (6, 3, Hint.load (ptA p)), (6, 6, Hint.idx), (6, 7, Hint.load (ptA q))] (loopAt Try.f31 0) (smT xs ys i) ([]) bs [] = .ok (r.1, r.2.1, r.2.2, ob)) (hp : allOb ob) => roundP_ok h hp
  unfold sm1
  exact bif_case (P := fun r => roundC 0 (evalC (cf N8) (evalF (cf N8) 201) (Option.getD (List.lookup 31 lives) []) 0 0 201 (loopAt Try.f31 0)) (smT xs ys i) ([]) = some r)
    (fun h0 => bif_case (P := fun r => roundC 0 (evalC (cf N8) (evalF (cf N8) 201) (Option.getD (List.lookup 31 lives) []) 0 0 201 (loopAt Try.f31 0)) (smT xs ys i) ([]) = some r)
     (fun h1 => key [true, true] ((AExit.ret, ((jk 4 ++ [AVal.v (Value.bool false)] ++ jk 21), []))) _ (by kernel_rfl) (allOb_cons (show Plain (List.replicate 9 AObj.free) from by simp only [Plain, List.all_append, List.all_cons, List.all_nil, plainO, flatP_plain, Nat.zero_mul, List.drop_zero] <;> rfl) (allOb_cons h1 (allOb_cons (by exact e3) (allOb_cons (by exact e2) (allOb_cons (by exact e1) (allOb_cons (by exact e0) (allOb_cons h0 allOb_nil))))))))
     (fun h1 => key [true, false] ((AExit.normal, (([AVal.list (List.length xs) (flatPP xs), AVal.list (List.length ys) (flatPP ys), AVal.junk, AVal.junk, AVal.junk, AVal.v (Value.int IntKind.i64 (IntKind.wrap IntKind.i64 (i + 1)))] ++ jk 20), []))) _ (by kernel_rfl) (allOb_cons (show Plain (List.replicate 9 AObj.free) from by simp only [Plain, List.all_append, List.all_cons, List.all_nil, plainO, flatP_plain, Nat.zero_mul, List.drop_zero] <;> rfl) (allOb_cons h1 (allOb_cons (by exact e3) (allOb_cons (by exact e2) (allOb_cons (by exact e1) (allOb_cons (by exact e0) (allOb_cons h0 allOb_nil)))))))))
    (fun h0 => key [false] ((AExit.exit 0, (([AVal.list (List.length xs) (flatPP xs), AVal.list (List.length ys) (flatPP ys), AVal.junk, AVal.junk, AVal.junk, AVal.v (Value.int IntKind.i64 i)] ++ jk 8 ++ [AVal.v (Value.bool false)] ++ jk 11), []))) _ (by kernel_rfl) (allOb_cons (show Plain [] from by simp only [Plain, List.all_append, List.all_cons, List.all_nil, plainO, flatP_plain, Nat.zero_mul, List.drop_zero] <;> rfl) (allOb_cons h0 allOb_nil)))
end Go.Proofs.Ytmopbegmdegooaa
/- terrierlaw12.Grid and terrierref12.Same: what they answer. -/
namespace Go.Proofs.Ytmopbegmdegooaa
open Go Vm M
set_option linter.unusedVariables false
set_option linter.unusedSimpArgs false
/-- A call's answer, said with less. -/
theorem callsP_less {P : Program} {F : FuncId} {ps : List PVal} {r r' : PVal} (h : CallsP P F ps r) (hw : Wk r r') : CallsP P F ps r' :=
  fun ok w vs h1 h2 h3 => (h ok w vs h1 h2 h3).mono fun e w' ⟨v, ok', a, b, c, d, e', f⟩ => ⟨v, ok', a, b, c, d, e', hw _ _ f⟩
theorem load_pt {ps : List P2} {k : Nat} {q : P2} (h : ps[k]? = some q) : partA Try.prog 23 (upL ((flatPP ps).drop ((k : Int).toNat * 2))) 0 = some (ptA q) := by
  have hk := (List.getElem?_eq_some_iff.1 h).1
  have hq := (List.getElem?_eq_some_iff.1 h).2
  rw [Int.toNat_natCast, flatPP_drop, upL_flatPP, List.drop_eq_getElem_cons hk, hq]
  unfold partA
  rw [agg23, sz23]
  simp [flatP, ptA]
noncomputable abbrev bodyGr : List AVal → List AObj → Res := evalC (cf N8) (evalF (cf N8) 201) ((lives.lookup 29).getD []) 0 0 201 (loopAt Try.f29 0)
section
variable (ps : List P2)
theorem gr_first {q : P2} (hq : ps[0]? = some q) : roundC 0 bodyGr (grT ps (.v (.slice none 0 0)) 0) [] = some (.normal, grT ps (.row 1 0 2 0 1) (1 : Nat), grS [nearP q]) := by
  have hl := lt_of_get hq
  have h := gr1_eq ps 0 q ⟨Int.le_refl _, by omega, by omega, flatPP_length ps⟩ (load_pt (k := 0) hq)
  rw [h]
  unfold gr1
  rw [decide_eq_true (by omega : (0 : Int) < (ps.length : Int)), IntWalk.i64_in (0 + 1) (by omega)]
  rfl
theorem gr_next {k : Nat} {q : P2} {gs : List P2} (hq : ps[k]? = some q) (h200 : ps.length ≤ 200) (ha : gs.length = k) :
    roundC 0 bodyGr (grT ps (.row 1 0 2 0 k) k) (grS gs) = some (.normal, grT ps (.row 1 0 2 0 (k + 1)) (k + 1 : Nat), grS (gs ++ [nearP q])) := by
  have hl := lt_of_get hq
  have s1 := flatP_snoc gs (nearP q)
  have h := gr2_eq ps gs k k q ⟨by omega, by omega, by omega, flatPP_length ps⟩ (load_pt (k := k) hq) ⟨by rw [flatP_length]; omega, by omega, by omega⟩
  rw [h]
  unfold gr2
  rw [decide_eq_true (by omega : (k : Int) < (ps.length : Int)), IntWalk.i64_in ((k : Int) + 1) (by omega)]
  unfold grS
  rw [← s1]
  rfl
theorem gr_end {gs : List P2} {n : Nat} : roundC 0 bodyGr (grT ps (.row 1 0 2 0 n) ps.length) (grS gs) = some (.exit 0, grE ps (.row 1 0 2 0 n) ps.length, grS gs) := by
  have hpl : Plain (grS gs) := by
    unfold grS
    simp only [Plain, List.all_append, List.all_cons, List.all_nil, plainO, flatP_plain] <;> rfl
  exact roundP_ok (hs := []) (bs := [false]) (ls := []) (ob := [Plain (grS gs), decide ((ps.length : Int) < (ps.length : Int)) = false]) (by kernel_rfl) (allOb_cons hpl (allOb_cons (decide_eq_false (by omega)) allOb_nil))
theorem gr_loop (h200 : ps.length ≤ 200) : ∀ (d k : Nat), 1 ≤ k → k + d = ps.length → At 0 bodyGr (d + 1) (grT ps (.row 1 0 2 0 k) k) (grS ((ps.take k).map nearP)) (some (.exit 0, grE ps (.row 1 0 2 0 ps.length) ps.length, grS (ps.map nearP)))
  | 0, k, _, hk => by
    obtain rfl : k = ps.length := by omega
    rw [List.take_length]
    exact At.leave (gr_end ps) (by simp)
  | d + 1, k, h1, hk => by
    have hlt : k < ps.length := by omega
    have hq : ps[k]? = some ps[k] := List.getElem?_eq_getElem hlt
    refine At.step (gr_next ps (gs := (ps.take k).map nearP) hq h200 (by simp; omega)) ?_
    have := gr_loop h200 d (k + 1) (by omega) (by omega)
    have e : (ps.take (k + 1)).map nearP = (ps.take k).map nearP ++ [nearP ps[k]] := by rw [List.take_add_one, hq, List.map_append]; rfl
    rw [e] at this
    exact this
theorem grid_calls (h200 : ps.length ≤ 200) : CallsP Try.prog 29 [slP ps] (slP (ps.map nearP)) := by
  by_cases h1 : 1 ≤ ps.length
  · have hq : ps[0]? = some ps[0] := List.getElem?_eq_getElem (by omega)
    have hA : At 0 bodyGr (ps.length - 1 + 1 + 1) (grT ps (.v (.slice none 0 0)) 0) [] (some (.exit 0, grE ps (.row 1 0 2 0 ps.length) ps.length, grS (ps.map nearP))) := by
      refine At.step (gr_first ps hq) ?_
      have := gr_loop ps h200 (ps.length - 1) 1 (Nat.le_refl _) (by omega)
      have e : ps.take 1 = [ps[0]] := by rw [List.take_add_one, hq]; rfl
      rw [e] at this
      exact this
    refine grAll_calls ps (ps.map nearP) ps.length ps.length (At.use (at_more hA (m := 201) (by omega)) (by rfl) (by kernel_rfl)) ?_
    have hS : (grS (ps.map nearP))[1]? = some (.row 2 0 none (flatP (ps.map nearP))) := rfl
    rw [show deep = 5 + 1 from rfl, mark_row (n := 5) hS]
    have := peek_row (S := (grS (ps.map nearP)).set 1 (.row 2 0 (some (flatP (ps.map nearP)).length) (flatP (ps.map nearP)))) (o := 1) (n := 4) (ps := ps.map nearP) rfl
    rw [List.length_map] at this
    exact this
  · obtain rfl : ps = [] := List.eq_nil_of_length_eq_zero (by omega)
    exact callsP_less (grNil_calls (by kernel_rfl)) (unSl_wk rfl)
end
end Go.Proofs.Ytmopbegmdegooaa
/- terrierref12.Same: its paths. -/
namespace Go.Proofs.Ytmopbegmdegooaa
open Go Vm M
set_option linter.unusedVariables false
set_option linter.unusedSimpArgs false
def smR : List AVal := jk 4 ++ [bA false] ++ jk 21
def smE (xs ys : List P2) (i : Int) : List AVal := [slA xs, slA ys] ++ jk 3 ++ [iA i] ++ jk 8 ++ [bA false] ++ jk 11
def smNe (xs : List P2) (ys : List P2) : PVal :=
  PVal.v (Value.bool false)
theorem smNe_calls (xs : List P2) (ys : List P2) (p0 : !(↑(List.length xs) : Int) == (↑(List.length ys) : Int) = true) : CallsP Try.prog 31 [slP xs, slP ys] (smNe xs ys) := by
  have key := fun (bs : List Bool) (r : PVal) (ob : List Prop) (h : callP (cf N8) (evalF (cf N8) 201) 201 [] 31 [slP xs, slP ys] bs [] (none) = .ok (r, ob)) (hp : allOb ob) => callP_ok (cf_ok N8) h hp
  unfold smNe
  exact key [true] (PVal.v (Value.bool false)) _ (by kernel_rfl) (allOb_cons p0 allOb_nil)
def smRt (xs : List P2) (ys : List P2) : PVal :=
  PVal.v (Value.bool false)
theorem smRt_calls (xs : List P2) (ys : List P2) (p0 : !(↑(List.length xs) : Int) == (↑(List.length ys) : Int) = false) (e0 : iterC 0 (evalC (cf N8) (evalF (cf N8) 201) ((lives.lookup 31).getD []) 0 0 201 (loopAt Try.f31 0)) 201 (smT xs ys 0) [] = some (.ret, smR, [])) : CallsP Try.prog 31 [slP xs, slP ys] (smRt xs ys) := by
  have key := fun (bs : List Bool) (r : PVal) (ob : List Prop) (h : callP (cf N8) (evalF (cf N8) 201) 201 [] 31 [slP xs, slP ys] bs [(AExit.ret, smR, [])] (none) = .ok (r, ob)) (hp : allOb ob) => callP_ok (cf_ok N8) h hp
  unfold smRt
  exact key [false] (PVal.v (Value.bool false)) _ (by kernel_rfl) (allOb_cons (by exact e0) (allOb_cons p0 allOb_nil))
def smEx (xs : List P2) (ys : List P2) (i : Int) : PVal :=
  PVal.v (Value.bool true)
theorem smEx_calls (xs : List P2) (ys : List P2) (i : Int) (p0 : !(↑(List.length xs) : Int) == (↑(List.length ys) : Int) = false) (e0 : iterC 0 (evalC (cf N8) (evalF (cf N8) 201) ((lives.lookup 31).getD []) 0 0 201 (loopAt Try.f31 0)) 201 (smT xs ys 0) [] = some (.exit 0, smE xs ys i, [])) : CallsP Try.prog 31 [slP xs, slP ys] (smEx xs ys i) := by
  have key := fun (bs : List Bool) (r : PVal) (ob : List Prop) (h : callP (cf N8) (evalF (cf N8) 201) 201 [] 31 [slP xs, slP ys] bs [(AExit.exit 0, smE xs ys i, [])] (none) = .ok (r, ob)) (hp : allOb ob) => callP_ok (cf_ok N8) h hp
  unfold smEx
  exact key [false] (PVal.v (Value.bool true)) _ (by kernel_rfl) (allOb_cons (by exact e0) (allOb_cons p0 allOb_nil))
end Go.Proofs.Ytmopbegmdegooaa
/- terrierref12.Same: whether two slices are the same. -/
namespace Go.Proofs.Ytmopbegmdegooaa
open Go Vm M
set_option linter.unusedVariables false
set_option linter.unusedSimpArgs false
noncomputable abbrev bodySm : List AVal → List AObj → Res := evalC (cf N8) (evalF (cf N8) 201) ((lives.lookup 31).getD []) 0 0 201 (loopAt Try.f31 0)
theorem sm_loop (xs ys : List P2) (hl : xs.length = ys.length) (h200 : xs.length ≤ 200) : ∀ (d k : Nat), k + d = xs.length →
    (At 0 bodySm (d + 1) (smT xs ys k) [] (some (.ret, smR, [])) ∧ xs.drop k ≠ ys.drop k) ∨ (At 0 bodySm (d + 1) (smT xs ys k) [] (some (.exit 0, smE xs ys xs.length, [])) ∧ xs.drop k = ys.drop k)
  | 0, k, hk => by
    obtain rfl : k = xs.length := by omega
    refine .inr ⟨At.leave (x := .exit 0) ?_ (by simp), by rw [List.drop_length, hl, List.drop_length]⟩
    exact roundP_ok (hs := []) (bs := [false]) (ls := []) (ob := [Plain [], decide ((xs.length : Int) < (xs.length : Int)) = false]) (by kernel_rfl) (allOb_cons (by rfl) (allOb_cons (decide_eq_false (by omega)) allOb_nil))
  | d + 1, k, hk => by
    have hx : k < xs.length := by omega
    have hy : k < ys.length := by omega
    have h := sm1_eq xs ys k xs[k] ys[k] ⟨by omega, by omega, by omega, flatPP_length xs⟩ (load_pt (List.getElem?_eq_getElem hx)) ⟨by omega, by omega, by omega, flatPP_length ys⟩ (load_pt (List.getElem?_eq_getElem hy))
    have dx : xs.drop k = xs[k] :: xs.drop (k + 1) := List.drop_eq_getElem_cons hx
    have dy : ys.drop k = ys[k] :: ys.drop (k + 1) := List.drop_eq_getElem_cons hy
    unfold sm1 at h
    rw [decide_eq_true (by omega : (k : Int) < (xs.length : Int))] at h
    cases he : eqB xs[k] ys[k] with
    | false =>
      rw [he] at h
      refine .inl ⟨At.leave (x := .ret) h (by simp), fun hc => ?_⟩
      rw [dx, dy, List.cons.injEq] at hc
      rw [hc.1] at he
      have := eqB_iff.2 (rfl : ys[k] = ys[k])
      rw [he] at this
      cases this
    | true =>
      rw [he, IntWalk.i64_in ((k : Int) + 1) (by omega)] at h
      have h' : roundC 0 bodySm (smT xs ys k) [] = some (.normal, smT xs ys (k + 1 : Nat), []) := h
      have e := eqB_iff.1 he
      rcases sm_loop xs ys hl h200 d (k + 1) (by omega) with ⟨h1, h2⟩ | ⟨h1, h2⟩
      · exact .inl ⟨At.step h' h1, fun hc => h2 (by rw [dx, dy, List.cons.injEq] at hc; exact hc.2)⟩
      · exact .inr ⟨At.step h' h1, by rw [dx, dy, e, h2]⟩
theorem same_calls (xs ys : List P2) (h200 : xs.length ≤ 200) : CallsP Try.prog 31 [slP xs, slP ys] (bP (decide (xs = ys))) := by
  by_cases hl : xs.length = ys.length
  · have p0 : (!((xs.length : Int) == (ys.length : Int))) = false := by simp [hl]
    rcases sm_loop xs ys hl h200 xs.length 0 (by omega) with ⟨h1, h2⟩ | ⟨h1, h2⟩
    · rw [decide_eq_false (p := xs = ys) (by simpa using h2)]
      exact smRt_calls xs ys p0 (At.use (at_more h1 (m := 201) (by omega)) (by rfl) (by kernel_rfl))
    · rw [decide_eq_true (p := xs = ys) (by simpa using h2)]
      exact smEx_calls xs ys _ p0 (At.use (at_more h1 (m := 201) (by omega)) (by rfl) (by kernel_rfl))
  · rw [decide_eq_false (p := xs = ys) (fun h => hl (by rw [h]))]
    have hl' : (xs.length : Int) ≠ (ys.length : Int) := by omega
    exact smNe_calls xs ys (by simp [hl'])
end Go.Proofs.Ytmopbegmdegooaa
/- ring.Turned: its parts, called among the caller's objects. -/
namespace Go.Proofs.Ytmopbegmdegooaa
open Go Vm M
set_option linter.unusedVariables false
set_option linter.unusedSimpArgs false
/-- slices.Clone, Clip, Reverse are called by reference. -/
def modeT : FuncId → Nat := fun f => bif Nat.beq f 60 || Nat.beq f 59 || Nat.beq f 61 then 2 else 0
noncomputable def cfT (L : Lib Try.prog) : Cfg := cfgOf lives modeT L
theorem cfT_ok (L : Lib Try.prog) : CfgOk (cfT L) := cfgOf_ok lives modeT L
def tuClone (q : P2) (qs : List P2) : AVal × List AObj :=
  (AVal.row 0 1 2 0 (0 + List.length (q :: qs)), ([AObj.row 2 1 none (AVal.v (Value.int IntKind.i64 (Prod.fst q)) :: AVal.v (Value.int IntKind.i64 (Prod.snd q)) :: upL (flatPP qs))]))
theorem tuClone_eq (q : P2) (qs : List P2) (e0 : (0 + 0) * 2 = ([] : List AVal).length ∧ (0 + (q :: qs).length) * 16 ≤ 140737488355328 ∧ 0 + (q :: qs).length ≤ 9223372036854775807) (e1 : Ones (upL (flatPP (q :: qs)))) (e2 : 0 < (q :: qs).length) (e3 : (flatPP (q :: qs)).length = (q :: qs).length * 2) : evalF (cfT N8) (201 + 1) (0) 60 ([slA (q :: qs)]) ([]) = some (tuClone q qs) := by
  have key := fun (bs : List Bool) (r : AVal × List AObj) (ob : List Prop) (h : funP (cfT N8) (evalF (cfT N8) 201) 201 [(3, 2, Hint.appX)] 60 (0) ([slA (q :: qs)]) ([]) bs [] = .ok (r.1, r.2, ob)) (hp : allOb ob) => funP_ok h hp
  unfold tuClone
  exact key [false] ((AVal.row 0 1 2 0 (0 + List.length (q :: qs)), ([AObj.row 2 1 none (AVal.v (Value.int IntKind.i64 (Prod.fst q)) :: AVal.v (Value.int IntKind.i64 (Prod.snd q)) :: upL (flatPP qs))]))) _ (by kernel_rfl) (allOb_cons (by exact e3) (allOb_cons (by exact e2) (allOb_cons (by exact e1) (allOb_cons (by exact e0) (allOb_cons lit_f allOb_nil)))))
def tuClip (e : Nat) (n : Nat) (xs : List AVal) : AVal × List AObj :=
  (AVal.row 0 e 2 0 (Int.toNat (↑n : Int) - 0), ([AObj.row 2 e none xs]))
theorem tuClip_eq (e : Nat) (n : Nat) (xs : List AVal) (e0 : ∃ m, boundsA n none (some (iA (n : Int))) (some (iA (n : Int))) = some (0, ((n : Int)).toNat, some m) ∧ m ≠ 0) : evalF (cfT N8) (201 + 1) (0) 59 ([AVal.row 0 e 2 0 n]) ([AObj.row 2 e none xs]) = some (tuClip e n xs) := by
  have key := fun (bs : List Bool) (r : AVal × List AObj) (ob : List Prop) (h : funP (cfT N8) (evalF (cfT N8) 201) 201 [(1, 5, Hint.cut)] 59 (0) ([AVal.row 0 e 2 0 n]) ([AObj.row 2 e none xs]) bs [] = .ok (r.1, r.2, ob)) (hp : allOb ob) => funP_ok h hp
  unfold tuClip
  exact key [] ((AVal.row 0 e 2 0 (Int.toNat (↑n : Int) - 0), ([AObj.row 2 e none xs]))) _ (by kernel_rfl) (allOb_cons (by exact e0) allOb_nil)
def tuT (m : Nat) (i j : Int) : List AVal := [.row 0 1 2 1 m, .junk, iA i, iA j] ++ jk 24
def tuRev (m : Nat) (i : Int) (j : Int) (l : List P2) (l1 : List P2) (l2 : List P2) (p : P2) (q : P2) : AExit × List AVal × List AObj :=
  (bif decide (i < j) then (AExit.normal, (([AVal.row 0 1 2 1 m, AVal.junk, AVal.v (Value.int IntKind.i64 (IntKind.wrap IntKind.i64 (i + 1))), AVal.v (Value.int IntKind.i64 (IntKind.wrap IntKind.i64 (j - 1)))] ++ jk 24), ([AObj.row 2 1 none (flatP l2)]))) else (AExit.exit 0, (([AVal.row 0 1 2 1 m, AVal.junk, AVal.v (Value.int IntKind.i64 i), AVal.v (Value.int IntKind.i64 j)] ++ jk 5 ++ [AVal.v (Value.bool false)] ++ jk 18), ([AObj.row 2 1 none (flatP l)]))))
theorem tuRev_eq (m : Nat) (i : Int) (j : Int) (l : List P2) (l1 : List P2) (l2 : List P2) (p : P2) (q : P2) (e0 : 0 ≤ j ∧ j < (m : Int)) (e1 : partA Try.prog 23 (flatP l) ((1 + j.toNat) * 2) = some (ptA p)) (e2 : 0 ≤ i ∧ i < (m : Int)) (e3 : partA Try.prog 23 (flatP l) ((1 + i.toNat) * 2) = some (ptA q)) (e4 : 0 ≤ i ∧ i < (m : Int)) (e5 : putA (flatP l) ((1 + i.toNat) * 2) (cellsP p) = some (flatP l1)) (e6 : 0 ≤ j ∧ j < (m : Int)) (e7 : putA (flatP l1) ((1 + j.toNat) * 2) (cellsP q) = some (flatP l2)) : roundC 1 (evalC (cfT N8) (evalF (cfT N8) 201) (Option.getD (List.lookup 61 lives) []) 0 1 201 (loopAt Try.f61 0)) (tuT m i j) ([AObj.row 2 1 none (flatP l)]) = some (tuRev m i j l l1 l2 p q) := by
  have key := fun (bs : List Bool) (r : AExit × List AVal × List AObj) (ob : List Prop) (h : roundP (cfT N8) (evalF (cfT N8) 201) (Option.getD (List.lookup 61 lives) []) 0 1 201 [(3, 6, Hint.idx), (3, 7, Hint.load (ptA p)), (3, 10, Hint.idx), (3, 11, Hint.load (ptA q)), (3, 12, Hint.idx), (3, 13, Hint.store (flatP l1)), (3, 14, Hint.idx), (3, 15, Hint.store (flatP l2))] (loopAt Try.f61 0) (tuT m i j) ([AObj.row 2 1 none (flatP l)]) bs [] = .ok (r.1, r.2.1, r.2.2, ob)) (hp : allOb ob) => roundP_ok h hp
  unfold tuRev
  exact bif_case (P := fun r => roundC 1 (evalC (cfT N8) (evalF (cfT N8) 201) (Option.getD (List.lookup 61 lives) []) 0 1 201 (loopAt Try.f61 0)) (tuT m i j) ([AObj.row 2 1 none (flatP l)]) = some r)
    (fun h0 => key [true] ((AExit.normal, (([AVal.row 0 1 2 1 m, AVal.junk, AVal.v (Value.int IntKind.i64 (IntKind.wrap IntKind.i64 (i + 1))), AVal.v (Value.int IntKind.i64 (IntKind.wrap IntKind.i64 (j - 1)))] ++ jk 24), ([AObj.row 2 1 none (flatP l2)])))) _ (by kernel_rfl) (allOb_cons (show Plain ([AObj.row 2 1 none (flatP l2)] ++ List.replicate 16 AObj.free) from by simp only [Plain, List.all_append, List.all_cons, List.all_nil, plainO, flatP_plain, Nat.zero_mul, List.drop_zero] <;> rfl) (allOb_cons (by exact e7) (allOb_cons (by exact e6) (allOb_cons (by exact e5) (allOb_cons (by exact e4) (allOb_cons (by exact e3) (allOb_cons (by exact e2) (allOb_cons (by exact e1) (allOb_cons (by exact e0) (allOb_cons h0 allOb_nil)))))))))))
    (fun h0 => key [false] ((AExit.exit 0, (([AVal.row 0 1 2 1 m, AVal.junk, AVal.v (Value.int IntKind.i64 i), AVal.v (Value.int IntKind.i64 j)] ++ jk 5 ++ [AVal.v (Value.bool false)] ++ jk 18), ([AObj.row 2 1 none (flatP l)])))) _ (by kernel_rfl) (allOb_cons (show Plain ([AObj.row 2 1 none (flatP l)]) from by simp only [Plain, List.all_append, List.all_cons, List.all_nil, plainO, flatP_plain, Nat.zero_mul, List.drop_zero] <;> rfl) (allOb_cons h0 allOb_nil)))
def tuE (m : Nat) (i j : Int) : List AVal := [.row 0 1 2 1 m, .junk, iA i, iA j] ++ jk 5 ++ [bA false] ++ jk 18
def tuRvAll (m : Nat) (i : Int) (j : Int) (l : List P2) (l1 : List P2) : AVal × List AObj :=
  (AVal.tup [], ([AObj.row 2 1 none (flatP l1)]))
theorem tuRvAll_eq (m : Nat) (i : Int) (j : Int) (l : List P2) (l1 : List P2) (e0 : iterC 1 (evalC (cfT N8) (evalF (cfT N8) 201) ((lives.lookup 61).getD []) 0 1 201 (loopAt Try.f61 0)) 201 (tuT m 0 (IntKind.i64.wrap ((m : Int) - 1))) [.row 2 1 none (flatP l)] = some (.exit 0, tuE m i j, [.row 2 1 none (flatP l1)])) : evalF (cfT N8) (201 + 1) (0) 61 ([AVal.row 0 1 2 1 m]) ([AObj.row 2 1 none (flatP l)]) = some (tuRvAll m i j l l1) := by
  have key := fun (bs : List Bool) (r : AVal × List AObj) (ob : List Prop) (h : funP (cfT N8) (evalF (cfT N8) 201) 201 [] 61 (0) ([AVal.row 0 1 2 1 m]) ([AObj.row 2 1 none (flatP l)]) bs [(AExit.exit 0, tuE m i j, [AObj.row 2 1 none (flatP l1)])] = .ok (r.1, r.2, ob)) (hp : allOb ob) => funP_ok h hp
  unfold tuRvAll
  exact key [] ((AVal.tup [], ([AObj.row 2 1 none (flatP l1)]))) _ (by kernel_rfl) (allOb_cons (by exact e0) allOb_nil)
def tuAll (ps : List P2) (l : List P2) (l1 : List P2) (n : Nat) : PVal :=
  PVal.list (List.length l1) (flatPP l1)
theorem tuAll_calls (ps : List P2) (l : List P2) (l1 : List P2) (n : Nat) (p0 : decide ((↑n : Int) > 0) = true) (e0 : callA (cfT N8) (evalF (cfT N8) 202) 0 60 [slA ps] [] = some (.row 0 1 2 0 n, [.row 2 1 none (flatP l)])) (e1 : callA (cfT N8) (evalF (cfT N8) 202) 0 59 [.row 0 1 2 0 n] [.row 2 1 none (flatP l)] = some (.row 0 1 2 0 n, [.row 2 1 none (flatP l)])) (e2 : boundsA n (some (iA 1)) none none = some (1, n, none)) (e3 : callA (cfT N8) (evalF (cfT N8) 202) 0 61 [.row 0 1 2 (0 + 1) (n - 1)] [.row 2 1 none (flatP l)] = some (.tup [], [.row 2 1 none (flatP l1)])) (e4 : peek (Vm.mark 0 deep [.row 2 1 none (flatP l1)] (.row 0 1 2 0 n)) deep (.row 0 1 2 0 n) = some (slP l1)) : CallsP Try.prog 30 [slP ps] (tuAll ps l l1 n) := by
  have key := fun (bs : List Bool) (r : PVal) (ob : List Prop) (h : callP (cfT N8) (evalF (cfT N8) 202) 202 [(1, 1, Hint.call (AVal.row 0 1 2 0 n) [AObj.row 2 1 none (flatP l)]), (1, 2, Hint.call (AVal.row 0 1 2 0 n) [AObj.row 2 1 none (flatP l)]), (3, 1, Hint.cut), (3, 2, Hint.call (AVal.tup []) [AObj.row 2 1 none (flatP l1)])] 30 [slP ps] bs [] (some (slP l1)) = .ok (r, ob)) (hp : allOb ob) => callP_ok (cfT_ok N8) h hp
  unfold tuAll
  exact key [true] (PVal.list (List.length l1) (flatPP l1)) _ (by kernel_rfl) (allOb_cons (by exact e4) (allOb_cons (by exact e3) (allOb_cons (by exact e2) (allOb_cons p0 (allOb_cons (by exact e1) (allOb_cons (by exact e0) allOb_nil))))))
end Go.Proofs.Ytmopbegmdegooaa
/- slices.Reverse behind a first point: its loop. -/
namespace Go.Proofs.Ytmopbegmdegooaa
open Go Vm M
set_option linter.unusedVariables false
set_option linter.unusedSimpArgs false
theorem flatP_set : ∀ (l : List P2) (j : Nat) (p : P2), j < l.length → (flatP l).take (j * 2) ++ cellsP p ++ (flatP l).drop (j * 2 + 2) = flatP (l.set j p)
  | [], j, p, h => by simp at h
  | q :: l, 0, p, h => by simp [flatP, cellsP]
  | q :: l, j + 1, p, h => by
    have := flatP_set l j p (by simpa using h)
    rw [show (j + 1) * 2 = j * 2 + 1 + 1 by omega, show j * 2 + 1 + 1 + 2 = (j * 2 + 2) + 1 + 1 by omega]
    simp only [flatP, List.take_succ_cons, List.drop_succ_cons, List.set_cons_succ, List.cons_append]
    rw [← this]
theorem putA_flat {l : List P2} {j : Nat} {p : P2} (h : j < l.length) : putA (flatP l) (j * 2) (cellsP p) = some (flatP (l.set j p)) := by
  unfold putA
  rw [if_pos (by simp [flatP_length, cellsP, AVal.one, Value.oneCell']; omega)]
  congr 1
  exact flatP_set l j p h
theorem set_mid (x y : P2) (ys : List P2) : ∀ xs : List P2, (xs ++ x :: ys).set xs.length y = xs ++ y :: ys
  | [] => rfl
  | a :: xs => by simp [set_mid x y ys xs]
noncomputable abbrev bodyTu : List AVal → List AObj → Res := evalC (cfT N8) (evalF (cfT N8) 201) ((lives.lookup 61).getD []) 0 1 201 (loopAt Try.f61 0)
theorem tu_round (p0 x y : P2) (A M B : List P2) (m : Nat) (hm : m = A.length + (M.length + 2) + B.length) (hAB : A.length = B.length) (h200 : m ≤ 200) :
    roundC 1 bodyTu (tuT m A.length ((m : Int) - 1 - A.length)) [.row 2 1 none (flatP (p0 :: (A ++ (x :: M ++ [y]) ++ B)))] = some (.normal, tuT m ((A ++ [y]).length : Nat) ((m : Int) - 1 - ((A ++ [y]).length : Nat)), [.row 2 1 none (flatP (p0 :: ((A ++ [y]) ++ M ++ (x :: B))))]) := by
  have l0 : p0 :: (A ++ (x :: M ++ [y]) ++ B) = (p0 :: A) ++ x :: (M ++ y :: B) := by simp
  have l1 : (p0 :: A) ++ y :: (M ++ y :: B) = (p0 :: A ++ y :: M) ++ y :: B := by simp
  have l2 : (p0 :: A ++ y :: M) ++ x :: B = p0 :: ((A ++ [y]) ++ M ++ (x :: B)) := by simp
  have l0' : p0 :: (A ++ (x :: M ++ [y]) ++ B) = (p0 :: A ++ x :: M) ++ y :: B := by simp
  have j1 : ((m : Int) - 1 - A.length).toNat = A.length + M.length + 1 := by omega
  have i1 : ((A.length : Nat) : Int).toNat = A.length := by omega
  have gy : (p0 :: (A ++ (x :: M ++ [y]) ++ B))[1 + (A.length + M.length + 1)]? = some y := by
    rw [l0', show 1 + (A.length + M.length + 1) = (p0 :: A ++ x :: M).length by simp; omega]
    simp
  have gx : (p0 :: (A ++ (x :: M ++ [y]) ++ B))[1 + A.length]? = some x := by
    rw [l0, show 1 + A.length = (p0 :: A).length by simp; omega]
    simp
  have s1 : (p0 :: (A ++ (x :: M ++ [y]) ++ B)).set (1 + A.length) y = (p0 :: A ++ y :: M) ++ y :: B := by
    rw [l0, show 1 + A.length = (p0 :: A).length by simp; omega, set_mid, l1]
  have s2 : ((p0 :: A ++ y :: M) ++ y :: B).set (1 + (A.length + M.length + 1)) x = p0 :: ((A ++ [y]) ++ M ++ (x :: B)) := by
    rw [show 1 + (A.length + M.length + 1) = (p0 :: A ++ y :: M).length by simp; omega, set_mid, l2]
  have h := tuRev_eq m A.length ((m : Int) - 1 - A.length) (p0 :: (A ++ (x :: M ++ [y]) ++ B)) ((p0 :: A ++ y :: M) ++ y :: B) (p0 :: ((A ++ [y]) ++ M ++ (x :: B))) y x ⟨by omega, by omega⟩
    (by rw [j1]; exact flatP_part gy agg23 sz23) ⟨by omega, by omega⟩ (by rw [i1]; exact flatP_part gx agg23 sz23) ⟨by omega, by omega⟩
    (by rw [i1, putA_flat (by simp; omega), s1]) ⟨by omega, by omega⟩ (by rw [j1, putA_flat (by simp; omega), s2])
  rw [h]
  unfold tuRev
  rw [decide_eq_true (by omega : (A.length : Int) < (m : Int) - 1 - A.length), IntWalk.i64_in ((A.length : Int) + 1) (by omega), IntWalk.i64_in ((m : Int) - 1 - A.length - 1) (by omega)]
  rw [show (A ++ [y]).length = A.length + 1 by simp, show ((A.length + 1 : Nat) : Int) = (A.length : Int) + 1 by omega, show (m : Int) - 1 - ((A.length : Int) + 1) = (m : Int) - 1 - A.length - 1 by omega]
  rfl
theorem tu_end (l : List P2) (m : Nat) (i j : Int) (h : ¬ i < j) : roundC 1 bodyTu (tuT m i j) [.row 2 1 none (flatP l)] = some (.exit 0, tuE m i j, [.row 2 1 none (flatP l)]) := by
  have hpl : Plain [.row 2 1 none (flatP l)] := by
    simp only [Plain, List.all_append, List.all_cons, List.all_nil, plainO, flatP_plain] <;> rfl
  exact roundP_ok (hs := []) (bs := [false]) (ls := []) (ob := [Plain [.row 2 1 none (flatP l)], decide (i < j) = false]) (by kernel_rfl) (allOb_cons hpl (allOb_cons (decide_eq_false h) allOb_nil))
theorem tu_loop (p0 : P2) (m : Nat) (h200 : m ≤ 200) : ∀ (d : Nat) (A M B : List P2), M.length ≤ 2 * d + 1 → m = A.length + M.length + B.length → A.length = B.length →
    ∃ i j, At 1 bodyTu (d + 1) (tuT m A.length ((m : Int) - 1 - A.length)) [.row 2 1 none (flatP (p0 :: (A ++ M ++ B)))] (some (.exit 0, tuE m i j, [.row 2 1 none (flatP (p0 :: (A ++ M.reverse ++ B)))])) := by
  intro d
  induction d with
  | zero =>
    intro A M B hM hm hAB
    have e : M.reverse = M := by
      match M, hM with
      | [], _ => rfl
      | [x], _ => rfl
    rw [e]
    exact ⟨_, _, At.leave (tu_end _ m _ _ (by omega)) (by simp)⟩
  | succ d ih =>
    intro A M B hM hm hAB
    match M, hM, hm with
    | [], _, hm =>
      simp only [List.length_nil] at hm
      exact ⟨_, _, At.leave (tu_end _ m _ _ (by omega)) (by simp)⟩
    | [x], _, hm =>
      simp only [List.length_singleton] at hm
      exact ⟨_, _, At.leave (tu_end _ m _ _ (by omega)) (by simp)⟩
    | x :: z :: N, hM, hm =>
      obtain ⟨M', y, hy⟩ : ∃ M' y, z :: N = M' ++ [y] := ⟨(z :: N).dropLast, (z :: N).getLast (by simp), (List.dropLast_concat_getLast (by simp)).symm⟩
      rw [hy] at hM hm ⊢
      simp only [List.length_cons, List.length_append, List.length_nil] at hM hm
      obtain ⟨i, j, h⟩ := ih (A ++ [y]) M' (x :: B) (by omega) (by simp; omega) (by simp; omega)
      refine ⟨i, j, At.step (tu_round p0 x y A M' B m (by omega) hAB h200) ?_⟩
      have e : A ++ (x :: (M' ++ [y])).reverse ++ B = (A ++ [y]) ++ M'.reverse ++ (x :: B) := by simp
      rw [e]
      exact h
end Go.Proofs.Ytmopbegmdegooaa
/- ring.Turned: a ring the other way round. -/
namespace Go.Proofs.Ytmopbegmdegooaa
open Go Vm M
set_option linter.unusedVariables false
set_option linter.unusedSimpArgs false
theorem callA_m2 {c : Cfg} {ev : Ev} {lo : Nat} {F : FuncId} {args : List AVal} {S : List AObj} {x : AVal × List AObj} (h0 : c.givenS F = none) (hm : c.mode F = 2) (he : ev lo F args S = some x) : callA c ev lo F args S = some x := by
  unfold callA
  simp only [h0, hm, he]
theorem onesP : ∀ ps : List P2, Ones (flatP ps)
  | [] => rfl
  | p :: ps => by
    have := onesP ps
    unfold Ones at this ⊢
    simp [flatP, AVal.one, Value.oneCell', this]
theorem boundsA_clip (n : Nat) : boundsA n none (some (iA (n : Int))) (some (iA (n : Int))) = some (0, ((n : Int)).toNat, some n) := by
  simp [boundsA, numA, iA, mxOk]
theorem peek_rowE {S : List AObj} {o n e : Nat} {ps : List P2} (h : S[o]? = some (.row 2 e (some (flatP ps).length) (flatP ps))) : peek S (n + 2) (.row o e 2 0 ps.length) = some (slP ps) := by
  simp only [peek, h]
  rw [if_pos ⟨trivial, trivial, by rw [flatP_length]; omega⟩]
  have e : cutA (flatP ps) 2 0 (0 + ps.length) = flatP ps := by
    unfold cutA
    rw [Nat.zero_mul, List.drop_zero, List.take_of_length_le (by rw [flatP_length]; omega)]
  rw [e, peek_flat]
  rfl
theorem turned_cons (q : P2) (qs : List P2) (h200 : qs.length < 200) : CallsP Try.prog 30 [slP (q :: qs)] (slP (q :: qs.reverse)) := by
  have hn : (q :: qs).length = qs.length + 1 := rfl
  have c1 := tuClone_eq q qs ⟨rfl, by omega, by omega⟩ (by rw [upL_flatPP]; exact onesP _) (by omega) (flatPP_length _)
  unfold tuClone at c1
  rw [Nat.zero_add, upL_flatPP] at c1
  have e0 : callA (cfT N8) (evalF (cfT N8) 202) 0 60 [slA (q :: qs)] [] = some (.row 0 1 2 0 (q :: qs).length, [.row 2 1 none (flatP (q :: qs))]) := callA_m2 rfl rfl c1
  have c2 := tuClip_eq 1 (q :: qs).length (flatP (q :: qs)) ⟨(q :: qs).length, boundsA_clip _, by simp⟩
  unfold tuClip at c2
  rw [Int.toNat_natCast, Nat.sub_zero] at c2
  have e1 : callA (cfT N8) (evalF (cfT N8) 202) 0 59 [.row 0 1 2 0 (q :: qs).length] [.row 2 1 none (flatP (q :: qs))] = some (.row 0 1 2 0 (q :: qs).length, [.row 2 1 none (flatP (q :: qs))]) := callA_m2 rfl rfl c2
  obtain ⟨i, j, hl⟩ := tu_loop q qs.length (by omega) 199 [] qs [] (by omega) (by simp) rfl
  have hl' := At.use (at_more hl (m := 201) (by omega)) (T := tuT qs.length 0 (IntKind.i64.wrap ((qs.length : Int) - 1))) (S := [.row 2 1 none (flatP (q :: qs))]) (by simp only [List.all_cons, List.all_nil, plainO, flatP_plain]; rfl) (by
    rw [IntWalk.i64_in _ (by omega)]
    simp only [List.nil_append, List.append_nil, List.length_nil]
    rw [show ((qs.length : Int) - 1 - ((0 : Nat) : Int)) = (qs.length : Int) - 1 by omega]
    kernel_rfl)
  simp only [List.nil_append, List.append_nil] at hl'
  have c3 := tuRvAll_eq qs.length i j (q :: qs) (q :: qs.reverse) hl'
  have e3 : callA (cfT N8) (evalF (cfT N8) 202) 0 61 [.row 0 1 2 (0 + 1) ((q :: qs).length - 1)] [.row 2 1 none (flatP (q :: qs))] = some (.tup [], [.row 2 1 none (flatP (q :: qs.reverse))]) := callA_m2 rfl rfl c3
  refine tuAll_calls (q :: qs) (q :: qs) (q :: qs.reverse) (q :: qs).length (decide_eq_true (by omega)) e0 e1 (by rw [show (1 : Int) = ((1 : Nat) : Int) from rfl]; exact boundsA_lo (by simp)) e3 ?_
  have hS : ([.row 2 1 none (flatP (q :: qs.reverse))] : List AObj)[0]? = some (.row 2 1 none (flatP (q :: qs.reverse))) := rfl
  rw [show deep = 5 + 1 from rfl, mark_row (n := 5) hS]
  have hp : ([.row 2 1 none (flatP (q :: qs.reverse))] : List AObj).set 0 (.row 2 1 (some (flatP (q :: qs.reverse)).length) (flatP (q :: qs.reverse))) = [.row 2 1 (some (flatP (q :: qs.reverse)).length) (flatP (q :: qs.reverse))] := rfl
  rw [hp]
  have hlen : (q :: qs).length = (q :: qs.reverse).length := by simp
  rw [hlen]
  exact peek_rowE (n := 4) rfl
end Go.Proofs.Ytmopbegmdegooaa
