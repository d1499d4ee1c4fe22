/- Texts put together: OpenS, Auto, Ints, Of0, Of1, OfA. What is proved stands at the head of each part. -/
import Derived.Test.YtkkgimhbliocoaaGreatBnLawFindEmpty11
import Derived.Deep.SlicePairs
import Derived.Test.YtkkgimhbliocoaaGreatRows
import Derived.ProofKit
import Derived.OpenShut
import Derived.ChangeOld
import Derived.SizedLaws
import Derived.Carry
import Derived.Lib.SmallJoins
import Derived.RowKit3
import Derived.WideLaws
import Derived.Laws.Rows
/- Arguments that are points, numbers, and slices of points: what the form hands a law, as the abstract machine's values. -/
namespace Go.Proofs.YtkkgimhbliocoaaGreat
open Go Vm M Go.Deep Go.ChangeShapes Go.WideShapes Go.ChangeAt Go.RowKit
set_option linter.unusedVariables false
set_option maxRecDepth 100000
theorem own : ownKnob Tryz.prog.godebug = none := by kernel_rfl
theorem laidOut : laidOutB Tryz.prog = true := by kernel_rfl
section
variable {H : Type} {enc : TypeId × Value → H} {w : World} {base : Nat} {spare : Nat → Bool} {held : Bool}
theorem open_pt {r : Reach} {b0 : Nat} {v : Value} {d : DataW H} {ps : List MemPlace} (hval : Value.okWide Tryz.prog w r b0 27 v) (h : DataW.Trod enc Tryz.prog w base spare held 27 v d ps) : ∃ p : P2, v = ptV p := by
  obtain ⟨v0, v1, y0, y1, n, rfl, _, _, h0, h1⟩ := Go.Joins.open_agg2 Tryz.underlying27 (by kernel_rfl) (by kernel_rfl) hval h
  obtain ⟨x, hx, _, _⟩ := DataW.trod_int Tryz.underlying2 h0
  obtain ⟨y, hy, _, _⟩ := DataW.trod_int Tryz.underlying2 h1
  cases hx
  cases hy
  exact ⟨(x, y), rfl⟩
end
theorem Rp_pt (L : Look) (p : P2) : Rp L (ptP p) (ptV p) := by
  simp only [ptP, ptV, Rp]
  exact ⟨_, rfl, rfl, by simp [Rps, Rp]⟩
theorem Rp_int (L : Look) (n : Int) : Rp L (iP n) (.int .i64 n) := by simp [iP, Rp]
theorem Rp_bool {L : Look} {b : Bool} {x : Value} (h : Rp L (bP b) x) : x = .bool b := by simpa [bP, Rp] using h
theorem Rps_cons {L : Look} {x : PVal} {xs : List PVal} {f : Nat → Value → Prop} {i : Nat} {y : Value} (hy : f i y) (hr : Rp L x y) (h : Rps L xs f (i + 1)) : Rps L (x :: xs) f i := by
  simp only [Rps]
  exact ⟨⟨y, hy, hr⟩, h⟩
theorem Rps_nil {L : Look} {f : Nat → Value → Prop} {i : Nat} : Rps L [] f i := by simp [Rps]
theorem list_of {len : Nat} {R : Nat → P2 → Prop} (h : ∀ i, i < len → ∃ p, R i p) : ∃ ps : List P2, ps.length = len ∧ ∀ i p, ps[i]? = some p → R i p := by
  induction len with
  | zero => exact ⟨[], rfl, fun i p hp => by simp at hp⟩
  | succ n ih =>
    obtain ⟨ps, hl, hR⟩ := ih fun i hi => h i (by omega)
    obtain ⟨p, hp⟩ := h n (by omega)
    refine ⟨ps ++ [p], by simp [hl], fun i q hq => ?_⟩
    by_cases hi : i < n
    · rw [List.getElem?_append_left (by omega)] at hq
      exact hR i q hq
    · have := (List.getElem?_eq_some_iff.1 hq).1
      simp only [List.length_append, List.length_singleton] at this
      have e : i = n := by omega
      subst e
      rw [List.getElem?_append_right (by omega), hl, Nat.sub_self] at hq
      simp only [List.getElem?_cons_zero, Option.some.injEq] at hq
      exact hq ▸ hp
theorem rps_flat {L : Look} {A : Option Addr} : ∀ (ps : List P2) (k : Nat), (∀ i p, ps[i]? = some p → ∃ a, A = some a ∧ L (a.add (k + i * 2)) (.int .i64 p.1) ∧ L (a.add (k + i * 2 + 1)) (.int .i64 p.2)) → Rps L (flatPP ps) (fun i y => ∃ a, A = some a ∧ L (a.add i) y) k
  | [], k, _ => by simp [flatPP, Rps]
  | p :: ps, k, h => by
    obtain ⟨a, ha, h1, h2⟩ := h 0 p rfl
    simp only [flatPP, Rps, Rp]
    refine ⟨⟨_, ⟨a, ha, by simpa using h1⟩, rfl⟩, ⟨_, ⟨a, ha, by simpa using h2⟩, rfl⟩, rps_flat ps (k + 1 + 1) fun i q hq => ?_⟩
    obtain ⟨b, hb, h3, h4⟩ := h (i + 1) q (by simpa using hq)
    refine ⟨b, hb, ?_, ?_⟩
    · rw [show k + 1 + 1 + i * 2 = k + (i + 1) * 2 by omega]; exact h3
    · rw [show k + 1 + 1 + i * 2 + 1 = k + (i + 1) * 2 + 1 by omega]; exact h4
theorem cell_lt {w : World} {a : Addr} {v : Value} (h : w.cell? a = some v) : a.block < w.heap.size := by
  unfold World.cell? at h
  split at h
  · rename_i hb
    exact (Array.getElem?_eq_some_iff.1 hb).1
  · cases h
section
variable {H : Type} {enc : TypeId × Value → H} {W : World}
theorem open_sl {b0 : Nat} {v : Value} {d : DataW H} {pl : List MemPlace} (hval : Value.okWide Tryz.prog W .any b0 31 v) (h : DataW.Trod enc Tryz.prog W 0 (fun _ => true) true 31 v d pl) : ∃ ps : List P2, Rp (sees (fun b _ => b < W.heap.size) W) (slP ps) v := by
  obtain ⟨A, len, cap, rfl⟩ := okWide_slice Tryz.underlying31 hval
  obtain ⟨fuel, hf⟩ := h
  rcases open_slice_pairs Tryz.underlying31 Tryz.underlying27 (by kernel_rfl) rfl rfl (by kernel_rfl) (by kernel_rfl) hf with ⟨hcs, _⟩ | ⟨a, len', cap', m, n, V0, V1, D0, D1, P0, P1, hcs, _, hl, _, hm, _, hall⟩
  · simp [Value.cells] at hcs
    obtain ⟨rfl, rfl, rfl⟩ := hcs
    refine ⟨[], ?_⟩
    simp only [slP, flatPP, Rp, Rps]
    exact ⟨none, 0, rfl, Nat.le_refl _, trivial⟩
  · simp [Value.cells] at hcs
    obtain ⟨rfl, rfl, rfl⟩ := hcs
    simp only [if_true] at hm
    subst hm
    obtain ⟨ps, hps, hR⟩ := list_of (len := len) (R := fun i p => W.cell? (a.add (i * 2)) = some (.int .i64 p.1) ∧ W.cell? (a.add (i * 2 + 1)) = some (.int .i64 p.2)) fun i hi => by
      obtain ⟨c0, c1, t0, t1⟩ := hall i (by omega)
      obtain ⟨x, hx, _, _⟩ := DataW.trod_int Tryz.underlying2 t0
      obtain ⟨y, hy, _, _⟩ := DataW.trod_int Tryz.underlying2 t1
      simp only [List.cons.injEq, and_true] at hx hy
      exact ⟨(x, y), by rw [c0, hx], by rw [c1, hy]⟩
    refine ⟨ps, ?_⟩
    simp only [slP, Rp]
    refine ⟨some a, m, by rw [hps], by rw [hps]; exact hl, rps_flat ps 0 fun i p hp => ?_⟩
    obtain ⟨h0, h1⟩ := hR i p hp
    rw [Nat.zero_add]
    exact ⟨a, rfl, ⟨cell_lt h0, h0⟩, cell_lt h1, h1⟩
end
/-- A call by values, of memory that lay there. -/
theorem callsS {f : FuncId} {ps : List PVal} {r : PVal} (h : CallsP Tryz.prog f ps r) {vs : Array Value} {w : World} (hs : vs.size = ps.length) (hr : Rps (sees (fun b _ => b < w.heap.size) w) ps (fun i y => vs[i]? = some y) 0) {u : Value} (hu : ∀ L x, Rp L r x → x = u) :
    Calls Tryz.prog f vs w fun e w' => e = .returned u ∧ Below w.heap.size w w' := by
  refine (h (fun b _ => b < w.heap.size) w vs (fun _ _ h => h) hs hr).mono ?_
  rintro e w' ⟨v, ok', rfl, hb, _, _, _, hv⟩
  exact ⟨by rw [hu _ _ hv], hb⟩
end Go.Proofs.YtkkgimhbliocoaaGreat
/- What is read off a slice of points at a place that is a symbol. -/
namespace Go.Proofs.YtkkgimhbliocoaaGreat
open Go Vm M
set_option linter.unusedVariables false
set_option maxRecDepth 100000
set_option linter.unusedSimpArgs false
def pAt (ps : List P2) (k : Nat) : P2 := (intAt (upL ((flatPP ps).drop (k * 2))), intAt ((upL ((flatPP ps).drop (k * 2))).drop 1))
theorem pAt_eq (ps : List P2) (k : Nat) : pAt ps k = ps.getD k (0, 0) := by
  unfold pAt
  rw [flatPP_drop, upL_flatPP]
  cases h : ps.drop k with
  | nil =>
    have : ps.length ≤ k := List.drop_eq_nil_iff.1 h
    simp [flatP, intAt, List.getD, List.getElem?_eq_none this]
  | cons p l =>
    have : ps[k]? = some p := by
      have h2 := congrArg (·[0]?) h
      simpa using h2
    simp [flatP, intAt, List.getD, this]
theorem pAt_get {ps : List P2} {k : Nat} {q : P2} (h : ps[k]? = some q) : pAt ps k = q := by rw [pAt_eq]; simp [List.getD, h]
theorem pAt_getElem {ps : List P2} {k : Nat} (h : k < ps.length) : pAt ps k = ps[k] := pAt_get (List.getElem?_eq_getElem h)
theorem pAt_cast (ps : List P2) (k : Nat) : pAt ps (k : Int).toNat = pAt ps k := by rw [Int.toNat_natCast]
theorem drop_pAt {ps : List P2} {k : Nat} (h : k < ps.length) : (flatPP ps).drop (k * 2) = .v (.int .i64 (pAt ps k).1) :: .v (.int .i64 (pAt ps k).2) :: flatPP (ps.drop (k + 1)) := by
  rw [flatPP_drop, List.drop_eq_getElem_cons h, pAt_getElem h]
  rfl
theorem idx_ok {ps : List P2} {i : Int} (h : 0 ≤ i ∧ i < (ps.length : Int)) : 0 ≤ i ∧ i < (ps.length : Int) ∧ 0 < 2 ∧ (flatPP ps).length = ps.length * 2 := ⟨h.1, h.2, by omega, flatPP_length ps⟩
theorem part_pt {ps : List P2} {i : Int} (h : 0 ≤ i ∧ i < (ps.length : Int)) : partA Tryz.prog 27 (upL ((flatPP ps).drop (i.toNat * 2))) 0 = some (ptA (pAt ps i.toNat)) := by
  rw [drop_pAt (by omega)]
  unfold partA
  rw [agg23, sz23]
  simp [upL, up, ptA]
theorem part_x {ps : List P2} {i : Int} (h : 0 ≤ i ∧ i < (ps.length : Int)) : partA Tryz.prog 2 (upL (((flatPP ps).drop (i.toNat * 2)).drop 0)) 0 = some (iA (pAt ps i.toNat).1) := by
  rw [drop_pAt (by omega)]
  rfl
theorem part_y {ps : List P2} {i : Int} (h : 0 ≤ i ∧ i < (ps.length : Int)) : partA Tryz.prog 2 (upL (((flatPP ps).drop (i.toNat * 2)).drop 1)) 0 = some (iA (pAt ps i.toNat).2) := by
  rw [drop_pAt (by omega)]
  rfl
theorem partR_pt {ps : List P2} {i : Int} (h : 0 ≤ i ∧ i < (ps.length : Int)) : partA Tryz.prog 27 (upL (flatPP ps)) ((0 + i.toNat) * 2) = some (ptA (pAt ps i.toNat)) := by
  rw [upL_flatPP, Nat.zero_add, pAt_getElem (by omega : i.toNat < ps.length)]
  exact flatP_part (List.getElem?_eq_getElem (by omega)) agg23 sz23
theorem partR_x {ps : List P2} {i : Int} (h : 0 ≤ i ∧ i < (ps.length : Int)) : partA Tryz.prog 2 (upL (flatPP ps)) ((0 + i.toNat) * 2 + 0) = some (iA (pAt ps i.toNat).1) := by
  have e : (upL (flatPP ps))[(0 + i.toNat) * 2 + 0]? = some (iA (pAt ps i.toNat).1) := by
    have := drop_pAt (ps := ps) (k := i.toNat) (by omega)
    have h2 := congrArg (fun l => (upL l)[0]?) this
    simp only [upL_drop, List.getElem?_drop] at h2
    rw [Nat.zero_add]
    exact h2
  unfold partA
  exact e
theorem partR_y {ps : List P2} {i : Int} (h : 0 ≤ i ∧ i < (ps.length : Int)) : partA Tryz.prog 2 (upL (flatPP ps)) ((0 + i.toNat) * 2 + 1) = some (iA (pAt ps i.toNat).2) := by
  have e : (upL (flatPP ps))[(0 + i.toNat) * 2 + 1]? = some (iA (pAt ps i.toNat).2) := by
    have := drop_pAt (ps := ps) (k := i.toNat) (by omega)
    have h2 := congrArg (fun l => (upL l)[1]?) this
    simp only [upL_drop, List.getElem?_drop] at h2
    rw [Nat.zero_add]
    exact h2
  unfold partA
  exact e
end Go.Proofs.YtkkgimhbliocoaaGreat
/- Slices of numbers that are handed over as values. -/
namespace Go.Proofs.YtkkgimhbliocoaaGreat
open Go Vm M
set_option linter.unusedVariables false
set_option linter.unusedSimpArgs false
def intP (l : List Int) : List PVal := l.map fun x => .v (.int .i64 x)
def slI (l : List Int) : PVal := .list l.length (intP l)
def slJ (l : List Int) : AVal := .list l.length (intP l)
def iAt (l : List Int) (k : Nat) : Int := l[k]?.getD 0
theorem intP_length (l : List Int) : (intP l).length = l.length := by simp [intP]
theorem idx_okI {l : List Int} {i : Int} (h : 0 ≤ i ∧ i < (l.length : Int)) : 0 ≤ i ∧ i < (l.length : Int) ∧ 0 < 1 ∧ (intP l).length = l.length * 1 := ⟨h.1, h.2, by omega, by rw [intP_length, Nat.mul_one]⟩
theorem partI {l : List Int} {k : Nat} (h : k < l.length) (ha : aggT Tryz.prog 3 = some false) (hs : szOf Tryz.prog 3 = some 1) : partA Tryz.prog 3 (upL ((intP l).drop (k * 1))) 0 = some (iA (iAt l k)) := by
  unfold partA
  rw [ha, hs]
  simp only
  rw [upL_eq_map, Nat.mul_one, List.getElem?_map, List.getElem?_drop]
  unfold intP iAt
  rw [List.getElem?_map, Nat.add_zero, List.getElem?_eq_getElem h]
  rfl
end Go.Proofs.YtkkgimhbliocoaaGreat
/- plan.Of of a plan that has no edges. -/
namespace Go.Proofs.YtkkgimhbliocoaaGreat
open Go Vm M
set_option linter.unusedVariables false
set_option linter.unusedSimpArgs false
/-- The least configuration: all by value, but what sorts or puts in. -/
def md0 (f : FuncId) : Nat := bif Nat.beq f 151 || Nat.beq f 106 then 2 else 0
noncomputable def c00 : Cfg := cfgOf lives md0 (Lib.none _)
theorem c00_ok : CfgOk c00 := cfgOf_ok lives md0 (Lib.none _)
def nilA : AVal := .v (.slice none 0 0)
def nilP : PVal := .v (.slice none 0 0)
noncomputable def ofB : Code := Tryz.f47.body.getD .skip
noncomputable def ofLv : List Nat := (lives.lookup 47).getD []
noncomputable def ofA : FnA := (c00.tab 47).getD ⟨0, #[], .skip, []⟩
def plN (n : Nat) (xs : List PVal) : PVal := .agg [.list n xs, nilP]
variable (n : Nat) (xs : List PVal)
noncomputable def of1 : List AVal × List AObj := (evalL c00 (evalF c00 60) ofLv 0 0 60 (headL 5 ofB) (upL [plN n xs] ++ List.replicate (ofA.ntmps - (upL [plN n xs]).length) (.v undef)) []).getD ([], [])
theorem of1_eq : evalL c00 (evalF c00 60) ofLv 0 0 60 (headL 5 ofB) (upL [plN n xs] ++ List.replicate (ofA.ntmps - (upL [plN n xs]).length) (.v undef)) [] = some ((of1 n xs).1, (of1 n xs).2) := by kernel_rfl
theorem ofA_tab : c00.tab 47 = some ofA := by kernel_rfl
theorem ofA_body : ofA.body = ofB := by kernel_rfl
def regOps : Code → Array Oper
  | .region _ ops _ => ops
  | _ => #[]
/-- The last piece but the end: the range over the ways round nodes. -/
noncomputable def of16 : Array Oper := match tailC 5 ofB with
  | .seq (.seq (.region _ ops false) _) _ => ops
  | _ => #[]
noncomputable def of17 : Array Oper := match tailC 5 ofB with
  | .seq (.seq _ (.block _ (.loop (.seq (.region _ ops false) _)))) _ => ops
  | _ => #[]
noncomputable def ofR : Code := match tailC 5 ofB with
  | .seq (.seq _ (.block _ (.loop (.seq _ (.seq _ r))))) _ => r
  | _ => .skip
noncomputable def ofZ : Code := match tailC 5 ofB with
  | .seq _ z => z
  | _ => .skip
theorem of_tail : tailC 5 ofB = .seq (.seq (.region 16 of16 false) (.block 4 (.loop (.seq (.region 17 of17 false) (.seq (.cond (.tmp 100) .skip (.exit 4)) ofR))))) ofZ := by kernel_rfl
noncomputable def op0 : Oper := ⟨none, .move (.tmp 0), 0, "", #[], none⟩
noncomputable def of2 : List AVal × List AObj := (runOps c00 (evalF c00 60) 0 of16 (of16.toList.take 4) (of1 n xs).1 (of1 n xs).2).getD ([], [])
theorem of2_eq : runOps c00 (evalF c00 60) 0 of16 (of16.toList.take 4) (of1 n xs).1 (of1 n xs).2 = some ((of2 n xs).1, (of2 n xs).2) := by kernel_rfl
noncomputable def of3 : List AVal := putT (putT (putT (of2 n xs).1 (some 98) .junk) (some 99) .junk) (some 100) .junk
noncomputable def of4 : AExit × List AVal × List AObj := (evalC c00 (evalF c00 60) ofLv 0 0 60 ofZ (of3 n xs) (of2 n xs).2).getD (.normal, [], [])
theorem of4_eq : evalC c00 (evalF c00 60) ofLv 0 0 60 ofZ (of3 n xs) (of2 n xs).2 = some (.ret, (of4 n xs).2.1, (of4 n xs).2.2) := by kernel_rfl
theorem of_callsA : CallsA Tryz.prog 47 (upL [plN n xs]) [] (.ptr 3 0 0) (of4 n xs).2.2 := by
  refine callsA_of_body c00_ok ofA_tab (x := .ret) (.inr rfl) (T' := (of4 n xs).2.1) (by kernel_rfl) fun C ac hCS hS hT hd => ?_
  rw [ofA_body, ← seqs_head 5 ofB]
  refine seqs_ok c00_ok (evalF_ok c00_ok 60) (lv := ofLv) (lo := 0) (base := 0) (n := 60) (C0 := C) (d0 := []) (by rw [hCS]; exact Nat.le_refl _) (headL 5 ofB) (fun _ _ => .inl rfl) _ ac C (of1 n xs).1 (of1 n xs).2 hS (Ext.refl C) hT hd (by rw [hCS]; exact of1_eq n xs) fun a1 C1 e1 k1 k2 k3 k4 => ?_
  rw [of_tail]
  refine wpIn_seq (wpIn_mono (range_empty c00_ok (evalF_ok c00_ok 60) (lo := 0) (C0 := C) (d0 := []) (pre := of16.toList.take 4) (rop := of16.toList.getD 4 op0) (nop := of17.toList.getD 0 op0) (xop := of17.toList.getD 1 op0) (t := 80) (m := 97) (it := 98) (q := 99) (k := 100) (o := 2) (fz := false) (z := .v (.slice none 0 0)) (T := (of1 n xs).1) (T1 := (of2 n xs).1) (S1 := (of2 n xs).2)
    (by kernel_rfl) ⟨by kernel_rfl, by kernel_rfl, by kernel_rfl⟩ (by kernel_rfl) ⟨by kernel_rfl, by kernel_rfl, by kernel_rfl⟩ ⟨by kernel_rfl, by kernel_rfl, by kernel_rfl⟩ (by rw [e1]; exact of2_eq n xs) (by kernel_rfl) (by kernel_rfl) (by kernel_rfl) (of_decide_eq_true (by kernel_rfl)) k1 k2 k3 k4) ?_)
  rintro e a2 w2 ⟨C2, rfl, e2, l1, l2, l3, l4, l5⟩
  cases e <;> simp only [AExit.is] at l5
  exact evalC_ok c00_ok (evalF_ok c00_ok 60) (lv := ofLv) (lo := 0) (base := 0) (n := 60) (C0 := C) (d0 := []) (ro := none) (by rw [hCS]; exact Nat.le_refl _) ofZ (of3 n xs) a2 C2 .ret (of4 n xs).2.1 (of4 n xs).2.2 (.inl rfl) l1 l2 l3 l4 (by rw [e2]; exact of4_eq n xs)
def walk0 : PVal := .ptr [.map [] [], nilP, .map [] []]
theorem ofN_calls : CallsP Tryz.prog 47 [plN n xs] walk0 := callsP_of_A (of_callsA n xs) (by kernel_rfl)
theorem wk_nil : Wk nilP (.list 0 []) := fun L u h => by
  simp only [nilP, Rp] at h
  subst h
  exact ⟨none, 0, rfl, Nat.le_refl _, trivial⟩
theorem wk_agg {xs ys : List PVal} (h : Wks xs ys) : Wk (.agg xs) (.agg ys) := fun L u hu => by
  simp only [Rp] at hu ⊢
  obtain ⟨cs, h1, h2, h3⟩ := hu
  exact ⟨cs, h1, h2.trans h.length, h.rps h3⟩
theorem of0_calls : CallsP Tryz.prog 47 [.agg [nilP, nilP]] walk0 := callsP_weak (ofN_calls 0 []) ⟨wk_agg ⟨wk_nil, Wk.refl _, trivial⟩, trivial⟩
def gOfN : List PVal → Option PVal
  | [.agg [.list _ _, .v (.slice none 0 0)]] => some walk0
  | [.agg [.v (.slice none 0 0), .v (.slice none 0 0)]] => some walk0
  | _ => none
theorem gOfN_spec : ∀ ps r, gOfN ps = some r → CallsP Tryz.prog 47 ps r := by
  intro ps r h
  unfold gOfN at h
  split at h
  · simp only [Option.some.injEq] at h
    subst h
    exact ofN_calls _ _
  · simp only [Option.some.injEq] at h
    subst h
    exact of0_calls
  · cases h
end Go.Proofs.YtkkgimhbliocoaaGreat
/- plan.Of of a plan that is known: the ways round nodes in whatever order. -/
namespace Go.Proofs.YtkkgimhbliocoaaGreat
open Go Vm M
set_option linter.unusedVariables false
set_option linter.unusedSimpArgs false
/-- What sorts goes by its objects. -/
def sorters : List Nat := [108, 91, 195, 164, 152, 204, 184, 229, 242, 248, 246, 132, 129, 83]
def md1 (f : FuncId) : Nat := bif Nat.beq f 95 || Nat.beq f 196 then 5 else bif Nat.beq f 96 then 6 else bif sorters.any (Nat.beq f) then 2 else bif Nat.beq f 130 then 3 else md0 f
noncomputable def c01 : Cfg := cfgOf lives md1 (Lib.none _)
theorem c01_ok : CfgOk c01 := cfgOf_ok lives md1 (Lib.none _)
noncomputable def ev1 : Ev := evalF c01 60
theorem ev1_ok : EvOk c01 ev1 := evalF_ok c01_ok 60
noncomputable def of18 : Array Oper := match ofR with
  | .block _ (.seq (.region _ ops false) _) => ops
  | _ => #[]
noncomputable def of19 : Code := match ofR with
  | .block _ (.seq _ z) => z
  | _ => .skip
theorem ofR_eq : ofR = .block 5 (.seq (.region 18 of18 false) of19) := by kernel_rfl
def ofK : Nat := 2 ^ 3 + 2 ^ 98
def ofTh (T1 : List AVal) (r : Nat) : List AVal := forget ofK (putT T1 (some 98) (.v (.pointer (some ⟨r, 0, none⟩))))
def ofT5 (T1 : List AVal) (r : Nat) (key : Int) (v : AVal) : List AVal :=
  let B := putT (putT (putT (ofTh T1 r) (some 99) .junk) (some 100) .junk) (some 101) (.tup [.v (.int .i64 key), v])
  putT (putT (putT (putT B (some 102) (.v (.int .i64 key))) (some 103) v) (some 10) (.v (.int .i64 key))) (some 11) v
/-- A round by itself. -/
noncomputable def ofRun (T1 : List AVal) (S1 : List AObj) (o : Nat) (ks : List Int) (vs : List AVal) (qs : List Nat) (i : Nat) (us : Nat → Value) (r : Nat) : Res :=
  evalC c01 ev1 ofLv 0 S1.length 60 of19 (ofT5 T1 r (ks.getD i 0) (vs.getD i .junk)) (hideAll (others qs i) (S1.set o (.mapo false ks (blur us i 0 vs))))
structure OfD where
  T1 : List AVal
  S1 : List AObj
  o : Nat
  ks : List Int
  vs : List AVal
  qs : List Nat
  ys : List AVal
  Xs : List AObj
  T4 : Nat → Nat → List AVal
noncomputable def ofRow : AVal → Nat
  | .row q _ _ _ _ => q
  | _ => 0
noncomputable def ofData (T1 : List AVal) (S1 : List AObj) : OfD :=
  let o : Nat := match T1.getD 97 .junk with | .mp o => o | _ => 0
  let kv : List Int × List AVal := match (S1[o]? : Option AObj) with | some (.mapo _ ks vs) => (ks, vs) | _ => ([], [])
  let qs := kv.2.map ofRow
  let runs := (List.range kv.1.length).map fun i => (ofRun T1 S1 o kv.1 kv.2 qs i (fun _ => undef) 0).getD (.normal, [], [])
  { T1, S1, o, ks := kv.1, vs := kv.2, qs,
    ys := (List.range kv.1.length).map fun i => match (runs.getD i (.normal, [], [])).2.2[o]? with | some (.mapo _ _ ws) => ws.getD i .junk | _ => .junk,
    Xs := (List.range kv.1.length).map fun i => ((runs.getD i (.normal, [], [])).2.2)[qs.getD i 0]?.getD .free,
    T4 := fun r i => (((ofRun T1 S1 o kv.1 kv.2 qs i (fun _ => undef) r).getD (.normal, [], [])).2.1) }
/-- What is to be seen of a plan's data. -/
structure OfOk (p : PVal) (T0 : List AVal) (S0 : List AObj) (D : OfD) (T' T2 : List AVal) (S' S2 : List AObj) (r : AVal) (w : PVal) : Prop where
  head : evalL c01 ev1 ofLv 0 0 60 (headL 5 ofB) (upL [p] ++ List.replicate (ofA.ntmps - (upL [p]).length) (.v undef)) [] = some (T0, S0)
  pre : runOps c01 ev1 0 of16 (of16.toList.take 4) T0 S0 = some (D.T1, D.S1)
  fam : famA D.S1 D.o D.ks D.vs D.ys D.qs D.Xs (fun _ => false) = D.S1
  mp : D.T1.getD 97 .junk = .mp D.o
  len : decide (103 < D.T1.length) && (D.vs.length == D.ks.length && (D.ys.length == D.vs.length && (D.qs.length == D.vs.length && (D.Xs.length == D.vs.length && (D.qs.all (fun q => decide (q < D.S1.length)) && (!D.qs.contains D.o && decide (D.o < D.S1.length))))))) = true
  nodup : D.qs.Nodup
  closed : ((List.range D.ks.length).all fun i => closedB D.S1 D.o (others D.qs i)) = true
  closedT : ∀ r, ((List.range D.ks.length).all fun i => ((others D.qs i).all fun p => !mentL p (ofT5 D.T1 r (D.ks.getD i 0) (D.vs.getD i .junk)) && (match D.vs[i]? with | some v => !ment p v | none => true))) = true
  ent : (fun (r : Nat) (S : List AObj) => (List.range D.ks.length).map fun i => runOps c01 ev1 0 of18 (of18.toList.drop 1) (putT (putT (putT (ofTh D.T1 r) (some 99) .junk) (some 100) .junk) (some 101) (.tup [.v (.int .i64 (D.ks.getD i 0)), D.vs.getD i .junk])) S) = fun r S => (List.range D.ks.length).map fun i =>
    some (ofT5 D.T1 r (D.ks.getD i 0) (D.vs.getD i .junk), S)
  runs : (fun (us : Nat → Value) (r : Nat) => (List.range D.ks.length).map fun i => ofRun D.T1 D.S1 D.o D.ks D.vs D.qs i us r) = fun us r => (List.range D.ks.length).map fun i =>
    some (AExit.normal, D.T4 r i, hideAll (others D.qs i) ((D.S1.set (D.qs.getD i 0) (D.Xs.getD i .free)).set D.o (.mapo false D.ks (blur us i 0 (D.vs.set i (D.ys.getD i .junk))))) ++ List.replicate 9 .free)
  back : (fun r => (List.range D.ks.length).map fun i => forget ofK (D.T4 r i)) = fun r => (List.range D.ks.length).map fun _ => ofTh D.T1 r
  fin : (fun r => forget (2 ^ 3) (putT (putT (ofTh D.T1 r) (some 99) .junk) (some 100) .junk)) = fun _ => T'
  all : famA D.S1 D.o D.ks D.vs D.ys D.qs D.Xs (fun j => decide (j < D.ks.length)) = S'
  tail : evalC c01 ev1 ofLv 0 0 60 ofZ T' S' = some (.ret, T2, S2)
  res : resultsA c01.P ofA.results T2 S2 = some r
  peek : Vm.peek (Vm.mark 0 deep S2 r) deep r = some w
theorem map_at {α : Type} {f g : Nat → α} {n i : Nat} (h : (List.range n).map f = (List.range n).map g) (hi : i < n) : f i = g i := by
  have := congrArg (fun l => l[i]?) h
  simpa [List.getElem?_map, List.getElem?_range hi] using this
theorem forget_get : ∀ (T : List AVal) (m n : Nat), (forget m T)[n]? = (T[n]?).map fun x => bif Nat.beq (m / 2 ^ n % 2) 1 then x else .junk
  | [], m, n => by simp [forget]
  | x :: T, m, 0 => by simp [forget]
  | x :: T, m, n + 1 => by
    simp only [forget, List.getElem?_cons_succ]
    rw [forget_get T (m / 2) n, Nat.div_div_eq_div_mul, show 2 * 2 ^ n = 2 ^ (n + 1) by rw [Nat.pow_succ]; omega]
theorem famA_congr {S : List AObj} {o : Nat} {ks : List Int} {vs ys : List AVal} {qs : List Nat} {Xs : List AObj} {A B : Nat → Bool} {n : Nat} (hv : vs.length = n) (hq : qs.length = n) (h : ∀ j, j < n → A j = B j) : famA S o ks vs ys qs Xs A = famA S o ks vs ys qs Xs B := by
  have hV : ∀ (j : Nat) (vs ys : List AVal), j + vs.length ≤ n → valsA A j vs ys = valsA B j vs ys := by
    intro j vs
    induction vs generalizing j with
    | nil => intro ys _; simp [valsA]
    | cons v vs ih =>
      intro ys hj
      cases ys with
      | nil => simp [valsA]
      | cons y ys =>
        simp only [List.length_cons] at hj
        simp only [valsA, h j (by omega), ih (j + 1) ys (by omega)]
  have hQ : ∀ (j : Nat) (qs : List Nat) (Xs S : List AObj), j + qs.length ≤ n → setsA A j qs Xs S = setsA B j qs Xs S := by
    intro j qs
    induction qs generalizing j with
    | nil => intro Xs S _; simp [setsA]
    | cons q qs ih =>
      intro Xs S hj
      cases Xs with
      | nil => simp [setsA]
      | cons X Xs =>
        simp only [List.length_cons] at hj
        simp only [setsA, h j (by omega), ih (j + 1) Xs _ (by omega)]
  simp only [famA, hV 0 vs ys (by omega), hQ 0 qs Xs S (by omega)]
theorem of_ok {p : PVal} {T0 : List AVal} {S0 : List AObj} {D : OfD} {T' T2 : List AVal} {S' S2 : List AObj} {r : AVal} {w : PVal} (h : OfOk p T0 S0 D T' T2 S' S2 r w) : CallsP Tryz.prog 47 [p] w := by
  have hl := h.len
  simp only [Bool.and_eq_true, decide_eq_true_eq, beq_iff_eq, Bool.not_eq_true', List.all_eq_true] at hl
  obtain ⟨l0, l1, l2, l3, l4, l5, l6, l7⟩ := hl
  have l6' : D.o ∉ D.qs := by simpa using l6
  have hfo : ∀ A, (famA D.S1 D.o D.ks D.vs D.ys D.qs D.Xs A)[D.o]? = some (.mapo false D.ks (valsA A 0 D.vs D.ys)) := fun B => by
    simp only [famA]; rw [List.getElem?_set, if_pos rfl, if_pos (by rw [setsA_length]; exact l7)]
  have hTl : ∀ r, (ofTh D.T1 r).length = D.T1.length := fun r => by simp [ofTh, forget_length, putT]
  have hA : CallsA c01.P 47 (upL [p]) [] r S2 := by
    refine callsA_of_EV c01_ok (a := ofA) (by kernel_rfl) (x := .ret) (.inr rfl) (T' := T2) h.res ?_
    rw [ofA_body]
    refine EV.head c01_ok ev1_ok 5 h.head ?_
    rw [of_tail, ofR_eq]
    refine EV.seq (T1 := T') (S1 := S') ?_ (EV.of c01_ok ev1_ok h.tail)
    refine EV.range c01_ok ev1_ok (lo := 0) (bh := D.S1.length) (pre := of16.toList.take 4) (rop := of16.toList.getD 4 op0) (nop := of17.toList.getD 0 op0) (xop := of17.toList.getD 1 op0) (eop := of18.toList.getD 0 op0) (erest := of18.toList.drop 1) (t := 80) (m := 97) (it := 98) (q := 99) (k := 100) (d := 101) (o := D.o) (z := .v (.slice none 0 0))
      (ks := D.ks) (vA := fun A => valsA A 0 D.vs D.ys) (SA := famA D.S1 D.o D.ks D.vs D.ys D.qs D.Xs) (T1 := D.T1) (mk := ofK) (mk' := 2 ^ 3) (Th := ofTh D.T1) (T5 := fun r i A => ofT5 D.T1 r (D.ks.getD i 0) (D.vs.getD i .junk)) (T4 := fun r i A => D.T4 r i)
      (by kernel_rfl) ⟨by kernel_rfl, by kernel_rfl, by kernel_rfl⟩ (by kernel_rfl) ⟨by kernel_rfl, by kernel_rfl, by kernel_rfl⟩ ⟨by kernel_rfl, by kernel_rfl, by kernel_rfl⟩ (by kernel_rfl) ⟨by kernel_rfl, by kernel_rfl, by kernel_rfl⟩
      (by rw [h.fam]; exact h.pre) h.mp hfo (by kernel_rfl) ⟨(show (98 : Nat) < D.T1.length by omega), (show (99 : Nat) < D.T1.length by omega), (show (100 : Nat) < D.T1.length by omega), (show (101 : Nat) < D.T1.length by omega)⟩ (fun r => rfl) (fun r => ?_) ⟨by decide, by decide, by decide⟩ (fun r i A key v S hi hAi hk hv => ?_) (fun r i A hi hAi => ?_) (fun r i A hi hAi => ?_) (fun A => ?_) (fun r => congrFun h.fin r) (fun A hAll => ?_)
    · simp only [ofTh, forget_get, putT]
      rw [List.getElem?_set, if_pos rfl, if_pos (show (98 : Nat) < D.T1.length by omega), Option.map_some]
      rfl
    · have e1 : D.ks.getD i 0 = key := by simp [List.getD, hk]
      have e2 : D.vs.getD i .junk = v := by
        rw [valsA_get 0 D.vs D.ys i l2, Nat.zero_add, hAi] at hv
        simp only [cond_false] at hv
        simp [List.getD, hv]
      have := map_at (congrFun (congrFun h.ent r) S) hi
      rw [e1, e2] at this
      simp only [e1, e2]
      exact this
    · have hr := map_at (congrFun (congrFun h.runs fun _ => undef) r) hi
      refine EV.famRound (y := D.ys.getD i .junk) (X := D.Xs.getD i .free) (qi := D.qs.getD i 0) (nf := 9) ⟨l1, l2, l3, l4⟩ hi hAi h.nodup l5 l6' l7 (Nat.le_refl _) (by simp [List.getD, List.getElem?_eq_getElem (show i < D.ys.length by omega)]) (by simp [List.getD, List.getElem?_eq_getElem (show i < D.Xs.length by omega)]) (by simp [List.getD, List.getElem?_eq_getElem (show i < D.qs.length by omega)])
        (List.all_eq_true.1 h.closed i (List.mem_range.2 hi)) (List.all_eq_true.1 (h.closedT r) i (List.mem_range.2 hi)) fun us => ?_
      exact EV.of c01_ok ev1_ok (map_at (congrFun (congrFun h.runs us) r) hi)
    · exact map_at (congrFun h.back r) hi
    · simp [famA, setsA_length]
    · rw [← h.all]
      exact famA_congr (n := D.ks.length) l1 (by omega) fun j hj => by rw [hAll j hj]; simp [hj]
  exact callsP_of_A hA h.peek
end Go.Proofs.YtkkgimhbliocoaaGreat
/- plan.Of of the plan of TopoWithin. -/
namespace Go.Proofs.YtkkgimhbliocoaaGreat
open Go Vm M
set_option linter.unusedVariables false
set_option maxRecDepth 100000
set_option maxHeartbeats 0
def iV (n : Int) : PVal := .v (.int .i64 n)
def ptL (l : List (Int × Int)) : PVal := .list l.length (l.flatMap fun p => [iV p.1, iV p.2])
def edP (id s e : Int) (l : List (Int × Int)) (a b : Int) : List PVal := [iV id, iV s, iV e, ptL l, iV a, iV b]
def aI (n : Int) : AVal := .v (.int .i64 n)
def jkk (n : Nat) : List AVal := List.replicate n .junk
def plE : List PVal := edP 1 1 1 [(0,0),(20,0),(20,20),(0,20),(0,0)] 4 0
def plA : PVal := .agg [.list 1 [iV 1, iV 0, iV 0, iV (-1)], .list 1 plE]
def oaT0 : List AVal := [.junk, .junk, .junk, .ptr 3 0 0] ++ jkk 65 ++ [.row 36 0 1 0 2, aI 2, aI 2, .v (.bool false)] ++ jkk 40
def oaT1 : List AVal := [.junk, .junk, .junk, .ptr 3 0 0] ++ jkk 65 ++ [.row 36 0 1 0 2, aI 2, aI 2, .v (.bool false)] ++ jkk 21 ++ [.ptr 3 0 0, .ptr 3 0 0, .ptr 3 0 2, .mp 2] ++ jkk 15
def oaS0 : List AObj := [.free, .mapo false [1] [.agg (upL plE)], .mapo false [1] [.row 54 0 1 0 2], .box [.mp 1, .row 36 0 1 0 2, .mp 2]] ++ List.replicate 32 .free ++ [.row 1 0 none [aI 1, aI (-1)]] ++ List.replicate 17 .free ++ [.row 1 0 none [aI 1, aI (-1)]]
noncomputable def oaD : OfD where
  T1 := oaT1
  S1 := oaS0
  o := 2
  ks := [1]
  vs := [.row 54 0 1 0 2]
  qs := [54]
  ys := [.list 2 [iV 1, iV (-1)]]
  Xs := [.row 1 0 none [aI (-1), aI 1]]
  T4 := fun r i => ((ofRun oaT1 oaS0 2 [1] [.row 54 0 1 0 2] [54] i (fun _ => undef) r).getD (.normal, [], [])).2.1
def oaT : List AVal := [.junk, .junk, .junk, .ptr 3 0 0] ++ jkk 109
def oaS : List AObj := [.free, .mapo false [1] [.agg (upL plE)], .mapo false [1] [.list 2 [iV 1, iV (-1)]], .box [.mp 1, .row 36 0 1 0 2, .mp 2]] ++ List.replicate 32 .free ++ [.row 1 0 none [aI 1, aI (-1)]] ++ List.replicate 17 .free ++ [.row 1 0 none [aI (-1), aI 1]]
noncomputable def oaZ : AExit × List AVal × List AObj := (evalC c01 ev1 ofLv 0 0 60 ofZ oaT oaS).getD (.normal, [], [])
def oaR : AVal := .ptr 3 0 0
def oaW : PVal := .ptr [.map [1] [.agg plE], .list 2 [iV 1, iV (-1)], .map [1] [.list 2 [iV 1, iV (-1)]]]
theorem oa_head : evalL c01 ev1 ofLv 0 0 60 (headL 5 ofB) (upL [plA] ++ List.replicate (ofA.ntmps - (upL [plA]).length) (.v undef)) [] = some (oaT0, oaS0) := by kernel_rfl
theorem oa_pre : runOps c01 ev1 0 of16 (of16.toList.take 4) oaT0 oaS0 = some (oaT1, oaS0) := by kernel_rfl
theorem oa_fam : famA oaS0 2 [1] [.row 54 0 1 0 2] [.list 2 [iV 1, iV (-1)]] [54] [.row 1 0 none [aI (-1), aI 1]] (fun _ => false) = oaS0 := by kernel_rfl
theorem oa_runs : (fun (us : Nat → Value) (r : Nat) => (List.range 1).map fun i => ofRun oaT1 oaS0 2 [1] [.row 54 0 1 0 2] [54] i us r) = fun us r => (List.range 1).map fun i =>
    some (AExit.normal, oaD.T4 r i, hideAll (others [54] i) ((oaS0.set ([54].getD i 0) (oaD.Xs.getD i .free)).set 2 (.mapo false [1] (blur us i 0 ([.row 54 0 1 0 2].set i (oaD.ys.getD i .junk))))) ++ List.replicate 9 .free) := by kernel_rfl
theorem oa_tail : evalC c01 ev1 ofLv 0 0 60 ofZ oaT oaS = some (.ret, oaZ.2.1, oaZ.2.2) := by kernel_rfl
theorem oa_res : resultsA c01.P ofA.results oaZ.2.1 oaZ.2.2 = some oaR := by kernel_rfl
theorem oa_peek : Vm.peek (Vm.mark 0 deep oaZ.2.2 oaR) deep oaR = some oaW := by kernel_rfl
theorem oa_ok : OfOk plA oaT0 oaS0 oaD oaT oaZ.2.1 oaS oaZ.2.2 oaR oaW where
  head := oa_head
  pre := oa_pre
  fam := oa_fam
  mp := by kernel_rfl
  len := by kernel_rfl
  nodup := of_decide_eq_true (by kernel_rfl)
  closed := by kernel_rfl
  closedT := fun r => by kernel_rfl
  ent := by kernel_rfl
  runs := oa_runs
  back := by kernel_rfl
  fin := by kernel_rfl
  all := by kernel_rfl
  tail := oa_tail
  res := oa_res
  peek := oa_peek
theorem ofA_calls : CallsP Tryz.prog 47 [plA] oaW := of_ok oa_ok
end Go.Proofs.YtkkgimhbliocoaaGreat
