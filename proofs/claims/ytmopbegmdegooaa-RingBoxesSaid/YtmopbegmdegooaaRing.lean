/- A ring's area: its function's answer. -/
import Derived.Test.YtmopbegmdegooaaSegs
namespace Go.Proofs.Ytmopbegmdegooaa
open Go Go.RowKit Go.Shelf M
attribute [local go_sem] Oper.semAt_some
set_option linter.unusedVariables false
set_option linter.unusedSimpArgs false
theorem rp_pt {L : Addr → Value → Prop} {p : P2} {v : Value} (h : Vm.Rp L (ptP p) v) : v = ptV p := by
  simp only [ptP, Vm.Rp, Vm.Rps] at h
  obtain ⟨cs, rfl, hs, ⟨y, hy, rfl⟩, ⟨z, hz, rfl⟩, _⟩ := h
  unfold ptV
  congr 1
  apply Array.ext
  · simpa using hs
  · intro i h1 h2
    simp only [List.length_cons, List.length_nil] at hs
    have : i = 0 ∨ i = 1 := by omega
    rcases this with rfl | rfl
    · rw [Array.getElem?_eq_getElem h1] at hy; simpa using hy
    · rw [Array.getElem?_eq_getElem h1] at hz; simpa using hz
theorem pt_rp {L : Addr → Value → Prop} (p : P2) : Vm.Rp L (ptP p) (ptV p) := by
  simp only [ptP, Vm.Rp, Vm.Rps, ptV]
  exact ⟨_, rfl, rfl, ⟨_, rfl, rfl⟩, ⟨_, rfl, rfl⟩, trivial⟩
theorem pure_in {F : FuncId} {ps : List Vm.PVal} {r : Vm.PVal} (h : Vm.CallsP Try.prog F ps r) {vs : Array Value} (hs : vs.size = ps.length) (hr : ∀ L, Vm.Rps L ps (fun i y => vs[i]? = some y) 0) (W : World) :
    Calls Try.prog F vs W fun e W' => (∃ v, e = .returned v ∧ ∃ L, Vm.Rp L r v) ∧ Below W.heap.size W W' :=
  (h (fun _ _ => False) W vs (fun _ _ h => h.elim) hs (hr _)).mono fun e W' ⟨v, ok', h1, h2, _, _, _, h3⟩ => ⟨⟨v, h1, _, h3⟩, h2⟩
theorem near_in (p : P2) (W : World) : Calls Try.prog 56 #[ptV p] W fun e W' => e = .returned (ptV (nearP p)) ∧ Below W.heap.size W W' :=
  (pure_in (near_calls p) (vs := #[ptV p]) rfl (fun L => ⟨⟨_, rfl, pt_rp p⟩, trivial⟩) W).mono fun e W' ⟨⟨v, h1, L, h2⟩, h3⟩ => ⟨by rw [h1, rp_pt h2], h3⟩
theorem on_in (a b p : P2) (W : World) : Calls Try.prog 54 #[ptV a, ptV b, ptV p] W fun e W' => e = .returned (.bool (on a b p)) ∧ Below W.heap.size W W' :=
  (pure_in (on_calls a b p) (vs := #[ptV a, ptV b, ptV p]) rfl (fun L => ⟨⟨_, rfl, pt_rp a⟩, ⟨_, rfl, pt_rp b⟩, ⟨_, rfl, pt_rp p⟩, trivial⟩) W).mono fun e W' ⟨⟨v, h1, L, h2⟩, h3⟩ => ⟨by rw [h1]; simp only [bP, Vm.Rp] at h2; rw [h2], h3⟩
/-- A block of cells is there. -/
def Cells (W : World) (B : Nat) (t : TypeId) (cs : Array Value) : Prop := W.heap[B]? = some (.cells cs t (0, 0))
theorem Cells.own {β : Type} (B : Nat) (t : TypeId) (cs : β → Array Value) : Own fun s W => Cells W B t (cs s) := fun s W W' row h hg hr => by
  unfold Cells at h ⊢
  refine (hg.block B (Array.getElem?_eq_some_iff.1 h).1 fun e => ?_).trans h
  obtain ⟨o, ho, hc⟩ := hr B e.symm
  rw [h, Option.some.injEq] at ho
  subst ho
  simp [Obj.isCells] at hc
theorem Cells.lt {W : World} {B : Nat} {t : TypeId} {cs : Array Value} (h : Cells W B t cs) : B < W.heap.size := (Array.getElem?_eq_some_iff.1 h).1
theorem Cells.cell {W : World} {B : Nat} {t : TypeId} {cs : Array Value} (h : Cells W B t cs) (i : Nat) : W.cell? ⟨B, i, none⟩ = cs[i]? := by simp [World.cell?, show W.heap[B]? = _ from h]
theorem Cells.frozen {W : World} {B : Nat} {t : TypeId} {cs : Array Value} (h : Cells W B t cs) (i : Nat) (hi : i < cs.size) : W.frozen? ⟨B, i, none⟩ = false := by simp [World.frozen?, show W.heap[B]? = _ from h]
theorem Cells.below {N : Nat} {X Y : World} {B : Nat} {t : TypeId} {cs : Array Value} (h : Cells X B t cs) (hb : Below N X Y) (hB : B < N) : Cells Y B t cs := (hb.block B hB).trans h
theorem Cells.after {X Y : World} {B : Nat} {t : TypeId} {cs : Array Value} (hb : Below X.heap.size X Y) (h : Cells X B t cs) : Cells Y B t cs := h.below hb h.lt
theorem Cells.set {W : World} {B : Nat} {t : TypeId} {cs : Array Value} (h : Cells W B t cs) (i : Nat) (v : Value) : Cells (W.setCell ⟨B, i, none⟩ v) B t (cs.setIfInBounds i v) := by
  obtain ⟨hlt, hk⟩ := Array.getElem?_eq_some_iff.1 h
  show (W.heap.modify B _)[B]? = _
  rw [Array.getElem?_eq_getElem (by rw [Array.size_modify]; exact hlt), Array.getElem_modify_self, hk]
  rfl
theorem Cells.other {W : World} {B : Nat} {t : TypeId} {cs : Array Value} (h : Cells W B t cs) {p : Addr} (hne : B ≠ p.block) (v : Value) : Cells (W.setCell p v) B t cs := (Below.heap_setCell _ _ _ _ hne).trans h
theorem below_after {N : Nat} {X Y Z : World} (h' : Below Y.heap.size Y Z) (h : Below N X Y) (hN : N ≤ X.heap.size) : Below N X Z := h.trans (h'.mono (Nat.le_trans hN h.size))
theorem keepsFrom_below {B : Nat} {X Y : World} (h : Below X.heap.size X Y) : KeepsFrom B X Y := ⟨h.size, fun k o _ hk _ => (h.block k (Array.getElem?_eq_some_iff.1 hk).1).trans hk⟩
theorem Cells.new (W : World) (t : TypeId) (cs : Array Value) : Cells (W.alloc (.cells cs t)) W.heap.size t cs := World.alloc_heap_new W _
def segStep (s : Int) (x : SegP) : Int := IntKind.i64.wrap (s + IntKind.i64.wrap (IntKind.i64.wrap ((nearP x.1).1 * (nearP x.2).2) - IntKind.i64.wrap ((nearP x.1).2 * (nearP x.2).1)))
def segSum (pre : List SegP) : Int := pre.foldl segStep 0
set_option maxRecDepth 100000 in
set_option maxHeartbeats 2000000 in
theorem area2_in (n : Nat) (hn : 8 ≤ n) (sv : Value) (ps : List P2) (hlen : ps.length < 4611686018427387904) (h3 : 3 ≤ ps.length) (w : World) (hI : HoldsP w.heap.size w sv ps) :
    CallsIn Fence.wide n Try.prog 23 #[sv] w fun e w' => e = .returned (.int .i64 (segSum (upto (segAt ps) ps.length))) ∧ Below w.heap.size w w' := by
  obtain ⟨A, cap, hsv, hl⟩ := id hI
  subst hsv
  refine callsIn_of_wp_marks Try.func23 rfl trivial ?_ rfl
  simp only [Try.ntmps23, List.size_toArray, List.length_cons, List.length_nil, Nat.reduceAdd, Nat.reduceSub, Array.replicate_succ, Array.replicate_zero, List.push_toArray, List.append_toArray, List.nil_append, List.cons_append]
  have hlt : ¬ ((ps.length : Int) < 3) := by omega
  have hlt' : ¬ (ps.length < 3) := by omega
  gi_wp2
  refine ⟨trivial, fun _ => by omega, (segments_in (n - 1) (by omega) _ _ _ _).mono ?_⟩
  rintro e w' ⟨rfl, rfl⟩
  gi_wp2
  have hB0 : Below w.heap.size w ((w.alloc (.cells #[.int .i64 0] 2)).alloc (.cells #[.slice A ps.length cap] 24)) := ((Below.refl _ w).alloc (Nat.le_refl _) _).alloc (by simp) _
  have bN : Cells ((w.alloc (.cells #[.int .i64 0] 2)).alloc (.cells #[.slice A ps.length cap] 24)) w.heap.size 2 #[.int .i64 0] :=
    (Cells.new w 2 _).below ((Below.refl (w.heap.size + 1) _).alloc (by simp) _) (by omega)
  have bA : Cells ((w.alloc (.cells #[.int .i64 0] 2)).alloc (.cells #[.slice A ps.length cap] 24)) (w.heap.size + 1) 24 #[.slice A ps.length cap] := by
    have := Cells.new (w.alloc (.cells #[.int .i64 0] 2)) 24 #[.slice A ps.length cap]
    rwa [World.size_alloc] at this
  have hsz : ((w.alloc (.cells #[.int .i64 0] 2)).alloc (.cells #[.slice A ps.length cap] 24)).heap.size = w.heap.size + 2 := by simp
  obtain ⟨W0, hW0⟩ : ∃ W0, (w.alloc (.cells #[.int .i64 0] 2)).alloc (.cells #[.slice A ps.length cap] 24) = W0 := ⟨_, rfl⟩
  rw [hW0] at hB0 bN bA hsz ⊢
  clear hW0
  refine wpIn_rangeFunc_ownH rfl (by omega) (gf := 79) (lb := #[.pointer (some ⟨w.heap.size + 1, 0, none⟩)]) rfl trivial (enters_of Try.func79 (by kernel_rfl) rfl)
    (segs_stops (n - 1) (by omega) (w.heap.size + 1) w.heap.size _ ps hlen W0 (by omega) (by omega) (by have := bA.cell 0; simpa using this) (hI.below hB0)) (fun h k => h.trans k) (kpS_b (by omega) (by omega)) (Below.refl _ _) (fun _ => rfl)
    (fun pre W => Cells W w.heap.size 2 #[.int .i64 (segSum pre)] ∧ Below w.heap.size W0 W)
    (fun _ _ _ => False)
    (OwnFrom.and (Own.from (Cells.own _ _ fun pre => #[.int .i64 (segSum pre)]) _) (ownFrom_below (by omega) (by omega)))
    (fun c => fun _ _ _ _ h _ _ => h)
    ⟨bN, Below.refl _ _⟩
    (fun x a' W => ∃ Bx By, w.heap.size + 1 < Bx ∧ Bx < By ∧ Cells W Bx 23 #[.int .i64 x.1.1, .int .i64 x.1.2] ∧ Cells W By 23 #[.int .i64 x.2.1, .int .i64 x.2.2] ∧
      a' = { tmps := #[.slice A ps.length cap, undef, .int .i64 0, .pointer (some ⟨w.heap.size, 0, none⟩), .pointer (some ⟨Bx, 0, none⟩), .pointer (some ⟨By, 0, none⟩), .slice A ps.length cap, .int .i64 ps.length, .bool false, .slice A ps.length cap,
        .func (.func 79) #[] #[.pointer (some ⟨w.heap.size + 1, 0, none⟩)], ptV x.1, ptV x.2, undef, undef, undef, undef, undef, undef, undef, undef, undef, undef, undef, undef, undef, undef, undef, undef, undef, undef], defers := [] })
    (fun x a' _ X Y row hs hg hr => by
      obtain ⟨Bx, By, e1, e2, e3, e4, e5⟩ := hs
      exact ⟨Bx, By, e1, e2, Cells.own Bx 23 (fun (_ : Unit) => #[.int .i64 x.1.1, .int .i64 x.1.2]) () X Y row e3 hg (fun r e => (hr r e).2), Cells.own By 23 (fun (_ : Unit) => #[.int .i64 x.2.1, .int .i64 x.2.2]) () X Y row e4 hg (fun r e => (hr r e).2), e5⟩)
    ?assign ?body ?done ?stop
  case assign =>
    rintro l pre x W K ⟨hN, hB⟩ hK
    unfold ptV
    gi_wp2
    have hb2 : Below W.heap.size W ((W.alloc (.cells #[.int .i64 x.1.1, .int .i64 x.1.2] 23)).alloc (.cells #[.int .i64 x.2.1, .int .i64 x.2.2] 23)) := ((Below.refl _ W).alloc (Nat.le_refl _) _).alloc (by simp) _
    have hsW := hB.size
    refine hK _ _ (((KeepsOthers.alloc _ _).trans (KeepsOthers.alloc _ _)).from _) (KpS.of_below hb2 (by omega) (by omega)) ⟨hN.below hb2 hN.lt, hB.trans (hb2.mono (by omega))⟩ ⟨W.heap.size, W.heap.size + 1, by omega, by omega, ?_, ?_, by simp [ptV]⟩
    · exact (Cells.new W 23 _).below ((Below.refl (W.heap.size + 1) _).alloc (by simp) _) (by omega)
    · have := Cells.new (W.alloc (.cells #[.int .i64 x.1.1, .int .i64 x.1.2] 23)) 23 #[.int .i64 x.2.1, .int .i64 x.2.2]
      rwa [World.size_alloc] at this
  case body =>
    rintro l pre x a' W hl ⟨r, hr⟩ ⟨hN, hB⟩ ⟨Bx, By, h1, h2, hX, hY, rfl⟩ hlt
    have hX0 : Cells W.drew Bx 23 #[.int .i64 x.1.1, .int .i64 x.1.2] := hX
    have hY0 : Cells W.drew By 23 #[.int .i64 x.2.1, .int .i64 x.2.2] := hY
    have hN0 : Cells W.drew w.heap.size 2 #[.int .i64 (segSum pre)] := hN
    have hBW0 : Below W.heap.size W W.drew := (Below.refl _ W).drew
    have x00 := hX0.cell 0
    have x01 := hX0.cell 1
    have y00 := hY0.cell 0
    have y01 := hY0.cell 1
    have xf0 := hX0.frozen 0 (by simp)
    have yf0 := hY0.frozen 0 (by simp)
    simp only [List.getElem?_toArray, List.getElem?_cons_zero, List.getElem?_cons_succ] at x00 x01 y00 y01
    have hne : ¬ Bx = By := by omega
    have hne2 : ¬ By = Bx := by omega
    gi_wp2
    gi_region_with (refine ⟨trivial, fun _ => by omega, ?_⟩; refine (CallsIn.inRound l (callsIn_wide.2 (near_in _ _))).mono ?_; rintro e W1 ⟨rfl, hb1⟩; unfold ptV; have hBW := below_after (N := W.heap.size) (X := W) hb1 (by assumption) (Nat.le_refl _); have hX1 := Cells.after (B := Bx) (t := 23) (cs := #[.int .i64 x.1.1, .int .i64 x.1.2]) hb1 (by assumption); have hY1 := Cells.after (B := By) (t := 23) (cs := #[.int .i64 x.2.1, .int .i64 x.2.2]) hb1 (by assumption); have hN1 := Cells.after (B := w.heap.size) (t := 2) (cs := #[.int .i64 (segSum pre)]) hb1 (by assumption); have x10 : W1.cell? ⟨Bx, 0, none⟩ = some (.int .i64 x.1.1) := hX1.cell 0; have x11 : W1.cell? ⟨Bx, 1, none⟩ = some (.int .i64 x.1.2) := hX1.cell 1; have y10 : W1.cell? ⟨By, 0, none⟩ = some (.int .i64 x.2.1) := hY1.cell 0; have y11 : W1.cell? ⟨By, 1, none⟩ = some (.int .i64 x.2.2) := hY1.cell 1; have n10 : W1.cell? ⟨w.heap.size, 0, none⟩ = some (.int .i64 (segSum pre)) := hN1.cell 0; have xf1 := hX1.frozen 0 (by simp); have yf1 := hY1.frozen 0 (by simp); have nf1 := hN1.frozen 0 (by simp); have xf2 := hX1.frozen 1 (by simp); have yf2 := hY1.frozen 1 (by simp); gi_wp2)
    all_goals (
      have hsW := hB.size
      have hNx : w.heap.size ≠ Bx := by omega
      have hNy : w.heap.size ≠ By := by omega
      have hXV := (((hX1.set 0 (.int .i64 (nearP x.1).1)).set 1 (.int .i64 (nearP x.1).2)).other (p := ⟨By, 0, none⟩) hne (.int .i64 (nearP x.2).1)).other (p := ⟨By, 1, none⟩) hne (.int .i64 (nearP x.2).2)
      have hYV := (((hY1.other (p := ⟨Bx, 0, none⟩) hne2 (.int .i64 (nearP x.1).1)).other (p := ⟨Bx, 1, none⟩) hne2 (.int .i64 (nearP x.1).2)).set 0 (.int .i64 (nearP x.2).1)).set 1 (.int .i64 (nearP x.2).2)
      have hNV := (((hN1.other (p := ⟨Bx, 0, none⟩) hNx (.int .i64 (nearP x.1).1)).other (p := ⟨Bx, 1, none⟩) hNx (.int .i64 (nearP x.1).2)).other (p := ⟨By, 0, none⟩) hNy (.int .i64 (nearP x.2).1)).other (p := ⟨By, 1, none⟩) hNy (.int .i64 (nearP x.2).2)
      have hKV := (((keepsFrom_below (B := W0.heap.size) hBW).trans ((KeepsOthers.setCell _ ⟨Bx, 0, none⟩ (.int .i64 (nearP x.1).1)).from _)).trans ((KeepsOthers.setCell _ ⟨Bx, 1, none⟩ (.int .i64 (nearP x.1).2)).from _)).trans (((KeepsOthers.setCell _ ⟨By, 0, none⟩ (.int .i64 (nearP x.2).1)).from _).trans ((KeepsOthers.setCell _ ⟨By, 1, none⟩ (.int .i64 (nearP x.2).2)).from _))
      have hBV : Below (w.heap.size + 2) W _ := ((((hBW.mono (by omega)).setCell (p := ⟨Bx, 0, none⟩) (by simp only; omega) (.int .i64 (nearP x.1).1)).setCell (p := ⟨Bx, 1, none⟩) (by simp only; omega) (.int .i64 (nearP x.1).2)).setCell (p := ⟨By, 0, none⟩) (by simp only; omega) (.int .i64 (nearP x.2).1)).setCell (p := ⟨By, 1, none⟩) (by simp only; omega) (.int .i64 (nearP x.2).2)
      obtain ⟨V, hV⟩ : ∃ V, ((((W1.setCell ⟨Bx, 0, none⟩ (.int .i64 (nearP x.1).1)).setCell ⟨Bx, 1, none⟩ (.int .i64 (nearP x.1).2)).setCell ⟨By, 0, none⟩ (.int .i64 (nearP x.2).1)).setCell ⟨By, 1, none⟩ (.int .i64 (nearP x.2).2)) = V := ⟨_, rfl⟩
      rw [hV] at hXV hYV hNV hKV hBV ⊢
      clear hV
      have v0 : V.cell? ⟨Bx, 0, none⟩ = some (.int .i64 (nearP x.1).1) := hXV.cell 0
      have v1 : V.cell? ⟨Bx, 1, none⟩ = some (.int .i64 (nearP x.1).2) := hXV.cell 1
      have v2 : V.cell? ⟨By, 0, none⟩ = some (.int .i64 (nearP x.2).1) := hYV.cell 0
      have v3 : V.cell? ⟨By, 1, none⟩ = some (.int .i64 (nearP x.2).2) := hYV.cell 1
      have v4 : V.cell? ⟨w.heap.size, 0, none⟩ = some (.int .i64 (segSum pre)) := hNV.cell 0
      have v5 := hNV.frozen 0 (by simp)
      gi_wp2
      have es : segSum (pre ++ [x]) = segStep (segSum pre) x := by simp [segSum, List.foldl_append]
      refine ⟨hKV.trans ((KeepsOthers.setCell _ _ _).from _), ⟨(hBV.mono (B' := w.heap.size) (by omega)).setCell (p := ⟨w.heap.size, 0, none⟩) (Nat.le_refl _) _, ?_⟩, ?_, hB.trans ((hBV.mono (B' := w.heap.size) (by omega)).setCell (p := ⟨w.heap.size, 0, none⟩) (Nat.le_refl _) _)⟩
      · rw [Below.heap_setCell _ _ _ _ (by simp only; omega)]
        exact hBV.block _ (by omega)
      · rw [es]
        have := hNV.set 0 (.int .i64 (segStep (segSum pre) x))
        simpa only [segStep, IntWalk.i64_left, List.setIfInBounds_toArray, List.set_cons_zero] using this)
  case done =>
    rintro D ys W hD rfl ⟨hc, hB⟩ hK
    have c0 : W.cell? ⟨w.heap.size, 0, none⟩ = some (.int .i64 (segSum (upto (segAt ps) ps.length))) := hc.cell 0
    gi_wp2
    refine ⟨by simp, .inl ⟨_, _, rfl, run_takeDeferred hK, ?_⟩⟩
    refine ⟨_, results_tmp rfl _ _ _, rfl, ?_⟩
    exact (hB0.trans hB).trans (belowK_b (w := w) (Nat.le_refl _) W D _ _ (by omega) hK rfl rfl)
  case stop =>
    rintro D c pre W _ _ h _
    exact h.elim
end Go.Proofs.Ytmopbegmdegooaa
