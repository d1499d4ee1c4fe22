/- Texts put together: Segs, Ring, RingMath, Ring2, Ring3. What is proved stands at the head of each part. -/
import Derived.Test.YtkkgimhbliocoaaGreatBnLawFindEmpty10
import Derived.RangeFuncNested
import Derived.RangeFuncBound
import Derived.Shelf.Abstract
import Derived.Shelf.RegionOpen
import Derived.WalkKit
import Derived.OwnWalkIn
import Derived.TacticsInMore
import Derived.LoopIn
/- A range over a ring's segments: the iterator's contract. -/
namespace Go.Proofs.YtkkgimhbliocoaaGreat
open Go Go.RowKit Go.Shelf M
attribute [local go_sem] Oper.semAt_some
set_option linter.unusedVariables false
set_option linter.unusedSimpArgs false
def ptV (p : P2) : Value := .agg #[.int .i64 p.1, .int .i64 p.2]
def upto {α : Type} (f : Nat → α) (k : Nat) : List α := (List.range k).map f
theorem upto_succ {α : Type} (f : Nat → α) (k : Nat) : upto f (k + 1) = upto f k ++ [f k] := by simp [upto, List.range_succ]
theorem upto_length {α : Type} (f : Nat → α) (k : Nat) : (upto f k).length = k := by simp [upto]
abbrev SegP := P2 × P2
/-- The k-th segment of a ring. -/
def segAt (ps : List P2) (k : Nat) : SegP := (ps[k]?.getD (0, 0), ps[(k + 1) % ps.length]?.getD (0, 0))
/-- What a round keeps: all that lay ahead, and the ring's box. -/
def KpS (n₀ Bs : Nat) (A B : World) : Prop := Below n₀ A B ∧ B.heap[Bs]? = A.heap[Bs]?
theorem KpS.trans {n₀ Bs : Nat} {A B C : World} (h : KpS n₀ Bs A B) (k : KpS n₀ Bs B C) : KpS n₀ Bs A C := ⟨h.1.trans k.1, k.2.trans h.2⟩
theorem KpS.refl (n₀ Bs : Nat) (A : World) : KpS n₀ Bs A A := ⟨Below.refl _ _, rfl⟩
theorem KpS.of_below {n₀ Bs B : Nat} {X Y : World} (h : Below B X Y) (h1 : n₀ ≤ B) (h2 : Bs < B) : KpS n₀ Bs X Y := ⟨h.mono h1, h.block Bs h2⟩
theorem kpS_b {n₀ Bs : Nat} {w : World} (hn : n₀ ≤ w.heap.size) (hB : Bs < w.heap.size) (W : World) (l : Nat) (o o' : Obj) (hl : w.heap.size ≤ l) (h : W.heap[l]? = some o) (h1 : o.isCells = false) (h2 : o.isWalk = false) : KpS n₀ Bs W (W.putObj l o') := by
  refine ⟨belowK_b hn W l o o' hl h h1 h2, ?_⟩
  exact (belowK_b (n₀ := w.heap.size) (Nat.le_refl _) W l o o' hl h h1 h2).block Bs hB
theorem segments_in (n : Nat) (hn : 1 ≤ n) (a : Option Addr) (len cap : Nat) (w : World) :
    CallsIn Fence.wide n Tryz.prog 162 #[.slice a len cap] w fun e w' => e = .returned (.func (.func 202) #[] #[.pointer (some ⟨w.heap.size, 0, none⟩)]) ∧ w' = w.alloc (.cells #[.slice a len cap] 31) := by
  refine callsIn_of_wp Tryz.func162 rfl trivial ?_ rfl
  simp only [Tryz.ntmps162, List.size_toArray, List.length_cons, List.length_nil, Nat.reduceAdd, Nat.reduceSub, Array.replicate_succ, Array.replicate_zero, List.push_toArray, List.append_toArray, List.nil_append, List.cons_append]
  gi_wp2
  go_ret
  exact ⟨rfl, rfl⟩
set_option maxRecDepth 100000 in
set_option maxHeartbeats 2000000 in
theorem segs1_in (n : Nat) (hn : 1 ≤ n) (l Bs n₀ b off cap : Nat) (ps : List P2) (hlen : ps.length < 4611686018427387904) (hb : b < n₀) (J Jx : List SegP → World → Prop)
    (hJ : ∀ s W o, J s W → J s (W.alloc o)) (hD : ∀ s W, J s W → J s W.drew)
    (hY : ∀ pre x W, J pre W → pre.length < ps.length → YieldAt Fence.wide (n - 1) Tryz.prog l #[ptV x.1, ptV x.2] W fun e W' =>
      (e = .returned (.bool true) ∧ J (pre ++ [x]) W' ∧ KpS n₀ Bs W W') ∨ (e = .returned (.bool false) ∧ Jx (pre ++ [x]) W'))
    (W : World) (hBs : W.cell? ⟨Bs, 0, none⟩ = some (.slice (some ⟨b, off, none⟩) ps.length cap)) (hBn : Bs < W.heap.size) (hnW : n₀ ≤ W.heap.size)
    (hc : ∀ j, j < ps.length → W.cell? ⟨b, off + j * 2, none⟩ = some (.int .i64 (ps[j]?.getD (0, 0)).1) ∧ W.cell? ⟨b, off + j * 2 + 1, none⟩ = some (.int .i64 (ps[j]?.getD (0, 0)).2)) (h0 : J [] W) :
    CallsIn Fence.wide n Tryz.prog 202 #[.func (.yield l) #[] #[], .pointer (some ⟨Bs, 0, none⟩)] W fun e W' => (∃ v, e = .returned v) ∧
      ((∃ ys, ys = upto (segAt ps) ps.length ∧ J ys W') ∨ (∃ pre, (∃ k, k ≤ ps.length ∧ pre = upto (segAt ps) k) ∧ Jx pre W')) := by
  refine callsIn_of_wp Tryz.func202 rfl trivial ?_ rfl
  simp only [Tryz.ntmps202, List.size_toArray, List.length_cons, List.length_nil, Nat.reduceAdd, Nat.reduceSub, Array.replicate_succ, Array.replicate_zero, List.push_toArray, List.append_toArray, List.nil_append, List.cons_append]
  gi_wp2
  gi_loopw [7] (fun i wr => ∃ k : Nat, k ≤ ps.length ∧ i = .int .i64 k ∧ J (upto (segAt ps) k) wr ∧ KpS n₀ Bs W wr)
    (fun i _ => ps.length - (intOf i).toNat)
  case atStart => exact ⟨0, Nat.zero_le _, rfl, h0, KpS.refl _ _ _⟩
  case round =>
    obtain ⟨k, hk, rfl, hJs, hnx⟩ := hrel
    have hcx : ∀ j, j < ps.length → wr.cell? ⟨b, off + j * 2, none⟩ = some (.int .i64 (ps[j]?.getD (0, 0)).1) ∧ wr.cell? ⟨b, off + j * 2 + 1, none⟩ = some (.int .i64 (ps[j]?.getD (0, 0)).2) := fun j h => ⟨(hnx.1.cell (p := ⟨b, off + j * 2, none⟩) hb).trans (hc j h).1, (hnx.1.cell (p := ⟨b, off + j * 2 + 1, none⟩) hb).trans (hc j h).2⟩
    have hBw := (World.cell?_of_block (w := W) (a := ⟨Bs, 0, none⟩) hnx.2).trans hBs
    have hBnr : Bs < wr.heap.size := Nat.lt_of_lt_of_le hBn hnx.1.size
    by_cases hlt : k < ps.length
    · have hcx' := hcx k hlt
      have hBel : KpS n₀ Bs W ((wr.alloc (Obj.cells #[.int .i64 ps[k].1, .int .i64 ps[k].2] 27)).drew) := hnx.trans (KpS.of_below (((Below.refl wr.heap.size wr).alloc (Nat.le_refl _) _).drew) (Nat.le_trans hnW hnx.1.size) hBnr)
      have hb1 := (World.cell?_of_block (w := W) (a := ⟨Bs, 0, none⟩) hBel.2).trans hBs
      have hb2 := fun j h => (hBel.1.cell (p := ⟨b, off + j * 2, none⟩) hb).trans (hc j h).1
      have hb3 := fun j h => (hBel.1.cell (p := ⟨b, off + j * 2 + 1, none⟩) hb).trans (hc j h).2
      have hb4 := hb2 ((k + 1) % ps.length) (Nat.mod_lt _ (by omega))
      have hb5 := hb3 ((k + 1) % ps.length) (Nat.mod_lt _ (by omega))
      have hne : ¬ ps = [] := fun h => by subst h; simp at hlt
      obtain ⟨m, hm⟩ : ∃ m, (k + 1) % ps.length = m := ⟨_, rfl⟩
      have hml : m < ps.length := hm ▸ Nat.mod_lt (k + 1) (y := ps.length) (by omega)
      have hidx : (IntKind.i64.wrap ((k : Int) + 1)).tmod (ps.length : Int) = (m : Int) := by
        rw [IntWalk.i64_in _ (by omega), Int.tmod_eq_emod_of_nonneg (by omega), ← hm]
        rfl
      rw [hm] at hb4 hb5
      have hseg : segAt ps k = (ps[k], ps[m]) := by simp [segAt, hm, hlt, hml]
      obtain ⟨fn, tmps, assign, body, hy, hR⟩ := hY (upto (segAt ps) k) (ps[k], ps[m]) _ (hD _ _ (hJ _ _ (Obj.cells #[.int .i64 ps[k].1, .int .i64 ps[k].2] 27) hJs)) (by rw [upto_length]; exact hlt)
      simp only [ptV] at hy
      have hR' := hR.mono (R' := fun e W' => ∃ bb : Bool, e = .returned (.bool bb) ∧ (bb = true → J (upto (segAt ps) (k + 1)) W' ∧ KpS n₀ Bs W W') ∧ (bb = false → Jx (upto (segAt ps) (k + 1)) W')) (by
        rintro e W' (⟨rfl, h1, h2⟩ | ⟨rfl, h1⟩)
        · exact ⟨true, rfl, fun _ => ⟨by rw [upto_succ, hseg]; exact h1, hBel.trans h2⟩, fun h => by cases h⟩
        · exact ⟨false, rfl, fun h => (by cases h), fun _ => by rw [upto_succ, hseg]; exact h1⟩)
      clear hR
      gi_wp2
      gi_region_with (refine hR'.mono ?_; rintro e W3 ⟨bb, rfl, hbt, hbf⟩; gi_wp2)
      all_goals (
        cases bb
        · gi_wp2
          refine bodyPost_ret (results_none rfl _ _ _) rfl ?_
          exact ⟨⟨_, rfl⟩, .inr ⟨_, ⟨k + 1, by omega, rfl⟩, hbf (by simp)⟩⟩
        · gi_wp2
          go_roundw
          case rel => exact ⟨k + 1, by omega, by simp, (hbt (by simp)).1, (hbt (by simp)).2⟩
          case measure => simp [intOf]; omega)
    · obtain rfl : k = ps.length := by omega
      gi_wp2
      go_end0
      exact ⟨⟨_, rfl⟩, .inl ⟨_, rfl, hJs⟩⟩
set_option maxRecDepth 100000 in
set_option maxHeartbeats 1000000 in
/-- .. of no points: no round. -/
theorem segs1_nil_in (n : Nat) (l Bs : Nat) (A : Option Addr) (cap : Nat) (J : List SegP → World → Prop) (W : World) (hBs : W.cell? ⟨Bs, 0, none⟩ = some (.slice A 0 cap)) (h0 : J [] W) :
    CallsIn Fence.wide n Tryz.prog 202 #[.func (.yield l) #[] #[], .pointer (some ⟨Bs, 0, none⟩)] W fun e W' => (∃ v, e = .returned v) ∧ J [] W' := by
  refine callsIn_of_wp Tryz.func202 rfl trivial ?_ rfl
  simp only [Tryz.ntmps202, List.size_toArray, List.length_cons, List.length_nil, Nat.reduceAdd, Nat.reduceSub, Array.replicate_succ, Array.replicate_zero, List.push_toArray, List.append_toArray, List.nil_append, List.cons_append]
  gi_wp2
  gi_loopw [7] (fun i wr => i = .int .i64 0 ∧ J [] wr) (fun _ _ => 0)
  case atStart => exact ⟨rfl, h0⟩
  case round =>
    obtain ⟨rfl, hJs⟩ := hrel
    gi_wp2
    go_end0
    exact ⟨⟨_, rfl⟩, hJs⟩
/-- The slice value sv holds the points ps, below n₀. -/
def HoldsP (n₀ : Nat) (W : World) (sv : Value) (ps : List P2) : Prop :=
  ∃ A cap, sv = .slice A ps.length cap ∧ (ps = [] ∨ ∃ b off, A = some ⟨b, off, none⟩ ∧ b < n₀ ∧ ∀ j, j < ps.length → W.cell? ⟨b, off + j * 2, none⟩ = some (.int .i64 (ps[j]?.getD (0, 0)).1) ∧ W.cell? ⟨b, off + j * 2 + 1, none⟩ = some (.int .i64 (ps[j]?.getD (0, 0)).2))
theorem HoldsP.below {n₀ : Nat} {X Y : World} (h : Below n₀ X Y) {sv : Value} {ps : List P2} : HoldsP n₀ X sv ps → HoldsP n₀ Y sv ps
  | ⟨A, cap, e, .inl h1⟩ => ⟨A, cap, e, .inl h1⟩
  | ⟨A, cap, e, .inr ⟨b, off, e1, hb, hc⟩⟩ => ⟨A, cap, e, .inr ⟨b, off, e1, hb, fun j hj => ⟨(h.cell (p := ⟨b, off + j * 2, none⟩) hb).trans (hc j hj).1, (h.cell (p := ⟨b, off + j * 2 + 1, none⟩) hb).trans (hc j hj).2⟩⟩⟩
theorem segs_stops (n : Nat) (hn : 1 ≤ n) (Bs n₀ : Nat) (sv : Value) (ps : List P2) (hlen : ps.length < 4611686018427387904) (w : World) (hBs : Bs < w.heap.size) (hn₀ : n₀ ≤ w.heap.size)
    (hc : w.cell? ⟨Bs, 0, none⟩ = some sv) (hI : HoldsP n₀ w sv ps) :
    SeqStopsK Fence.wide n Tryz.prog 202 #[.pointer (some ⟨Bs, 0, none⟩)] (fun x : SegP => #[ptV x.1, ptV x.2]) (KpS n₀ Bs) (fun ys => ys = upto (segAt ps) ps.length) (fun pre => ∃ k, k ≤ ps.length ∧ pre = upto (segAt ps) k) ps.length w := fun l J Jx W hW hJ _ hY h0 => by
  have hc' := (hW.cell (p := ⟨Bs, 0, none⟩) hBs).trans hc
  have hsz := hW.size
  obtain ⟨A, cap, rfl, hl⟩ := hI.below (hW.mono hn₀)
  rcases hl with rfl | ⟨b, off, rfl, hb, hcs⟩
  · exact (segs1_nil_in n l Bs A cap J W hc' h0).mono fun e W' ⟨he, hj⟩ => ⟨he, .inl ⟨[], rfl, hj⟩⟩
  · refine segs1_in n hn l Bs n₀ b off cap ps hlen hb J Jx (fun s X o h => ?_) (fun s X h => ?_) hY W hc' (by omega) (by omega) hcs h0
    · exact hJ s X _ none h (World.grownBy_alloc X o none) (fun r e => by cases e)
    · exact hJ s X _ none h ⟨rfl, rfl, rfl, Nat.le_refl _, fun _ _ _ => rfl⟩ (fun r e => by cases e)
end Go.Proofs.YtkkgimhbliocoaaGreat
/- A ring's area: its function's answer. -/
namespace Go.Proofs.YtkkgimhbliocoaaGreat
open Go Go.RowKit Go.Shelf M
attribute [local go_sem] Oper.semAt_some
set_option linter.unusedVariables false
set_option linter.unusedSimpArgs false
theorem rp_pt {L : Vm.Look} {p : P2} {v : Value} (h : Vm.Rp L (ptP p) v) : v = ptV p := by
  simp only [ptP, Vm.Rp, Vm.Rps] at h
  obtain ⟨cs, rfl, hs, ⟨y, hy, rfl⟩, ⟨z, hz, rfl⟩, _⟩ := h
  unfold ptV
  congr 1
  apply Array.ext
  · simpa using hs
  · intro i h1 h2
    simp only [List.length_cons, List.length_nil] at hs
    have : i = 0 ∨ i = 1 := by omega
    rcases this with rfl | rfl
    · rw [Array.getElem?_eq_getElem h1] at hy; simpa using hy
    · rw [Array.getElem?_eq_getElem h1] at hz; simpa using hz
theorem pt_rp {L : Vm.Look} (p : P2) : Vm.Rp L (ptP p) (ptV p) := by
  simp only [ptP, Vm.Rp, Vm.Rps, ptV]
  exact ⟨_, rfl, rfl, ⟨_, rfl, rfl⟩, ⟨_, rfl, rfl⟩, trivial⟩
theorem pure_in {F : FuncId} {ps : List Vm.PVal} {r : Vm.PVal} (h : Vm.CallsP Tryz.prog F ps r) {vs : Array Value} (hs : vs.size = ps.length) (hr : ∀ L, Vm.Rps L ps (fun i y => vs[i]? = some y) 0) (W : World) :
    Calls Tryz.prog F vs W fun e W' => (∃ v, e = .returned v ∧ ∃ L, Vm.Rp L r v) ∧ Below W.heap.size W W' :=
  (h (fun _ _ => False) W vs (fun _ _ h => h.elim) hs (hr _)).mono fun e W' ⟨v, ok', h1, h2, _, _, _, h3⟩ => ⟨⟨v, h1, _, h3⟩, h2⟩
theorem near_in (p : P2) (W : World) : Calls Tryz.prog 112 #[ptV p] W fun e W' => e = .returned (ptV (nearP p)) ∧ Below W.heap.size W W' :=
  (pure_in (near_calls p) (vs := #[ptV p]) rfl (fun L => ⟨⟨_, rfl, pt_rp p⟩, trivial⟩) W).mono fun e W' ⟨⟨v, h1, L, h2⟩, h3⟩ => ⟨by rw [h1, rp_pt h2], h3⟩
theorem on_in (a b p : P2) (W : World) : Calls Tryz.prog 126 #[ptV a, ptV b, ptV p] W fun e W' => e = .returned (.bool (on a b p)) ∧ Below W.heap.size W W' :=
  (pure_in (on_calls a b p) (vs := #[ptV a, ptV b, ptV p]) rfl (fun L => ⟨⟨_, rfl, pt_rp a⟩, ⟨_, rfl, pt_rp b⟩, ⟨_, rfl, pt_rp p⟩, trivial⟩) W).mono fun e W' ⟨⟨v, h1, L, h2⟩, h3⟩ => ⟨by rw [h1]; simp only [bP, Vm.Rp] at h2; rw [h2], h3⟩
/-- A block of cells is there. -/
def Cells (W : World) (B : Nat) (t : TypeId) (cs : Array Value) : Prop := W.heap[B]? = some (.cells cs t (0, 0))
theorem Cells.own {β : Type} (B : Nat) (t : TypeId) (cs : β → Array Value) : Own fun s W => Cells W B t (cs s) := fun s W W' row h hg hr => by
  unfold Cells at h ⊢
  refine (hg.block B (Array.getElem?_eq_some_iff.1 h).1 fun e => ?_).trans h
  obtain ⟨o, ho, hc⟩ := hr B e.symm
  rw [h, Option.some.injEq] at ho
  subst ho
  simp [Obj.isCells] at hc
theorem Cells.lt {W : World} {B : Nat} {t : TypeId} {cs : Array Value} (h : Cells W B t cs) : B < W.heap.size := (Array.getElem?_eq_some_iff.1 h).1
theorem Cells.cell {W : World} {B : Nat} {t : TypeId} {cs : Array Value} (h : Cells W B t cs) (i : Nat) : W.cell? ⟨B, i, none⟩ = cs[i]? := by simp [World.cell?, show W.heap[B]? = _ from h]
theorem Cells.frozen {W : World} {B : Nat} {t : TypeId} {cs : Array Value} (h : Cells W B t cs) (i : Nat) (hi : i < cs.size) : W.frozen? ⟨B, i, none⟩ = false := by simp [World.frozen?, show W.heap[B]? = _ from h]
theorem Cells.below {N : Nat} {X Y : World} {B : Nat} {t : TypeId} {cs : Array Value} (h : Cells X B t cs) (hb : Below N X Y) (hB : B < N) : Cells Y B t cs := (hb.block B hB).trans h
theorem Cells.after {X Y : World} {B : Nat} {t : TypeId} {cs : Array Value} (hb : Below X.heap.size X Y) (h : Cells X B t cs) : Cells Y B t cs := h.below hb h.lt
theorem Cells.set {W : World} {B : Nat} {t : TypeId} {cs : Array Value} (h : Cells W B t cs) (i : Nat) (v : Value) : Cells (W.setCell ⟨B, i, none⟩ v) B t (cs.setIfInBounds i v) := by
  obtain ⟨hlt, hk⟩ := Array.getElem?_eq_some_iff.1 h
  show (W.heap.modify B _)[B]? = _
  rw [Array.getElem?_eq_getElem (by rw [Array.size_modify]; exact hlt), Array.getElem_modify_self, hk]
  rfl
theorem Cells.other {W : World} {B : Nat} {t : TypeId} {cs : Array Value} (h : Cells W B t cs) {p : Addr} (hne : B ≠ p.block) (v : Value) : Cells (W.setCell p v) B t cs := (Below.heap_setCell _ _ _ _ hne).trans h
theorem below_after {N : Nat} {X Y Z : World} (h' : Below Y.heap.size Y Z) (h : Below N X Y) (hN : N ≤ X.heap.size) : Below N X Z := h.trans (h'.mono (Nat.le_trans hN h.size))
theorem keepsFrom_below {B : Nat} {X Y : World} (h : Below X.heap.size X Y) : KeepsFrom B X Y := ⟨h.size, fun k o _ hk _ => (h.block k (Array.getElem?_eq_some_iff.1 hk).1).trans hk⟩
theorem Cells.new (W : World) (t : TypeId) (cs : Array Value) : Cells (W.alloc (.cells cs t)) W.heap.size t cs := World.alloc_heap_new W _
def segStep (s : Int) (x : SegP) : Int := IntKind.i64.wrap (s + IntKind.i64.wrap (IntKind.i64.wrap ((nearP x.1).1 * (nearP x.2).2) - IntKind.i64.wrap ((nearP x.1).2 * (nearP x.2).1)))
def segSum (pre : List SegP) : Int := pre.foldl segStep 0
set_option maxRecDepth 100000 in
set_option maxHeartbeats 2000000 in
theorem area2_in (n : Nat) (hn : 8 ≤ n) (sv : Value) (ps : List P2) (hlen : ps.length < 4611686018427387904) (h3 : 3 ≤ ps.length) (w : World) (hI : HoldsP w.heap.size w sv ps) :
    CallsIn Fence.wide n Tryz.prog 105 #[sv] w fun e w' => e = .returned (.int .i64 (segSum (upto (segAt ps) ps.length))) ∧ Below w.heap.size w w' := by
  obtain ⟨A, cap, hsv, hl⟩ := id hI
  subst hsv
  refine callsIn_of_wp_marks Tryz.func105 rfl trivial ?_ rfl
  simp only [Tryz.ntmps105, List.size_toArray, List.length_cons, List.length_nil, Nat.reduceAdd, Nat.reduceSub, Array.replicate_succ, Array.replicate_zero, List.push_toArray, List.append_toArray, List.nil_append, List.cons_append]
  have hlt : ¬ ((ps.length : Int) < 3) := by omega
  have hlt' : ¬ (ps.length < 3) := by omega
  gi_wp2
  refine ⟨trivial, fun _ => by omega, (segments_in (n - 1) (by omega) _ _ _ _).mono ?_⟩
  rintro e w' ⟨rfl, rfl⟩
  gi_wp2
  have hB0 : Below w.heap.size w ((w.alloc (.cells #[.int .i64 0] 2)).alloc (.cells #[.slice A ps.length cap] 31)) := ((Below.refl _ w).alloc (Nat.le_refl _) _).alloc (by simp) _
  have bN : Cells ((w.alloc (.cells #[.int .i64 0] 2)).alloc (.cells #[.slice A ps.length cap] 31)) w.heap.size 2 #[.int .i64 0] :=
    (Cells.new w 2 _).below ((Below.refl (w.heap.size + 1) _).alloc (by simp) _) (by omega)
  have bA : Cells ((w.alloc (.cells #[.int .i64 0] 2)).alloc (.cells #[.slice A ps.length cap] 31)) (w.heap.size + 1) 31 #[.slice A ps.length cap] := by
    have := Cells.new (w.alloc (.cells #[.int .i64 0] 2)) 31 #[.slice A ps.length cap]
    rwa [World.size_alloc] at this
  have hsz : ((w.alloc (.cells #[.int .i64 0] 2)).alloc (.cells #[.slice A ps.length cap] 31)).heap.size = w.heap.size + 2 := by simp
  obtain ⟨W0, hW0⟩ : ∃ W0, (w.alloc (.cells #[.int .i64 0] 2)).alloc (.cells #[.slice A ps.length cap] 31) = W0 := ⟨_, rfl⟩
  rw [hW0] at hB0 bN bA hsz ⊢
  clear hW0
  refine wpIn_rangeFunc_ownH rfl (by omega) (gf := 202) (lb := #[.pointer (some ⟨w.heap.size + 1, 0, none⟩)]) rfl trivial (enters_of Tryz.func202 (by kernel_rfl) rfl)
    (segs_stops (n - 1) (by omega) (w.heap.size + 1) w.heap.size _ ps hlen W0 (by omega) (by omega) (by have := bA.cell 0; simpa using this) (hI.below hB0)) (fun h k => h.trans k) (kpS_b (by omega) (by omega)) (Below.refl _ _) (fun _ => rfl)
    (fun pre W => Cells W w.heap.size 2 #[.int .i64 (segSum pre)] ∧ Below w.heap.size W0 W)
    (fun _ _ _ => False)
    (OwnFrom.and (Own.from (Cells.own _ _ fun pre => #[.int .i64 (segSum pre)]) _) (ownFrom_below (by omega) (by omega)))
    (fun c => fun _ _ _ _ h _ _ => h)
    ⟨bN, Below.refl _ _⟩
    (fun x a' W => ∃ Bx By, w.heap.size + 1 < Bx ∧ Bx < By ∧ Cells W Bx 27 #[.int .i64 x.1.1, .int .i64 x.1.2] ∧ Cells W By 27 #[.int .i64 x.2.1, .int .i64 x.2.2] ∧
      a' = { tmps := #[.slice A ps.length cap, undef, .int .i64 0, .pointer (some ⟨w.heap.size, 0, none⟩), .pointer (some ⟨Bx, 0, none⟩), .pointer (some ⟨By, 0, none⟩), .slice A ps.length cap, .int .i64 ps.length, .bool false, .slice A ps.length cap,
        .func (.func 202) #[] #[.pointer (some ⟨w.heap.size + 1, 0, none⟩)], ptV x.1, ptV x.2, undef, undef, undef, undef, undef, undef, undef, undef, undef, undef, undef, undef, undef, undef, undef, undef, undef, undef], defers := [] })
    (fun x a' _ X Y row hs hg hr => by
      obtain ⟨Bx, By, e1, e2, e3, e4, e5⟩ := hs
      exact ⟨Bx, By, e1, e2, Cells.own Bx 27 (fun (_ : Unit) => #[.int .i64 x.1.1, .int .i64 x.1.2]) () X Y row e3 hg (fun r e => (hr r e).2), Cells.own By 27 (fun (_ : Unit) => #[.int .i64 x.2.1, .int .i64 x.2.2]) () X Y row e4 hg (fun r e => (hr r e).2), e5⟩)
    ?assign ?body ?done ?stop
  case assign =>
    rintro l pre x W K ⟨hN, hB⟩ hK
    unfold ptV
    gi_wp2
    have hb2 : Below W.heap.size W ((W.alloc (.cells #[.int .i64 x.1.1, .int .i64 x.1.2] 27)).alloc (.cells #[.int .i64 x.2.1, .int .i64 x.2.2] 27)) := ((Below.refl _ W).alloc (Nat.le_refl _) _).alloc (by simp) _
    have hsW := hB.size
    refine hK _ _ (((KeepsOthers.alloc _ _).trans (KeepsOthers.alloc _ _)).from _) (KpS.of_below hb2 (by omega) (by omega)) ⟨hN.below hb2 hN.lt, hB.trans (hb2.mono (by omega))⟩ ⟨W.heap.size, W.heap.size + 1, by omega, by omega, ?_, ?_, by simp [ptV]⟩
    · exact (Cells.new W 27 _).below ((Below.refl (W.heap.size + 1) _).alloc (by simp) _) (by omega)
    · have := Cells.new (W.alloc (.cells #[.int .i64 x.1.1, .int .i64 x.1.2] 27)) 27 #[.int .i64 x.2.1, .int .i64 x.2.2]
      rwa [World.size_alloc] at this
  case body =>
    rintro l pre x a' W hl ⟨r, hr⟩ ⟨hN, hB⟩ ⟨Bx, By, h1, h2, hX, hY, rfl⟩ hlt
    have hX0 : Cells W.drew Bx 27 #[.int .i64 x.1.1, .int .i64 x.1.2] := hX
    have hY0 : Cells W.drew By 27 #[.int .i64 x.2.1, .int .i64 x.2.2] := hY
    have hN0 : Cells W.drew w.heap.size 2 #[.int .i64 (segSum pre)] := hN
    have hBW0 : Below W.heap.size W W.drew := (Below.refl _ W).drew
    have x00 := hX0.cell 0
    have x01 := hX0.cell 1
    have y00 := hY0.cell 0
    have y01 := hY0.cell 1
    have xf0 := hX0.frozen 0 (by simp)
    have yf0 := hY0.frozen 0 (by simp)
    simp only [List.getElem?_toArray, List.getElem?_cons_zero, List.getElem?_cons_succ] at x00 x01 y00 y01
    have hne : ¬ Bx = By := by omega
    have hne2 : ¬ By = Bx := by omega
    gi_wp2
    gi_region_with (refine ⟨trivial, fun _ => by omega, ?_⟩; refine (CallsIn.inRound l (callsIn_wide.2 (near_in _ _))).mono ?_; rintro e W1 ⟨rfl, hb1⟩; unfold ptV; have hBW := below_after (N := W.heap.size) (X := W) hb1 (by assumption) (Nat.le_refl _); have hX1 := Cells.after (B := Bx) (t := 27) (cs := #[.int .i64 x.1.1, .int .i64 x.1.2]) hb1 (by assumption); have hY1 := Cells.after (B := By) (t := 27) (cs := #[.int .i64 x.2.1, .int .i64 x.2.2]) hb1 (by assumption); have hN1 := Cells.after (B := w.heap.size) (t := 2) (cs := #[.int .i64 (segSum pre)]) hb1 (by assumption); have x10 : W1.cell? ⟨Bx, 0, none⟩ = some (.int .i64 x.1.1) := hX1.cell 0; have x11 : W1.cell? ⟨Bx, 1, none⟩ = some (.int .i64 x.1.2) := hX1.cell 1; have y10 : W1.cell? ⟨By, 0, none⟩ = some (.int .i64 x.2.1) := hY1.cell 0; have y11 : W1.cell? ⟨By, 1, none⟩ = some (.int .i64 x.2.2) := hY1.cell 1; have n10 : W1.cell? ⟨w.heap.size, 0, none⟩ = some (.int .i64 (segSum pre)) := hN1.cell 0; have xf1 := hX1.frozen 0 (by simp); have yf1 := hY1.frozen 0 (by simp); have nf1 := hN1.frozen 0 (by simp); have xf2 := hX1.frozen 1 (by simp); have yf2 := hY1.frozen 1 (by simp); gi_wp2)
    all_goals (
      have hsW := hB.size
      have hNx : w.heap.size ≠ Bx := by omega
      have hNy : w.heap.size ≠ By := by omega
      have hXV := (((hX1.set 0 (.int .i64 (nearP x.1).1)).set 1 (.int .i64 (nearP x.1).2)).other (p := ⟨By, 0, none⟩) hne (.int .i64 (nearP x.2).1)).other (p := ⟨By, 1, none⟩) hne (.int .i64 (nearP x.2).2)
      have hYV := (((hY1.other (p := ⟨Bx, 0, none⟩) hne2 (.int .i64 (nearP x.1).1)).other (p := ⟨Bx, 1, none⟩) hne2 (.int .i64 (nearP x.1).2)).set 0 (.int .i64 (nearP x.2).1)).set 1 (.int .i64 (nearP x.2).2)
      have hNV := (((hN1.other (p := ⟨Bx, 0, none⟩) hNx (.int .i64 (nearP x.1).1)).other (p := ⟨Bx, 1, none⟩) hNx (.int .i64 (nearP x.1).2)).other (p := ⟨By, 0, none⟩) hNy (.int .i64 (nearP x.2).1)).other (p := ⟨By, 1, none⟩) hNy (.int .i64 (nearP x.2).2)
      have hKV := (((keepsFrom_below (B := W0.heap.size) hBW).trans ((KeepsOthers.setCell _ ⟨Bx, 0, none⟩ (.int .i64 (nearP x.1).1)).from _)).trans ((KeepsOthers.setCell _ ⟨Bx, 1, none⟩ (.int .i64 (nearP x.1).2)).from _)).trans (((KeepsOthers.setCell _ ⟨By, 0, none⟩ (.int .i64 (nearP x.2).1)).from _).trans ((KeepsOthers.setCell _ ⟨By, 1, none⟩ (.int .i64 (nearP x.2).2)).from _))
      have hBV : Below (w.heap.size + 2) W _ := ((((hBW.mono (by omega)).setCell (p := ⟨Bx, 0, none⟩) (by simp only; omega) (.int .i64 (nearP x.1).1)).setCell (p := ⟨Bx, 1, none⟩) (by simp only; omega) (.int .i64 (nearP x.1).2)).setCell (p := ⟨By, 0, none⟩) (by simp only; omega) (.int .i64 (nearP x.2).1)).setCell (p := ⟨By, 1, none⟩) (by simp only; omega) (.int .i64 (nearP x.2).2)
      obtain ⟨V, hV⟩ : ∃ V, ((((W1.setCell ⟨Bx, 0, none⟩ (.int .i64 (nearP x.1).1)).setCell ⟨Bx, 1, none⟩ (.int .i64 (nearP x.1).2)).setCell ⟨By, 0, none⟩ (.int .i64 (nearP x.2).1)).setCell ⟨By, 1, none⟩ (.int .i64 (nearP x.2).2)) = V := ⟨_, rfl⟩
      rw [hV] at hXV hYV hNV hKV hBV ⊢
      clear hV
      have v0 : V.cell? ⟨Bx, 0, none⟩ = some (.int .i64 (nearP x.1).1) := hXV.cell 0
      have v1 : V.cell? ⟨Bx, 1, none⟩ = some (.int .i64 (nearP x.1).2) := hXV.cell 1
      have v2 : V.cell? ⟨By, 0, none⟩ = some (.int .i64 (nearP x.2).1) := hYV.cell 0
      have v3 : V.cell? ⟨By, 1, none⟩ = some (.int .i64 (nearP x.2).2) := hYV.cell 1
      have v4 : V.cell? ⟨w.heap.size, 0, none⟩ = some (.int .i64 (segSum pre)) := hNV.cell 0
      have v5 := hNV.frozen 0 (by simp)
      gi_wp2
      have es : segSum (pre ++ [x]) = segStep (segSum pre) x := by simp [segSum, List.foldl_append]
      refine ⟨hKV.trans ((KeepsOthers.setCell _ _ _).from _), ⟨(hBV.mono (B' := w.heap.size) (by omega)).setCell (p := ⟨w.heap.size, 0, none⟩) (Nat.le_refl _) _, ?_⟩, ?_, hB.trans ((hBV.mono (B' := w.heap.size) (by omega)).setCell (p := ⟨w.heap.size, 0, none⟩) (Nat.le_refl _) _)⟩
      · rw [Below.heap_setCell _ _ _ _ (by simp only; omega)]
        exact hBV.block _ (by omega)
      · rw [es]
        have := hNV.set 0 (.int .i64 (segStep (segSum pre) x))
        simpa only [segStep, IntWalk.i64_left, List.setIfInBounds_toArray, List.set_cons_zero] using this)
  case done =>
    rintro D ys W hD rfl ⟨hc, hB⟩ hK
    have c0 : W.cell? ⟨w.heap.size, 0, none⟩ = some (.int .i64 (segSum (upto (segAt ps) ps.length))) := hc.cell 0
    gi_wp2
    refine ⟨by simp, .inl ⟨_, _, rfl, run_takeDeferred hK, ?_⟩⟩
    refine ⟨_, results_tmp rfl _ _ _, rfl, ?_⟩
    exact (hB0.trans hB).trans (belowK_b (w := w) (Nat.le_refl _) W D _ _ (by omega) hK rfl rfl)
  case stop =>
    rintro D c pre W _ _ h _
    exact h.elim
end Go.Proofs.YtkkgimhbliocoaaGreat
/- Rings: their areas, and where points lie to them: plain numbers, no program in sight. -/
namespace Go.Proofs.YtkkgimhbliocoaaGreat
open M
set_option linter.unusedVariables false
set_option linter.unusedSimpArgs false
def cross (x : SegP) : Int := x.1.1 * x.2.2 - x.1.2 * x.2.1
/-- A path's segments. -/
def pathS : List P2 → List SegP
  | [] => []
  | [_] => []
  | p :: q :: l => (p, q) :: pathS (q :: l)
/-- A ring's segments. -/
def ringS : List P2 → List SegP
  | [] => []
  | p :: l => pathS (p :: l ++ [p])
def sumC (xs : List SegP) : Int := (xs.map cross).sum
theorem sumC_append (xs ys : List SegP) : sumC (xs ++ ys) = sumC xs + sumC ys := by simp [sumC]
theorem sumC_cons (x : SegP) (ys : List SegP) : sumC (x :: ys) = cross x + sumC ys := by simp [sumC]
theorem pathS_length : ∀ l : List P2, (pathS l).length = l.length - 1
  | [] => rfl
  | [_] => rfl
  | p :: q :: l => by simp [pathS, pathS_length (q :: l)]
theorem pathS_get : ∀ (l : List P2) (k : Nat) (h : k + 1 < l.length), (pathS l)[k]? = some (l[k], l[k + 1])
  | [], k, h => by simp at h
  | [_], k, h => by simp at h
  | p :: q :: l, 0, h => rfl
  | p :: q :: l, k + 1, h => by
    simp only [pathS, List.getElem?_cons_succ]
    rw [pathS_get (q :: l) k (by simpa using h)]
    rfl
theorem pathS_append : ∀ (xs : List P2) (m : P2) (ys : List P2), pathS (xs ++ m :: ys) = pathS (xs ++ [m]) ++ pathS (m :: ys)
  | [], m, ys => by simp [pathS]
  | [x], m, ys => by simp [pathS]
  | x :: y :: xs, m, ys => by
    have := pathS_append (y :: xs) m ys
    simp only [List.cons_append, pathS] at this ⊢
    rw [this]
theorem segs_eq (ps : List P2) : upto (segAt ps) ps.length = ringS ps := by
  match ps with
  | [] => rfl
  | p :: l =>
    apply List.ext_getElem?
    intro k
    by_cases hk : k < (p :: l).length
    · have h1 : (upto (segAt (p :: l)) (p :: l).length)[k]? = some (segAt (p :: l) k) := by
        unfold upto
        rw [List.getElem?_map, List.getElem?_range hk]
        rfl
      have h2 := pathS_get (p :: l ++ [p]) k (by simpa using hk)
      rw [h1]
      show _ = (pathS (p :: l ++ [p]))[k]?
      rw [h2]
      congr 1
      unfold segAt
      rw [List.getElem?_eq_getElem hk]
      simp only [Option.getD_some]
      refine Prod.ext ?_ ?_
      · simp only [List.getElem_append_left hk]
      · simp only
        by_cases h : k + 1 < (p :: l).length
        · rw [Nat.mod_eq_of_lt h, List.getElem?_eq_getElem h, List.getElem_append_left h]
          rfl
        · have e : k + 1 = (p :: l).length := by omega
          rw [List.getElem_append_right (by omega)]
          simp [e]
    · rw [List.getElem?_eq_none (by simp [upto]; simpa using hk), List.getElem?_eq_none]
      show (pathS (p :: l ++ [p])).length ≤ k
      rw [pathS_length]
      simp at hk ⊢
      omega
theorem pathS_mem : ∀ (l : List P2) (x : SegP), x ∈ pathS l → x.1 ∈ l ∧ x.2 ∈ l
  | [], x, h => by simp [pathS] at h
  | [_], x, h => by simp [pathS] at h
  | p :: q :: l, x, h => by
    simp only [pathS, List.mem_cons] at h
    rcases h with rfl | h
    · simp
    · have := pathS_mem (q :: l) x h
      exact ⟨List.mem_cons_of_mem _ this.1, List.mem_cons_of_mem _ this.2⟩
theorem ringS_mem {ps : List P2} {x : SegP} (h : x ∈ ringS ps) : x.1 ∈ ps ∧ x.2 ∈ ps := by
  match ps, h with
  | [], h => simp [ringS] at h
  | p :: l, h =>
    have := pathS_mem _ x h
    simp only [List.mem_append, List.mem_singleton] at this
    have e : ∀ y, (y ∈ p :: l ∨ y = p) → y ∈ p :: l := fun y hy => hy.elim id fun h => by simp [h]
    exact ⟨e _ this.1, e _ this.2⟩
theorem pathS_map (f : P2 → P2) : ∀ l : List P2, pathS (l.map f) = (pathS l).map fun x => (f x.1, f x.2)
  | [] => rfl
  | [_] => rfl
  | p :: q :: l => by
    have := pathS_map f (q :: l)
    simp only [List.map_cons, pathS] at this ⊢
    rw [this]
theorem ringS_map (f : P2 → P2) (l : List P2) : ringS (l.map f) = (ringS l).map fun x => (f x.1, f x.2) := by
  match l with
  | [] => rfl
  | p :: l =>
    show pathS (f p :: l.map f ++ [f p]) = _
    have := pathS_map f (p :: l ++ [p])
    simpa [ringS] using this
theorem ringS_rot (xs ys : List P2) : (ringS (xs ++ ys)).Perm (ringS (ys ++ xs)) := by
  match xs, ys with
  | [], ys => simp
  | xs, [] => simp
  | x :: xs, y :: ys =>
    have e1 : ringS (x :: xs ++ y :: ys) = pathS (x :: xs ++ [y]) ++ pathS (y :: ys ++ [x]) := by
      show pathS (x :: (xs ++ y :: ys) ++ [x]) = _
      have := pathS_append (x :: xs) y (ys ++ [x])
      simpa using this
    have e2 : ringS (y :: ys ++ x :: xs) = pathS (y :: ys ++ [x]) ++ pathS (x :: xs ++ [y]) := by
      show pathS (y :: (ys ++ x :: xs) ++ [y]) = _
      have := pathS_append (y :: ys) x (xs ++ [y])
      simpa using this
    rw [e1, e2]
    exact List.perm_append_comm
theorem pathS_reverse : ∀ l : List P2, pathS l.reverse = ((pathS l).map fun x => (x.2, x.1)).reverse
  | [] => rfl
  | [_] => rfl
  | p :: q :: l => by
    have h1 := pathS_reverse (q :: l)
    have h2 := pathS_append l.reverse q [p]
    simp only [List.reverse_cons, List.append_assoc, List.cons_append, List.nil_append] at h1 h2 ⊢
    rw [h2, h1]
    simp [pathS]
theorem ringS_turned (p : P2) (l : List P2) : ringS (p :: l.reverse) = ((ringS (p :: l)).map fun x => (x.2, x.1)).reverse := by
  have := pathS_reverse (p :: l ++ [p])
  simp only [List.reverse_append, List.reverse_cons, List.reverse_nil, List.nil_append, List.cons_append] at this
  show pathS (p :: l.reverse ++ [p]) = ((pathS (p :: l ++ [p])).map _).reverse
  simpa using this
theorem cross_flip (x : SegP) : cross (x.2, x.1) = - cross x := by unfold cross; simp only; grind
theorem sumC_flip (xs : List SegP) : sumC (xs.map fun x => (x.2, x.1)).reverse = - sumC xs := by
  induction xs with
  | nil => rfl
  | cons x xs ih =>
    simp only [List.map_cons, List.reverse_cons, sumC_append, ih, sumC_cons, cross_flip]
    have : sumC [] = 0 := rfl
    omega
theorem sumC_perm {xs ys : List SegP} (h : xs.Perm ys) : sumC xs = sumC ys := by
  induction h with
  | nil => rfl
  | cons x _ ih => simp only [sumC_cons, ih]
  | swap x y l => simp only [sumC_cons]; omega
  | trans _ _ h1 h2 => exact h1.trans h2
def lastP : P2 → List P2 → P2
  | p, [] => p
  | _, q :: l => lastP q l
theorem lastP_snoc (q : P2) : ∀ (p : P2) (l : List P2), lastP p (l ++ [q]) = q
  | p, [] => rfl
  | p, x :: l => lastP_snoc q x l
/-- A step of all points adds what falls out round a ring. -/
theorem sumC_path (u v : Int) : ∀ (p : P2) (l : List P2), sumC (pathS ((p :: l).map fun x => (x.1 + u, x.2 + v))) = sumC (pathS (p :: l)) + u * ((lastP p l).2 - p.2) - v * ((lastP p l).1 - p.1)
  | p, [] => by simp [pathS, sumC, lastP]
  | p, q :: l => by
    have := sumC_path u v q l
    simp only [List.map_cons, pathS, sumC_cons, lastP] at this ⊢
    rw [this]
    unfold cross
    simp only
    grind
theorem sumC_move (u v : Int) (ps : List P2) : sumC (ringS (ps.map fun x => (x.1 + u, x.2 + v))) = sumC (ringS ps) := by
  match ps with
  | [] => rfl
  | p :: l =>
    have := sumC_path u v p (l ++ [p])
    rw [lastP_snoc, Int.sub_self, Int.sub_self, Int.mul_zero, Int.mul_zero, Int.add_zero, Int.sub_zero] at this
    rw [show ringS (p :: l) = pathS (p :: (l ++ [p])) from rfl, ← this]
    simp [ringS]
theorem ringS_two (p q : P2) : sumC (ringS [p, q]) = 0 := by
  simp only [ringS, List.cons_append, List.nil_append, pathS, sumC, List.map_cons, List.map_nil, List.sum_cons, List.sum_nil, cross]
  grind
theorem ringS_one (p : P2) : sumC (ringS [p]) = 0 := by
  simp only [ringS, List.cons_append, List.nil_append, pathS, sumC, List.map_cons, List.map_nil, List.sum_cons, List.sum_nil, cross]
  grind
theorem ringS_short {ps : List P2} (h : ps.length < 3) : sumC (ringS ps) = 0 := by
  match ps, h with
  | [], _ => rfl
  | [p], _ => exact ringS_one p
  | [p, q], _ => exact ringS_two p q
/-- A ring cut in two. -/
theorem ringS_cut (xs : List P2) (a : P2) (ys : List P2) (b : P2) (zs : List P2) :
    sumC (ringS (a :: ys ++ [b])) + sumC (ringS (b :: zs ++ (xs ++ [a]))) = sumC (ringS (xs ++ a :: ys ++ b :: zs)) := by
  have e1 : sumC (ringS (a :: ys ++ [b])) = sumC (pathS (a :: ys ++ [b])) + cross (b, a) := by
    have := pathS_append (a :: ys) b [a]
    show sumC (pathS (a :: (ys ++ [b]) ++ [a])) = _
    simp only [List.cons_append, List.append_assoc, List.nil_append] at this ⊢
    rw [this, sumC_append]
    simp [pathS, sumC]
  have e2 : sumC (ringS (b :: zs ++ (xs ++ [a]))) = sumC (pathS (b :: zs ++ (xs ++ [a]))) + cross (a, b) := by
    have := pathS_append (b :: zs ++ xs) a [b]
    show sumC (pathS (b :: (zs ++ (xs ++ [a])) ++ [b])) = _
    simp only [List.cons_append, List.append_assoc, List.nil_append] at this ⊢
    rw [this, sumC_append]
    simp [pathS, sumC]
  have e4 : (ringS (xs ++ a :: ys ++ b :: zs)).Perm (ringS ((a :: ys ++ b :: zs) ++ xs)) := by
    have := ringS_rot xs (a :: ys ++ b :: zs)
    simpa using this
  have e5 : sumC (ringS ((a :: ys ++ b :: zs) ++ xs)) = sumC (pathS (a :: ys ++ [b])) + sumC (pathS (b :: zs ++ (xs ++ [a]))) := by
    have := pathS_append (a :: ys) b (zs ++ xs ++ [a])
    show sumC (pathS (a :: (ys ++ b :: zs ++ xs) ++ [a])) = _
    simp only [List.cons_append, List.append_assoc, List.nil_append] at this ⊢
    rw [this, sumC_append]
  have e6 : cross (b, a) = - cross (a, b) := cross_flip (a, b)
  rw [e1, e2, sumC_perm e4, e5]
  omega
/-! ## where a point lies -/
def rayN (p : P2) (xs : List SegP) : Nat := xs.countP fun x => ray x.1 x.2 p
def onAny (p : P2) (xs : List SegP) : Bool := xs.any fun x => M.on x.1 x.2 p
def insideS (xs : List SegP) (p : P2) : Int := if onAny p xs then 0 else if rayN p xs % 2 = 0 then -1 else 1
theorem insideS_perm {xs ys : List SegP} (h : xs.Perm ys) (p : P2) : insideS xs p = insideS ys p := by
  unfold insideS onAny rayN
  rw [h.any_eq, h.countP_eq]
theorem insideS_map {f : SegP → SegP} {p q : P2} {xs : List SegP} (h : ∀ x ∈ xs, M.on (f x).1 (f x).2 q = M.on x.1 x.2 p ∧ ray (f x).1 (f x).2 q = ray x.1 x.2 p) : insideS (xs.map f) q = insideS xs p := by
  have key : ∀ ys : List SegP, (∀ x ∈ ys, M.on (f x).1 (f x).2 q = M.on x.1 x.2 p ∧ ray (f x).1 (f x).2 q = ray x.1 x.2 p) → onAny q (ys.map f) = onAny p ys ∧ rayN q (ys.map f) = rayN p ys := by
    intro ys
    induction ys with
    | nil => intro _; exact ⟨rfl, rfl⟩
    | cons y ys ih =>
      intro h
      obtain ⟨h1, h2⟩ := ih fun x hx => h x (by simp [hx])
      unfold onAny rayN at *
      simp only [List.map_cons, List.any_cons, List.countP_cons, (h y (by simp)).1, (h y (by simp)).2, h1, h2, and_self]
  obtain ⟨h1, h2⟩ := key xs h
  unfold insideS
  rw [h1, h2]
theorem on_flip (a b p : P2) : M.on a b p = M.on b a p := by
  unfold M.on onR turnR
  generalize nearP a = a
  generalize nearP b = b
  generalize nearP p = p
  have h : area a b p = - area b a p := by unfold area; grind
  have h2 : (sgn (area a b p) == 0) = (sgn (area b a p) == 0) := by
    rw [h]
    unfold sgn
    by_cases h1 : area b a p < 0
    · rw [if_neg (by omega), if_pos (by omega), if_pos h1]; rfl
    · by_cases h3 : 0 < area b a p
      · rw [if_pos (by omega), if_neg h1, if_pos h3]; rfl
      · rw [if_neg (by omega), if_neg (by omega), if_neg h1, if_neg h3]
  rw [h2]
  have e1 : min a.1 b.1 = min b.1 a.1 := by omega
  have e2 : max a.1 b.1 = max b.1 a.1 := by omega
  have e3 : min a.2 b.2 = min b.2 a.2 := by omega
  have e4 : max a.2 b.2 = max b.2 a.2 := by omega
  rw [e1, e2, e3, e4]
theorem ray_flip (a b p : P2) : ray a b p = ray b a p := by
  unfold ray rayR
  generalize nearP a = a
  generalize nearP b = b
  generalize nearP p = p
  by_cases h1 : a.2 > b.2
  · rw [decide_eq_true h1, decide_eq_false (p := b.2 > a.2) (by omega)]
    rfl
  · by_cases h2 : b.2 > a.2
    · rw [decide_eq_false h1, decide_eq_true (p := b.2 > a.2) (by omega)]
      rfl
    · have e : a.2 = b.2 := by omega
      rw [decide_eq_false h1, decide_eq_false h2]
      simp only [cond_false, e]
      by_cases h3 : b.2 > p.2
      · rw [decide_eq_false (p := b.2 ≤ p.2) (by omega)]
        simp
      · rw [decide_eq_false h3]
        simp
theorem on_move {a b p : P2} {u v : Int} (ha : inG a ∧ inG (a.1 + u, a.2 + v)) (hb : inG b ∧ inG (b.1 + u, b.2 + v)) (hp : inG p ∧ inG (p.1 + u, p.2 + v)) : M.on (a.1 + u, a.2 + v) (b.1 + u, b.2 + v) (p.1 + u, p.2 + v) = M.on a b p := by
  rw [Bool.eq_iff_iff, on_iff ha.2 hb.2 hp.2, on_iff ha.1 hb.1 hp.1]
  have e : area (a.1 + u, a.2 + v) (b.1 + u, b.2 + v) (p.1 + u, p.2 + v) = area a b p := by unfold area; grind
  rw [e]
  simp only
  omega
theorem ray_move {a b p : P2} {u v : Int} (ha : inG a ∧ inG (a.1 + u, a.2 + v)) (hb : inG b ∧ inG (b.1 + u, b.2 + v)) (hp : inG p ∧ inG (p.1 + u, p.2 + v)) : ray (a.1 + u, a.2 + v) (b.1 + u, b.2 + v) (p.1 + u, p.2 + v) = ray a b p := by
  unfold ray
  rw [nearP_id ha.1, nearP_id ha.2, nearP_id hb.1, nearP_id hb.2, nearP_id hp.1, nearP_id hp.2]
  have e1 : area (a.1 + u, a.2 + v) (b.1 + u, b.2 + v) (p.1 + u, p.2 + v) = area a b p := by unfold area; grind
  have e2 : area (b.1 + u, b.2 + v) (a.1 + u, a.2 + v) (p.1 + u, p.2 + v) = area b a p := by unfold area; grind
  unfold rayR turnR
  rw [e1, e2]
  simp only
  have c1 : decide (a.2 + v > b.2 + v) = decide (a.2 > b.2) := by congr 1; apply propext; omega
  have c2 : decide (a.2 + v > p.2 + v) = decide (a.2 > p.2) := by congr 1; apply propext; omega
  have c3 : decide (b.2 + v > p.2 + v) = decide (b.2 > p.2) := by congr 1; apply propext; omega
  have c4 : decide (b.2 + v ≤ p.2 + v) = decide (b.2 ≤ p.2) := by congr 1; apply propext; omega
  have c5 : decide (a.2 + v ≤ p.2 + v) = decide (a.2 ≤ p.2) := by congr 1; apply propext; omega
  rw [c1, c2, c3, c4, c5]
/-- A ring moved, and the point with it. -/
theorem inside_move {ps : List P2} {p : P2} {u v : Int} (h : ∀ x ∈ ps, inG x ∧ inG (x.1 + u, x.2 + v)) (hp : inG p ∧ inG (p.1 + u, p.2 + v)) :
    insideS (ringS (ps.map fun x => (x.1 + u, x.2 + v))) (p.1 + u, p.2 + v) = insideS (ringS ps) p := by
  rw [ringS_map]
  refine insideS_map fun x hx => ?_
  have hm := ringS_mem hx
  exact ⟨on_move (h _ hm.1) (h _ hm.2) hp, ray_move (h _ hm.1) (h _ hm.2) hp⟩
theorem inside_rot (xs ys : List P2) (p : P2) : insideS (ringS (xs ++ ys)) p = insideS (ringS (ys ++ xs)) p := insideS_perm (ringS_rot xs ys) p
theorem inside_turned (q : P2) (l : List P2) (p : P2) : insideS (ringS (q :: l.reverse)) p = insideS (ringS (q :: l)) p := by
  rw [ringS_turned, insideS_perm (List.reverse_perm _)]
  exact insideS_map fun x _ => ⟨on_flip _ _ _, ray_flip _ _ _⟩
end Go.Proofs.YtkkgimhbliocoaaGreat
/- Where a point lies to a ring: its function's answer. -/
namespace Go.Proofs.YtkkgimhbliocoaaGreat
open Go Go.RowKit Go.Shelf M
attribute [local go_sem] Oper.semAt_some
set_option linter.unusedVariables false
set_option linter.unusedSimpArgs false
theorem ray_in (a b p : P2) (W : World) : Calls Tryz.prog 203 #[ptV a, ptV b, ptV p] W fun e W' => e = .returned (.bool (ray a b p)) ∧ Below W.heap.size W W' :=
  (pure_in (ray_calls a b p) (vs := #[ptV a, ptV b, ptV p]) rfl (fun L => ⟨⟨_, rfl, pt_rp a⟩, ⟨_, rfl, pt_rp b⟩, ⟨_, rfl, pt_rp p⟩, trivial⟩) W).mono fun e W' ⟨⟨v, h1, L, h2⟩, h3⟩ => ⟨by rw [h1]; simp only [bP, Vm.Rp] at h2; rw [h2], h3⟩
def insV (p : P2) (xs : List SegP) : Int := if rayN p xs % 2 = 0 then -1 else 1
set_option maxRecDepth 100000 in
set_option maxHeartbeats 2000000 in
theorem inside_in (n : Nat) (hn : 8 ≤ n) (sv : Value) (ps : List P2) (hlen : ps.length < 4611686018427387904) (p : P2) (w : World) (hI : HoldsP w.heap.size w sv ps) :
    CallsIn Fence.wide n Tryz.prog 163 #[sv, ptV p] w fun e w' => e = .returned (.int .i64 (insideS (upto (segAt ps) ps.length) p)) ∧ Below w.heap.size w w' := by
  obtain ⟨A, cap, hsv, hl⟩ := id hI
  subst hsv
  refine callsIn_of_wp_marks Tryz.func163 rfl trivial ?_ rfl
  simp only [Tryz.ntmps163, List.size_toArray, List.length_cons, List.length_nil, Nat.reduceAdd, Nat.reduceSub, Array.replicate_succ, Array.replicate_zero, List.push_toArray, List.append_toArray, List.nil_append, List.cons_append]
  unfold ptV
  gi_wp2
  refine ⟨trivial, fun _ => by omega, (segments_in (n - 1) (by omega) _ _ _ _).mono ?_⟩
  rintro e w' ⟨rfl, rfl⟩
  gi_wp2
  have hB0 : Below w.heap.size w ((((w.alloc (.cells #[.int .i64 p.1, .int .i64 p.2] 27)).alloc (.cells #[.int .i64 0] 3)).alloc (.cells #[.int .i64 (-1)] 3)).alloc (.cells #[.slice A ps.length cap] 31)) := ((((Below.refl _ w).alloc (Nat.le_refl _) _).alloc (by simp) _).alloc (by simp; omega) _).alloc (by simp; omega) _
  have bP : Cells ((((w.alloc (.cells #[.int .i64 p.1, .int .i64 p.2] 27)).alloc (.cells #[.int .i64 0] 3)).alloc (.cells #[.int .i64 (-1)] 3)).alloc (.cells #[.slice A ps.length cap] 31)) w.heap.size 27 #[.int .i64 p.1, .int .i64 p.2] :=
    (Cells.new w 27 _).below ((((Below.refl (w.heap.size + 1) _).alloc (by simp) _).alloc (by simp) _).alloc (by simp <;> omega) _) (by omega)
  have bR : Cells ((((w.alloc (.cells #[.int .i64 p.1, .int .i64 p.2] 27)).alloc (.cells #[.int .i64 0] 3)).alloc (.cells #[.int .i64 (-1)] 3)).alloc (.cells #[.slice A ps.length cap] 31)) (w.heap.size + 1) 3 #[.int .i64 0] := by
    have := (Cells.new (w.alloc (.cells #[.int .i64 p.1, .int .i64 p.2] 27)) 3 #[.int .i64 0]).below (Y := (((w.alloc (.cells #[.int .i64 p.1, .int .i64 p.2] 27)).alloc (.cells #[.int .i64 0] 3)).alloc (.cells #[.int .i64 (-1)] 3)).alloc (.cells #[.slice A ps.length cap] 31)) (N := w.heap.size + 2) (((Below.refl (w.heap.size + 2) _).alloc (by simp) _).alloc (by simp) _) (by simp)
    rwa [World.size_alloc] at this
  have bK : Cells ((((w.alloc (.cells #[.int .i64 p.1, .int .i64 p.2] 27)).alloc (.cells #[.int .i64 0] 3)).alloc (.cells #[.int .i64 (-1)] 3)).alloc (.cells #[.slice A ps.length cap] 31)) (w.heap.size + 1 + 1) 3 #[.int .i64 (-1)] := by
    have := (Cells.new ((w.alloc (.cells #[.int .i64 p.1, .int .i64 p.2] 27)).alloc (.cells #[.int .i64 0] 3)) 3 #[.int .i64 (-1)]).below (Y := (((w.alloc (.cells #[.int .i64 p.1, .int .i64 p.2] 27)).alloc (.cells #[.int .i64 0] 3)).alloc (.cells #[.int .i64 (-1)] 3)).alloc (.cells #[.slice A ps.length cap] 31)) (N := w.heap.size + 3) ((Below.refl (w.heap.size + 3) _).alloc (by simp) _) (by simp)
    rwa [World.size_alloc, World.size_alloc] at this
  have bA : Cells ((((w.alloc (.cells #[.int .i64 p.1, .int .i64 p.2] 27)).alloc (.cells #[.int .i64 0] 3)).alloc (.cells #[.int .i64 (-1)] 3)).alloc (.cells #[.slice A ps.length cap] 31)) (w.heap.size + 1 + 1 + 1) 31 #[.slice A ps.length cap] := by
    have := Cells.new (((w.alloc (.cells #[.int .i64 p.1, .int .i64 p.2] 27)).alloc (.cells #[.int .i64 0] 3)).alloc (.cells #[.int .i64 (-1)] 3)) 31 #[.slice A ps.length cap]
    rwa [World.size_alloc, World.size_alloc, World.size_alloc] at this
  have hsz : ((((w.alloc (.cells #[.int .i64 p.1, .int .i64 p.2] 27)).alloc (.cells #[.int .i64 0] 3)).alloc (.cells #[.int .i64 (-1)] 3)).alloc (.cells #[.slice A ps.length cap] 31)).heap.size = w.heap.size + 4 := by simp
  obtain ⟨W0, hW0⟩ : ∃ W0, (((w.alloc (.cells #[.int .i64 p.1, .int .i64 p.2] 27)).alloc (.cells #[.int .i64 0] 3)).alloc (.cells #[.int .i64 (-1)] 3)).alloc (.cells #[.slice A ps.length cap] 31) = W0 := ⟨_, rfl⟩
  rw [hW0] at hB0 bP bR bK bA hsz ⊢
  clear hW0
  refine wpIn_rangeFunc_ownH rfl (by omega) (gf := 202) (lb := #[.pointer (some ⟨w.heap.size + 1 + 1 + 1, 0, none⟩)]) rfl trivial (enters_of Tryz.func202 (by kernel_rfl) rfl)
    (segs_stops (n - 1) (by omega) (w.heap.size + 1 + 1 + 1) w.heap.size _ ps hlen W0 (by omega) (by omega) (by have := bA.cell 0; simpa using this) (hI.below hB0)) (fun h k => h.trans k) (kpS_b (by omega) (by omega)) (Below.refl _ _) (fun _ => rfl)
    (fun pre W => (((Cells W w.heap.size 27 #[.int .i64 p.1, .int .i64 p.2] ∧ Cells W (w.heap.size + 1) 3 #[.int .i64 0]) ∧ Cells W (w.heap.size + 1 + 1) 3 #[.int .i64 (insV p pre)]) ∧ onAny p pre = false) ∧ Below w.heap.size W0 W)
    (fun c pre W => ((c = .ret ∧ onAny p pre = true) ∧ Cells W (w.heap.size + 1) 3 #[.int .i64 0]) ∧ Below w.heap.size W0 W)
    (OwnFrom.and (OwnFrom.and (OwnFrom.and (OwnFrom.and (Own.from (Cells.own _ _ fun _ => _) _) (Own.from (Cells.own _ _ fun _ => _) _)) (Own.from (Cells.own _ _ fun pre => #[.int .i64 (insV p pre)]) _)) (ownFrom_pure _ _)) (ownFrom_below (by omega) (by omega)))
    (fun c => OwnFrom.and (OwnFrom.and (ownFrom_pure _ _) (Own.from (Cells.own _ _ fun _ => _) _)) (ownFrom_below (by omega) (by omega)))
    ⟨⟨⟨⟨bP, bR⟩, bK⟩, rfl⟩, Below.refl _ _⟩
    (fun x a' W => ∃ Bx By, w.heap.size + 1 + 1 + 1 < Bx ∧ Bx < By ∧ Cells W Bx 27 #[.int .i64 x.1.1, .int .i64 x.1.2] ∧ Cells W By 27 #[.int .i64 x.2.1, .int .i64 x.2.2] ∧
      a' = { tmps := #[.slice A ps.length cap, .agg #[.int .i64 p.1, .int .i64 p.2], undef, .pointer (some ⟨w.heap.size, 0, none⟩), .pointer (some ⟨w.heap.size + 1, 0, none⟩), .pointer (some ⟨w.heap.size + 1 + 1, 0, none⟩), .pointer (some ⟨Bx, 0, none⟩), .pointer (some ⟨By, 0, none⟩), .slice A ps.length cap,
        .func (.func 202) #[] #[.pointer (some ⟨w.heap.size + 1 + 1 + 1, 0, none⟩)], ptV x.1, ptV x.2, undef, undef, undef, undef, undef, undef, undef, undef, undef, undef, undef], defers := [] })
    (fun x a' _ X Y row hs hg hr => by
      obtain ⟨Bx, By, e1, e2, e3, e4, e5⟩ := hs
      exact ⟨Bx, By, e1, e2, Cells.own Bx 27 (fun (_ : Unit) => #[.int .i64 x.1.1, .int .i64 x.1.2]) () X Y row e3 hg (fun r e => (hr r e).2), Cells.own By 27 (fun (_ : Unit) => #[.int .i64 x.2.1, .int .i64 x.2.2]) () X Y row e4 hg (fun r e => (hr r e).2), e5⟩)
    ?assign ?body ?done ?stop
  case assign =>
    rintro l pre x W K ⟨⟨⟨⟨hP, hR⟩, hK1⟩, hon⟩, hB⟩ hK
    unfold ptV
    gi_wp2
    have hb2 : Below W.heap.size W ((W.alloc (.cells #[.int .i64 x.1.1, .int .i64 x.1.2] 27)).alloc (.cells #[.int .i64 x.2.1, .int .i64 x.2.2] 27)) := ((Below.refl _ W).alloc (Nat.le_refl _) _).alloc (by simp) _
    have hsW := hB.size
    refine hK _ _ (((KeepsOthers.alloc _ _).trans (KeepsOthers.alloc _ _)).from _) (KpS.of_below hb2 (by omega) (by omega)) ⟨⟨⟨⟨hP.below hb2 hP.lt, hR.below hb2 hR.lt⟩, hK1.below hb2 hK1.lt⟩, hon⟩, hB.trans (hb2.mono (by omega))⟩ ⟨W.heap.size, W.heap.size + 1, by omega, by omega, ?_, ?_, by simp [ptV]⟩
    · exact (Cells.new W 27 _).below ((Below.refl (W.heap.size + 1) _).alloc (by simp) _) (by omega)
    · have := Cells.new (W.alloc (.cells #[.int .i64 x.1.1, .int .i64 x.1.2] 27)) 27 #[.int .i64 x.2.1, .int .i64 x.2.2]
      rwa [World.size_alloc] at this
  case body =>
    rintro l pre x a' W hl ⟨r, hr⟩ ⟨⟨⟨⟨hP, hR⟩, hK1⟩, hon⟩, hB⟩ ⟨Bx, By, h1, h2, hX, hY, rfl⟩ hlt
    have hsW := hB.size
    have x00 : W.cell? ⟨Bx, 0, none⟩ = some (.int .i64 x.1.1) := hX.cell 0
    have x01 : W.cell? ⟨Bx, 1, none⟩ = some (.int .i64 x.1.2) := hX.cell 1
    have y00 : W.cell? ⟨By, 0, none⟩ = some (.int .i64 x.2.1) := hY.cell 0
    have y01 : W.cell? ⟨By, 1, none⟩ = some (.int .i64 x.2.2) := hY.cell 1
    have p00 : W.cell? ⟨w.heap.size, 0, none⟩ = some (.int .i64 p.1) := hP.cell 0
    have p01 : W.cell? ⟨w.heap.size, 1, none⟩ = some (.int .i64 p.2) := hP.cell 1
    gi_wp2
    refine ⟨trivial, fun _ => by omega, (CallsIn.inRound l (callsIn_wide.2 (on_in x.1 x.2 p _))).mono ?_⟩
    rintro e W1 ⟨rfl, hb1⟩
    have hX1 := hX.after hb1
    have hY1 := hY.after hb1
    have hP1 := hP.after hb1
    have hR1 := hR.after hb1
    have hK2 := hK1.after hb1
    have x10 : W1.cell? ⟨Bx, 0, none⟩ = some (.int .i64 x.1.1) := hX1.cell 0
    have x11 : W1.cell? ⟨Bx, 1, none⟩ = some (.int .i64 x.1.2) := hX1.cell 1
    have y10 : W1.cell? ⟨By, 0, none⟩ = some (.int .i64 x.2.1) := hY1.cell 0
    have y11 : W1.cell? ⟨By, 1, none⟩ = some (.int .i64 x.2.2) := hY1.cell 1
    have p10 : W1.cell? ⟨w.heap.size, 0, none⟩ = some (.int .i64 p.1) := hP1.cell 0
    have p11 : W1.cell? ⟨w.heap.size, 1, none⟩ = some (.int .i64 p.2) := hP1.cell 1
    have r10 := hR1.frozen 0 (by simp)
    have r11 : W1.cell? ⟨w.heap.size + 1, 0, none⟩ = some (.int .i64 0) := hR1.cell 0
    have honA : onAny p (pre ++ [x]) = M.on x.1 x.2 p := by
      unfold onAny at hon ⊢
      rw [List.any_append, hon]
      simp
    cases ho : M.on x.1 x.2 p with
    | true =>
      gi_wp2
      refine ⟨(keepsFrom_below hb1).trans ((KeepsOthers.setCell _ _ _).from _), ⟨⟨rfl, honA.trans ho⟩, ?_⟩, hB.trans ((hb1.mono (B' := w.heap.size) (by omega)).setCell (p := ⟨w.heap.size + 1, 0, none⟩) (by simp) _)⟩
      exact hR1.set 0 _
    | false =>
      gi_wp2
      refine ⟨trivial, fun _ => by omega, (CallsIn.inRound l (callsIn_wide.2 (ray_in x.1 x.2 p _))).mono ?_⟩
      rintro e W2 ⟨rfl, hb2⟩
      have hP2 := hP1.after hb2
      have hR2 := hR1.after hb2
      have hK3 := hK2.after hb2
      have k20 : W2.cell? ⟨w.heap.size + 1 + 1, 0, none⟩ = some (.int .i64 (insV p pre)) := hK3.cell 0
      have k21 := hK3.frozen 0 (by simp)
      have hbW : Below W.heap.size W W2 := below_after hb2 hb1 (Nat.le_refl _)
      have hrn : rayN p (pre ++ [x]) = rayN p pre + (if ray x.1 x.2 p then 1 else 0) := by
        unfold rayN
        rw [List.countP_append, List.countP_singleton]
      cases hq : ray x.1 x.2 p with
      | true =>
        gi_wp2
        refine ⟨(keepsFrom_below hbW).trans ((KeepsOthers.setCell _ _ _).from _), ⟨(hbW.mono (B' := w.heap.size) (by omega)).setCell (p := ⟨w.heap.size + 1 + 1, 0, none⟩) (by simp only; omega) _, ?_⟩, ⟨⟨⟨hP2.other (by simp only; omega) _, hR2.other (by simp only; omega) _⟩, ?_⟩, honA.trans ho⟩, hB.trans ((hbW.mono (B' := w.heap.size) (by omega)).setCell (p := ⟨w.heap.size + 1 + 1, 0, none⟩) (by simp only; omega) _)⟩
        · rw [Below.heap_setCell _ _ _ _ (by simp)]
          exact hbW.block _ (by omega)
        · have e : insV p (pre ++ [x]) = wrap64 (-insV p pre) := by
            unfold insV
            rw [hrn, hq]
            by_cases h : rayN p pre % 2 = 0
            · rw [if_neg (by simp; omega), if_pos h]; simp [wrap64]
            · rw [if_pos (by simp; omega), if_neg h]; simp [wrap64]
          rw [e]
          exact hK3.set 0 _
      | false =>
        gi_wp2
        have e : insV p (pre ++ [x]) = insV p pre := by
          unfold insV
          rw [hrn, hq]
          simp
        refine ⟨keepsFrom_below hbW, KpS.of_below hbW (by omega) (by omega), ⟨⟨⟨hP2, hR2⟩, ?_⟩, honA.trans ho⟩, hB.trans (hbW.mono (B' := w.heap.size) (by omega))⟩
        rw [e]
        exact hK3
  case done =>
    rintro D ys W hD rfl ⟨⟨⟨⟨hP, hR⟩, hK1⟩, hon⟩, hB⟩ hK
    have c0 : W.cell? ⟨w.heap.size + 1 + 1, 0, none⟩ = some (.int .i64 (insV p (upto (segAt ps) ps.length))) := hK1.cell 0
    have r1 := hR.frozen 0 (by simp)
    have r2 : W.cell? ⟨w.heap.size + 1, 0, none⟩ = some (.int .i64 0) := hR.cell 0
    gi_wp2
    have hK' := (KeepsOthers.setCell W ⟨w.heap.size + 1, 0, none⟩ (.int .i64 (insV p (upto (segAt ps) ps.length)))).same D _ hK rfl
    refine ⟨by simp, .inl ⟨_, _, rfl, run_takeDeferred hK', ?_⟩⟩
    have hc4 : (W.setCell ⟨w.heap.size + 1, 0, none⟩ (.int .i64 (insV p (upto (segAt ps) ps.length)))).cell? ⟨w.heap.size + 1, 0, none⟩ = some (.int .i64 (insV p (upto (segAt ps) ps.length))) := (hR.set 0 (.int .i64 (insV p (upto (segAt ps) ps.length)))).cell 0
    have hc5 := cell_kept hc4 (grownBy_putObj' _ D (.deferred none)) (fun r e => by cases e; exact ⟨_, hK', rfl⟩)
    refine ⟨.int .i64 (insideS (upto (segAt ps) ps.length) p), ?_, rfl, ((hB0.trans hB).setCell (p := ⟨w.heap.size + 1, 0, none⟩) (by simp) _).trans (belowK_b (w := w) (Nat.le_refl _) _ D _ _ (by omega) hK' rfl rfl)⟩
    have e : insideS (upto (segAt ps) ps.length) p = insV p (upto (segAt ps) ps.length) := by
      unfold insideS insV
      rw [hon]
      rfl
    rw [e]
    simp [results, Tryz.f163, go_sem, hc5]
  case stop =>
    rintro D c pre W hD ⟨k, hk, rfl⟩ ⟨⟨⟨rfl, hon⟩, hR⟩, hB⟩ hK
    gi_wp2
    refine ⟨by simp, .inl ⟨_, _, rfl, run_takeDeferred hK, ?_⟩⟩
    have hc5 := cell_kept (hR.cell 0) (grownBy_putObj' _ D (.deferred none)) (fun r e => by cases e; exact ⟨_, hK, rfl⟩)
    refine ⟨.int .i64 (insideS (upto (segAt ps) ps.length) p), ?_, rfl, (hB0.trans hB).trans (belowK_b (w := w) (Nat.le_refl _) W D _ _ (by omega) hK rfl rfl)⟩
    have hall : onAny p (upto (segAt ps) ps.length) = true := by
      unfold onAny at hon ⊢
      rw [List.any_eq_true] at hon ⊢
      obtain ⟨x, hx, h⟩ := hon
      refine ⟨x, ?_, h⟩
      unfold upto at hx ⊢
      rw [List.mem_map] at hx ⊢
      obtain ⟨i, hi, e⟩ := hx
      exact ⟨i, by rw [List.mem_range] at hi ⊢; omega, e⟩
    unfold insideS
    rw [hall]
    simp [results, Tryz.f163, go_sem, hc5]
end Go.Proofs.YtkkgimhbliocoaaGreat
/- A ring's two functions, as functions of values. -/
namespace Go.Proofs.YtkkgimhbliocoaaGreat
open Go Vm M
set_option linter.unusedVariables false
set_option linter.unusedSimpArgs false
theorem flatPP_get : ∀ (ps : List P2) (j : Nat), j < ps.length → (flatPP ps)[j * 2]? = some (.v (.int .i64 (ps[j]?.getD (0, 0)).1)) ∧ (flatPP ps)[j * 2 + 1]? = some (.v (.int .i64 (ps[j]?.getD (0, 0)).2))
  | [], j, h => by simp at h
  | p :: ps, 0, h => ⟨rfl, rfl⟩
  | p :: ps, j + 1, h => by
    have := flatPP_get ps j (by simpa using h)
    rw [show (j + 1) * 2 = j * 2 + 1 + 1 by omega]
    simpa [flatPP] using this
theorem holds_of {ok : Nat → Nat → Prop} {w : World} {ps : List P2} {v : Value} (hin : ∀ b j, ok b j → b < w.heap.size) (h : Rp (sees ok w) (slP ps) v) : HoldsP w.heap.size w v ps := by
  simp only [slP, Rp] at h
  obtain ⟨A, c, rfl, hc, hr⟩ := h
  refine ⟨A, c, rfl, ?_⟩
  by_cases hps : ps = []
  · exact .inl hps
  · have hl : 0 < ps.length := List.length_pos_iff.2 hps
    have g : ∀ j, j < ps.length → ∃ a, A = some a ∧ sees ok w (a.add (j * 2)) (.int .i64 (ps[j]?.getD (0, 0)).1) ∧ sees ok w (a.add (j * 2 + 1)) (.int .i64 (ps[j]?.getD (0, 0)).2) := by
      intro j hj
      have e := flatPP_get ps j hj
      obtain ⟨y, ⟨a, ha, hy⟩, h1⟩ := Rps_get hr (j * 2) _ e.1
      obtain ⟨z, ⟨a', ha', hz⟩, h2⟩ := Rps_get hr (j * 2 + 1) _ e.2
      simp only [Rp] at h1 h2
      rw [ha, Option.some.injEq] at ha'
      subst ha' h1 h2
      rw [Nat.zero_add] at hy hz
      exact ⟨a, ha, hy, hz⟩
    obtain ⟨a, rfl, h0, _⟩ := g 0 hl
    have h0' : sees ok w a (.int .i64 (ps[0]?.getD (0, 0)).1) := by simpa [Addr.add] using h0
    have hsp : a.spot = none := by
      have := h0'.2
      unfold World.cell? at this
      cases hs : a.spot with
      | none => rfl
      | some s =>
        rw [hs] at this
        split at this
        · simp at this
        · cases this
    obtain ⟨b, off, sp⟩ := a
    simp only at hsp
    subst hsp
    refine .inr ⟨b, off, rfl, hin _ _ h0'.1, fun j hj => ?_⟩
    obtain ⟨a, ha, h1, h2⟩ := g j hj
    rw [Option.some.injEq] at ha
    subst ha
    rw [Addr.add_lit] at h1 h2
    exact ⟨h1.2, by rw [Nat.add_assoc]; exact h2.2⟩
theorem vs_one {vs : Array Value} (h : vs.size = 1) {L : Look} {x : PVal} (hr : Rps L [x] (fun i y => vs[i]? = some y) 0) : ∃ v, vs = #[v] ∧ Rp L x v := by
  simp only [Rps] at hr
  obtain ⟨⟨v, hv, h1⟩, _⟩ := hr
  refine ⟨v, ?_, h1⟩
  apply Array.ext
  · simpa using h
  · intro i h2 h3
    have : i = 0 := by simp at h3; omega
    subst this
    rw [Array.getElem?_eq_getElem h2] at hv
    simpa using hv
theorem vs_two {vs : Array Value} (h : vs.size = 2) {L : Look} {x y : PVal} (hr : Rps L [x, y] (fun i y => vs[i]? = some y) 0) : ∃ v u, vs = #[v, u] ∧ Rp L x v ∧ Rp L y u := by
  simp only [Rps] at hr
  obtain ⟨⟨v, hv, h1⟩, ⟨u, hu, h2⟩, _⟩ := hr
  refine ⟨v, u, ?_, h1, h2⟩
  apply Array.ext
  · simpa using h
  · intro i h3 h4
    have : i = 0 ∨ i = 1 := by simp at h4; omega
    rcases this with rfl | rfl
    · rw [Array.getElem?_eq_getElem h3] at hv; simpa using hv
    · rw [Nat.zero_add, Array.getElem?_eq_getElem h3] at hu; simpa using hu
theorem callsP_int {F : FuncId} {ps : List PVal} {r : Int} (h : ∀ ok w vs, (∀ b j, ok b j → b < w.heap.size) → vs.size = ps.length → Rps (sees ok w) ps (fun i y => vs[i]? = some y) 0 → Calls Tryz.prog F vs w fun e w' => e = .returned (.int .i64 r) ∧ RowKit.Below w.heap.size w w') : CallsP Tryz.prog F ps (iP r) :=
  fun ok w vs h1 h2 h3 => (h ok w vs h1 h2 h3).mono fun e w' ⟨he, hb⟩ => ⟨_, ok, he, hb, fun _ _ h => h, fun _ _ h => .inl h, fun b j h => Nat.lt_of_lt_of_le (h1 b j h) hb.size, by simp [iP, Rp]⟩
def areaP (ps : List P2) : Int := if ps.length < 3 then 0 else segSum (upto (segAt ps) ps.length)
def insideP (ps : List P2) (p : P2) : Int := insideS (upto (segAt ps) ps.length) p
theorem area_calls (ps : List P2) (hl : ps.length < 4611686018427387904) : CallsP Tryz.prog 105 [slP ps] (iP (areaP ps)) := by
  unfold areaP
  by_cases h3 : ps.length < 3
  · rw [if_pos h3]
    exact callP_ok (cf_ok L5) (k := 0) (hs := []) (f := 105) (ps := [slP ps]) (bs := [true]) (ls := []) (out := none) (r := iP 0) (ob := [decide ((ps.length : Int) < 3) = true]) (by kernel_rfl) (allOb_cons (decide_eq_true (by omega)) allOb_nil)
  · rw [if_neg h3]
    refine callsP_int fun ok w vs h1 h2 hr => ?_
    obtain ⟨v, rfl, hv⟩ := vs_one h2 hr
    exact callsIn_wide.1 (area2_in 8 (Nat.le_refl _) v ps hl (by omega) w (holds_of h1 hv))
theorem inside_calls (ps : List P2) (p : P2) (hl : ps.length < 4611686018427387904) : CallsP Tryz.prog 163 [slP ps, ptP p] (iP (insideP ps p)) := by
  refine callsP_int fun ok w vs h1 h2 hr => ?_
  obtain ⟨v, u, rfl, hv, hu⟩ := vs_two h2 hr
  rw [rp_pt hu]
  exact callsIn_wide.1 (inside_in 8 (Nat.le_refl _) v ps hl p w (holds_of h1 hv))
/-- Of slices that are not too long. -/
def gSb (f : List P2 → PVal) : List PVal → Option PVal
  | [x] => match unSl x with
    | some ps => if ps.length < 4611686018427387904 then some (f ps) else none
    | none => none
  | _ => none
theorem gSb_spec {P : Program} {F : FuncId} {f : List P2 → PVal} (h : ∀ ps : List P2, ps.length < 4611686018427387904 → CallsP P F [slP ps] (f ps)) : ∀ ps r, gSb f ps = some r → CallsP P F ps r := by
  intro ps r hg
  unfold gSb at hg
  split at hg
  · split at hg
    · rename_i qs hq
      split at hg
      · rename_i hl
        simp only [Option.some.injEq] at hg
        subst hg
        exact callsP_weak (h qs hl) ⟨unSl_wk hq, trivial⟩
      · cases hg
    · cases hg
  · cases hg
theorem gSb_slP (f : List P2 → PVal) {ps : List P2} (h : ps.length < 4611686018427387904) : gSb f [slP ps] = some (f ps) := by simp [gSb, unSl_slP, h]
def gSPb (f : List P2 → P2 → PVal) : List PVal → Option PVal
  | [x, y] => match unSl x, unPt y with
    | some ps, some p => if ps.length < 4611686018427387904 then some (f ps p) else none
    | _, _ => none
  | _ => none
theorem gSPb_spec {P : Program} {F : FuncId} {f : List P2 → P2 → PVal} (h : ∀ (ps : List P2) p, ps.length < 4611686018427387904 → CallsP P F [slP ps, ptP p] (f ps p)) : ∀ ps r, gSPb f ps = some r → CallsP P F ps r := by
  intro ps r hg
  unfold gSPb at hg
  split at hg
  · split at hg
    · rename_i qs p hq hp
      split at hg
      · rename_i hl
        simp only [Option.some.injEq] at hg
        subst hg
        rw [unPt_some hp]
        exact callsP_weak (h qs p hl) ⟨unSl_wk hq, Wk.refl _, trivial⟩
      · cases hg
    · cases hg
  · cases hg
theorem gSPb_slP (f : List P2 → P2 → PVal) {ps : List P2} (p : P2) (h : ps.length < 4611686018427387904) : gSPb f [slP ps, ptP p] = some (f ps p) := by simp [gSPb, unSl_slP, unPt, ptP, h]
noncomputable def R1 : Lib Tryz.prog := N10.add 105 (gSb fun ps => iP (areaP ps)) (Vm.enters_of named_prog Tryz.func105 (by kernel_rfl)) (gSb_spec fun ps h => area_calls ps h)
noncomputable def R2 : Lib Tryz.prog := R1.add 163 (gSPb fun ps p => iP (insideP ps p)) (Vm.enters_of named_prog Tryz.func163 (by kernel_rfl)) (gSPb_spec fun ps p h => inside_calls ps p h)
end Go.Proofs.YtkkgimhbliocoaaGreat
