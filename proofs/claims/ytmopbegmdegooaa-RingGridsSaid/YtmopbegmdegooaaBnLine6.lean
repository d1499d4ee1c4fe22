/- Texts put together: Segs, Ring, RingMath, Ring2, Ring3, Shifts, ShiftsB, ShiftsC, Shifts2, ShiftsN, Shifts3, Parts, PartsB, Parts2, Grid12, Grid12B, Grid12C, Same12, Same12B, Turned, Turned2, Turned3. What is proved stands at the head of each part. -/
import Derived.Test.YtmopbegmdegooaaBnLine5
import Derived.RangeFuncNested
import Derived.RangeFuncBound
import Derived.RangeFuncCalls
import Derived.RangeFuncLeaves
import Derived.Shelf.Abstract
import Derived.Shelf.RegionOpen
import Derived.WalkKit
import Derived.OwnWalkIn
import Derived.TacticsInMore
import Derived.LoopNIn
import Derived.LoopIn
/- A range over a ring's segments: the iterator's contract. -/
namespace Go.Proofs.Ytmopbegmdegooaa
open Go Go.RowKit Go.Shelf M
attribute [local go_sem] Oper.semAt_some
set_option linter.unusedVariables false
set_option linter.unusedSimpArgs false
def ptV (p : P2) : Value := .agg #[.int .i64 p.1, .int .i64 p.2]
def upto {α : Type} (f : Nat → α) (k : Nat) : List α := (List.range k).map f
theorem upto_succ {α : Type} (f : Nat → α) (k : Nat) : upto f (k + 1) = upto f k ++ [f k] := by simp [upto, List.range_succ]
theorem upto_length {α : Type} (f : Nat → α) (k : Nat) : (upto f k).length = k := by simp [upto]
abbrev SegP := P2 × P2
/-- The k-th segment of a ring. -/
def segAt (ps : List P2) (k : Nat) : SegP := (ps[k]?.getD (0, 0), ps[(k + 1) % ps.length]?.getD (0, 0))
/-- What a round keeps: all that lay ahead, and the ring's box. -/
def KpS (n₀ Bs : Nat) (A B : World) : Prop := Below n₀ A B ∧ B.heap[Bs]? = A.heap[Bs]?
theorem KpS.trans {n₀ Bs : Nat} {A B C : World} (h : KpS n₀ Bs A B) (k : KpS n₀ Bs B C) : KpS n₀ Bs A C := ⟨h.1.trans k.1, k.2.trans h.2⟩
theorem KpS.refl (n₀ Bs : Nat) (A : World) : KpS n₀ Bs A A := ⟨Below.refl _ _, rfl⟩
theorem KpS.of_below {n₀ Bs B : Nat} {X Y : World} (h : Below B X Y) (h1 : n₀ ≤ B) (h2 : Bs < B) : KpS n₀ Bs X Y := ⟨h.mono h1, h.block Bs h2⟩
theorem kpS_b {n₀ Bs : Nat} {w : World} (hn : n₀ ≤ w.heap.size) (hB : Bs < w.heap.size) (W : World) (l : Nat) (o o' : Obj) (hl : w.heap.size ≤ l) (h : W.heap[l]? = some o) (h1 : o.isCells = false) (h2 : o.isWalk = false) : KpS n₀ Bs W (W.putObj l o') := by
  refine ⟨belowK_b hn W l o o' hl h h1 h2, ?_⟩
  exact (belowK_b (n₀ := w.heap.size) (Nat.le_refl _) W l o o' hl h h1 h2).block Bs hB
theorem segments_in (n : Nat) (hn : 1 ≤ n) (a : Option Addr) (len cap : Nat) (w : World) :
    CallsIn Fence.wide n Try.prog 53 #[.slice a len cap] w fun e w' => e = .returned (.func (.func 79) #[] #[.pointer (some ⟨w.heap.size, 0, none⟩)]) ∧ w' = w.alloc (.cells #[.slice a len cap] 24) := by
  refine callsIn_of_wp Try.func53 rfl trivial ?_ rfl
  simp only [Try.ntmps53, List.size_toArray, List.length_cons, List.length_nil, Nat.reduceAdd, Nat.reduceSub, Array.replicate_succ, Array.replicate_zero, List.push_toArray, List.append_toArray, List.nil_append, List.cons_append]
  gi_wp2
  go_ret
  exact ⟨rfl, rfl⟩
set_option maxRecDepth 100000 in
set_option maxHeartbeats 2000000 in
theorem segs1_in (n : Nat) (hn : 1 ≤ n) (l Bs n₀ b off cap : Nat) (ps : List P2) (hlen : ps.length < 4611686018427387904) (hb : b < n₀) (J Jx : List SegP → World → Prop)
    (hJ : ∀ s W o, J s W → J s (W.alloc o)) (hD : ∀ s W, J s W → J s W.drew)
    (hY : ∀ pre x W, J pre W → pre.length < ps.length → YieldAt Fence.wide (n - 1) Try.prog l #[ptV x.1, ptV x.2] W fun e W' =>
      (e = .returned (.bool true) ∧ J (pre ++ [x]) W' ∧ KpS n₀ Bs W W') ∨ (e = .returned (.bool false) ∧ Jx (pre ++ [x]) W'))
    (W : World) (hBs : W.cell? ⟨Bs, 0, none⟩ = some (.slice (some ⟨b, off, none⟩) ps.length cap)) (hBn : Bs < W.heap.size) (hnW : n₀ ≤ W.heap.size)
    (hc : ∀ j, j < ps.length → W.cell? ⟨b, off + j * 2, none⟩ = some (.int .i64 (ps[j]?.getD (0, 0)).1) ∧ W.cell? ⟨b, off + j * 2 + 1, none⟩ = some (.int .i64 (ps[j]?.getD (0, 0)).2)) (h0 : J [] W) :
    CallsIn Fence.wide n Try.prog 79 #[.func (.yield l) #[] #[], .pointer (some ⟨Bs, 0, none⟩)] W fun e W' => (∃ v, e = .returned v) ∧
      ((∃ ys, ys = upto (segAt ps) ps.length ∧ J ys W') ∨ (∃ pre, (∃ k, k ≤ ps.length ∧ pre = upto (segAt ps) k) ∧ Jx pre W')) := by
  refine callsIn_of_wp Try.func79 rfl trivial ?_ rfl
  simp only [Try.ntmps79, List.size_toArray, List.length_cons, List.length_nil, Nat.reduceAdd, Nat.reduceSub, Array.replicate_succ, Array.replicate_zero, List.push_toArray, List.append_toArray, List.nil_append, List.cons_append]
  gi_wp2
  gi_loopw [7] (fun i wr => ∃ k : Nat, k ≤ ps.length ∧ i = .int .i64 k ∧ J (upto (segAt ps) k) wr ∧ KpS n₀ Bs W wr)
    (fun i _ => ps.length - (intOf i).toNat)
  case atStart => exact ⟨0, Nat.zero_le _, rfl, h0, KpS.refl _ _ _⟩
  case round =>
    obtain ⟨k, hk, rfl, hJs, hnx⟩ := hrel
    have hcx : ∀ j, j < ps.length → wr.cell? ⟨b, off + j * 2, none⟩ = some (.int .i64 (ps[j]?.getD (0, 0)).1) ∧ wr.cell? ⟨b, off + j * 2 + 1, none⟩ = some (.int .i64 (ps[j]?.getD (0, 0)).2) := fun j h => ⟨(hnx.1.cell (p := ⟨b, off + j * 2, none⟩) hb).trans (hc j h).1, (hnx.1.cell (p := ⟨b, off + j * 2 + 1, none⟩) hb).trans (hc j h).2⟩
    have hBw := (World.cell?_of_block (w := W) (a := ⟨Bs, 0, none⟩) hnx.2).trans hBs
    have hBnr : Bs < wr.heap.size := Nat.lt_of_lt_of_le hBn hnx.1.size
    by_cases hlt : k < ps.length
    · have hcx' := hcx k hlt
      have hBel : KpS n₀ Bs W ((wr.alloc (Obj.cells #[.int .i64 ps[k].1, .int .i64 ps[k].2] 23)).drew) := hnx.trans (KpS.of_below (((Below.refl wr.heap.size wr).alloc (Nat.le_refl _) _).drew) (Nat.le_trans hnW hnx.1.size) hBnr)
      have hb1 := (World.cell?_of_block (w := W) (a := ⟨Bs, 0, none⟩) hBel.2).trans hBs
      have hb2 := fun j h => (hBel.1.cell (p := ⟨b, off + j * 2, none⟩) hb).trans (hc j h).1
      have hb3 := fun j h => (hBel.1.cell (p := ⟨b, off + j * 2 + 1, none⟩) hb).trans (hc j h).2
      have hb4 := hb2 ((k + 1) % ps.length) (Nat.mod_lt _ (by omega))
      have hb5 := hb3 ((k + 1) % ps.length) (Nat.mod_lt _ (by omega))
      have hne : ¬ ps = [] := fun h => by subst h; simp at hlt
      obtain ⟨m, hm⟩ : ∃ m, (k + 1) % ps.length = m := ⟨_, rfl⟩
      have hml : m < ps.length := hm ▸ Nat.mod_lt (k + 1) (y := ps.length) (by omega)
      have hidx : (IntKind.i64.wrap ((k : Int) + 1)).tmod (ps.length : Int) = (m : Int) := by
        rw [IntWalk.i64_in _ (by omega), Int.tmod_eq_emod_of_nonneg (by omega), ← hm]
        rfl
      rw [hm] at hb4 hb5
      have hseg : segAt ps k = (ps[k], ps[m]) := by simp [segAt, hm, hlt, hml]
      obtain ⟨fn, tmps, assign, body, hy, hR⟩ := hY (upto (segAt ps) k) (ps[k], ps[m]) _ (hD _ _ (hJ _ _ (Obj.cells #[.int .i64 ps[k].1, .int .i64 ps[k].2] 23) hJs)) (by rw [upto_length]; exact hlt)
      simp only [ptV] at hy
      have hR' := hR.mono (R' := fun e W' => ∃ bb : Bool, e = .returned (.bool bb) ∧ (bb = true → J (upto (segAt ps) (k + 1)) W' ∧ KpS n₀ Bs W W') ∧ (bb = false → Jx (upto (segAt ps) (k + 1)) W')) (by
        rintro e W' (⟨rfl, h1, h2⟩ | ⟨rfl, h1⟩)
        · exact ⟨true, rfl, fun _ => ⟨by rw [upto_succ, hseg]; exact h1, hBel.trans h2⟩, fun h => by cases h⟩
        · exact ⟨false, rfl, fun h => (by cases h), fun _ => by rw [upto_succ, hseg]; exact h1⟩)
      clear hR
      gi_wp2
      gi_region_with (refine hR'.mono ?_; rintro e W3 ⟨bb, rfl, hbt, hbf⟩; gi_wp2)
      all_goals (
        cases bb
        · gi_wp2
          refine bodyPost_ret (results_none rfl _ _ _) rfl ?_
          exact ⟨⟨_, rfl⟩, .inr ⟨_, ⟨k + 1, by omega, rfl⟩, hbf (by simp)⟩⟩
        · gi_wp2
          go_roundw
          case rel => exact ⟨k + 1, by omega, by simp, (hbt (by simp)).1, (hbt (by simp)).2⟩
          case measure => simp [intOf]; omega)
    · obtain rfl : k = ps.length := by omega
      gi_wp2
      go_end0
      exact ⟨⟨_, rfl⟩, .inl ⟨_, rfl, hJs⟩⟩
set_option maxRecDepth 100000 in
set_option maxHeartbeats 1000000 in
/-- .. of no points: no round. -/
theorem segs1_nil_in (n : Nat) (l Bs : Nat) (A : Option Addr) (cap : Nat) (J : List SegP → World → Prop) (W : World) (hBs : W.cell? ⟨Bs, 0, none⟩ = some (.slice A 0 cap)) (h0 : J [] W) :
    CallsIn Fence.wide n Try.prog 79 #[.func (.yield l) #[] #[], .pointer (some ⟨Bs, 0, none⟩)] W fun e W' => (∃ v, e = .returned v) ∧ J [] W' := by
  refine callsIn_of_wp Try.func79 rfl trivial ?_ rfl
  simp only [Try.ntmps79, List.size_toArray, List.length_cons, List.length_nil, Nat.reduceAdd, Nat.reduceSub, Array.replicate_succ, Array.replicate_zero, List.push_toArray, List.append_toArray, List.nil_append, List.cons_append]
  gi_wp2
  gi_loopw [7] (fun i wr => i = .int .i64 0 ∧ J [] wr) (fun _ _ => 0)
  case atStart => exact ⟨rfl, h0⟩
  case round =>
    obtain ⟨rfl, hJs⟩ := hrel
    gi_wp2
    go_end0
    exact ⟨⟨_, rfl⟩, hJs⟩
/-- The slice value sv holds the points ps, below n₀. -/
def HoldsP (n₀ : Nat) (W : World) (sv : Value) (ps : List P2) : Prop :=
  ∃ A cap, sv = .slice A ps.length cap ∧ (ps = [] ∨ ∃ b off, A = some ⟨b, off, none⟩ ∧ b < n₀ ∧ ∀ j, j < ps.length → W.cell? ⟨b, off + j * 2, none⟩ = some (.int .i64 (ps[j]?.getD (0, 0)).1) ∧ W.cell? ⟨b, off + j * 2 + 1, none⟩ = some (.int .i64 (ps[j]?.getD (0, 0)).2))
theorem HoldsP.below {n₀ : Nat} {X Y : World} (h : Below n₀ X Y) {sv : Value} {ps : List P2} : HoldsP n₀ X sv ps → HoldsP n₀ Y sv ps
  | ⟨A, cap, e, .inl h1⟩ => ⟨A, cap, e, .inl h1⟩
  | ⟨A, cap, e, .inr ⟨b, off, e1, hb, hc⟩⟩ => ⟨A, cap, e, .inr ⟨b, off, e1, hb, fun j hj => ⟨(h.cell (p := ⟨b, off + j * 2, none⟩) hb).trans (hc j hj).1, (h.cell (p := ⟨b, off + j * 2 + 1, none⟩) hb).trans (hc j hj).2⟩⟩⟩
theorem segs_stops (n : Nat) (hn : 1 ≤ n) (Bs n₀ : Nat) (sv : Value) (ps : List P2) (hlen : ps.length < 4611686018427387904) (w : World) (hBs : Bs < w.heap.size) (hn₀ : n₀ ≤ w.heap.size)
    (hc : w.cell? ⟨Bs, 0, none⟩ = some sv) (hI : HoldsP n₀ w sv ps) :
    SeqStopsK Fence.wide n Try.prog 79 #[.pointer (some ⟨Bs, 0, none⟩)] (fun x : SegP => #[ptV x.1, ptV x.2]) (KpS n₀ Bs) (fun ys => ys = upto (segAt ps) ps.length) (fun pre => ∃ k, k ≤ ps.length ∧ pre = upto (segAt ps) k) ps.length w := fun l J Jx W hW hJ _ hY h0 => by
  have hc' := (hW.cell (p := ⟨Bs, 0, none⟩) hBs).trans hc
  have hsz := hW.size
  obtain ⟨A, cap, rfl, hl⟩ := hI.below (hW.mono hn₀)
  rcases hl with rfl | ⟨b, off, rfl, hb, hcs⟩
  · exact (segs1_nil_in n l Bs A cap J W hc' h0).mono fun e W' ⟨he, hj⟩ => ⟨he, .inl ⟨[], rfl, hj⟩⟩
  · refine segs1_in n hn l Bs n₀ b off cap ps hlen hb J Jx (fun s X o h => ?_) (fun s X h => ?_) hY W hc' (by omega) (by omega) hcs h0
    · exact hJ s X _ none h (World.grownBy_alloc X o none) (fun r e => by cases e)
    · exact hJ s X _ none h ⟨rfl, rfl, rfl, Nat.le_refl _, fun _ _ _ => rfl⟩ (fun r e => by cases e)
end Go.Proofs.Ytmopbegmdegooaa
/- A ring's area: its function's answer. -/
namespace Go.Proofs.Ytmopbegmdegooaa
open Go Go.RowKit Go.Shelf M
attribute [local go_sem] Oper.semAt_some
set_option linter.unusedVariables false
set_option linter.unusedSimpArgs false
theorem rp_pt {L : Addr → Value → Prop} {p : P2} {v : Value} (h : Vm.Rp L (ptP p) v) : v = ptV p := by
  simp only [ptP, Vm.Rp, Vm.Rps] at h
  obtain ⟨cs, rfl, hs, ⟨y, hy, rfl⟩, ⟨z, hz, rfl⟩, _⟩ := h
  unfold ptV
  congr 1
  apply Array.ext
  · simpa using hs
  · intro i h1 h2
    simp only [List.length_cons, List.length_nil] at hs
    have : i = 0 ∨ i = 1 := by omega
    rcases this with rfl | rfl
    · rw [Array.getElem?_eq_getElem h1] at hy; simpa using hy
    · rw [Array.getElem?_eq_getElem h1] at hz; simpa using hz
theorem pt_rp {L : Addr → Value → Prop} (p : P2) : Vm.Rp L (ptP p) (ptV p) := by
  simp only [ptP, Vm.Rp, Vm.Rps, ptV]
  exact ⟨_, rfl, rfl, ⟨_, rfl, rfl⟩, ⟨_, rfl, rfl⟩, trivial⟩
theorem pure_in {F : FuncId} {ps : List Vm.PVal} {r : Vm.PVal} (h : Vm.CallsP Try.prog F ps r) {vs : Array Value} (hs : vs.size = ps.length) (hr : ∀ L, Vm.Rps L ps (fun i y => vs[i]? = some y) 0) (W : World) :
    Calls Try.prog F vs W fun e W' => (∃ v, e = .returned v ∧ ∃ L, Vm.Rp L r v) ∧ Below W.heap.size W W' :=
  (h (fun _ _ => False) W vs (fun _ _ h => h.elim) hs (hr _)).mono fun e W' ⟨v, ok', h1, h2, _, _, _, h3⟩ => ⟨⟨v, h1, _, h3⟩, h2⟩
theorem near_in (p : P2) (W : World) : Calls Try.prog 56 #[ptV p] W fun e W' => e = .returned (ptV (nearP p)) ∧ Below W.heap.size W W' :=
  (pure_in (near_calls p) (vs := #[ptV p]) rfl (fun L => ⟨⟨_, rfl, pt_rp p⟩, trivial⟩) W).mono fun e W' ⟨⟨v, h1, L, h2⟩, h3⟩ => ⟨by rw [h1, rp_pt h2], h3⟩
theorem on_in (a b p : P2) (W : World) : Calls Try.prog 54 #[ptV a, ptV b, ptV p] W fun e W' => e = .returned (.bool (on a b p)) ∧ Below W.heap.size W W' :=
  (pure_in (on_calls a b p) (vs := #[ptV a, ptV b, ptV p]) rfl (fun L => ⟨⟨_, rfl, pt_rp a⟩, ⟨_, rfl, pt_rp b⟩, ⟨_, rfl, pt_rp p⟩, trivial⟩) W).mono fun e W' ⟨⟨v, h1, L, h2⟩, h3⟩ => ⟨by rw [h1]; simp only [bP, Vm.Rp] at h2; rw [h2], h3⟩
/-- A block of cells is there. -/
def Cells (W : World) (B : Nat) (t : TypeId) (cs : Array Value) : Prop := W.heap[B]? = some (.cells cs t (0, 0))
theorem Cells.own {β : Type} (B : Nat) (t : TypeId) (cs : β → Array Value) : Own fun s W => Cells W B t (cs s) := fun s W W' row h hg hr => by
  unfold Cells at h ⊢
  refine (hg.block B (Array.getElem?_eq_some_iff.1 h).1 fun e => ?_).trans h
  obtain ⟨o, ho, hc⟩ := hr B e.symm
  rw [h, Option.some.injEq] at ho
  subst ho
  simp [Obj.isCells] at hc
theorem Cells.lt {W : World} {B : Nat} {t : TypeId} {cs : Array Value} (h : Cells W B t cs) : B < W.heap.size := (Array.getElem?_eq_some_iff.1 h).1
theorem Cells.cell {W : World} {B : Nat} {t : TypeId} {cs : Array Value} (h : Cells W B t cs) (i : Nat) : W.cell? ⟨B, i, none⟩ = cs[i]? := by simp [World.cell?, show W.heap[B]? = _ from h]
theorem Cells.frozen {W : World} {B : Nat} {t : TypeId} {cs : Array Value} (h : Cells W B t cs) (i : Nat) (hi : i < cs.size) : W.frozen? ⟨B, i, none⟩ = false := by simp [World.frozen?, show W.heap[B]? = _ from h]
theorem Cells.below {N : Nat} {X Y : World} {B : Nat} {t : TypeId} {cs : Array Value} (h : Cells X B t cs) (hb : Below N X Y) (hB : B < N) : Cells Y B t cs := (hb.block B hB).trans h
theorem Cells.after {X Y : World} {B : Nat} {t : TypeId} {cs : Array Value} (hb : Below X.heap.size X Y) (h : Cells X B t cs) : Cells Y B t cs := h.below hb h.lt
theorem Cells.set {W : World} {B : Nat} {t : TypeId} {cs : Array Value} (h : Cells W B t cs) (i : Nat) (v : Value) : Cells (W.setCell ⟨B, i, none⟩ v) B t (cs.setIfInBounds i v) := by
  obtain ⟨hlt, hk⟩ := Array.getElem?_eq_some_iff.1 h
  show (W.heap.modify B _)[B]? = _
  rw [Array.getElem?_eq_getElem (by rw [Array.size_modify]; exact hlt), Array.getElem_modify_self, hk]
  rfl
theorem Cells.other {W : World} {B : Nat} {t : TypeId} {cs : Array Value} (h : Cells W B t cs) {p : Addr} (hne : B ≠ p.block) (v : Value) : Cells (W.setCell p v) B t cs := (Below.heap_setCell _ _ _ _ hne).trans h
theorem below_after {N : Nat} {X Y Z : World} (h' : Below Y.heap.size Y Z) (h : Below N X Y) (hN : N ≤ X.heap.size) : Below N X Z := h.trans (h'.mono (Nat.le_trans hN h.size))
theorem keepsFrom_below {B : Nat} {X Y : World} (h : Below X.heap.size X Y) : KeepsFrom B X Y := ⟨h.size, fun k o _ hk _ => (h.block k (Array.getElem?_eq_some_iff.1 hk).1).trans hk⟩
theorem Cells.new (W : World) (t : TypeId) (cs : Array Value) : Cells (W.alloc (.cells cs t)) W.heap.size t cs := World.alloc_heap_new W _
def segStep (s : Int) (x : SegP) : Int := IntKind.i64.wrap (s + IntKind.i64.wrap (IntKind.i64.wrap ((nearP x.1).1 * (nearP x.2).2) - IntKind.i64.wrap ((nearP x.1).2 * (nearP x.2).1)))
def segSum (pre : List SegP) : Int := pre.foldl segStep 0
set_option maxRecDepth 100000 in
set_option maxHeartbeats 2000000 in
theorem area2_in (n : Nat) (hn : 8 ≤ n) (sv : Value) (ps : List P2) (hlen : ps.length < 4611686018427387904) (h3 : 3 ≤ ps.length) (w : World) (hI : HoldsP w.heap.size w sv ps) :
    CallsIn Fence.wide n Try.prog 23 #[sv] w fun e w' => e = .returned (.int .i64 (segSum (upto (segAt ps) ps.length))) ∧ Below w.heap.size w w' := by
  obtain ⟨A, cap, hsv, hl⟩ := id hI
  subst hsv
  refine callsIn_of_wp_marks Try.func23 rfl trivial ?_ rfl
  simp only [Try.ntmps23, List.size_toArray, List.length_cons, List.length_nil, Nat.reduceAdd, Nat.reduceSub, Array.replicate_succ, Array.replicate_zero, List.push_toArray, List.append_toArray, List.nil_append, List.cons_append]
  have hlt : ¬ ((ps.length : Int) < 3) := by omega
  have hlt' : ¬ (ps.length < 3) := by omega
  gi_wp2
  refine ⟨trivial, fun _ => by omega, (segments_in (n - 1) (by omega) _ _ _ _).mono ?_⟩
  rintro e w' ⟨rfl, rfl⟩
  gi_wp2
  have hB0 : Below w.heap.size w ((w.alloc (.cells #[.int .i64 0] 2)).alloc (.cells #[.slice A ps.length cap] 24)) := ((Below.refl _ w).alloc (Nat.le_refl _) _).alloc (by simp) _
  have bN : Cells ((w.alloc (.cells #[.int .i64 0] 2)).alloc (.cells #[.slice A ps.length cap] 24)) w.heap.size 2 #[.int .i64 0] :=
    (Cells.new w 2 _).below ((Below.refl (w.heap.size + 1) _).alloc (by simp) _) (by omega)
  have bA : Cells ((w.alloc (.cells #[.int .i64 0] 2)).alloc (.cells #[.slice A ps.length cap] 24)) (w.heap.size + 1) 24 #[.slice A ps.length cap] := by
    have := Cells.new (w.alloc (.cells #[.int .i64 0] 2)) 24 #[.slice A ps.length cap]
    rwa [World.size_alloc] at this
  have hsz : ((w.alloc (.cells #[.int .i64 0] 2)).alloc (.cells #[.slice A ps.length cap] 24)).heap.size = w.heap.size + 2 := by simp
  obtain ⟨W0, hW0⟩ : ∃ W0, (w.alloc (.cells #[.int .i64 0] 2)).alloc (.cells #[.slice A ps.length cap] 24) = W0 := ⟨_, rfl⟩
  rw [hW0] at hB0 bN bA hsz ⊢
  clear hW0
  refine wpIn_rangeFunc_ownH rfl (by omega) (gf := 79) (lb := #[.pointer (some ⟨w.heap.size + 1, 0, none⟩)]) rfl trivial (enters_of Try.func79 (by kernel_rfl) rfl)
    (segs_stops (n - 1) (by omega) (w.heap.size + 1) w.heap.size _ ps hlen W0 (by omega) (by omega) (by have := bA.cell 0; simpa using this) (hI.below hB0)) (fun h k => h.trans k) (kpS_b (by omega) (by omega)) (Below.refl _ _) (fun _ => rfl)
    (fun pre W => Cells W w.heap.size 2 #[.int .i64 (segSum pre)] ∧ Below w.heap.size W0 W)
    (fun _ _ _ => False)
    (OwnFrom.and (Own.from (Cells.own _ _ fun pre => #[.int .i64 (segSum pre)]) _) (ownFrom_below (by omega) (by omega)))
    (fun c => fun _ _ _ _ h _ _ => h)
    ⟨bN, Below.refl _ _⟩
    (fun x a' W => ∃ Bx By, w.heap.size + 1 < Bx ∧ Bx < By ∧ Cells W Bx 23 #[.int .i64 x.1.1, .int .i64 x.1.2] ∧ Cells W By 23 #[.int .i64 x.2.1, .int .i64 x.2.2] ∧
      a' = { tmps := #[.slice A ps.length cap, undef, .int .i64 0, .pointer (some ⟨w.heap.size, 0, none⟩), .pointer (some ⟨Bx, 0, none⟩), .pointer (some ⟨By, 0, none⟩), .slice A ps.length cap, .int .i64 ps.length, .bool false, .slice A ps.length cap,
        .func (.func 79) #[] #[.pointer (some ⟨w.heap.size + 1, 0, none⟩)], ptV x.1, ptV x.2, undef, undef, undef, undef, undef, undef, undef, undef, undef, undef, undef, undef, undef, undef, undef, undef, undef, undef], defers := [] })
    (fun x a' _ X Y row hs hg hr => by
      obtain ⟨Bx, By, e1, e2, e3, e4, e5⟩ := hs
      exact ⟨Bx, By, e1, e2, Cells.own Bx 23 (fun (_ : Unit) => #[.int .i64 x.1.1, .int .i64 x.1.2]) () X Y row e3 hg (fun r e => (hr r e).2), Cells.own By 23 (fun (_ : Unit) => #[.int .i64 x.2.1, .int .i64 x.2.2]) () X Y row e4 hg (fun r e => (hr r e).2), e5⟩)
    ?assign ?body ?done ?stop
  case assign =>
    rintro l pre x W K ⟨hN, hB⟩ hK
    unfold ptV
    gi_wp2
    have hb2 : Below W.heap.size W ((W.alloc (.cells #[.int .i64 x.1.1, .int .i64 x.1.2] 23)).alloc (.cells #[.int .i64 x.2.1, .int .i64 x.2.2] 23)) := ((Below.refl _ W).alloc (Nat.le_refl _) _).alloc (by simp) _
    have hsW := hB.size
    refine hK _ _ (((KeepsOthers.alloc _ _).trans (KeepsOthers.alloc _ _)).from _) (KpS.of_below hb2 (by omega) (by omega)) ⟨hN.below hb2 hN.lt, hB.trans (hb2.mono (by omega))⟩ ⟨W.heap.size, W.heap.size + 1, by omega, by omega, ?_, ?_, by simp [ptV]⟩
    · exact (Cells.new W 23 _).below ((Below.refl (W.heap.size + 1) _).alloc (by simp) _) (by omega)
    · have := Cells.new (W.alloc (.cells #[.int .i64 x.1.1, .int .i64 x.1.2] 23)) 23 #[.int .i64 x.2.1, .int .i64 x.2.2]
      rwa [World.size_alloc] at this
  case body =>
    rintro l pre x a' W hl ⟨r, hr⟩ ⟨hN, hB⟩ ⟨Bx, By, h1, h2, hX, hY, rfl⟩ hlt
    have hX0 : Cells W.drew Bx 23 #[.int .i64 x.1.1, .int .i64 x.1.2] := hX
    have hY0 : Cells W.drew By 23 #[.int .i64 x.2.1, .int .i64 x.2.2] := hY
    have hN0 : Cells W.drew w.heap.size 2 #[.int .i64 (segSum pre)] := hN
    have hBW0 : Below W.heap.size W W.drew := (Below.refl _ W).drew
    have x00 := hX0.cell 0
    have x01 := hX0.cell 1
    have y00 := hY0.cell 0
    have y01 := hY0.cell 1
    have xf0 := hX0.frozen 0 (by simp)
    have yf0 := hY0.frozen 0 (by simp)
    simp only [List.getElem?_toArray, List.getElem?_cons_zero, List.getElem?_cons_succ] at x00 x01 y00 y01
    have hne : ¬ Bx = By := by omega
    have hne2 : ¬ By = Bx := by omega
    gi_wp2
    gi_region_with (refine ⟨trivial, fun _ => by omega, ?_⟩; refine (CallsIn.inRound l (callsIn_wide.2 (near_in _ _))).mono ?_; rintro e W1 ⟨rfl, hb1⟩; unfold ptV; have hBW := below_after (N := W.heap.size) (X := W) hb1 (by assumption) (Nat.le_refl _); have hX1 := Cells.after (B := Bx) (t := 23) (cs := #[.int .i64 x.1.1, .int .i64 x.1.2]) hb1 (by assumption); have hY1 := Cells.after (B := By) (t := 23) (cs := #[.int .i64 x.2.1, .int .i64 x.2.2]) hb1 (by assumption); have hN1 := Cells.after (B := w.heap.size) (t := 2) (cs := #[.int .i64 (segSum pre)]) hb1 (by assumption); have x10 : W1.cell? ⟨Bx, 0, none⟩ = some (.int .i64 x.1.1) := hX1.cell 0; have x11 : W1.cell? ⟨Bx, 1, none⟩ = some (.int .i64 x.1.2) := hX1.cell 1; have y10 : W1.cell? ⟨By, 0, none⟩ = some (.int .i64 x.2.1) := hY1.cell 0; have y11 : W1.cell? ⟨By, 1, none⟩ = some (.int .i64 x.2.2) := hY1.cell 1; have n10 : W1.cell? ⟨w.heap.size, 0, none⟩ = some (.int .i64 (segSum pre)) := hN1.cell 0; have xf1 := hX1.frozen 0 (by simp); have yf1 := hY1.frozen 0 (by simp); have nf1 := hN1.frozen 0 (by simp); have xf2 := hX1.frozen 1 (by simp); have yf2 := hY1.frozen 1 (by simp); gi_wp2)
    all_goals (
      have hsW := hB.size
      have hNx : w.heap.size ≠ Bx := by omega
      have hNy : w.heap.size ≠ By := by omega
      have hXV := (((hX1.set 0 (.int .i64 (nearP x.1).1)).set 1 (.int .i64 (nearP x.1).2)).other (p := ⟨By, 0, none⟩) hne (.int .i64 (nearP x.2).1)).other (p := ⟨By, 1, none⟩) hne (.int .i64 (nearP x.2).2)
      have hYV := (((hY1.other (p := ⟨Bx, 0, none⟩) hne2 (.int .i64 (nearP x.1).1)).other (p := ⟨Bx, 1, none⟩) hne2 (.int .i64 (nearP x.1).2)).set 0 (.int .i64 (nearP x.2).1)).set 1 (.int .i64 (nearP x.2).2)
      have hNV := (((hN1.other (p := ⟨Bx, 0, none⟩) hNx (.int .i64 (nearP x.1).1)).other (p := ⟨Bx, 1, none⟩) hNx (.int .i64 (nearP x.1).2)).other (p := ⟨By, 0, none⟩) hNy (.int .i64 (nearP x.2).1)).other (p := ⟨By, 1, none⟩) hNy (.int .i64 (nearP x.2).2)
      have hKV := (((keepsFrom_below (B := W0.heap.size) hBW).trans ((KeepsOthers.setCell _ ⟨Bx, 0, none⟩ (.int .i64 (nearP x.1).1)).from _)).trans ((KeepsOthers.setCell _ ⟨Bx, 1, none⟩ (.int .i64 (nearP x.1).2)).from _)).trans (((KeepsOthers.setCell _ ⟨By, 0, none⟩ (.int .i64 (nearP x.2).1)).from _).trans ((KeepsOthers.setCell _ ⟨By, 1, none⟩ (.int .i64 (nearP x.2).2)).from _))
      have hBV : Below (w.heap.size + 2) W _ := ((((hBW.mono (by omega)).setCell (p := ⟨Bx, 0, none⟩) (by simp only; omega) (.int .i64 (nearP x.1).1)).setCell (p := ⟨Bx, 1, none⟩) (by simp only; omega) (.int .i64 (nearP x.1).2)).setCell (p := ⟨By, 0, none⟩) (by simp only; omega) (.int .i64 (nearP x.2).1)).setCell (p := ⟨By, 1, none⟩) (by simp only; omega) (.int .i64 (nearP x.2).2)
      obtain ⟨V, hV⟩ : ∃ V, ((((W1.setCell ⟨Bx, 0, none⟩ (.int .i64 (nearP x.1).1)).setCell ⟨Bx, 1, none⟩ (.int .i64 (nearP x.1).2)).setCell ⟨By, 0, none⟩ (.int .i64 (nearP x.2).1)).setCell ⟨By, 1, none⟩ (.int .i64 (nearP x.2).2)) = V := ⟨_, rfl⟩
      rw [hV] at hXV hYV hNV hKV hBV ⊢
      clear hV
      have v0 : V.cell? ⟨Bx, 0, none⟩ = some (.int .i64 (nearP x.1).1) := hXV.cell 0
      have v1 : V.cell? ⟨Bx, 1, none⟩ = some (.int .i64 (nearP x.1).2) := hXV.cell 1
      have v2 : V.cell? ⟨By, 0, none⟩ = some (.int .i64 (nearP x.2).1) := hYV.cell 0
      have v3 : V.cell? ⟨By, 1, none⟩ = some (.int .i64 (nearP x.2).2) := hYV.cell 1
      have v4 : V.cell? ⟨w.heap.size, 0, none⟩ = some (.int .i64 (segSum pre)) := hNV.cell 0
      have v5 := hNV.frozen 0 (by simp)
      gi_wp2
      have es : segSum (pre ++ [x]) = segStep (segSum pre) x := by simp [segSum, List.foldl_append]
      refine ⟨hKV.trans ((KeepsOthers.setCell _ _ _).from _), ⟨(hBV.mono (B' := w.heap.size) (by omega)).setCell (p := ⟨w.heap.size, 0, none⟩) (Nat.le_refl _) _, ?_⟩, ?_, hB.trans ((hBV.mono (B' := w.heap.size) (by omega)).setCell (p := ⟨w.heap.size, 0, none⟩) (Nat.le_refl _) _)⟩
      · rw [Below.heap_setCell _ _ _ _ (by simp only; omega)]
        exact hBV.block _ (by omega)
      · rw [es]
        have := hNV.set 0 (.int .i64 (segStep (segSum pre) x))
        simpa only [segStep, IntWalk.i64_left, List.setIfInBounds_toArray, List.set_cons_zero] using this)
  case done =>
    rintro D ys W hD rfl ⟨hc, hB⟩ hK
    have c0 : W.cell? ⟨w.heap.size, 0, none⟩ = some (.int .i64 (segSum (upto (segAt ps) ps.length))) := hc.cell 0
    gi_wp2
    refine ⟨by simp, .inl ⟨_, _, rfl, run_takeDeferred hK, ?_⟩⟩
    refine ⟨_, results_tmp rfl _ _ _, rfl, ?_⟩
    exact (hB0.trans hB).trans (belowK_b (w := w) (Nat.le_refl _) W D _ _ (by omega) hK rfl rfl)
  case stop =>
    rintro D c pre W _ _ h _
    exact h.elim
end Go.Proofs.Ytmopbegmdegooaa
/- Rings: their areas, and where points lie to them: plain numbers, no program in sight. -/
namespace Go.Proofs.Ytmopbegmdegooaa
open M
set_option linter.unusedVariables false
set_option linter.unusedSimpArgs false
def cross (x : SegP) : Int := x.1.1 * x.2.2 - x.1.2 * x.2.1
/-- A path's segments. -/
def pathS : List P2 → List SegP
  | [] => []
  | [_] => []
  | p :: q :: l => (p, q) :: pathS (q :: l)
/-- A ring's segments. -/
def ringS : List P2 → List SegP
  | [] => []
  | p :: l => pathS (p :: l ++ [p])
def sumC (xs : List SegP) : Int := (xs.map cross).sum
theorem sumC_append (xs ys : List SegP) : sumC (xs ++ ys) = sumC xs + sumC ys := by simp [sumC]
theorem sumC_cons (x : SegP) (ys : List SegP) : sumC (x :: ys) = cross x + sumC ys := by simp [sumC]
theorem pathS_length : ∀ l : List P2, (pathS l).length = l.length - 1
  | [] => rfl
  | [_] => rfl
  | p :: q :: l => by simp [pathS, pathS_length (q :: l)]
theorem pathS_get : ∀ (l : List P2) (k : Nat) (h : k + 1 < l.length), (pathS l)[k]? = some (l[k], l[k + 1])
  | [], k, h => by simp at h
  | [_], k, h => by simp at h
  | p :: q :: l, 0, h => rfl
  | p :: q :: l, k + 1, h => by
    simp only [pathS, List.getElem?_cons_succ]
    rw [pathS_get (q :: l) k (by simpa using h)]
    rfl
theorem pathS_append : ∀ (xs : List P2) (m : P2) (ys : List P2), pathS (xs ++ m :: ys) = pathS (xs ++ [m]) ++ pathS (m :: ys)
  | [], m, ys => by simp [pathS]
  | [x], m, ys => by simp [pathS]
  | x :: y :: xs, m, ys => by
    have := pathS_append (y :: xs) m ys
    simp only [List.cons_append, pathS] at this ⊢
    rw [this]
theorem segs_eq (ps : List P2) : upto (segAt ps) ps.length = ringS ps := by
  match ps with
  | [] => rfl
  | p :: l =>
    apply List.ext_getElem?
    intro k
    by_cases hk : k < (p :: l).length
    · have h1 : (upto (segAt (p :: l)) (p :: l).length)[k]? = some (segAt (p :: l) k) := by
        unfold upto
        rw [List.getElem?_map, List.getElem?_range hk]
        rfl
      have h2 := pathS_get (p :: l ++ [p]) k (by simpa using hk)
      rw [h1]
      show _ = (pathS (p :: l ++ [p]))[k]?
      rw [h2]
      congr 1
      unfold segAt
      rw [List.getElem?_eq_getElem hk]
      simp only [Option.getD_some]
      refine Prod.ext ?_ ?_
      · simp only [List.getElem_append_left hk]
      · simp only
        by_cases h : k + 1 < (p :: l).length
        · rw [Nat.mod_eq_of_lt h, List.getElem?_eq_getElem h, List.getElem_append_left h]
          rfl
        · have e : k + 1 = (p :: l).length := by omega
          rw [List.getElem_append_right (by omega)]
          simp [e]
    · rw [List.getElem?_eq_none (by simp [upto]; simpa using hk), List.getElem?_eq_none]
      show (pathS (p :: l ++ [p])).length ≤ k
      rw [pathS_length]
      simp at hk ⊢
      omega
theorem pathS_mem : ∀ (l : List P2) (x : SegP), x ∈ pathS l → x.1 ∈ l ∧ x.2 ∈ l
  | [], x, h => by simp [pathS] at h
  | [_], x, h => by simp [pathS] at h
  | p :: q :: l, x, h => by
    simp only [pathS, List.mem_cons] at h
    rcases h with rfl | h
    · simp
    · have := pathS_mem (q :: l) x h
      exact ⟨List.mem_cons_of_mem _ this.1, List.mem_cons_of_mem _ this.2⟩
theorem ringS_mem {ps : List P2} {x : SegP} (h : x ∈ ringS ps) : x.1 ∈ ps ∧ x.2 ∈ ps := by
  match ps, h with
  | [], h => simp [ringS] at h
  | p :: l, h =>
    have := pathS_mem _ x h
    simp only [List.mem_append, List.mem_singleton] at this
    have e : ∀ y, (y ∈ p :: l ∨ y = p) → y ∈ p :: l := fun y hy => hy.elim id fun h => by simp [h]
    exact ⟨e _ this.1, e _ this.2⟩
theorem pathS_map (f : P2 → P2) : ∀ l : List P2, pathS (l.map f) = (pathS l).map fun x => (f x.1, f x.2)
  | [] => rfl
  | [_] => rfl
  | p :: q :: l => by
    have := pathS_map f (q :: l)
    simp only [List.map_cons, pathS] at this ⊢
    rw [this]
theorem ringS_map (f : P2 → P2) (l : List P2) : ringS (l.map f) = (ringS l).map fun x => (f x.1, f x.2) := by
  match l with
  | [] => rfl
  | p :: l =>
    show pathS (f p :: l.map f ++ [f p]) = _
    have := pathS_map f (p :: l ++ [p])
    simpa [ringS] using this
theorem ringS_rot (xs ys : List P2) : (ringS (xs ++ ys)).Perm (ringS (ys ++ xs)) := by
  match xs, ys with
  | [], ys => simp
  | xs, [] => simp
  | x :: xs, y :: ys =>
    have e1 : ringS (x :: xs ++ y :: ys) = pathS (x :: xs ++ [y]) ++ pathS (y :: ys ++ [x]) := by
      show pathS (x :: (xs ++ y :: ys) ++ [x]) = _
      have := pathS_append (x :: xs) y (ys ++ [x])
      simpa using this
    have e2 : ringS (y :: ys ++ x :: xs) = pathS (y :: ys ++ [x]) ++ pathS (x :: xs ++ [y]) := by
      show pathS (y :: (ys ++ x :: xs) ++ [y]) = _
      have := pathS_append (y :: ys) x (xs ++ [y])
      simpa using this
    rw [e1, e2]
    exact List.perm_append_comm
theorem pathS_reverse : ∀ l : List P2, pathS l.reverse = ((pathS l).map fun x => (x.2, x.1)).reverse
  | [] => rfl
  | [_] => rfl
  | p :: q :: l => by
    have h1 := pathS_reverse (q :: l)
    have h2 := pathS_append l.reverse q [p]
    simp only [List.reverse_cons, List.append_assoc, List.cons_append, List.nil_append] at h1 h2 ⊢
    rw [h2, h1]
    simp [pathS]
theorem ringS_turned (p : P2) (l : List P2) : ringS (p :: l.reverse) = ((ringS (p :: l)).map fun x => (x.2, x.1)).reverse := by
  have := pathS_reverse (p :: l ++ [p])
  simp only [List.reverse_append, List.reverse_cons, List.reverse_nil, List.nil_append, List.cons_append] at this
  show pathS (p :: l.reverse ++ [p]) = ((pathS (p :: l ++ [p])).map _).reverse
  simpa using this
theorem cross_flip (x : SegP) : cross (x.2, x.1) = - cross x := by unfold cross; simp only; grind
theorem sumC_flip (xs : List SegP) : sumC (xs.map fun x => (x.2, x.1)).reverse = - sumC xs := by
  induction xs with
  | nil => rfl
  | cons x xs ih =>
    simp only [List.map_cons, List.reverse_cons, sumC_append, ih, sumC_cons, cross_flip]
    have : sumC [] = 0 := rfl
    omega
theorem sumC_perm {xs ys : List SegP} (h : xs.Perm ys) : sumC xs = sumC ys := by
  induction h with
  | nil => rfl
  | cons x _ ih => simp only [sumC_cons, ih]
  | swap x y l => simp only [sumC_cons]; omega
  | trans _ _ h1 h2 => exact h1.trans h2
def lastP : P2 → List P2 → P2
  | p, [] => p
  | _, q :: l => lastP q l
theorem lastP_snoc (q : P2) : ∀ (p : P2) (l : List P2), lastP p (l ++ [q]) = q
  | p, [] => rfl
  | p, x :: l => lastP_snoc q x l
/-- A step of all points adds what falls out round a ring. -/
theorem sumC_path (u v : Int) : ∀ (p : P2) (l : List P2), sumC (pathS ((p :: l).map fun x => (x.1 + u, x.2 + v))) = sumC (pathS (p :: l)) + u * ((lastP p l).2 - p.2) - v * ((lastP p l).1 - p.1)
  | p, [] => by simp [pathS, sumC, lastP]
  | p, q :: l => by
    have := sumC_path u v q l
    simp only [List.map_cons, pathS, sumC_cons, lastP] at this ⊢
    rw [this]
    unfold cross
    simp only
    grind
theorem sumC_move (u v : Int) (ps : List P2) : sumC (ringS (ps.map fun x => (x.1 + u, x.2 + v))) = sumC (ringS ps) := by
  match ps with
  | [] => rfl
  | p :: l =>
    have := sumC_path u v p (l ++ [p])
    rw [lastP_snoc, Int.sub_self, Int.sub_self, Int.mul_zero, Int.mul_zero, Int.add_zero, Int.sub_zero] at this
    rw [show ringS (p :: l) = pathS (p :: (l ++ [p])) from rfl, ← this]
    simp [ringS]
theorem ringS_two (p q : P2) : sumC (ringS [p, q]) = 0 := by
  simp only [ringS, List.cons_append, List.nil_append, pathS, sumC, List.map_cons, List.map_nil, List.sum_cons, List.sum_nil, cross]
  grind
theorem ringS_one (p : P2) : sumC (ringS [p]) = 0 := by
  simp only [ringS, List.cons_append, List.nil_append, pathS, sumC, List.map_cons, List.map_nil, List.sum_cons, List.sum_nil, cross]
  grind
theorem ringS_short {ps : List P2} (h : ps.length < 3) : sumC (ringS ps) = 0 := by
  match ps, h with
  | [], _ => rfl
  | [p], _ => exact ringS_one p
  | [p, q], _ => exact ringS_two p q
/-- A ring cut in two. -/
theorem ringS_cut (xs : List P2) (a : P2) (ys : List P2) (b : P2) (zs : List P2) :
    sumC (ringS (a :: ys ++ [b])) + sumC (ringS (b :: zs ++ (xs ++ [a]))) = sumC (ringS (xs ++ a :: ys ++ b :: zs)) := by
  have e1 : sumC (ringS (a :: ys ++ [b])) = sumC (pathS (a :: ys ++ [b])) + cross (b, a) := by
    have := pathS_append (a :: ys) b [a]
    show sumC (pathS (a :: (ys ++ [b]) ++ [a])) = _
    simp only [List.cons_append, List.append_assoc, List.nil_append] at this ⊢
    rw [this, sumC_append]
    simp [pathS, sumC]
  have e2 : sumC (ringS (b :: zs ++ (xs ++ [a]))) = sumC (pathS (b :: zs ++ (xs ++ [a]))) + cross (a, b) := by
    have := pathS_append (b :: zs ++ xs) a [b]
    show sumC (pathS (b :: (zs ++ (xs ++ [a])) ++ [b])) = _
    simp only [List.cons_append, List.append_assoc, List.nil_append] at this ⊢
    rw [this, sumC_append]
    simp [pathS, sumC]
  have e4 : (ringS (xs ++ a :: ys ++ b :: zs)).Perm (ringS ((a :: ys ++ b :: zs) ++ xs)) := by
    have := ringS_rot xs (a :: ys ++ b :: zs)
    simpa using this
  have e5 : sumC (ringS ((a :: ys ++ b :: zs) ++ xs)) = sumC (pathS (a :: ys ++ [b])) + sumC (pathS (b :: zs ++ (xs ++ [a]))) := by
    have := pathS_append (a :: ys) b (zs ++ xs ++ [a])
    show sumC (pathS (a :: (ys ++ b :: zs ++ xs) ++ [a])) = _
    simp only [List.cons_append, List.append_assoc, List.nil_append] at this ⊢
    rw [this, sumC_append]
  have e6 : cross (b, a) = - cross (a, b) := cross_flip (a, b)
  rw [e1, e2, sumC_perm e4, e5]
  omega
/-! ## where a point lies -/
def rayN (p : P2) (xs : List SegP) : Nat := xs.countP fun x => ray x.1 x.2 p
def onAny (p : P2) (xs : List SegP) : Bool := xs.any fun x => M.on x.1 x.2 p
def insideS (xs : List SegP) (p : P2) : Int := if onAny p xs then 0 else if rayN p xs % 2 = 0 then -1 else 1
theorem insideS_perm {xs ys : List SegP} (h : xs.Perm ys) (p : P2) : insideS xs p = insideS ys p := by
  unfold insideS onAny rayN
  rw [h.any_eq, h.countP_eq]
theorem insideS_map {f : SegP → SegP} {p q : P2} {xs : List SegP} (h : ∀ x ∈ xs, M.on (f x).1 (f x).2 q = M.on x.1 x.2 p ∧ ray (f x).1 (f x).2 q = ray x.1 x.2 p) : insideS (xs.map f) q = insideS xs p := by
  have key : ∀ ys : List SegP, (∀ x ∈ ys, M.on (f x).1 (f x).2 q = M.on x.1 x.2 p ∧ ray (f x).1 (f x).2 q = ray x.1 x.2 p) → onAny q (ys.map f) = onAny p ys ∧ rayN q (ys.map f) = rayN p ys := by
    intro ys
    induction ys with
    | nil => intro _; exact ⟨rfl, rfl⟩
    | cons y ys ih =>
      intro h
      obtain ⟨h1, h2⟩ := ih fun x hx => h x (by simp [hx])
      unfold onAny rayN at *
      simp only [List.map_cons, List.any_cons, List.countP_cons, (h y (by simp)).1, (h y (by simp)).2, h1, h2, and_self]
  obtain ⟨h1, h2⟩ := key xs h
  unfold insideS
  rw [h1, h2]
theorem on_flip (a b p : P2) : M.on a b p = M.on b a p := by
  unfold M.on onR turnR
  generalize nearP a = a
  generalize nearP b = b
  generalize nearP p = p
  have h : area a b p = - area b a p := by unfold area; grind
  have h2 : (sgn (area a b p) == 0) = (sgn (area b a p) == 0) := by
    rw [h]
    unfold sgn
    by_cases h1 : area b a p < 0
    · rw [if_neg (by omega), if_pos (by omega), if_pos h1]; rfl
    · by_cases h3 : 0 < area b a p
      · rw [if_pos (by omega), if_neg h1, if_pos h3]; rfl
      · rw [if_neg (by omega), if_neg (by omega), if_neg h1, if_neg h3]
  rw [h2]
  have e1 : min a.1 b.1 = min b.1 a.1 := by omega
  have e2 : max a.1 b.1 = max b.1 a.1 := by omega
  have e3 : min a.2 b.2 = min b.2 a.2 := by omega
  have e4 : max a.2 b.2 = max b.2 a.2 := by omega
  rw [e1, e2, e3, e4]
theorem ray_flip (a b p : P2) : ray a b p = ray b a p := by
  unfold ray rayR
  generalize nearP a = a
  generalize nearP b = b
  generalize nearP p = p
  by_cases h1 : a.2 > b.2
  · rw [decide_eq_true h1, decide_eq_false (p := b.2 > a.2) (by omega)]
    rfl
  · by_cases h2 : b.2 > a.2
    · rw [decide_eq_false h1, decide_eq_true (p := b.2 > a.2) (by omega)]
      rfl
    · have e : a.2 = b.2 := by omega
      rw [decide_eq_false h1, decide_eq_false h2]
      simp only [cond_false, e]
      by_cases h3 : b.2 > p.2
      · rw [decide_eq_false (p := b.2 ≤ p.2) (by omega)]
        simp
      · rw [decide_eq_false h3]
        simp
theorem on_move {a b p : P2} {u v : Int} (ha : inG a ∧ inG (a.1 + u, a.2 + v)) (hb : inG b ∧ inG (b.1 + u, b.2 + v)) (hp : inG p ∧ inG (p.1 + u, p.2 + v)) : M.on (a.1 + u, a.2 + v) (b.1 + u, b.2 + v) (p.1 + u, p.2 + v) = M.on a b p := by
  rw [Bool.eq_iff_iff, on_iff ha.2 hb.2 hp.2, on_iff ha.1 hb.1 hp.1]
  have e : area (a.1 + u, a.2 + v) (b.1 + u, b.2 + v) (p.1 + u, p.2 + v) = area a b p := by unfold area; grind
  rw [e]
  simp only
  omega
theorem ray_move {a b p : P2} {u v : Int} (ha : inG a ∧ inG (a.1 + u, a.2 + v)) (hb : inG b ∧ inG (b.1 + u, b.2 + v)) (hp : inG p ∧ inG (p.1 + u, p.2 + v)) : ray (a.1 + u, a.2 + v) (b.1 + u, b.2 + v) (p.1 + u, p.2 + v) = ray a b p := by
  unfold ray
  rw [nearP_id ha.1, nearP_id ha.2, nearP_id hb.1, nearP_id hb.2, nearP_id hp.1, nearP_id hp.2]
  have e1 : area (a.1 + u, a.2 + v) (b.1 + u, b.2 + v) (p.1 + u, p.2 + v) = area a b p := by unfold area; grind
  have e2 : area (b.1 + u, b.2 + v) (a.1 + u, a.2 + v) (p.1 + u, p.2 + v) = area b a p := by unfold area; grind
  unfold rayR turnR
  rw [e1, e2]
  simp only
  have c1 : decide (a.2 + v > b.2 + v) = decide (a.2 > b.2) := by congr 1; apply propext; omega
  have c2 : decide (a.2 + v > p.2 + v) = decide (a.2 > p.2) := by congr 1; apply propext; omega
  have c3 : decide (b.2 + v > p.2 + v) = decide (b.2 > p.2) := by congr 1; apply propext; omega
  have c4 : decide (b.2 + v ≤ p.2 + v) = decide (b.2 ≤ p.2) := by congr 1; apply propext; omega
  have c5 : decide (a.2 + v ≤ p.2 + v) = decide (a.2 ≤ p.2) := by congr 1; apply propext; omega
  rw [c1, c2, c3, c4, c5]
/-- A ring moved, and the point with it. -/
theorem inside_move {ps : List P2} {p : P2} {u v : Int} (h : ∀ x ∈ ps, inG x ∧ inG (x.1 + u, x.2 + v)) (hp : inG p ∧ inG (p.1 + u, p.2 + v)) :
    insideS (ringS (ps.map fun x => (x.1 + u, x.2 + v))) (p.1 + u, p.2 + v) = insideS (ringS ps) p := by
  rw [ringS_map]
  refine insideS_map fun x hx => ?_
  have hm := ringS_mem hx
  exact ⟨on_move (h _ hm.1) (h _ hm.2) hp, ray_move (h _ hm.1) (h _ hm.2) hp⟩
theorem inside_rot (xs ys : List P2) (p : P2) : insideS (ringS (xs ++ ys)) p = insideS (ringS (ys ++ xs)) p := insideS_perm (ringS_rot xs ys) p
theorem inside_turned (q : P2) (l : List P2) (p : P2) : insideS (ringS (q :: l.reverse)) p = insideS (ringS (q :: l)) p := by
  rw [ringS_turned, insideS_perm (List.reverse_perm _)]
  exact insideS_map fun x _ => ⟨on_flip _ _ _, ray_flip _ _ _⟩
end Go.Proofs.Ytmopbegmdegooaa
/- Where a point lies to a ring: its function's answer. -/
namespace Go.Proofs.Ytmopbegmdegooaa
open Go Go.RowKit Go.Shelf M
attribute [local go_sem] Oper.semAt_some
set_option linter.unusedVariables false
set_option linter.unusedSimpArgs false
theorem ray_in (a b p : P2) (W : World) : Calls Try.prog 55 #[ptV a, ptV b, ptV p] W fun e W' => e = .returned (.bool (ray a b p)) ∧ Below W.heap.size W W' :=
  (pure_in (ray_calls a b p) (vs := #[ptV a, ptV b, ptV p]) rfl (fun L => ⟨⟨_, rfl, pt_rp a⟩, ⟨_, rfl, pt_rp b⟩, ⟨_, rfl, pt_rp p⟩, trivial⟩) W).mono fun e W' ⟨⟨v, h1, L, h2⟩, h3⟩ => ⟨by rw [h1]; simp only [bP, Vm.Rp] at h2; rw [h2], h3⟩
def insV (p : P2) (xs : List SegP) : Int := if rayN p xs % 2 = 0 then -1 else 1
set_option maxRecDepth 100000 in
set_option maxHeartbeats 2000000 in
theorem inside_in (n : Nat) (hn : 8 ≤ n) (sv : Value) (ps : List P2) (hlen : ps.length < 4611686018427387904) (p : P2) (w : World) (hI : HoldsP w.heap.size w sv ps) :
    CallsIn Fence.wide n Try.prog 22 #[sv, ptV p] w fun e w' => e = .returned (.int .i64 (insideS (upto (segAt ps) ps.length) p)) ∧ Below w.heap.size w w' := by
  obtain ⟨A, cap, hsv, hl⟩ := id hI
  subst hsv
  refine callsIn_of_wp_marks Try.func22 rfl trivial ?_ rfl
  simp only [Try.ntmps22, List.size_toArray, List.length_cons, List.length_nil, Nat.reduceAdd, Nat.reduceSub, Array.replicate_succ, Array.replicate_zero, List.push_toArray, List.append_toArray, List.nil_append, List.cons_append]
  unfold ptV
  gi_wp2
  refine ⟨trivial, fun _ => by omega, (segments_in (n - 1) (by omega) _ _ _ _).mono ?_⟩
  rintro e w' ⟨rfl, rfl⟩
  gi_wp2
  have hB0 : Below w.heap.size w ((((w.alloc (.cells #[.int .i64 p.1, .int .i64 p.2] 23)).alloc (.cells #[.int .i64 0] 3)).alloc (.cells #[.int .i64 (-1)] 3)).alloc (.cells #[.slice A ps.length cap] 24)) := ((((Below.refl _ w).alloc (Nat.le_refl _) _).alloc (by simp) _).alloc (by simp; omega) _).alloc (by simp; omega) _
  have bP : Cells ((((w.alloc (.cells #[.int .i64 p.1, .int .i64 p.2] 23)).alloc (.cells #[.int .i64 0] 3)).alloc (.cells #[.int .i64 (-1)] 3)).alloc (.cells #[.slice A ps.length cap] 24)) w.heap.size 23 #[.int .i64 p.1, .int .i64 p.2] :=
    (Cells.new w 23 _).below ((((Below.refl (w.heap.size + 1) _).alloc (by simp) _).alloc (by simp) _).alloc (by simp <;> omega) _) (by omega)
  have bR : Cells ((((w.alloc (.cells #[.int .i64 p.1, .int .i64 p.2] 23)).alloc (.cells #[.int .i64 0] 3)).alloc (.cells #[.int .i64 (-1)] 3)).alloc (.cells #[.slice A ps.length cap] 24)) (w.heap.size + 1) 3 #[.int .i64 0] := by
    have := (Cells.new (w.alloc (.cells #[.int .i64 p.1, .int .i64 p.2] 23)) 3 #[.int .i64 0]).below (Y := (((w.alloc (.cells #[.int .i64 p.1, .int .i64 p.2] 23)).alloc (.cells #[.int .i64 0] 3)).alloc (.cells #[.int .i64 (-1)] 3)).alloc (.cells #[.slice A ps.length cap] 24)) (N := w.heap.size + 2) (((Below.refl (w.heap.size + 2) _).alloc (by simp) _).alloc (by simp) _) (by simp)
    rwa [World.size_alloc] at this
  have bK : Cells ((((w.alloc (.cells #[.int .i64 p.1, .int .i64 p.2] 23)).alloc (.cells #[.int .i64 0] 3)).alloc (.cells #[.int .i64 (-1)] 3)).alloc (.cells #[.slice A ps.length cap] 24)) (w.heap.size + 1 + 1) 3 #[.int .i64 (-1)] := by
    have := (Cells.new ((w.alloc (.cells #[.int .i64 p.1, .int .i64 p.2] 23)).alloc (.cells #[.int .i64 0] 3)) 3 #[.int .i64 (-1)]).below (Y := (((w.alloc (.cells #[.int .i64 p.1, .int .i64 p.2] 23)).alloc (.cells #[.int .i64 0] 3)).alloc (.cells #[.int .i64 (-1)] 3)).alloc (.cells #[.slice A ps.length cap] 24)) (N := w.heap.size + 3) ((Below.refl (w.heap.size + 3) _).alloc (by simp) _) (by simp)
    rwa [World.size_alloc, World.size_alloc] at this
  have bA : Cells ((((w.alloc (.cells #[.int .i64 p.1, .int .i64 p.2] 23)).alloc (.cells #[.int .i64 0] 3)).alloc (.cells #[.int .i64 (-1)] 3)).alloc (.cells #[.slice A ps.length cap] 24)) (w.heap.size + 1 + 1 + 1) 24 #[.slice A ps.length cap] := by
    have := Cells.new (((w.alloc (.cells #[.int .i64 p.1, .int .i64 p.2] 23)).alloc (.cells #[.int .i64 0] 3)).alloc (.cells #[.int .i64 (-1)] 3)) 24 #[.slice A ps.length cap]
    rwa [World.size_alloc, World.size_alloc, World.size_alloc] at this
  have hsz : ((((w.alloc (.cells #[.int .i64 p.1, .int .i64 p.2] 23)).alloc (.cells #[.int .i64 0] 3)).alloc (.cells #[.int .i64 (-1)] 3)).alloc (.cells #[.slice A ps.length cap] 24)).heap.size = w.heap.size + 4 := by simp
  obtain ⟨W0, hW0⟩ : ∃ W0, (((w.alloc (.cells #[.int .i64 p.1, .int .i64 p.2] 23)).alloc (.cells #[.int .i64 0] 3)).alloc (.cells #[.int .i64 (-1)] 3)).alloc (.cells #[.slice A ps.length cap] 24) = W0 := ⟨_, rfl⟩
  rw [hW0] at hB0 bP bR bK bA hsz ⊢
  clear hW0
  refine wpIn_rangeFunc_ownH rfl (by omega) (gf := 79) (lb := #[.pointer (some ⟨w.heap.size + 1 + 1 + 1, 0, none⟩)]) rfl trivial (enters_of Try.func79 (by kernel_rfl) rfl)
    (segs_stops (n - 1) (by omega) (w.heap.size + 1 + 1 + 1) w.heap.size _ ps hlen W0 (by omega) (by omega) (by have := bA.cell 0; simpa using this) (hI.below hB0)) (fun h k => h.trans k) (kpS_b (by omega) (by omega)) (Below.refl _ _) (fun _ => rfl)
    (fun pre W => (((Cells W w.heap.size 23 #[.int .i64 p.1, .int .i64 p.2] ∧ Cells W (w.heap.size + 1) 3 #[.int .i64 0]) ∧ Cells W (w.heap.size + 1 + 1) 3 #[.int .i64 (insV p pre)]) ∧ onAny p pre = false) ∧ Below w.heap.size W0 W)
    (fun c pre W => ((c = .ret ∧ onAny p pre = true) ∧ Cells W (w.heap.size + 1) 3 #[.int .i64 0]) ∧ Below w.heap.size W0 W)
    (OwnFrom.and (OwnFrom.and (OwnFrom.and (OwnFrom.and (Own.from (Cells.own _ _ fun _ => _) _) (Own.from (Cells.own _ _ fun _ => _) _)) (Own.from (Cells.own _ _ fun pre => #[.int .i64 (insV p pre)]) _)) (ownFrom_pure _ _)) (ownFrom_below (by omega) (by omega)))
    (fun c => OwnFrom.and (OwnFrom.and (ownFrom_pure _ _) (Own.from (Cells.own _ _ fun _ => _) _)) (ownFrom_below (by omega) (by omega)))
    ⟨⟨⟨⟨bP, bR⟩, bK⟩, rfl⟩, Below.refl _ _⟩
    (fun x a' W => ∃ Bx By, w.heap.size + 1 + 1 + 1 < Bx ∧ Bx < By ∧ Cells W Bx 23 #[.int .i64 x.1.1, .int .i64 x.1.2] ∧ Cells W By 23 #[.int .i64 x.2.1, .int .i64 x.2.2] ∧
      a' = { tmps := #[.slice A ps.length cap, .agg #[.int .i64 p.1, .int .i64 p.2], undef, .pointer (some ⟨w.heap.size, 0, none⟩), .pointer (some ⟨w.heap.size + 1, 0, none⟩), .pointer (some ⟨w.heap.size + 1 + 1, 0, none⟩), .pointer (some ⟨Bx, 0, none⟩), .pointer (some ⟨By, 0, none⟩), .slice A ps.length cap,
        .func (.func 79) #[] #[.pointer (some ⟨w.heap.size + 1 + 1 + 1, 0, none⟩)], ptV x.1, ptV x.2, undef, undef, undef, undef, undef, undef, undef, undef, undef, undef, undef], defers := [] })
    (fun x a' _ X Y row hs hg hr => by
      obtain ⟨Bx, By, e1, e2, e3, e4, e5⟩ := hs
      exact ⟨Bx, By, e1, e2, Cells.own Bx 23 (fun (_ : Unit) => #[.int .i64 x.1.1, .int .i64 x.1.2]) () X Y row e3 hg (fun r e => (hr r e).2), Cells.own By 23 (fun (_ : Unit) => #[.int .i64 x.2.1, .int .i64 x.2.2]) () X Y row e4 hg (fun r e => (hr r e).2), e5⟩)
    ?assign ?body ?done ?stop
  case assign =>
    rintro l pre x W K ⟨⟨⟨⟨hP, hR⟩, hK1⟩, hon⟩, hB⟩ hK
    unfold ptV
    gi_wp2
    have hb2 : Below W.heap.size W ((W.alloc (.cells #[.int .i64 x.1.1, .int .i64 x.1.2] 23)).alloc (.cells #[.int .i64 x.2.1, .int .i64 x.2.2] 23)) := ((Below.refl _ W).alloc (Nat.le_refl _) _).alloc (by simp) _
    have hsW := hB.size
    refine hK _ _ (((KeepsOthers.alloc _ _).trans (KeepsOthers.alloc _ _)).from _) (KpS.of_below hb2 (by omega) (by omega)) ⟨⟨⟨⟨hP.below hb2 hP.lt, hR.below hb2 hR.lt⟩, hK1.below hb2 hK1.lt⟩, hon⟩, hB.trans (hb2.mono (by omega))⟩ ⟨W.heap.size, W.heap.size + 1, by omega, by omega, ?_, ?_, by simp [ptV]⟩
    · exact (Cells.new W 23 _).below ((Below.refl (W.heap.size + 1) _).alloc (by simp) _) (by omega)
    · have := Cells.new (W.alloc (.cells #[.int .i64 x.1.1, .int .i64 x.1.2] 23)) 23 #[.int .i64 x.2.1, .int .i64 x.2.2]
      rwa [World.size_alloc] at this
  case body =>
    rintro l pre x a' W hl ⟨r, hr⟩ ⟨⟨⟨⟨hP, hR⟩, hK1⟩, hon⟩, hB⟩ ⟨Bx, By, h1, h2, hX, hY, rfl⟩ hlt
    have hsW := hB.size
    have x00 : W.cell? ⟨Bx, 0, none⟩ = some (.int .i64 x.1.1) := hX.cell 0
    have x01 : W.cell? ⟨Bx, 1, none⟩ = some (.int .i64 x.1.2) := hX.cell 1
    have y00 : W.cell? ⟨By, 0, none⟩ = some (.int .i64 x.2.1) := hY.cell 0
    have y01 : W.cell? ⟨By, 1, none⟩ = some (.int .i64 x.2.2) := hY.cell 1
    have p00 : W.cell? ⟨w.heap.size, 0, none⟩ = some (.int .i64 p.1) := hP.cell 0
    have p01 : W.cell? ⟨w.heap.size, 1, none⟩ = some (.int .i64 p.2) := hP.cell 1
    gi_wp2
    refine ⟨trivial, fun _ => by omega, (CallsIn.inRound l (callsIn_wide.2 (on_in x.1 x.2 p _))).mono ?_⟩
    rintro e W1 ⟨rfl, hb1⟩
    have hX1 := hX.after hb1
    have hY1 := hY.after hb1
    have hP1 := hP.after hb1
    have hR1 := hR.after hb1
    have hK2 := hK1.after hb1
    have x10 : W1.cell? ⟨Bx, 0, none⟩ = some (.int .i64 x.1.1) := hX1.cell 0
    have x11 : W1.cell? ⟨Bx, 1, none⟩ = some (.int .i64 x.1.2) := hX1.cell 1
    have y10 : W1.cell? ⟨By, 0, none⟩ = some (.int .i64 x.2.1) := hY1.cell 0
    have y11 : W1.cell? ⟨By, 1, none⟩ = some (.int .i64 x.2.2) := hY1.cell 1
    have p10 : W1.cell? ⟨w.heap.size, 0, none⟩ = some (.int .i64 p.1) := hP1.cell 0
    have p11 : W1.cell? ⟨w.heap.size, 1, none⟩ = some (.int .i64 p.2) := hP1.cell 1
    have r10 := hR1.frozen 0 (by simp)
    have r11 : W1.cell? ⟨w.heap.size + 1, 0, none⟩ = some (.int .i64 0) := hR1.cell 0
    have honA : onAny p (pre ++ [x]) = M.on x.1 x.2 p := by
      unfold onAny at hon ⊢
      rw [List.any_append, hon]
      simp
    cases ho : M.on x.1 x.2 p with
    | true =>
      gi_wp2
      refine ⟨(keepsFrom_below hb1).trans ((KeepsOthers.setCell _ _ _).from _), ⟨⟨rfl, honA.trans ho⟩, ?_⟩, hB.trans ((hb1.mono (B' := w.heap.size) (by omega)).setCell (p := ⟨w.heap.size + 1, 0, none⟩) (by simp) _)⟩
      exact hR1.set 0 _
    | false =>
      gi_wp2
      refine ⟨trivial, fun _ => by omega, (CallsIn.inRound l (callsIn_wide.2 (ray_in x.1 x.2 p _))).mono ?_⟩
      rintro e W2 ⟨rfl, hb2⟩
      have hP2 := hP1.after hb2
      have hR2 := hR1.after hb2
      have hK3 := hK2.after hb2
      have k20 : W2.cell? ⟨w.heap.size + 1 + 1, 0, none⟩ = some (.int .i64 (insV p pre)) := hK3.cell 0
      have k21 := hK3.frozen 0 (by simp)
      have hbW : Below W.heap.size W W2 := below_after hb2 hb1 (Nat.le_refl _)
      have hrn : rayN p (pre ++ [x]) = rayN p pre + (if ray x.1 x.2 p then 1 else 0) := by
        unfold rayN
        rw [List.countP_append, List.countP_singleton]
      cases hq : ray x.1 x.2 p with
      | true =>
        gi_wp2
        refine ⟨(keepsFrom_below hbW).trans ((KeepsOthers.setCell _ _ _).from _), ⟨(hbW.mono (B' := w.heap.size) (by omega)).setCell (p := ⟨w.heap.size + 1 + 1, 0, none⟩) (by simp only; omega) _, ?_⟩, ⟨⟨⟨hP2.other (by simp only; omega) _, hR2.other (by simp only; omega) _⟩, ?_⟩, honA.trans ho⟩, hB.trans ((hbW.mono (B' := w.heap.size) (by omega)).setCell (p := ⟨w.heap.size + 1 + 1, 0, none⟩) (by simp only; omega) _)⟩
        · rw [Below.heap_setCell _ _ _ _ (by simp)]
          exact hbW.block _ (by omega)
        · have e : insV p (pre ++ [x]) = wrap64 (-insV p pre) := by
            unfold insV
            rw [hrn, hq]
            by_cases h : rayN p pre % 2 = 0
            · rw [if_neg (by simp; omega), if_pos h]; simp [wrap64]
            · rw [if_pos (by simp; omega), if_neg h]; simp [wrap64]
          rw [e]
          exact hK3.set 0 _
      | false =>
        gi_wp2
        have e : insV p (pre ++ [x]) = insV p pre := by
          unfold insV
          rw [hrn, hq]
          simp
        refine ⟨keepsFrom_below hbW, KpS.of_below hbW (by omega) (by omega), ⟨⟨⟨hP2, hR2⟩, ?_⟩, honA.trans ho⟩, hB.trans (hbW.mono (B' := w.heap.size) (by omega))⟩
        rw [e]
        exact hK3
  case done =>
    rintro D ys W hD rfl ⟨⟨⟨⟨hP, hR⟩, hK1⟩, hon⟩, hB⟩ hK
    have c0 : W.cell? ⟨w.heap.size + 1 + 1, 0, none⟩ = some (.int .i64 (insV p (upto (segAt ps) ps.length))) := hK1.cell 0
    have r1 := hR.frozen 0 (by simp)
    have r2 : W.cell? ⟨w.heap.size + 1, 0, none⟩ = some (.int .i64 0) := hR.cell 0
    gi_wp2
    have hK' := (KeepsOthers.setCell W ⟨w.heap.size + 1, 0, none⟩ (.int .i64 (insV p (upto (segAt ps) ps.length)))).same D _ hK rfl
    refine ⟨by simp, .inl ⟨_, _, rfl, run_takeDeferred hK', ?_⟩⟩
    have hc4 : (W.setCell ⟨w.heap.size + 1, 0, none⟩ (.int .i64 (insV p (upto (segAt ps) ps.length)))).cell? ⟨w.heap.size + 1, 0, none⟩ = some (.int .i64 (insV p (upto (segAt ps) ps.length))) := (hR.set 0 (.int .i64 (insV p (upto (segAt ps) ps.length)))).cell 0
    have hc5 := cell_kept hc4 (grownBy_putObj' _ D (.deferred none)) (fun r e => by cases e; exact ⟨_, hK', rfl⟩)
    refine ⟨.int .i64 (insideS (upto (segAt ps) ps.length) p), ?_, rfl, ((hB0.trans hB).setCell (p := ⟨w.heap.size + 1, 0, none⟩) (by simp) _).trans (belowK_b (w := w) (Nat.le_refl _) _ D _ _ (by omega) hK' rfl rfl)⟩
    have e : insideS (upto (segAt ps) ps.length) p = insV p (upto (segAt ps) ps.length) := by
      unfold insideS insV
      rw [hon]
      rfl
    rw [e]
    simp [results, Try.f22, go_sem, hc5]
  case stop =>
    rintro D c pre W hD ⟨k, hk, rfl⟩ ⟨⟨⟨rfl, hon⟩, hR⟩, hB⟩ hK
    gi_wp2
    refine ⟨by simp, .inl ⟨_, _, rfl, run_takeDeferred hK, ?_⟩⟩
    have hc5 := cell_kept (hR.cell 0) (grownBy_putObj' _ D (.deferred none)) (fun r e => by cases e; exact ⟨_, hK, rfl⟩)
    refine ⟨.int .i64 (insideS (upto (segAt ps) ps.length) p), ?_, rfl, (hB0.trans hB).trans (belowK_b (w := w) (Nat.le_refl _) W D _ _ (by omega) hK rfl rfl)⟩
    have hall : onAny p (upto (segAt ps) ps.length) = true := by
      unfold onAny at hon ⊢
      rw [List.any_eq_true] at hon ⊢
      obtain ⟨x, hx, h⟩ := hon
      refine ⟨x, ?_, h⟩
      unfold upto at hx ⊢
      rw [List.mem_map] at hx ⊢
      obtain ⟨i, hi, e⟩ := hx
      exact ⟨i, by rw [List.mem_range] at hi ⊢; omega, e⟩
    unfold insideS
    rw [hall]
    simp [results, Try.f22, go_sem, hc5]
end Go.Proofs.Ytmopbegmdegooaa
/- A ring's two functions, as functions of values. -/
namespace Go.Proofs.Ytmopbegmdegooaa
open Go Vm M
set_option linter.unusedVariables false
set_option linter.unusedSimpArgs false
theorem flatPP_get : ∀ (ps : List P2) (j : Nat), j < ps.length → (flatPP ps)[j * 2]? = some (.v (.int .i64 (ps[j]?.getD (0, 0)).1)) ∧ (flatPP ps)[j * 2 + 1]? = some (.v (.int .i64 (ps[j]?.getD (0, 0)).2))
  | [], j, h => by simp at h
  | p :: ps, 0, h => ⟨rfl, rfl⟩
  | p :: ps, j + 1, h => by
    have := flatPP_get ps j (by simpa using h)
    rw [show (j + 1) * 2 = j * 2 + 1 + 1 by omega]
    simpa [flatPP] using this
theorem holds_of {ok : Nat → Nat → Prop} {w : World} {ps : List P2} {v : Value} (hin : ∀ b j, ok b j → b < w.heap.size) (h : Rp (sees ok w) (slP ps) v) : HoldsP w.heap.size w v ps := by
  simp only [slP, Rp] at h
  obtain ⟨A, c, rfl, hc, hr⟩ := h
  refine ⟨A, c, rfl, ?_⟩
  by_cases hps : ps = []
  · exact .inl hps
  · have hl : 0 < ps.length := List.length_pos_iff.2 hps
    have g : ∀ j, j < ps.length → ∃ a, A = some a ∧ sees ok w (a.add (j * 2)) (.int .i64 (ps[j]?.getD (0, 0)).1) ∧ sees ok w (a.add (j * 2 + 1)) (.int .i64 (ps[j]?.getD (0, 0)).2) := by
      intro j hj
      have e := flatPP_get ps j hj
      obtain ⟨y, ⟨a, ha, hy⟩, h1⟩ := Rps_get hr (j * 2) _ e.1
      obtain ⟨z, ⟨a', ha', hz⟩, h2⟩ := Rps_get hr (j * 2 + 1) _ e.2
      simp only [Rp] at h1 h2
      rw [ha, Option.some.injEq] at ha'
      subst ha' h1 h2
      rw [Nat.zero_add] at hy hz
      exact ⟨a, ha, hy, hz⟩
    obtain ⟨a, rfl, h0, _⟩ := g 0 hl
    have h0' : sees ok w a (.int .i64 (ps[0]?.getD (0, 0)).1) := by simpa [Addr.add] using h0
    have hsp : a.spot = none := by
      have := h0'.2
      unfold World.cell? at this
      cases hs : a.spot with
      | none => rfl
      | some s =>
        rw [hs] at this
        split at this
        · simp at this
        · cases this
    obtain ⟨b, off, sp⟩ := a
    simp only at hsp
    subst hsp
    refine .inr ⟨b, off, rfl, hin _ _ h0'.1, fun j hj => ?_⟩
    obtain ⟨a, ha, h1, h2⟩ := g j hj
    rw [Option.some.injEq] at ha
    subst ha
    rw [Addr.add_lit] at h1 h2
    exact ⟨h1.2, by rw [Nat.add_assoc]; exact h2.2⟩
theorem vs_one {vs : Array Value} (h : vs.size = 1) {L : Addr → Value → Prop} {x : PVal} (hr : Rps L [x] (fun i y => vs[i]? = some y) 0) : ∃ v, vs = #[v] ∧ Rp L x v := by
  simp only [Rps] at hr
  obtain ⟨⟨v, hv, h1⟩, _⟩ := hr
  refine ⟨v, ?_, h1⟩
  apply Array.ext
  · simpa using h
  · intro i h2 h3
    have : i = 0 := by simp at h3; omega
    subst this
    rw [Array.getElem?_eq_getElem h2] at hv
    simpa using hv
theorem vs_two {vs : Array Value} (h : vs.size = 2) {L : Addr → Value → Prop} {x y : PVal} (hr : Rps L [x, y] (fun i y => vs[i]? = some y) 0) : ∃ v u, vs = #[v, u] ∧ Rp L x v ∧ Rp L y u := by
  simp only [Rps] at hr
  obtain ⟨⟨v, hv, h1⟩, ⟨u, hu, h2⟩, _⟩ := hr
  refine ⟨v, u, ?_, h1, h2⟩
  apply Array.ext
  · simpa using h
  · intro i h3 h4
    have : i = 0 ∨ i = 1 := by simp at h4; omega
    rcases this with rfl | rfl
    · rw [Array.getElem?_eq_getElem h3] at hv; simpa using hv
    · rw [Nat.zero_add, Array.getElem?_eq_getElem h3] at hu; simpa using hu
theorem callsP_int {F : FuncId} {ps : List PVal} {r : Int} (h : ∀ ok w vs, (∀ b j, ok b j → b < w.heap.size) → vs.size = ps.length → Rps (sees ok w) ps (fun i y => vs[i]? = some y) 0 → Calls Try.prog F vs w fun e w' => e = .returned (.int .i64 r) ∧ RowKit.Below w.heap.size w w') : CallsP Try.prog F ps (iP r) :=
  fun ok w vs h1 h2 h3 => (h ok w vs h1 h2 h3).mono fun e w' ⟨he, hb⟩ => ⟨_, ok, he, hb, fun _ _ h => h, fun _ _ h => .inl h, fun b j h => Nat.lt_of_lt_of_le (h1 b j h) hb.size, by simp [iP, Rp]⟩
def areaP (ps : List P2) : Int := if ps.length < 3 then 0 else segSum (upto (segAt ps) ps.length)
def insideP (ps : List P2) (p : P2) : Int := insideS (upto (segAt ps) ps.length) p
theorem area_calls (ps : List P2) (hl : ps.length < 4611686018427387904) : CallsP Try.prog 23 [slP ps] (iP (areaP ps)) := by
  unfold areaP
  by_cases h3 : ps.length < 3
  · rw [if_pos h3]
    exact callP_ok (cf_ok N8) (k := 0) (hs := []) (f := 23) (ps := [slP ps]) (bs := [true]) (ls := []) (out := none) (r := iP 0) (ob := [decide ((ps.length : Int) < 3) = true]) (by kernel_rfl) (allOb_cons (decide_eq_true (by omega)) allOb_nil)
  · rw [if_neg h3]
    refine callsP_int fun ok w vs h1 h2 hr => ?_
    obtain ⟨v, rfl, hv⟩ := vs_one h2 hr
    exact callsIn_wide.1 (area2_in 8 (Nat.le_refl _) v ps hl (by omega) w (holds_of h1 hv))
theorem inside_calls (ps : List P2) (p : P2) (hl : ps.length < 4611686018427387904) : CallsP Try.prog 22 [slP ps, ptP p] (iP (insideP ps p)) := by
  refine callsP_int fun ok w vs h1 h2 hr => ?_
  obtain ⟨v, u, rfl, hv, hu⟩ := vs_two h2 hr
  rw [rp_pt hu]
  exact callsIn_wide.1 (inside_in 8 (Nat.le_refl _) v ps hl p w (holds_of h1 hv))
/-- Of slices that are not too long. -/
def gSb (f : List P2 → PVal) : List PVal → Option PVal
  | [x] => match unSl x with
    | some ps => if ps.length < 4611686018427387904 then some (f ps) else none
    | none => none
  | _ => none
theorem gSb_spec {P : Program} {F : FuncId} {f : List P2 → PVal} (h : ∀ ps : List P2, ps.length < 4611686018427387904 → CallsP P F [slP ps] (f ps)) : ∀ ps r, gSb f ps = some r → CallsP P F ps r := by
  intro ps r hg
  unfold gSb at hg
  split at hg
  · split at hg
    · rename_i qs hq
      split at hg
      · rename_i hl
        simp only [Option.some.injEq] at hg
        subst hg
        exact callsP_weak (h qs hl) ⟨unSl_wk hq, trivial⟩
      · cases hg
    · cases hg
  · cases hg
theorem gSb_slP (f : List P2 → PVal) {ps : List P2} (h : ps.length < 4611686018427387904) : gSb f [slP ps] = some (f ps) := by simp [gSb, unSl_slP, h]
def gSPb (f : List P2 → P2 → PVal) : List PVal → Option PVal
  | [x, y] => match unSl x, unPt y with
    | some ps, some p => if ps.length < 4611686018427387904 then some (f ps p) else none
    | _, _ => none
  | _ => none
theorem gSPb_spec {P : Program} {F : FuncId} {f : List P2 → P2 → PVal} (h : ∀ (ps : List P2) p, ps.length < 4611686018427387904 → CallsP P F [slP ps, ptP p] (f ps p)) : ∀ ps r, gSPb f ps = some r → CallsP P F ps r := by
  intro ps r hg
  unfold gSPb at hg
  split at hg
  · split at hg
    · rename_i qs p hq hp
      split at hg
      · rename_i hl
        simp only [Option.some.injEq] at hg
        subst hg
        rw [unPt_some hp]
        exact callsP_weak (h qs p hl) ⟨unSl_wk hq, Wk.refl _, trivial⟩
      · cases hg
    · cases hg
  · cases hg
theorem gSPb_slP (f : List P2 → P2 → PVal) {ps : List P2} (p : P2) (h : ps.length < 4611686018427387904) : gSPb f [slP ps, ptP p] = some (f ps p) := by simp [gSPb, unSl_slP, unPt, ptP, h]
noncomputable def R1 : Lib Try.prog := N10.add 23 (gSb fun ps => iP (areaP ps)) (Vm.enters_of named_prog Try.func23 (by kernel_rfl)) (gSb_spec fun ps h => area_calls ps h)
noncomputable def R2 : Lib Try.prog := R1.add 22 (gSPb fun ps p => iP (insideP ps p)) (Vm.enters_of named_prog Try.func22 (by kernel_rfl)) (gSPb_spec fun ps p h => inside_calls ps p h)
end Go.Proofs.Ytmopbegmdegooaa
/- The law RingShifts: its loops' rounds. -/
namespace Go.Proofs.Ytmopbegmdegooaa
open Go Vm M
set_option linter.unusedVariables false
set_option linter.unusedSimpArgs false
def awake13F : PVal :=
  PVal.v (Value.bool true)
theorem awake13F_calls : CallsP Try.prog 21 [] awake13F := by
  have key := fun (bs : List Bool) (r : PVal) (ob : List Prop) (h : callP (cf R2) (evalF (cf R2) 9) 9 [] 21 [] bs [] (none) = .ok (r, ob)) (hp : allOb ob) => callP_ok (cf_ok R2) h hp
  unfold awake13F
  exact key [true, true, true] (PVal.v (Value.bool true)) _ (by kernel_rfl) (allOb_cons lit_t (allOb_cons lit_t (allOb_cons lit_t allOb_nil)))
theorem awake13_calls : CallsP Try.prog 21 [] (bP true) := awake13F_calls
noncomputable def R3 : Lib Try.prog := R2.add 21 (g0 (bP true)) (Vm.enters_of named_prog Try.func21 (by kernel_rfl)) (g0_spec awake13_calls)
def rsT (ps : List P2) (f x y i : Int) (a b c : AVal) : List AVal := [slA ps] ++ jk 3 ++ [iA f, .junk, .ptr 0 0 0] ++ jk 4 ++ [a, b, c, iA x, iA y, iA i] ++ jk 118
def rsTE (ps : List P2) (f x y i : Int) (a b c : AVal) : List AVal := jk 4 ++ [iA f, .junk, .ptr 0 0 0] ++ jk 4 ++ [a, b, c, iA x, iA y] ++ jk 15 ++ [bA false] ++ jk 103
def rsS0 (p : P2) : List AObj := [.box (cellsP p)]
def rsS (p : P2) (al bl : List P2) : List AObj := [.box (cellsP p)] ++ List.replicate 15 .free ++ [.row 2 0 none (flatP al)] ++ List.replicate 18 .free ++ [.row 2 0 none (flatP bl)]
def nilA : AVal := .v (.slice none 0 0)
def rsFirst (ps : List P2) (f : Int) (x : Int) (y : Int) (i : Int) (p : P2) (q : P2) (u : Int) (v : Int) : AExit × List AVal × List AObj :=
  (bif decide (i < ↑(List.length ps)) then (AExit.normal, (([AVal.list (List.length ps) (flatPP ps), AVal.junk, AVal.junk, AVal.junk, AVal.v (Value.int IntKind.i64 f), AVal.junk, AVal.ptr 0 0 0] ++ jk 4 ++ [AVal.row 16 0 2 0 1, AVal.row 35 0 2 0 1, AVal.v (Value.slice none 0 0), AVal.v (Value.int IntKind.i64 x), AVal.v (Value.int IntKind.i64 y), AVal.v (Value.int IntKind.i64 (IntKind.wrap IntKind.i64 (i + 1)))] ++ jk 118), ([AObj.box [AVal.v (Value.int IntKind.i64 (Prod.fst p)), AVal.v (Value.int IntKind.i64 (Prod.snd p))]] ++ List.replicate 15 AObj.free ++ [AObj.row 2 0 none [AVal.v (Value.int IntKind.i64 (Int.tmod (Prod.fst q) 100)), AVal.v (Value.int IntKind.i64 (Int.tmod (Prod.snd q) 100))]] ++ List.replicate 18 AObj.free ++ [AObj.row 2 0 none [AVal.v (Value.int IntKind.i64 (IntKind.wrap IntKind.i64 (u + x))), AVal.v (Value.int IntKind.i64 (IntKind.wrap IntKind.i64 (v + y)))]]))) else (AExit.exit 0, (([AVal.list (List.length ps) (flatPP ps), AVal.junk, AVal.junk, AVal.junk, AVal.v (Value.int IntKind.i64 f), AVal.junk, AVal.ptr 0 0 0] ++ jk 4 ++ [AVal.v (Value.slice none 0 0), AVal.v (Value.slice none 0 0), AVal.v (Value.slice none 0 0), AVal.v (Value.int IntKind.i64 x), AVal.v (Value.int IntKind.i64 y), AVal.v (Value.int IntKind.i64 i)] ++ jk 14 ++ [AVal.v (Value.bool false)] ++ jk 103), ([AObj.box [AVal.v (Value.int IntKind.i64 (Prod.fst p)), AVal.v (Value.int IntKind.i64 (Prod.snd p))]]))))
theorem rsFirst_eq (ps : List P2) (f : Int) (x : Int) (y : Int) (i : Int) (p : P2) (q : P2) (u : Int) (v : Int) (e0 : 0 ≤ i ∧ i < (ps.length : Int) ∧ 0 < 2 ∧ (flatPP ps).length = ps.length * 2) (e1 : partA Try.prog 2 (upL (((flatPP ps).drop (i.toNat * 2)).drop 0)) 0 = some (iA q.1)) (e2 : 0 ≤ i ∧ i < (ps.length : Int) ∧ 0 < 2 ∧ (flatPP ps).length = ps.length * 2) (e3 : partA Try.prog 2 (upL (((flatPP ps).drop (i.toNat * 2)).drop 1)) 0 = some (iA q.2)) (e4 : 0 ≤ i ∧ i < ((1 : Nat) : Int)) (e5 : partA Try.prog 2 [iA (q.1.tmod 100), iA (q.2.tmod 100)] ((0 + i.toNat) * 2 + 0) = some (iA u)) (e6 : 0 ≤ i ∧ i < ((1 : Nat) : Int)) (e7 : partA Try.prog 2 [iA (q.1.tmod 100), iA (q.2.tmod 100)] ((0 + i.toNat) * 2 + 1) = some (iA v)) : roundC 0 (evalC (cf R3) (evalF (cf R3) 61) (Option.getD (List.lookup 6 lives) []) 0 0 61 (loopAt Try.f6 0)) (rsT ps f x y i nilA nilA nilA) (rsS0 p) = some (rsFirst ps f x y i p q u v) := by
  have key := fun (bs : List Bool) (r : AExit × List AVal × List AObj) (ob : List Prop) (h : roundP (cf R3) (evalF (cf R3) 61) (Option.getD (List.lookup 6 lives) []) 0 0 61 [(8, 3, Hint.idx), (8, 5, Hint.load (iA (Prod.fst q))), (8, 9, Hint.idx), (8, 11, Hint.load (iA (Prod.snd q))), (9, 3, Hint.idx), (9, 5, Hint.load (iA u)), (9, 10, Hint.idx), (9, 12, Hint.load (iA v))] (loopAt Try.f6 0) (rsT ps f x y i nilA nilA nilA) (rsS0 p) bs [] = .ok (r.1, r.2.1, r.2.2, ob)) (hp : allOb ob) => roundP_ok h hp
  unfold rsFirst
  exact bif_case (P := fun r => roundC 0 (evalC (cf R3) (evalF (cf R3) 61) (Option.getD (List.lookup 6 lives) []) 0 0 61 (loopAt Try.f6 0)) (rsT ps f x y i nilA nilA nilA) (rsS0 p) = some r)
    (fun h0 => key [true] ((AExit.normal, (([AVal.list (List.length ps) (flatPP ps), AVal.junk, AVal.junk, AVal.junk, AVal.v (Value.int IntKind.i64 f), AVal.junk, AVal.ptr 0 0 0] ++ jk 4 ++ [AVal.row 16 0 2 0 1, AVal.row 35 0 2 0 1, AVal.v (Value.slice none 0 0), AVal.v (Value.int IntKind.i64 x), AVal.v (Value.int IntKind.i64 y), AVal.v (Value.int IntKind.i64 (IntKind.wrap IntKind.i64 (i + 1)))] ++ jk 118), ([AObj.box [AVal.v (Value.int IntKind.i64 (Prod.fst p)), AVal.v (Value.int IntKind.i64 (Prod.snd p))]] ++ List.replicate 15 AObj.free ++ [AObj.row 2 0 none [AVal.v (Value.int IntKind.i64 (Int.tmod (Prod.fst q) 100)), AVal.v (Value.int IntKind.i64 (Int.tmod (Prod.snd q) 100))]] ++ List.replicate 18 AObj.free ++ [AObj.row 2 0 none [AVal.v (Value.int IntKind.i64 (IntKind.wrap IntKind.i64 (u + x))), AVal.v (Value.int IntKind.i64 (IntKind.wrap IntKind.i64 (v + y)))]])))) _ (by kernel_rfl) (allOb_cons (show Plain ([AObj.box [AVal.v (Value.int IntKind.i64 (Prod.fst p)), AVal.v (Value.int IntKind.i64 (Prod.snd p))]] ++ List.replicate 14 AObj.free ++ [AObj.row 2 0 none [AVal.v (Value.int IntKind.i64 (Int.tmod (Prod.fst q) 100)), AVal.v (Value.int IntKind.i64 (Int.tmod (Prod.snd q) 100))], AObj.row 2 0 none [AVal.v (Value.int IntKind.i64 (Int.tmod (Prod.fst q) 100)), AVal.v (Value.int IntKind.i64 (Int.tmod (Prod.snd q) 100))]] ++ List.replicate 17 AObj.free ++ [AObj.row 2 0 none [AVal.v (Value.int IntKind.i64 (IntKind.wrap IntKind.i64 (u + x))), AVal.v (Value.int IntKind.i64 (IntKind.wrap IntKind.i64 (v + y)))], AObj.row 2 0 none [AVal.v (Value.int IntKind.i64 (IntKind.wrap IntKind.i64 (u + x))), AVal.v (Value.int IntKind.i64 (IntKind.wrap IntKind.i64 (v + y)))], AObj.free]) from by simp only [Plain, List.all_append, List.all_cons, List.all_nil, plainO, flatP_plain, Nat.zero_mul, List.drop_zero] <;> rfl) (allOb_cons (by exact e7) (allOb_cons (by exact e6) (allOb_cons (by exact e5) (allOb_cons (by exact e4) (allOb_cons (by exact e3) (allOb_cons (by exact e2) (allOb_cons (by exact e1) (allOb_cons (by exact e0) (allOb_cons h0 allOb_nil)))))))))))
    (fun h0 => key [false] ((AExit.exit 0, (([AVal.list (List.length ps) (flatPP ps), AVal.junk, AVal.junk, AVal.junk, AVal.v (Value.int IntKind.i64 f), AVal.junk, AVal.ptr 0 0 0] ++ jk 4 ++ [AVal.v (Value.slice none 0 0), AVal.v (Value.slice none 0 0), AVal.v (Value.slice none 0 0), AVal.v (Value.int IntKind.i64 x), AVal.v (Value.int IntKind.i64 y), AVal.v (Value.int IntKind.i64 i)] ++ jk 14 ++ [AVal.v (Value.bool false)] ++ jk 103), ([AObj.box [AVal.v (Value.int IntKind.i64 (Prod.fst p)), AVal.v (Value.int IntKind.i64 (Prod.snd p))]])))) _ (by kernel_rfl) (allOb_cons (show Plain ([AObj.box [AVal.v (Value.int IntKind.i64 (Prod.fst p)), AVal.v (Value.int IntKind.i64 (Prod.snd p))]]) from by simp only [Plain, List.all_append, List.all_cons, List.all_nil, plainO, flatP_plain, Nat.zero_mul, List.drop_zero] <;> rfl) (allOb_cons h0 allOb_nil)))
def rsNext (ps : List P2) (al : List P2) (bl : List P2) (f : Int) (x : Int) (y : Int) (i : Int) (n : Nat) (p : P2) (q : P2) (u : Int) (v : Int) : AExit × List AVal × List AObj :=
  (bif decide (i < ↑(List.length ps)) then (AExit.normal, (([AVal.list (List.length ps) (flatPP ps), AVal.junk, AVal.junk, AVal.junk, AVal.v (Value.int IntKind.i64 f), AVal.junk, AVal.ptr 0 0 0] ++ jk 4 ++ [AVal.row 16 0 2 0 (n + (0 + 1)), AVal.row 35 0 2 0 (n + (0 + 1)), AVal.v (Value.slice none 0 0), AVal.v (Value.int IntKind.i64 x), AVal.v (Value.int IntKind.i64 y), AVal.v (Value.int IntKind.i64 (IntKind.wrap IntKind.i64 (i + 1)))] ++ jk 118), ([AObj.box [AVal.v (Value.int IntKind.i64 (Prod.fst p)), AVal.v (Value.int IntKind.i64 (Prod.snd p))]] ++ List.replicate 15 AObj.free ++ [AObj.row 2 0 none (List.drop (0 * 2) (flatP al) ++ [iA (Int.tmod (Prod.fst q) 100), iA (Int.tmod (Prod.snd q) 100)])] ++ List.replicate 18 AObj.free ++ [AObj.row 2 0 none (List.drop (0 * 2) (flatP bl) ++ [iA (IntKind.wrap IntKind.i64 (u + x)), iA (IntKind.wrap IntKind.i64 (v + y))])]))) else (AExit.exit 0, (([AVal.list (List.length ps) (flatPP ps), AVal.junk, AVal.junk, AVal.junk, AVal.v (Value.int IntKind.i64 f), AVal.junk, AVal.ptr 0 0 0] ++ jk 4 ++ [AVal.row 16 0 2 0 n, AVal.row 35 0 2 0 n, AVal.v (Value.slice none 0 0), AVal.v (Value.int IntKind.i64 x), AVal.v (Value.int IntKind.i64 y), AVal.v (Value.int IntKind.i64 i)] ++ jk 14 ++ [AVal.v (Value.bool false)] ++ jk 103), ([AObj.box [AVal.v (Value.int IntKind.i64 (Prod.fst p)), AVal.v (Value.int IntKind.i64 (Prod.snd p))]] ++ List.replicate 15 AObj.free ++ [AObj.row 2 0 none (flatP al)] ++ List.replicate 18 AObj.free ++ [AObj.row 2 0 none (flatP bl)]))))
theorem rsNext_eq (ps : List P2) (al : List P2) (bl : List P2) (f : Int) (x : Int) (y : Int) (i : Int) (n : Nat) (p : P2) (q : P2) (u : Int) (v : Int) (e0 : 0 ≤ i ∧ i < (ps.length : Int) ∧ 0 < 2 ∧ (flatPP ps).length = ps.length * 2) (e1 : partA Try.prog 2 (upL (((flatPP ps).drop (i.toNat * 2)).drop 0)) 0 = some (iA q.1)) (e2 : 0 ≤ i ∧ i < (ps.length : Int) ∧ 0 < 2 ∧ (flatPP ps).length = ps.length * 2) (e3 : partA Try.prog 2 (upL (((flatPP ps).drop (i.toNat * 2)).drop 1)) 0 = some (iA q.2)) (e4 : (0 + n) * 2 = (flatP al).length ∧ (n + (0 + 1)) * 16 ≤ 140737488355328 ∧ n + (0 + 1) ≤ 9223372036854775807) (e5 : 0 ≤ i ∧ i < ((n + (0 + 1) : Nat) : Int)) (e6 : partA Try.prog 2 ((flatP al).drop (0 * 2) ++ [iA (q.1.tmod 100), iA (q.2.tmod 100)]) ((0 + i.toNat) * 2 + 0) = some (iA u)) (e7 : 0 ≤ i ∧ i < ((n + (0 + 1) : Nat) : Int)) (e8 : partA Try.prog 2 ((flatP al).drop (0 * 2) ++ [iA (q.1.tmod 100), iA (q.2.tmod 100)]) ((0 + i.toNat) * 2 + 1) = some (iA v)) (e9 : (0 + n) * 2 = (flatP bl).length ∧ (n + (0 + 1)) * 16 ≤ 140737488355328 ∧ n + (0 + 1) ≤ 9223372036854775807) : roundC 0 (evalC (cf R3) (evalF (cf R3) 61) (Option.getD (List.lookup 6 lives) []) 0 0 61 (loopAt Try.f6 0)) (rsT ps f x y i (AVal.row 16 0 2 0 n) (AVal.row 35 0 2 0 n) nilA) (rsS p al bl) = some (rsNext ps al bl f x y i n p q u v) := by
  have key := fun (bs : List Bool) (r : AExit × List AVal × List AObj) (ob : List Prop) (h : roundP (cf R3) (evalF (cf R3) 61) (Option.getD (List.lookup 6 lives) []) 0 0 61 [(8, 3, Hint.idx), (8, 5, Hint.load (iA (Prod.fst q))), (8, 9, Hint.idx), (8, 11, Hint.load (iA (Prod.snd q))), (8, 15, Hint.app), (9, 3, Hint.idx), (9, 5, Hint.load (iA u)), (9, 10, Hint.idx), (9, 12, Hint.load (iA v)), (9, 17, Hint.app)] (loopAt Try.f6 0) (rsT ps f x y i (AVal.row 16 0 2 0 n) (AVal.row 35 0 2 0 n) nilA) (rsS p al bl) bs [] = .ok (r.1, r.2.1, r.2.2, ob)) (hp : allOb ob) => roundP_ok h hp
  unfold rsNext
  exact bif_case (P := fun r => roundC 0 (evalC (cf R3) (evalF (cf R3) 61) (Option.getD (List.lookup 6 lives) []) 0 0 61 (loopAt Try.f6 0)) (rsT ps f x y i (AVal.row 16 0 2 0 n) (AVal.row 35 0 2 0 n) nilA) (rsS p al bl) = some r)
    (fun h0 => key [true] ((AExit.normal, (([AVal.list (List.length ps) (flatPP ps), AVal.junk, AVal.junk, AVal.junk, AVal.v (Value.int IntKind.i64 f), AVal.junk, AVal.ptr 0 0 0] ++ jk 4 ++ [AVal.row 16 0 2 0 (n + (0 + 1)), AVal.row 35 0 2 0 (n + (0 + 1)), AVal.v (Value.slice none 0 0), AVal.v (Value.int IntKind.i64 x), AVal.v (Value.int IntKind.i64 y), AVal.v (Value.int IntKind.i64 (IntKind.wrap IntKind.i64 (i + 1)))] ++ jk 118), ([AObj.box [AVal.v (Value.int IntKind.i64 (Prod.fst p)), AVal.v (Value.int IntKind.i64 (Prod.snd p))]] ++ List.replicate 15 AObj.free ++ [AObj.row 2 0 none (List.drop (0 * 2) (flatP al) ++ [iA (Int.tmod (Prod.fst q) 100), iA (Int.tmod (Prod.snd q) 100)])] ++ List.replicate 18 AObj.free ++ [AObj.row 2 0 none (List.drop (0 * 2) (flatP bl) ++ [iA (IntKind.wrap IntKind.i64 (u + x)), iA (IntKind.wrap IntKind.i64 (v + y))])])))) _ (by kernel_rfl) (allOb_cons (show Plain ([AObj.box [AVal.v (Value.int IntKind.i64 (Prod.fst p)), AVal.v (Value.int IntKind.i64 (Prod.snd p))]] ++ List.replicate 15 AObj.free ++ [AObj.row 2 1 none (List.drop (0 * 2) (flatP al) ++ [iA (Int.tmod (Prod.fst q) 100), iA (Int.tmod (Prod.snd q) 100)])] ++ List.replicate 18 AObj.free ++ [AObj.row 2 1 none (List.drop (0 * 2) (flatP bl) ++ [iA (IntKind.wrap IntKind.i64 (u + x)), iA (IntKind.wrap IntKind.i64 (v + y))])] ++ List.replicate 14 AObj.free ++ [AObj.row 2 0 none [AVal.v (Value.int IntKind.i64 (Int.tmod (Prod.fst q) 100)), AVal.v (Value.int IntKind.i64 (Int.tmod (Prod.snd q) 100))]] ++ List.replicate 18 AObj.free ++ [AObj.row 2 0 none [AVal.v (Value.int IntKind.i64 (IntKind.wrap IntKind.i64 (u + x))), AVal.v (Value.int IntKind.i64 (IntKind.wrap IntKind.i64 (v + y)))], AObj.free, AObj.free]) from by simp only [Plain, List.all_append, List.all_cons, List.all_nil, plainO, flatP_plain, Nat.zero_mul, List.drop_zero] <;> rfl) (allOb_cons (by exact e9) (allOb_cons (by exact e8) (allOb_cons (by exact e7) (allOb_cons (by exact e6) (allOb_cons (by exact e5) (allOb_cons (by exact e4) (allOb_cons (by exact e3) (allOb_cons (by exact e2) (allOb_cons (by exact e1) (allOb_cons (by exact e0) (allOb_cons h0 allOb_nil)))))))))))))
    (fun h0 => key [false] ((AExit.exit 0, (([AVal.list (List.length ps) (flatPP ps), AVal.junk, AVal.junk, AVal.junk, AVal.v (Value.int IntKind.i64 f), AVal.junk, AVal.ptr 0 0 0] ++ jk 4 ++ [AVal.row 16 0 2 0 n, AVal.row 35 0 2 0 n, AVal.v (Value.slice none 0 0), AVal.v (Value.int IntKind.i64 x), AVal.v (Value.int IntKind.i64 y), AVal.v (Value.int IntKind.i64 i)] ++ jk 14 ++ [AVal.v (Value.bool false)] ++ jk 103), ([AObj.box [AVal.v (Value.int IntKind.i64 (Prod.fst p)), AVal.v (Value.int IntKind.i64 (Prod.snd p))]] ++ List.replicate 15 AObj.free ++ [AObj.row 2 0 none (flatP al)] ++ List.replicate 18 AObj.free ++ [AObj.row 2 0 none (flatP bl)])))) _ (by kernel_rfl) (allOb_cons (show Plain ([AObj.box [AVal.v (Value.int IntKind.i64 (Prod.fst p)), AVal.v (Value.int IntKind.i64 (Prod.snd p))]] ++ List.replicate 15 AObj.free ++ [AObj.row 2 0 none (flatP al)] ++ List.replicate 18 AObj.free ++ [AObj.row 2 0 none (flatP bl)]) from by simp only [Plain, List.all_append, List.all_cons, List.all_nil, plainO, flatP_plain, Nat.zero_mul, List.drop_zero] <;> rfl) (allOb_cons h0 allOb_nil)))
end Go.Proofs.Ytmopbegmdegooaa
/- The law RingShifts: its second loop's rounds. -/
namespace Go.Proofs.Ytmopbegmdegooaa
open Go Vm M
set_option linter.unusedVariables false
set_option linter.unusedSimpArgs false
def rsU (f x y i : Int) (n : Nat) (c : AVal) : List AVal := jk 4 ++ [iA f, .junk, .ptr 0 0 0] ++ jk 4 ++ [.row 16 0 2 0 n, .row 35 0 2 0 n, c, iA x, iA y, .junk, iA i] ++ jk 117
def rsS3 (p : P2) (al bl cl : List P2) : List AObj := [.box (cellsP p), .free, .row 2 0 none (flatP cl)] ++ List.replicate 13 .free ++ [.row 2 0 none (flatP al)] ++ List.replicate 18 .free ++ [.row 2 0 none (flatP bl)]
def and255 (f : Int) : Int := IntKind.i64.wrap ((BitVec.ofInt IntKind.i64.bits f &&& BitVec.ofInt IntKind.i64.bits 255).toNat : Nat)
def rsC1 (al : List P2) (bl : List P2) (f : Int) (x : Int) (y : Int) (i : Int) (j : Int) (n : Nat) (p : P2) (q : P2) : AExit × List AVal × List AObj :=
  (bif decide (i < ↑n) then (AExit.normal, ((jk 4 ++ [AVal.v (Value.int IntKind.i64 f), AVal.junk, AVal.ptr 0 0 0] ++ jk 4 ++ [AVal.row 16 0 2 0 n, AVal.row 35 0 2 0 n, AVal.row 2 0 2 0 1, AVal.v (Value.int IntKind.i64 x), AVal.v (Value.int IntKind.i64 y), AVal.junk, AVal.v (Value.int IntKind.i64 (IntKind.wrap IntKind.i64 (i + 1)))] ++ jk 117), ([AObj.box [AVal.v (Value.int IntKind.i64 (Prod.fst p)), AVal.v (Value.int IntKind.i64 (Prod.snd p))], AObj.free, AObj.row 2 0 none [AVal.v (Value.int IntKind.i64 (Prod.fst q)), AVal.v (Value.int IntKind.i64 (Prod.snd q))]] ++ List.replicate 13 AObj.free ++ [AObj.row 2 0 none (flatP al)] ++ List.replicate 18 AObj.free ++ [AObj.row 2 0 none (flatP bl)]))) else (AExit.exit 2, ((jk 4 ++ [AVal.v (Value.int IntKind.i64 f), AVal.junk, AVal.ptr 0 0 0] ++ jk 4 ++ [AVal.row 16 0 2 0 n, AVal.row 35 0 2 0 n, AVal.v (Value.slice none 0 0), AVal.v (Value.int IntKind.i64 x), AVal.v (Value.int IntKind.i64 y), AVal.junk, AVal.v (Value.int IntKind.i64 i)] ++ jk 53 ++ [AVal.v (Value.bool false)] ++ jk 63), ([AObj.box [AVal.v (Value.int IntKind.i64 (Prod.fst p)), AVal.v (Value.int IntKind.i64 (Prod.snd p))]] ++ List.replicate 15 AObj.free ++ [AObj.row 2 0 none (flatP al)] ++ List.replicate 18 AObj.free ++ [AObj.row 2 0 none (flatP bl)]))))
theorem rsC1_eq (al : List P2) (bl : List P2) (f : Int) (x : Int) (y : Int) (i : Int) (j : Int) (n : Nat) (p : P2) (q : P2) (e0 : binA Try.prog BinOp.rem 3 (Operand.tmp 79) (Operand.tmp 81) (iA (IntKind.i64.wrap (i + and255 f))) (iA (n : Int)) = some (iA j)) (e1 : 0 ≤ j ∧ j < (n : Int)) (e2 : partA Try.prog 23 (flatP al) ((0 + j.toNat) * 2) = some (ptA q)) : roundC 0 (evalC (cf R3) (evalF (cf R3) 61) (Option.getD (List.lookup 6 lives) []) 0 0 61 (loopAt Try.f6 1)) (rsU f x y i n nilA) (rsS p al bl) = some (rsC1 al bl f x y i j n p q) := by
  have key := fun (bs : List Bool) (r : AExit × List AVal × List AObj) (ob : List Prop) (h : roundP (cf R3) (evalF (cf R3) 61) (Option.getD (List.lookup 6 lives) []) 0 0 61 [(13, 8, Hint.val (Value.int IntKind.i64 j)), (13, 9, Hint.idx), (13, 10, Hint.load (ptA q))] (loopAt Try.f6 1) (rsU f x y i n nilA) (rsS p al bl) bs [] = .ok (r.1, r.2.1, r.2.2, ob)) (hp : allOb ob) => roundP_ok h hp
  unfold rsC1
  exact bif_case (P := fun r => roundC 0 (evalC (cf R3) (evalF (cf R3) 61) (Option.getD (List.lookup 6 lives) []) 0 0 61 (loopAt Try.f6 1)) (rsU f x y i n nilA) (rsS p al bl) = some r)
    (fun h0 => key [true] ((AExit.normal, ((jk 4 ++ [AVal.v (Value.int IntKind.i64 f), AVal.junk, AVal.ptr 0 0 0] ++ jk 4 ++ [AVal.row 16 0 2 0 n, AVal.row 35 0 2 0 n, AVal.row 2 0 2 0 1, AVal.v (Value.int IntKind.i64 x), AVal.v (Value.int IntKind.i64 y), AVal.junk, AVal.v (Value.int IntKind.i64 (IntKind.wrap IntKind.i64 (i + 1)))] ++ jk 117), ([AObj.box [AVal.v (Value.int IntKind.i64 (Prod.fst p)), AVal.v (Value.int IntKind.i64 (Prod.snd p))], AObj.free, AObj.row 2 0 none [AVal.v (Value.int IntKind.i64 (Prod.fst q)), AVal.v (Value.int IntKind.i64 (Prod.snd q))]] ++ List.replicate 13 AObj.free ++ [AObj.row 2 0 none (flatP al)] ++ List.replicate 18 AObj.free ++ [AObj.row 2 0 none (flatP bl)])))) _ (by kernel_rfl) (allOb_cons (show Plain ([AObj.box [AVal.v (Value.int IntKind.i64 (Prod.fst p)), AVal.v (Value.int IntKind.i64 (Prod.snd p))], AObj.row 2 0 none [AVal.v (Value.int IntKind.i64 (Prod.fst q)), AVal.v (Value.int IntKind.i64 (Prod.snd q))], AObj.row 2 0 none [AVal.v (Value.int IntKind.i64 (Prod.fst q)), AVal.v (Value.int IntKind.i64 (Prod.snd q))]] ++ List.replicate 13 AObj.free ++ [AObj.row 2 0 none (flatP al)] ++ List.replicate 18 AObj.free ++ [AObj.row 2 0 none (flatP bl)]) from by simp only [Plain, List.all_append, List.all_cons, List.all_nil, plainO, flatP_plain, Nat.zero_mul, List.drop_zero] <;> rfl) (allOb_cons (by exact e2) (allOb_cons (by exact e1) (allOb_cons (by exact e0) (allOb_cons h0 allOb_nil))))))
    (fun h0 => key [false] ((AExit.exit 2, ((jk 4 ++ [AVal.v (Value.int IntKind.i64 f), AVal.junk, AVal.ptr 0 0 0] ++ jk 4 ++ [AVal.row 16 0 2 0 n, AVal.row 35 0 2 0 n, AVal.v (Value.slice none 0 0), AVal.v (Value.int IntKind.i64 x), AVal.v (Value.int IntKind.i64 y), AVal.junk, AVal.v (Value.int IntKind.i64 i)] ++ jk 53 ++ [AVal.v (Value.bool false)] ++ jk 63), ([AObj.box [AVal.v (Value.int IntKind.i64 (Prod.fst p)), AVal.v (Value.int IntKind.i64 (Prod.snd p))]] ++ List.replicate 15 AObj.free ++ [AObj.row 2 0 none (flatP al)] ++ List.replicate 18 AObj.free ++ [AObj.row 2 0 none (flatP bl)])))) _ (by kernel_rfl) (allOb_cons (show Plain ([AObj.box [AVal.v (Value.int IntKind.i64 (Prod.fst p)), AVal.v (Value.int IntKind.i64 (Prod.snd p))]] ++ List.replicate 15 AObj.free ++ [AObj.row 2 0 none (flatP al)] ++ List.replicate 18 AObj.free ++ [AObj.row 2 0 none (flatP bl)]) from by simp only [Plain, List.all_append, List.all_cons, List.all_nil, plainO, flatP_plain, Nat.zero_mul, List.drop_zero] <;> rfl) (allOb_cons h0 allOb_nil)))
def rsC2 (al : List P2) (bl : List P2) (cl : List P2) (f : Int) (x : Int) (y : Int) (i : Int) (j : Int) (n : Nat) (m : Nat) (p : P2) (q : P2) : AExit × List AVal × List AObj :=
  (bif decide (i < ↑n) then (AExit.normal, ((jk 4 ++ [AVal.v (Value.int IntKind.i64 f), AVal.junk, AVal.ptr 0 0 0] ++ jk 4 ++ [AVal.row 16 0 2 0 n, AVal.row 35 0 2 0 n, AVal.row 2 0 2 0 (m + (0 + 1)), AVal.v (Value.int IntKind.i64 x), AVal.v (Value.int IntKind.i64 y), AVal.junk, AVal.v (Value.int IntKind.i64 (IntKind.wrap IntKind.i64 (i + 1)))] ++ jk 117), ([AObj.box [AVal.v (Value.int IntKind.i64 (Prod.fst p)), AVal.v (Value.int IntKind.i64 (Prod.snd p))], AObj.free, AObj.row 2 0 none (List.drop (0 * 2) (flatP cl) ++ [iA (Prod.fst q), iA (Prod.snd q)])] ++ List.replicate 13 AObj.free ++ [AObj.row 2 0 none (flatP al)] ++ List.replicate 18 AObj.free ++ [AObj.row 2 0 none (flatP bl)]))) else (AExit.exit 2, ((jk 4 ++ [AVal.v (Value.int IntKind.i64 f), AVal.junk, AVal.ptr 0 0 0] ++ jk 4 ++ [AVal.row 16 0 2 0 n, AVal.row 35 0 2 0 n, AVal.row 2 0 2 0 m, AVal.v (Value.int IntKind.i64 x), AVal.v (Value.int IntKind.i64 y), AVal.junk, AVal.v (Value.int IntKind.i64 i)] ++ jk 53 ++ [AVal.v (Value.bool false)] ++ jk 63), ([AObj.box [AVal.v (Value.int IntKind.i64 (Prod.fst p)), AVal.v (Value.int IntKind.i64 (Prod.snd p))], AObj.free, AObj.row 2 0 none (flatP cl)] ++ List.replicate 13 AObj.free ++ [AObj.row 2 0 none (flatP al)] ++ List.replicate 18 AObj.free ++ [AObj.row 2 0 none (flatP bl)]))))
theorem rsC2_eq (al : List P2) (bl : List P2) (cl : List P2) (f : Int) (x : Int) (y : Int) (i : Int) (j : Int) (n : Nat) (m : Nat) (p : P2) (q : P2) (e0 : binA Try.prog BinOp.rem 3 (Operand.tmp 79) (Operand.tmp 81) (iA (IntKind.i64.wrap (i + and255 f))) (iA (n : Int)) = some (iA j)) (e1 : 0 ≤ j ∧ j < (n : Int)) (e2 : partA Try.prog 23 (flatP al) ((0 + j.toNat) * 2) = some (ptA q)) (e3 : (0 + m) * 2 = (flatP cl).length ∧ (m + (0 + 1)) * 16 ≤ 140737488355328 ∧ m + (0 + 1) ≤ 9223372036854775807) : roundC 0 (evalC (cf R3) (evalF (cf R3) 61) (Option.getD (List.lookup 6 lives) []) 0 0 61 (loopAt Try.f6 1)) (rsU f x y i n (AVal.row 2 0 2 0 m)) (rsS3 p al bl cl) = some (rsC2 al bl cl f x y i j n m p q) := by
  have key := fun (bs : List Bool) (r : AExit × List AVal × List AObj) (ob : List Prop) (h : roundP (cf R3) (evalF (cf R3) 61) (Option.getD (List.lookup 6 lives) []) 0 0 61 [(13, 8, Hint.val (Value.int IntKind.i64 j)), (13, 9, Hint.idx), (13, 10, Hint.load (ptA q)), (13, 12, Hint.app)] (loopAt Try.f6 1) (rsU f x y i n (AVal.row 2 0 2 0 m)) (rsS3 p al bl cl) bs [] = .ok (r.1, r.2.1, r.2.2, ob)) (hp : allOb ob) => roundP_ok h hp
  unfold rsC2
  exact bif_case (P := fun r => roundC 0 (evalC (cf R3) (evalF (cf R3) 61) (Option.getD (List.lookup 6 lives) []) 0 0 61 (loopAt Try.f6 1)) (rsU f x y i n (AVal.row 2 0 2 0 m)) (rsS3 p al bl cl) = some r)
    (fun h0 => key [true] ((AExit.normal, ((jk 4 ++ [AVal.v (Value.int IntKind.i64 f), AVal.junk, AVal.ptr 0 0 0] ++ jk 4 ++ [AVal.row 16 0 2 0 n, AVal.row 35 0 2 0 n, AVal.row 2 0 2 0 (m + (0 + 1)), AVal.v (Value.int IntKind.i64 x), AVal.v (Value.int IntKind.i64 y), AVal.junk, AVal.v (Value.int IntKind.i64 (IntKind.wrap IntKind.i64 (i + 1)))] ++ jk 117), ([AObj.box [AVal.v (Value.int IntKind.i64 (Prod.fst p)), AVal.v (Value.int IntKind.i64 (Prod.snd p))], AObj.free, AObj.row 2 0 none (List.drop (0 * 2) (flatP cl) ++ [iA (Prod.fst q), iA (Prod.snd q)])] ++ List.replicate 13 AObj.free ++ [AObj.row 2 0 none (flatP al)] ++ List.replicate 18 AObj.free ++ [AObj.row 2 0 none (flatP bl)])))) _ (by kernel_rfl) (allOb_cons (show Plain ([AObj.box [AVal.v (Value.int IntKind.i64 (Prod.fst p)), AVal.v (Value.int IntKind.i64 (Prod.snd p))], AObj.row 2 0 none [AVal.v (Value.int IntKind.i64 (Prod.fst q)), AVal.v (Value.int IntKind.i64 (Prod.snd q))], AObj.row 2 1 none (List.drop (0 * 2) (flatP cl) ++ [iA (Prod.fst q), iA (Prod.snd q)])] ++ List.replicate 13 AObj.free ++ [AObj.row 2 0 none (flatP al)] ++ List.replicate 18 AObj.free ++ [AObj.row 2 0 none (flatP bl)]) from by simp only [Plain, List.all_append, List.all_cons, List.all_nil, plainO, flatP_plain, Nat.zero_mul, List.drop_zero] <;> rfl) (allOb_cons (by exact e3) (allOb_cons (by exact e2) (allOb_cons (by exact e1) (allOb_cons (by exact e0) (allOb_cons h0 allOb_nil)))))))
    (fun h0 => key [false] ((AExit.exit 2, ((jk 4 ++ [AVal.v (Value.int IntKind.i64 f), AVal.junk, AVal.ptr 0 0 0] ++ jk 4 ++ [AVal.row 16 0 2 0 n, AVal.row 35 0 2 0 n, AVal.row 2 0 2 0 m, AVal.v (Value.int IntKind.i64 x), AVal.v (Value.int IntKind.i64 y), AVal.junk, AVal.v (Value.int IntKind.i64 i)] ++ jk 53 ++ [AVal.v (Value.bool false)] ++ jk 63), ([AObj.box [AVal.v (Value.int IntKind.i64 (Prod.fst p)), AVal.v (Value.int IntKind.i64 (Prod.snd p))], AObj.free, AObj.row 2 0 none (flatP cl)] ++ List.replicate 13 AObj.free ++ [AObj.row 2 0 none (flatP al)] ++ List.replicate 18 AObj.free ++ [AObj.row 2 0 none (flatP bl)])))) _ (by kernel_rfl) (allOb_cons (show Plain ([AObj.box [AVal.v (Value.int IntKind.i64 (Prod.fst p)), AVal.v (Value.int IntKind.i64 (Prod.snd p))], AObj.free, AObj.row 2 0 none (flatP cl)] ++ List.replicate 13 AObj.free ++ [AObj.row 2 0 none (flatP al)] ++ List.replicate 18 AObj.free ++ [AObj.row 2 0 none (flatP bl)]) from by simp only [Plain, List.all_append, List.all_cons, List.all_nil, plainO, flatP_plain, Nat.zero_mul, List.drop_zero] <;> rfl) (allOb_cons h0 allOb_nil)))
end Go.Proofs.Ytmopbegmdegooaa
/- The law RingShifts: what its code answers behind its loops. -/
namespace Go.Proofs.Ytmopbegmdegooaa
open Go Vm M
set_option linter.unusedVariables false
set_option linter.unusedSimpArgs false
def rsE0 (ps : List P2) (f x y i : Int) (n : Nat) : List AVal := [slA ps] ++ jk 3 ++ [iA f, .junk, .ptr 0 0 0] ++ jk 4 ++ [.row 16 0 2 0 n, .row 35 0 2 0 n, nilA, iA x, iA y, iA i] ++ jk 14 ++ [bA false] ++ jk 103
def rsE1 (f x y i : Int) (n m : Nat) : List AVal := jk 4 ++ [iA f, .junk, .ptr 0 0 0] ++ jk 4 ++ [.row 16 0 2 0 n, .row 35 0 2 0 n, .row 2 0 2 0 m, iA x, iA y, .junk, iA i] ++ jk 53 ++ [bA false] ++ jk 63
def rsF (p1 q1 : P2) (fa fb fc : Option Nat) (al bl cl : List P2) : List AObj := [.box (cellsP p1), .box (cellsP q1), .row 2 0 fc (flatP cl)] ++ List.replicate 13 .free ++ [.row 2 0 fa (flatP al)] ++ List.replicate 18 .free ++ [.row 2 0 fb (flatP bl)]
def rsP1 (p : P2) : P2 := (p.1.tmod 100, p.2.tmod 100)
def rsQ1 (p : P2) (x y : Int) : P2 := (IntKind.i64.wrap ((rsP1 p).1 + x), IntKind.i64.wrap ((rsP1 p).2 + y))
def lenF (l : List P2) : Option Nat := some (flatP l).length
def rsAll (ps : List P2) (al : List P2) (bl : List P2) (cl : List P2) (dx : Int) (dy : Int) (f : Int) (i0 : Int) (i1 : Int) (k1 : Int) (k2 : Int) (k3 : Int) (k4 : Int) (k5 : Int) (k6 : Int) (k7 : Int) (n : Nat) (m : Nat) (p : P2) : PVal :=
  (bif decide ((↑(List.length ps) : Int) > 60) then PVal.v (Value.bool true) else (bif k2 == k1 then (bif k3 == k1 then (bif k4 == k5 then (bif k6 == k7 then PVal.v (Value.bool true) else PVal.v (Value.bool false)) else PVal.v (Value.bool false)) else PVal.v (Value.bool false)) else PVal.v (Value.bool false)))
theorem rsAll_calls (ps : List P2) (al : List P2) (bl : List P2) (cl : List P2) (dx : Int) (dy : Int) (f : Int) (i0 : Int) (i1 : Int) (k1 : Int) (k2 : Int) (k3 : Int) (k4 : Int) (k5 : Int) (k6 : Int) (k7 : Int) (n : Nat) (m : Nat) (p : P2) (e0 : iterC 0 (evalC (cf R3) (evalF (cf R3) 61) ((lives.lookup 6).getD []) 0 0 61 (loopAt Try.f6 0)) 61 (rsT ps f (dx.tmod 10000) (dy.tmod 10000) 0 nilA nilA nilA) (rsS0 p) = some (.exit 0, rsE0 ps f (dx.tmod 10000) (dy.tmod 10000) i0 n, rsS p al bl)) (e1 : iterC 0 (evalC (cf R3) (evalF (cf R3) 61) ((lives.lookup 6).getD []) 0 0 61 (loopAt Try.f6 1)) 61 (rsU f (dx.tmod 10000) (dy.tmod 10000) 0 n nilA) (rsS p al bl) = some (.exit 2, rsE1 f (dx.tmod 10000) (dy.tmod 10000) i1 n m, rsS3 p al bl cl)) (e2 : callA (cf R3) (evalF (cf R3) 61) 0 22 [.row 16 0 2 0 n, ptA (rsP1 p)] (rsF (rsP1 p) (rsQ1 p (dx.tmod 10000) (dy.tmod 10000)) none none none al bl cl) = some (iA k1, rsF (rsP1 p) (rsQ1 p (dx.tmod 10000) (dy.tmod 10000)) (lenF al) none none al bl cl)) (e3 : callA (cf R3) (evalF (cf R3) 61) 0 22 [.row 35 0 2 0 n, ptA (rsQ1 p (dx.tmod 10000) (dy.tmod 10000))] (rsF (rsP1 p) (rsQ1 p (dx.tmod 10000) (dy.tmod 10000)) (lenF al) none none al bl cl) = some (iA k2, rsF (rsP1 p) (rsQ1 p (dx.tmod 10000) (dy.tmod 10000)) (lenF al) (lenF bl) none al bl cl)) (e4 : callA (cf R3) (evalF (cf R3) 61) 0 22 [.row 2 0 2 0 m, ptA (rsP1 p)] (rsF (rsP1 p) (rsQ1 p (dx.tmod 10000) (dy.tmod 10000)) (lenF al) (lenF bl) none al bl cl) = some (iA k3, rsF (rsP1 p) (rsQ1 p (dx.tmod 10000) (dy.tmod 10000)) (lenF al) (lenF bl) (lenF cl) al bl cl)) (e5 : callA (cf R3) (evalF (cf R3) 61) 0 23 [.row 35 0 2 0 n] (rsF (rsP1 p) (rsQ1 p (dx.tmod 10000) (dy.tmod 10000)) (lenF al) (lenF bl) (lenF cl) al bl cl) = some (iA k4, rsF (rsP1 p) (rsQ1 p (dx.tmod 10000) (dy.tmod 10000)) (lenF al) (lenF bl) (lenF cl) al bl cl)) (e6 : callA (cf R3) (evalF (cf R3) 61) 0 23 [.row 16 0 2 0 n] (rsF (rsP1 p) (rsQ1 p (dx.tmod 10000) (dy.tmod 10000)) (lenF al) (lenF bl) (lenF cl) al bl cl) = some (iA k5, rsF (rsP1 p) (rsQ1 p (dx.tmod 10000) (dy.tmod 10000)) (lenF al) (lenF bl) (lenF cl) al bl cl)) (e7 : callA (cf R3) (evalF (cf R3) 61) 0 23 [.row 2 0 2 0 m] (rsF (rsP1 p) (rsQ1 p (dx.tmod 10000) (dy.tmod 10000)) (lenF al) (lenF bl) (lenF cl) al bl cl) = some (iA k6, rsF (rsP1 p) (rsQ1 p (dx.tmod 10000) (dy.tmod 10000)) (lenF al) (lenF bl) (lenF cl) al bl cl)) (e8 : callA (cf R3) (evalF (cf R3) 61) 0 23 [.row 16 0 2 0 n] (rsF (rsP1 p) (rsQ1 p (dx.tmod 10000) (dy.tmod 10000)) (lenF al) (lenF bl) (lenF cl) al bl cl) = some (iA k7, rsF (rsP1 p) (rsQ1 p (dx.tmod 10000) (dy.tmod 10000)) (lenF al) (lenF bl) (lenF cl) al bl cl)) : CallsP Try.prog 6 [slP ps, ptP p, iP dx, iP dy, iP f] (rsAll ps al bl cl dx dy f i0 i1 k1 k2 k3 k4 k5 k6 k7 n m p) := by
  have key := fun (bs : List Bool) (r : PVal) (ob : List Prop) (h : callP (cf R3) (evalF (cf R3) 61) 61 [(16, 2, Hint.call (iA k1) (rsF (rsP1 p) (rsQ1 p (Int.tmod dx 10000) (Int.tmod dy 10000)) (lenF al) none none al bl cl)), (17, 2, Hint.call (iA k2) (rsF (rsP1 p) (rsQ1 p (Int.tmod dx 10000) (Int.tmod dy 10000)) (lenF al) (lenF bl) none al bl cl)), (17, 8, Hint.call (iA k3) (rsF (rsP1 p) (rsQ1 p (Int.tmod dx 10000) (Int.tmod dy 10000)) (lenF al) (lenF bl) (lenF cl) al bl cl)), (17, 14, Hint.call (iA k4) (rsF (rsP1 p) (rsQ1 p (Int.tmod dx 10000) (Int.tmod dy 10000)) (lenF al) (lenF bl) (lenF cl) al bl cl)), (17, 16, Hint.call (iA k5) (rsF (rsP1 p) (rsQ1 p (Int.tmod dx 10000) (Int.tmod dy 10000)) (lenF al) (lenF bl) (lenF cl) al bl cl)), (17, 21, Hint.call (iA k6) (rsF (rsP1 p) (rsQ1 p (Int.tmod dx 10000) (Int.tmod dy 10000)) (lenF al) (lenF bl) (lenF cl) al bl cl)), (17, 23, Hint.call (iA k7) (rsF (rsP1 p) (rsQ1 p (Int.tmod dx 10000) (Int.tmod dy 10000)) (lenF al) (lenF bl) (lenF cl) al bl cl))] 6 [slP ps, ptP p, iP dx, iP dy, iP f] bs [(AExit.exit 0, rsE0 ps f (Int.tmod dx 10000) (Int.tmod dy 10000) i0 n, rsS p al bl), (AExit.exit 2, rsE1 f (Int.tmod dx 10000) (Int.tmod dy 10000) i1 n m, rsS3 p al bl cl)] (none) = .ok (r, ob)) (hp : allOb ob) => callP_ok (cf_ok R3) h hp
  unfold rsAll
  exact bif_case (P := fun r => CallsP Try.prog 6 [slP ps, ptP p, iP dx, iP dy, iP f] r)
    (fun h0 => key [true] (PVal.v (Value.bool true)) _ (by kernel_rfl) (allOb_cons h0 allOb_nil))
    (fun h0 => bif_case (P := fun r => CallsP Try.prog 6 [slP ps, ptP p, iP dx, iP dy, iP f] r)
     (fun h1 => bif_case (P := fun r => CallsP Try.prog 6 [slP ps, ptP p, iP dx, iP dy, iP f] r)
      (fun h2 => bif_case (P := fun r => CallsP Try.prog 6 [slP ps, ptP p, iP dx, iP dy, iP f] r)
       (fun h3 => bif_case (P := fun r => CallsP Try.prog 6 [slP ps, ptP p, iP dx, iP dy, iP f] r)
        (fun h4 => key [false, true, true, true, true] (PVal.v (Value.bool true)) _ (by kernel_rfl) (allOb_cons h4 (allOb_cons (by exact e8) (allOb_cons (by exact e7) (allOb_cons h3 (allOb_cons (by exact e6) (allOb_cons (by exact e5) (allOb_cons h2 (allOb_cons (by exact e4) (allOb_cons h1 (allOb_cons (by exact e3) (allOb_cons (by exact e2) (allOb_cons (by exact e1) (allOb_cons (by exact e0) (allOb_cons h0 allOb_nil)))))))))))))))
        (fun h4 => key [false, true, true, true, false] (PVal.v (Value.bool false)) _ (by kernel_rfl) (allOb_cons h4 (allOb_cons (by exact e8) (allOb_cons (by exact e7) (allOb_cons h3 (allOb_cons (by exact e6) (allOb_cons (by exact e5) (allOb_cons h2 (allOb_cons (by exact e4) (allOb_cons h1 (allOb_cons (by exact e3) (allOb_cons (by exact e2) (allOb_cons (by exact e1) (allOb_cons (by exact e0) (allOb_cons h0 allOb_nil))))))))))))))))
       (fun h3 => key [false, true, true, false, false] (PVal.v (Value.bool false)) _ (by kernel_rfl) (allOb_cons lit_f (allOb_cons h3 (allOb_cons (by exact e6) (allOb_cons (by exact e5) (allOb_cons h2 (allOb_cons (by exact e4) (allOb_cons h1 (allOb_cons (by exact e3) (allOb_cons (by exact e2) (allOb_cons (by exact e1) (allOb_cons (by exact e0) (allOb_cons h0 allOb_nil))))))))))))))
      (fun h2 => key [false, true, false, false, false] (PVal.v (Value.bool false)) _ (by kernel_rfl) (allOb_cons lit_f (allOb_cons lit_f (allOb_cons h2 (allOb_cons (by exact e4) (allOb_cons h1 (allOb_cons (by exact e3) (allOb_cons (by exact e2) (allOb_cons (by exact e1) (allOb_cons (by exact e0) (allOb_cons h0 allOb_nil))))))))))))
     (fun h1 => key [false, false, false, false, false] (PVal.v (Value.bool false)) _ (by kernel_rfl) (allOb_cons lit_f (allOb_cons lit_f (allOb_cons lit_f (allOb_cons h1 (allOb_cons (by exact e3) (allOb_cons (by exact e2) (allOb_cons (by exact e1) (allOb_cons (by exact e0) (allOb_cons h0 allOb_nil)))))))))))
end Go.Proofs.Ytmopbegmdegooaa
/- The law RingShifts: true whatever the input. -/
namespace Go.Proofs.Ytmopbegmdegooaa
open Go Vm M
set_option linter.unusedVariables false
set_option linter.unusedSimpArgs false
noncomputable abbrev bodyRs0 : List AVal → List AObj → Res := evalC (cf R3) (evalF (cf R3) 61) ((lives.lookup 6).getD []) 0 0 61 (loopAt Try.f6 0)
noncomputable abbrev bodyRs1 : List AVal → List AObj → Res := evalC (cf R3) (evalF (cf R3) 61) ((lives.lookup 6).getD []) 0 0 61 (loopAt Try.f6 1)
def rsMv (x y : Int) (a : P2) : P2 := (IntKind.i64.wrap (a.1 + x), IntKind.i64.wrap (a.2 + y))
theorem iterC_more {base : Nat} {body : List AVal → List AObj → Res} {r : AExit × List AVal × List AObj} : ∀ (n : Nat) (T : List AVal) (S : List AObj), iterC base body n T S = some r → iterC base body (n + 1) T S = some r
  | 0, T, S, h => by simp [iterC] at h
  | n + 1, T, S, h => by
    unfold iterC at h ⊢
    cases hc : canon base T S with
    | none => rw [hc] at h; cases h
    | some c =>
      obtain ⟨T1, S1⟩ := c
      rw [hc] at h
      simp only at h ⊢
      cases hb : body T1 S1 with
      | none => rw [hb] at h; cases h
      | some b =>
        obtain ⟨x, T', S'⟩ := b
        rw [hb] at h
        cases x with
        | normal => exact iterC_more n T' S' h
        | exit i => exact h
        | ret => exact h
theorem at_more {base : Nat} {body : List AVal → List AObj → Res} {n m : Nat} {T1 : List AVal} {S1 : List AObj} {r : AExit × List AVal × List AObj} (h : At base body n T1 S1 (some r)) (hm : n ≤ m) : At base body m T1 S1 (some r) := by
  intro T S hc
  obtain ⟨d, rfl⟩ : ∃ d, m = n + d := ⟨m - n, by omega⟩
  induction d with
  | zero => exact h T S hc
  | succ d ih => exact iterC_more _ _ _ (ih (by omega))
section
variable (ps : List P2) (f x y : Int) (p : P2)
theorem sh_first {q : P2} (hq : ps[0]? = some q) : roundC 0 bodyRs0 (rsT ps f x y 0 nilA nilA nilA) (rsS0 p) = some (.normal, rsT ps f x y (1 : Nat) (.row 16 0 2 0 1) (.row 35 0 2 0 1) nilA, rsS p [rsP1 q] [rsMv x y (rsP1 q)]) := by
  have hl := lt_of_get hq
  have h := rsFirst_eq ps f x y 0 p q (rsP1 q).1 (rsP1 q).2 ⟨Int.le_refl _, by omega, by omega, flatPP_length ps⟩ (load_x (i := 0) hq) ⟨Int.le_refl _, by omega, by omega, flatPP_length ps⟩ (load_y (i := 0) hq) (by omega) (by rw [part_int]; rfl) (by omega) (by rw [part_int]; rfl)
  rw [h]
  unfold rsFirst
  rw [decide_eq_true (by omega : (0 : Int) < (ps.length : Int)), IntWalk.i64_in (0 + 1) (by omega)]
  rfl
theorem sh_next {k : Nat} {q : P2} {al bl : List P2} (hq : ps[k]? = some q) (h60 : ps.length ≤ 60) (ha : al.length = k) (hb : bl.length = k) :
    roundC 0 bodyRs0 (rsT ps f x y k (.row 16 0 2 0 k) (.row 35 0 2 0 k) nilA) (rsS p al bl) = some (.normal, rsT ps f x y (k + 1 : Nat) (.row 16 0 2 0 (k + 1)) (.row 35 0 2 0 (k + 1)) nilA, rsS p (al ++ [rsP1 q]) (bl ++ [rsMv x y (rsP1 q)])) := by
  have hl := lt_of_get hq
  have e1 : (al ++ [rsP1 q])[k]? = some (rsP1 q) := by rw [← ha]; simp
  have g1 := flatP_get (al ++ [rsP1 q]) k _ e1
  have s1 := flatP_snoc al (rsP1 q)
  have s2 := flatP_snoc bl (rsMv x y (rsP1 q))
  have h := rsNext_eq ps al bl f x y k k p q (rsP1 q).1 (rsP1 q).2 ⟨by omega, by omega, by omega, flatPP_length ps⟩ (load_x (i := k) hq) ⟨by omega, by omega, by omega, flatPP_length ps⟩ (load_y (i := k) hq)
    ⟨by rw [flatP_length]; omega, by omega, by omega⟩ ⟨by omega, by omega⟩
    (by rw [part_int]; rw [show (List.drop (0 * 2) (flatP al) ++ [iA (q.1.tmod 100), iA (q.2.tmod 100)]) = flatP (al ++ [rsP1 q]) from s1]; simpa using g1.1) ⟨by omega, by omega⟩
    (by rw [part_int]; rw [show (List.drop (0 * 2) (flatP al) ++ [iA (q.1.tmod 100), iA (q.2.tmod 100)]) = flatP (al ++ [rsP1 q]) from s1]; simpa using g1.2)
    ⟨by rw [flatP_length]; omega, by omega, by omega⟩
  rw [h]
  unfold rsNext
  rw [decide_eq_true (by omega : (k : Int) < (ps.length : Int)), IntWalk.i64_in ((k : Int) + 1) (by omega)]
  unfold rsS
  rw [← s1, ← s2]
  rfl
theorem sh_end {al bl : List P2} {n : Nat} : roundC 0 bodyRs0 (rsT ps f x y ps.length (.row 16 0 2 0 n) (.row 35 0 2 0 n) nilA) (rsS p al bl) = some (.exit 0, rsE0 ps f x y ps.length n, rsS p al bl) := by
  have hpl : Plain (rsS p al bl) := by
    unfold rsS
    simp only [Plain, List.all_append, List.all_cons, List.all_nil, plainO, flatP_plain] <;> rfl
  exact roundP_ok (hs := []) (bs := [false]) (ls := []) (ob := [Plain (rsS p al bl), decide ((ps.length : Int) < (ps.length : Int)) = false]) (by kernel_rfl) (allOb_cons hpl (allOb_cons (decide_eq_false (by omega)) allOb_nil))
def rsA (ps : List P2) (k : Nat) : List P2 := (ps.take k).map rsP1
def rsB (x y : Int) (ps : List P2) (k : Nat) : List P2 := (rsA ps k).map (rsMv x y)
theorem rsA_length {ps : List P2} {k : Nat} (h : k ≤ ps.length) : (rsA ps k).length = k := by simp [rsA, h]
theorem rsA_succ {ps : List P2} {k : Nat} {q : P2} (h : ps[k]? = some q) : rsA ps (k + 1) = rsA ps k ++ [rsP1 q] := by
  unfold rsA
  rw [List.take_add_one, h]
  simp
theorem sh_loop (h60 : ps.length ≤ 60) : ∀ (d k : Nat), 1 ≤ k → k + d = ps.length → At 0 bodyRs0 (d + 1) (rsT ps f x y k (.row 16 0 2 0 k) (.row 35 0 2 0 k) nilA) (rsS p (rsA ps k) (rsB x y ps k)) (some (.exit 0, rsE0 ps f x y ps.length ps.length, rsS p (rsA ps ps.length) (rsB x y ps ps.length)))
  | 0, k, _, hk => by
    obtain rfl : k = ps.length := by omega
    exact At.leave (sh_end ps f x y p) (by simp)
  | d + 1, k, h1, hk => by
    have hlt : k < ps.length := by omega
    have hq : ps[k]? = some ps[k] := List.getElem?_eq_getElem hlt
    have h := sh_next ps f x y p (al := rsA ps k) (bl := rsB x y ps k) hq h60 (rsA_length (by omega)) (by unfold rsB; rw [List.length_map]; exact rsA_length (by omega))
    refine At.step h ?_
    have := sh_loop h60 d (k + 1) (by omega) (by omega)
    unfold rsB at this ⊢
    rw [rsA_succ hq] at this
    rw [List.map_append] at this
    exact this
theorem sh_loop0 (h60 : ps.length ≤ 60) (h1 : 1 ≤ ps.length) : iterC 0 bodyRs0 61 (rsT ps f x y 0 nilA nilA nilA) (rsS0 p) = some (.exit 0, rsE0 ps f x y ps.length ps.length, rsS p (rsA ps ps.length) (rsB x y ps ps.length)) := by
  have hq : ps[0]? = some ps[0] := List.getElem?_eq_getElem (by omega)
  have hA : At 0 bodyRs0 (ps.length - 1 + 1 + 1) (rsT ps f x y 0 nilA nilA nilA) (rsS0 p) (some (.exit 0, rsE0 ps f x y ps.length ps.length, rsS p (rsA ps ps.length) (rsB x y ps ps.length))) := by
    refine At.step (sh_first ps f x y p hq) ?_
    have := sh_loop ps f x y p h60 (ps.length - 1) 1 (Nat.le_refl _) (by omega)
    have e : rsA ps 1 = [rsP1 ps[0]] := by rw [rsA_succ hq]; rfl
    unfold rsB at this
    rw [e] at this
    exact this
  exact At.use (at_more hA (m := 61) (by omega)) (by rfl) (by kernel_rfl)
end
theorem and255_bound (f : Int) : 0 ≤ and255 f ∧ and255 f ≤ 255 := by
  unfold and255
  have h : (BitVec.ofInt IntKind.i64.bits f &&& BitVec.ofInt IntKind.i64.bits 255).toNat ≤ 255 := by
    rw [BitVec.toNat_and]
    exact Nat.le_trans Nat.and_le_right (by decide)
  rw [IntWalk.i64_in _ (by omega)]
  omega
/-- The ring begun at another point. -/
def rsC (al : List P2) (s k : Nat) : List P2 := (List.range k).map fun i => al[(i + s) % al.length]?.getD (0, 0)
theorem rsC_succ (al : List P2) (s k : Nat) : rsC al s (k + 1) = rsC al s k ++ [al[(k + s) % al.length]?.getD (0, 0)] := by simp [rsC, List.range_succ]
theorem rsC_length (al : List P2) (s k : Nat) : (rsC al s k).length = k := by simp [rsC]
section
variable (f x y : Int) (p : P2) (al bl : List P2)
theorem sc_args {k n s : Nat} (hn : al.length = n) (hk : k < n) (h60 : n ≤ 60) (hs : and255 f = (s : Int)) :
    binA Try.prog BinOp.rem 3 (Operand.tmp 79) (Operand.tmp 81) (iA (IntKind.i64.wrap ((k : Int) + and255 f))) (iA (n : Int)) = some (iA (((k + s) % n : Nat) : Int)) ∧ (0 ≤ (((k + s) % n : Nat) : Int) ∧ (((k + s) % n : Nat) : Int) < (n : Int)) ∧
      partA Try.prog 23 (flatP al) ((0 + ((((k + s) % n : Nat) : Int)).toNat) * 2) = some (ptA (al[(k + s) % n]?.getD (0, 0))) := by
  have hb := and255_bound f
  have hm := Nat.mod_lt (k + s) (y := n) (by omega)
  refine ⟨?_, ⟨by omega, by omega⟩, ?_⟩
  · rw [IntWalk.i64_in _ (by omega), hs]
    have := binA_rem ((k : Int) + s) n (Operand.tmp 79) (Operand.tmp 81) (by omega)
    rw [this, Int.tmod_eq_emod_of_nonneg (by omega)]
    rfl
  · rw [Nat.zero_add, Int.toNat_natCast]
    have hq : al[(k + s) % n]? = some (al[(k + s) % n]?.getD (0, 0)) := by
      rw [List.getElem?_eq_getElem (by omega)]
      rfl
    exact flatP_part hq agg23 sz23
theorem sc_first {n s : Nat} (hn : al.length = n) (h1 : 1 ≤ n) (h60 : n ≤ 60) (hs : and255 f = (s : Int)) :
    roundC 0 bodyRs1 (rsU f x y 0 n nilA) (rsS p al bl) = some (.normal, rsU f x y (1 : Nat) n (.row 2 0 2 0 1), rsS3 p al bl (rsC al s 1)) := by
  obtain ⟨e0, e1, e2⟩ := sc_args f al (k := 0) hn (by omega) h60 hs
  have h := rsC1_eq al bl f x y 0 _ n p _ e0 e1 e2
  rw [h]
  unfold rsC1
  rw [decide_eq_true (by omega : (0 : Int) < (n : Int)), IntWalk.i64_in (0 + 1) (by omega)]
  subst hn
  rfl
theorem sc_next {k n s : Nat} {cl : List P2} (hn : al.length = n) (hk : k < n) (h60 : n ≤ 60) (hs : and255 f = (s : Int)) (hc : cl.length = k) :
    roundC 0 bodyRs1 (rsU f x y k n (.row 2 0 2 0 k)) (rsS3 p al bl cl) = some (.normal, rsU f x y (k + 1 : Nat) n (.row 2 0 2 0 (k + 1)), rsS3 p al bl (cl ++ [al[(k + s) % n]?.getD (0, 0)])) := by
  obtain ⟨e0, e1, e2⟩ := sc_args f al (k := k) hn hk h60 hs
  have s1 := flatP_snoc cl (al[(k + s) % n]?.getD (0, 0))
  have h := rsC2_eq al bl cl f x y k _ n k p _ e0 e1 e2 ⟨by rw [flatP_length]; omega, by omega, by omega⟩
  rw [h]
  unfold rsC2
  rw [decide_eq_true (by omega : (k : Int) < (n : Int)), IntWalk.i64_in ((k : Int) + 1) (by omega)]
  unfold rsS3
  rw [← s1]
  rfl
theorem sc_end {cl : List P2} {n m : Nat} : roundC 0 bodyRs1 (rsU f x y n n (.row 2 0 2 0 m)) (rsS3 p al bl cl) = some (.exit 2, rsE1 f x y n n m, rsS3 p al bl cl) := by
  have hpl : Plain (rsS3 p al bl cl) := by
    unfold rsS3
    simp only [Plain, List.all_append, List.all_cons, List.all_nil, plainO, flatP_plain] <;> rfl
  exact roundP_ok (hs := []) (bs := [false]) (ls := []) (ob := [Plain (rsS3 p al bl cl), decide ((n : Int) < (n : Int)) = false]) (by kernel_rfl) (allOb_cons hpl (allOb_cons (decide_eq_false (by omega)) allOb_nil))
theorem sc_loop {n s : Nat} (hn : al.length = n) (h60 : n ≤ 60) (hs : and255 f = (s : Int)) : ∀ (d k : Nat), 1 ≤ k → k + d = n → At 0 bodyRs1 (d + 1) (rsU f x y k n (.row 2 0 2 0 k)) (rsS3 p al bl (rsC al s k)) (some (.exit 2, rsE1 f x y n n n, rsS3 p al bl (rsC al s n)))
  | 0, k, _, hk => by
    obtain rfl : k = n := by omega
    exact At.leave (sc_end f x y p al bl) (by simp)
  | d + 1, k, h1, hk => by
    have h := sc_next f x y p al bl (cl := rsC al s k) hn (by omega) h60 hs (rsC_length _ _ _)
    refine At.step h ?_
    have := sc_loop hn h60 hs d (k + 1) (by omega) (by omega)
    rw [rsC_succ, hn] at this
    exact this
theorem sc_loop1 {n s : Nat} (hn : al.length = n) (h1 : 1 ≤ n) (h60 : n ≤ 60) (hs : and255 f = (s : Int)) : iterC 0 bodyRs1 61 (rsU f x y 0 n nilA) (rsS p al bl) = some (.exit 2, rsE1 f x y n n n, rsS3 p al bl (rsC al s n)) := by
  have hA : At 0 bodyRs1 (n - 1 + 1 + 1) (rsU f x y 0 n nilA) (rsS p al bl) (some (.exit 2, rsE1 f x y n n n, rsS3 p al bl (rsC al s n))) :=
    At.step (sc_first f x y p al bl hn h1 h60 hs) (sc_loop f x y p al bl hn h60 hs (n - 1) 1 (Nat.le_refl _) (by omega))
  have hpl : Plain (rsS p al bl) := by
    unfold rsS
    simp only [Plain, List.all_append, List.all_cons, List.all_nil, plainO, flatP_plain] <;> rfl
  exact At.use (at_more hA (m := 61) (by omega)) hpl (by kernel_rfl)
end
end Go.Proofs.Ytmopbegmdegooaa
/- The law RingShifts: of too many points, and of none. -/
namespace Go.Proofs.Ytmopbegmdegooaa
open Go Vm M
set_option linter.unusedVariables false
set_option linter.unusedSimpArgs false
def rsN0 (f x y : Int) : List AVal := [slA []] ++ jk 3 ++ [iA f, .junk, .ptr 0 0 0] ++ jk 4 ++ [nilA, nilA, nilA, iA x, iA y, iA 0] ++ jk 14 ++ [bA false] ++ jk 103
def rsNU (f x y : Int) : List AVal := jk 4 ++ [iA f, .junk, .ptr 0 0 0] ++ jk 4 ++ [nilA, nilA, nilA, iA x, iA y, .junk, iA 0] ++ jk 117
def rsN1 (f x y : Int) : List AVal := jk 4 ++ [iA f, .junk, .ptr 0 0 0] ++ jk 4 ++ [nilA, nilA, nilA, iA x, iA y, .junk, iA 0] ++ jk 53 ++ [bA false] ++ jk 63
def rsNil (p : P2) (dx : Int) (dy : Int) (f : Int) : PVal :=
  PVal.v (Value.bool true)
theorem rsNil_calls (p : P2) (dx : Int) (dy : Int) (f : Int) (e0 : iterC 0 (evalC (cf R3) (evalF (cf R3) 61) ((lives.lookup 6).getD []) 0 0 61 (loopAt Try.f6 0)) 61 (rsT [] f (dx.tmod 10000) (dy.tmod 10000) 0 nilA nilA nilA) (rsS0 p) = some (.exit 0, rsN0 f (dx.tmod 10000) (dy.tmod 10000), rsS0 p)) (e1 : iterC 0 (evalC (cf R3) (evalF (cf R3) 61) ((lives.lookup 6).getD []) 0 0 61 (loopAt Try.f6 1)) 61 (rsNU f (dx.tmod 10000) (dy.tmod 10000)) (rsS0 p) = some (.exit 2, rsN1 f (dx.tmod 10000) (dy.tmod 10000), rsS0 p)) : CallsP Try.prog 6 [slP [], ptP p, iP dx, iP dy, iP f] (rsNil p dx dy f) := by
  have key := fun (bs : List Bool) (r : PVal) (ob : List Prop) (h : callP (cf R3) (evalF (cf R3) 61) 61 [] 6 [slP [], ptP p, iP dx, iP dy, iP f] bs [(AExit.exit 0, rsN0 f (Int.tmod dx 10000) (Int.tmod dy 10000), rsS0 p), (AExit.exit 2, rsN1 f (Int.tmod dx 10000) (Int.tmod dy 10000), rsS0 p)] (none) = .ok (r, ob)) (hp : allOb ob) => callP_ok (cf_ok R3) h hp
  unfold rsNil
  exact key [false, true, true, true, true] (PVal.v (Value.bool true)) _ (by kernel_rfl) (allOb_cons lit_t (allOb_cons lit_t (allOb_cons lit_t (allOb_cons lit_t (allOb_cons (by exact e1) (allOb_cons (by exact e0) (allOb_cons lit_f allOb_nil)))))))
theorem rsNil_all (p : P2) (dx dy f : Int) : CallsP Try.prog 6 [slP [], ptP p, iP dx, iP dy, iP f] (bP true) := rsNil_calls p dx dy f (by kernel_rfl) (by kernel_rfl)
theorem rsLong (ps : List P2) (p : P2) (dx dy f : Int) (h : ps.length > 60) : CallsP Try.prog 6 [slP ps, ptP p, iP dx, iP dy, iP f] (bP true) :=
  callP_ok (cf_ok R3) (k := 61) (hs := []) (f := 6) (ps := [slP ps, ptP p, iP dx, iP dy, iP f]) (bs := [true]) (ls := []) (out := none) (r := bP true) (ob := [decide ((ps.length : Int) > 60) = true]) (by kernel_rfl) (allOb_cons (decide_eq_true (by omega)) allOb_nil)
end Go.Proofs.Ytmopbegmdegooaa
/- The law RingShifts: what its code answers is true. -/
namespace Go.Proofs.Ytmopbegmdegooaa
open Go Vm M
set_option linter.unusedVariables false
set_option linter.unusedSimpArgs false
/-- Numbers far from what a number can hold. -/
def small (p : P2) : Prop := (-20000 ≤ p.1 ∧ p.1 ≤ 20000) ∧ (-20000 ≤ p.2 ∧ p.2 ≤ 20000)
theorem small.inG {p : P2} (h : small p) : inG p := by
  obtain ⟨⟨h1, h2⟩, h3, h4⟩ := h
  exact ⟨⟨by omega, by omega⟩, by omega, by omega⟩
theorem cross_bound {x : SegP} (h1 : small x.1) (h2 : small x.2) : -800000000 ≤ cross x ∧ cross x ≤ 800000000 := by
  obtain ⟨⟨a1, a2⟩, a3, a4⟩ := h1
  obtain ⟨⟨b1, b2⟩, b3, b4⟩ := h2
  have m1 := mul_bound (A := 20000) (B := 20000) a1 a2 b3 b4
  have m2 := mul_bound (A := 20000) (B := 20000) a3 a4 b1 b2
  unfold cross
  omega
theorem segStep_eq {s : Int} {x : SegP} (h1 : small x.1) (h2 : small x.2) (hs : -1000000000000 ≤ s ∧ s ≤ 1000000000000) : segStep s x = s + cross x := by
  have hc := cross_bound h1 h2
  have g1 := h1.inG
  have g2 := h2.inG
  obtain ⟨⟨a1, a2⟩, a3, a4⟩ := h1
  obtain ⟨⟨b1, b2⟩, b3, b4⟩ := h2
  have m1 := mul_bound (A := 20000) (B := 20000) a1 a2 b3 b4
  have m2 := mul_bound (A := 20000) (B := 20000) a3 a4 b1 b2
  unfold segStep
  unfold cross at hc ⊢
  rw [nearP_id g1, nearP_id g2]
  rw [IntWalk.i64_in (x.1.1 * x.2.2) (by omega), IntWalk.i64_in (x.1.2 * x.2.1) (by omega), IntWalk.i64_in (x.1.1 * x.2.2 - x.1.2 * x.2.1) (by omega), IntWalk.i64_in _ (by omega)]
theorem segFold_eq : ∀ (xs : List SegP) (s B : Int), (∀ x ∈ xs, small x.1 ∧ small x.2) → -B ≤ s → s ≤ B → B + 800000000 * (xs.length : Int) ≤ 900000000000 → xs.foldl segStep s = s + sumC xs := by
  intro xs
  induction xs with
  | nil => intro s B _ _ _ _; simp [sumC]
  | cons x xs ih =>
    intro s B h h1 h2 hk
    have hx := h x (by simp)
    have hc := cross_bound hx.1 hx.2
    have hl : ((x :: xs).length : Int) = (xs.length : Int) + 1 := by simp
    rw [hl] at hk
    have e := segStep_eq hx.1 hx.2 (s := s) ⟨by omega, by omega⟩
    have := ih (s + cross x) (B + 800000000) (fun y hy => h y (by simp [hy])) (by omega) (by omega) (by omega)
    rw [List.foldl_cons, e, this, sumC_cons]
    omega
theorem ringS_length (ps : List P2) : (ringS ps).length = ps.length := by rw [← segs_eq, upto_length]
theorem areaP_eq {ps : List P2} (h : ∀ q ∈ ps, small q) (hl : ps.length ≤ 1000) : areaP ps = sumC (ringS ps) := by
  unfold areaP
  split
  · rename_i h3
    rw [ringS_short h3]
  · rw [segs_eq]
    unfold segSum
    rw [segFold_eq (ringS ps) 0 0 (fun x hx => ⟨h _ (ringS_mem hx).1, h _ (ringS_mem hx).2⟩) (by omega) (by omega) (by rw [ringS_length]; omega)]
    omega
theorem insideP_eq (ps : List P2) (p : P2) : insideP ps p = insideS (ringS ps) p := by
  unfold insideP
  rw [segs_eq]
theorem rsC_eq (al : List P2) (s : Nat) (h : 0 < al.length) : rsC al s al.length = al.drop (s % al.length) ++ al.take (s % al.length) := by
  have hm := Nat.mod_lt s h
  apply List.ext_getElem?
  intro i
  by_cases hi : i < al.length
  · have h1 : (rsC al s al.length)[i]? = some (al[(i + s) % al.length]?.getD (0, 0)) := by
      unfold rsC
      rw [List.getElem?_map, List.getElem?_range hi]
      rfl
    have e : (i + s) % al.length = (i + s % al.length) % al.length := by rw [Nat.add_mod, Nat.mod_eq_of_lt hi]
    rw [h1, e]
    generalize s % al.length = m at *
    by_cases h2 : i + m < al.length
    · rw [Nat.mod_eq_of_lt h2, List.getElem?_append_left (by simp; omega), List.getElem?_drop, Nat.add_comm m i, List.getElem?_eq_getElem h2]
      rfl
    · have e2 : (i + m) % al.length = i + m - al.length := by
        rw [Nat.mod_eq_sub_mod (by omega), Nat.mod_eq_of_lt (by omega)]
      rw [e2, List.getElem?_append_right (by simp; omega), List.length_drop, List.getElem?_take, if_pos (by omega)]
      rw [show i - (al.length - m) = i + m - al.length by omega, List.getElem?_eq_getElem (by omega)]
      rfl
  · rw [List.getElem?_eq_none (by rw [rsC_length]; omega), List.getElem?_eq_none (by simp; omega)]
theorem tmod_bound (a : Int) (n : Nat) (h : 0 < n) : -(n : Int) < a.tmod n ∧ a.tmod n < n := by
  have h1 := Int.tmod_lt_of_pos a (b := (n : Int)) (by omega)
  have h2 := Int.tmod_lt_of_pos (-a) (b := (n : Int)) (by omega)
  rw [Int.neg_tmod] at h2
  omega
theorem ringShifts_calls (ps : List P2) (p : P2) (dx dy f : Int) : CallsP Try.prog 6 [slP ps, ptP p, iP dx, iP dy, iP f] (bP true) := by
  by_cases h60 : ps.length > 60
  · exact rsLong ps p dx dy f h60
  · by_cases h1 : 1 ≤ ps.length
    · obtain ⟨s, hs⟩ : ∃ s : Nat, and255 f = (s : Int) := ⟨(and255 f).toNat, by have := and255_bound f; omega⟩
      have bx : -10000 < dx.tmod 10000 ∧ dx.tmod 10000 < 10000 := tmod_bound dx 10000 (by omega)
      have bb : -10000 < dy.tmod 10000 ∧ dy.tmod 10000 < 10000 := tmod_bound dy 10000 (by omega)
      have hl0 := sh_loop0 ps f (dx.tmod 10000) (dy.tmod 10000) p (by omega) h1
      generalize hal : rsA ps ps.length = al at hl0
      have hla : al.length = ps.length := by rw [← hal]; exact rsA_length (Nat.le_refl _)
      have hbl : rsB (dx.tmod 10000) (dy.tmod 10000) ps ps.length = al.map (rsMv (dx.tmod 10000) (dy.tmod 10000)) := by unfold rsB; rw [hal]
      rw [hbl] at hl0
      have hl1 := sc_loop1 f (dx.tmod 10000) (dy.tmod 10000) p al (al.map (rsMv (dx.tmod 10000) (dy.tmod 10000))) hla h1 (by omega) hs
      have hlb : (al.map (rsMv (dx.tmod 10000) (dy.tmod 10000))).length = ps.length := by simp [hla]
      have hlc : (rsC al s ps.length).length = ps.length := rsC_length _ _ _
      have hsm : ∀ q ∈ al, (-100 < q.1 ∧ q.1 < 100) ∧ (-100 < q.2 ∧ q.2 < 100) := by
        intro q hq
        rw [← hal] at hq
        unfold rsA at hq
        rw [List.mem_map] at hq
        obtain ⟨r, _, rfl⟩ := hq
        exact ⟨tmod_bound r.1 100 (by omega), tmod_bound r.2 100 (by omega)⟩
      have hmv : ∀ q : P2, ((-100 < q.1 ∧ q.1 < 100) ∧ (-100 < q.2 ∧ q.2 < 100)) → rsMv (dx.tmod 10000) (dy.tmod 10000) q = (q.1 + dx.tmod 10000, q.2 + dy.tmod 10000) := by
        intro q hq
        unfold rsMv
        rw [IntWalk.i64_in _ (by omega), IntWalk.i64_in _ (by omega)]
      have hmap : al.map (rsMv (dx.tmod 10000) (dy.tmod 10000)) = al.map fun q => (q.1 + dx.tmod 10000, q.2 + dy.tmod 10000) := List.map_congr_left fun q hq => hmv q (hsm q hq)
      have hp1 : (-100 < (rsP1 p).1 ∧ (rsP1 p).1 < 100) ∧ (-100 < (rsP1 p).2 ∧ (rsP1 p).2 < 100) := ⟨tmod_bound p.1 100 (by omega), tmod_bound p.2 100 (by omega)⟩
      have hq1 : rsQ1 p (dx.tmod 10000) (dy.tmod 10000) = ((rsP1 p).1 + dx.tmod 10000, (rsP1 p).2 + dy.tmod 10000) := hmv (rsP1 p) hp1
      have hrot : rsC al s ps.length = al.drop (s % al.length) ++ al.take (s % al.length) := by rw [← hla]; exact rsC_eq al s (by omega)
      have sA : ∀ q ∈ al, small q := fun q hq => by
        have := hsm q hq
        exact ⟨⟨by omega, by omega⟩, by omega, by omega⟩
      have k2 : insideP (al.map (rsMv (dx.tmod 10000) (dy.tmod 10000))) (rsQ1 p (dx.tmod 10000) (dy.tmod 10000)) = insideP al (rsP1 p) := by
        rw [insideP_eq, insideP_eq, hmap, hq1]
        refine inside_move (fun q hq => ?_) ⟨⟨⟨by omega, by omega⟩, by omega, by omega⟩, ⟨by simp only; omega, by simp only; omega⟩, by simp only; omega, by simp only; omega⟩
        have := hsm q hq
        exact ⟨⟨⟨by omega, by omega⟩, by omega, by omega⟩, ⟨by simp only; omega, by simp only; omega⟩, by simp only; omega, by simp only; omega⟩
      have k3 : insideP (rsC al s ps.length) (rsP1 p) = insideP al (rsP1 p) := by
        rw [insideP_eq, insideP_eq, hrot, inside_rot, List.take_append_drop]
      have k4 : areaP (al.map (rsMv (dx.tmod 10000) (dy.tmod 10000))) = areaP al := by
        rw [areaP_eq sA (by omega), areaP_eq (fun q hq => ?_) (by omega), hmap, sumC_move]
        rw [hmap, List.mem_map] at hq
        obtain ⟨r, hr, rfl⟩ := hq
        have := hsm r hr
        exact ⟨⟨by simp only; omega, by simp only; omega⟩, by simp only; omega, by simp only; omega⟩
      have k6 : areaP (rsC al s ps.length) = areaP al := by
        rw [areaP_eq sA (by omega), areaP_eq (fun q hq => ?_) (by omega), hrot, sumC_perm (ringS_rot _ _), List.take_append_drop]
        rw [hrot, List.mem_append] at hq
        exact sA q (hq.elim List.mem_of_mem_drop List.mem_of_mem_take)
      generalize hbq : al.map (rsMv (dx.tmod 10000) (dy.tmod 10000)) = bl at hl0 hl1 hlb k2 k4
      generalize hcq : rsC al s ps.length = cl at hl1 hlc k3 k6
      have b62 : ∀ l : List P2, l.length = ps.length → l.length < 4611686018427387904 := fun l h => by omega
      have cI : ∀ (l : List P2) (q : P2) (S S' : List AObj) (o : Nat) (fz : Option Nat), l.length = ps.length → S[o]? = some (.row 2 0 fz (flatP l)) → S.set o (.row 2 0 (some (flatP l).length) (flatP l)) = S' → callA (cf R3) (evalF (cf R3) 61) 0 22 [.row o 0 2 0 ps.length, ptA q] S = some (iA (insideP l q), S') := by
        intro l q S S' o fz hl hS hS'
        have := callA_rowPt (c := cf R3) (ev := evalF (cf R3) 61) (F := 22) (p := q) (r := iP (insideP l q)) (g := gSPb fun ps p => iP (insideP ps p)) rfl rfl rfl hS (gSPb_slP _ q (b62 l hl))
        rw [hl, hS'] at this
        exact this
      have cA : ∀ (l : List P2) (S S' : List AObj) (o : Nat) (fz : Option Nat), l.length = ps.length → S[o]? = some (.row 2 0 fz (flatP l)) → S.set o (.row 2 0 (some (flatP l).length) (flatP l)) = S' → callA (cf R3) (evalF (cf R3) 61) 0 23 [.row o 0 2 0 ps.length] S = some (iA (areaP l), S') := by
        intro l S S' o fz hl hS hS'
        have := callA_row (c := cf R3) (ev := evalF (cf R3) 61) (F := 23) (r := iP (areaP l)) (g := gSb fun ps => iP (areaP ps)) rfl rfl rfl hS (gSb_slP _ (b62 l hl))
        rw [hl, hS'] at this
        exact this
      have h := rsAll_calls ps al bl cl dx dy f ps.length ps.length (insideP al (rsP1 p)) (insideP bl (rsQ1 p (dx.tmod 10000) (dy.tmod 10000))) (insideP cl (rsP1 p)) (areaP bl) (areaP al) (areaP cl) (areaP al) ps.length ps.length p hl0 hl1
        (cI al _ _ _ 16 none hla rfl rfl) (cI bl _ _ _ 35 none hlb rfl rfl) (cI cl _ _ _ 2 none hlc rfl rfl) (cA bl _ _ 35 _ hlb rfl rfl) (cA al _ _ 16 _ hla rfl rfl) (cA cl _ _ 2 _ hlc rfl rfl) (cA al _ _ 16 _ hla rfl rfl)
      have e : rsAll ps al bl cl dx dy f ps.length ps.length (insideP al (rsP1 p)) (insideP bl (rsQ1 p (dx.tmod 10000) (dy.tmod 10000))) (insideP cl (rsP1 p)) (areaP bl) (areaP al) (areaP cl) (areaP al) ps.length ps.length p = bP true := by
        unfold rsAll
        rw [k2, k3, k4, k6]
        simp [bP]
      rw [e] at h
      exact h
    · obtain rfl : ps = [] := List.eq_nil_of_length_eq_zero (by omega)
      exact rsNil_all p dx dy f
end Go.Proofs.Ytmopbegmdegooaa
/- The law RingParts: its loop's rounds, and what stands behind it. -/
namespace Go.Proofs.Ytmopbegmdegooaa
open Go Vm M
set_option linter.unusedVariables false
set_option linter.unusedSimpArgs false
def rpT (ps : List P2) (a b i : Int) (x : AVal) : List AVal := [slA ps, iA a, iA b] ++ jk 4 ++ [x, iA i] ++ jk 76
def rpS (al : List P2) : List AObj := List.replicate 15 .free ++ [.row 2 0 none (flatP al)]
def rpFirst (ps : List P2) (a : Int) (b : Int) (i : Int) (q : P2) : AExit × List AVal × List AObj :=
  (bif decide (i < (↑(List.length ps) : Int)) then (AExit.normal, (([AVal.list (List.length ps) (flatPP ps), AVal.v (Value.int IntKind.i64 a), AVal.v (Value.int IntKind.i64 b)] ++ jk 4 ++ [AVal.row 15 0 2 0 1, AVal.v (Value.int IntKind.i64 (IntKind.wrap IntKind.i64 (i + 1)))] ++ jk 76), (List.replicate 15 AObj.free ++ [AObj.row 2 0 none [AVal.v (Value.int IntKind.i64 (Int.tmod (Prod.fst q) 100)), AVal.v (Value.int IntKind.i64 (Int.tmod (Prod.snd q) 100))]]))) else (AExit.exit 0, (([AVal.list (List.length ps) (flatPP ps), AVal.v (Value.int IntKind.i64 a), AVal.v (Value.int IntKind.i64 b)] ++ jk 4 ++ [AVal.v (Value.slice none 0 0), AVal.v (Value.int IntKind.i64 i)] ++ jk 14 ++ [AVal.v (Value.bool false)] ++ jk 61), [])))
theorem rpFirst_eq (ps : List P2) (a : Int) (b : Int) (i : Int) (q : P2) (e0 : 0 ≤ i ∧ i < (ps.length : Int) ∧ 0 < 2 ∧ (flatPP ps).length = ps.length * 2) (e1 : partA Try.prog 2 (upL (((flatPP ps).drop (i.toNat * 2)).drop 0)) 0 = some (iA q.1)) (e2 : 0 ≤ i ∧ i < (ps.length : Int) ∧ 0 < 2 ∧ (flatPP ps).length = ps.length * 2) (e3 : partA Try.prog 2 (upL (((flatPP ps).drop (i.toNat * 2)).drop 1)) 0 = some (iA q.2)) : roundC 0 (evalC (cf R3) (evalF (cf R3) 61) (Option.getD (List.lookup 7 lives) []) 0 0 61 (loopAt Try.f7 0)) (rpT ps a b i nilA) ([]) = some (rpFirst ps a b i q) := by
  have key := fun (bs : List Bool) (r : AExit × List AVal × List AObj) (ob : List Prop) (h : roundP (cf R3) (evalF (cf R3) 61) (Option.getD (List.lookup 7 lives) []) 0 0 61 [(7, 3, Hint.idx), (7, 5, Hint.load (iA (Prod.fst q))), (7, 9, Hint.idx), (7, 11, Hint.load (iA (Prod.snd q)))] (loopAt Try.f7 0) (rpT ps a b i nilA) ([]) bs [] = .ok (r.1, r.2.1, r.2.2, ob)) (hp : allOb ob) => roundP_ok h hp
  unfold rpFirst
  exact bif_case (P := fun r => roundC 0 (evalC (cf R3) (evalF (cf R3) 61) (Option.getD (List.lookup 7 lives) []) 0 0 61 (loopAt Try.f7 0)) (rpT ps a b i nilA) ([]) = some r)
    (fun h0 => key [true] ((AExit.normal, (([AVal.list (List.length ps) (flatPP ps), AVal.v (Value.int IntKind.i64 a), AVal.v (Value.int IntKind.i64 b)] ++ jk 4 ++ [AVal.row 15 0 2 0 1, AVal.v (Value.int IntKind.i64 (IntKind.wrap IntKind.i64 (i + 1)))] ++ jk 76), (List.replicate 15 AObj.free ++ [AObj.row 2 0 none [AVal.v (Value.int IntKind.i64 (Int.tmod (Prod.fst q) 100)), AVal.v (Value.int IntKind.i64 (Int.tmod (Prod.snd q) 100))]])))) _ (by kernel_rfl) (allOb_cons (show Plain (List.replicate 14 AObj.free ++ [AObj.row 2 0 none [AVal.v (Value.int IntKind.i64 (Int.tmod (Prod.fst q) 100)), AVal.v (Value.int IntKind.i64 (Int.tmod (Prod.snd q) 100))], AObj.row 2 0 none [AVal.v (Value.int IntKind.i64 (Int.tmod (Prod.fst q) 100)), AVal.v (Value.int IntKind.i64 (Int.tmod (Prod.snd q) 100))], AObj.free]) from by simp only [Plain, List.all_append, List.all_cons, List.all_nil, plainO, flatP_plain, Nat.zero_mul, List.drop_zero] <;> rfl) (allOb_cons (by exact e3) (allOb_cons (by exact e2) (allOb_cons (by exact e1) (allOb_cons (by exact e0) (allOb_cons h0 allOb_nil)))))))
    (fun h0 => key [false] ((AExit.exit 0, (([AVal.list (List.length ps) (flatPP ps), AVal.v (Value.int IntKind.i64 a), AVal.v (Value.int IntKind.i64 b)] ++ jk 4 ++ [AVal.v (Value.slice none 0 0), AVal.v (Value.int IntKind.i64 i)] ++ jk 14 ++ [AVal.v (Value.bool false)] ++ jk 61), []))) _ (by kernel_rfl) (allOb_cons (show Plain [] from by simp only [Plain, List.all_append, List.all_cons, List.all_nil, plainO, flatP_plain, Nat.zero_mul, List.drop_zero] <;> rfl) (allOb_cons h0 allOb_nil)))
def rpNext (ps : List P2) (al : List P2) (a : Int) (b : Int) (i : Int) (n : Nat) (q : P2) : AExit × List AVal × List AObj :=
  (bif decide (i < (↑(List.length ps) : Int)) then (AExit.normal, (([AVal.list (List.length ps) (flatPP ps), AVal.v (Value.int IntKind.i64 a), AVal.v (Value.int IntKind.i64 b)] ++ jk 4 ++ [AVal.row 15 0 2 0 (n + (0 + 1)), AVal.v (Value.int IntKind.i64 (IntKind.wrap IntKind.i64 (i + 1)))] ++ jk 76), (List.replicate 15 AObj.free ++ [AObj.row 2 0 none (List.drop (0 * 2) (flatP al) ++ [iA (Int.tmod (Prod.fst q) 100), iA (Int.tmod (Prod.snd q) 100)])]))) else (AExit.exit 0, (([AVal.list (List.length ps) (flatPP ps), AVal.v (Value.int IntKind.i64 a), AVal.v (Value.int IntKind.i64 b)] ++ jk 4 ++ [AVal.row 15 0 2 0 n, AVal.v (Value.int IntKind.i64 i)] ++ jk 14 ++ [AVal.v (Value.bool false)] ++ jk 61), (List.replicate 15 AObj.free ++ [AObj.row 2 0 none (flatP al)]))))
theorem rpNext_eq (ps : List P2) (al : List P2) (a : Int) (b : Int) (i : Int) (n : Nat) (q : P2) (e0 : 0 ≤ i ∧ i < (ps.length : Int) ∧ 0 < 2 ∧ (flatPP ps).length = ps.length * 2) (e1 : partA Try.prog 2 (upL (((flatPP ps).drop (i.toNat * 2)).drop 0)) 0 = some (iA q.1)) (e2 : 0 ≤ i ∧ i < (ps.length : Int) ∧ 0 < 2 ∧ (flatPP ps).length = ps.length * 2) (e3 : partA Try.prog 2 (upL (((flatPP ps).drop (i.toNat * 2)).drop 1)) 0 = some (iA q.2)) (e4 : (0 + n) * 2 = (flatP al).length ∧ (n + (0 + 1)) * 16 ≤ 140737488355328 ∧ n + (0 + 1) ≤ 9223372036854775807) : roundC 0 (evalC (cf R3) (evalF (cf R3) 61) (Option.getD (List.lookup 7 lives) []) 0 0 61 (loopAt Try.f7 0)) (rpT ps a b i (AVal.row 15 0 2 0 n)) (rpS al) = some (rpNext ps al a b i n q) := by
  have key := fun (bs : List Bool) (r : AExit × List AVal × List AObj) (ob : List Prop) (h : roundP (cf R3) (evalF (cf R3) 61) (Option.getD (List.lookup 7 lives) []) 0 0 61 [(7, 3, Hint.idx), (7, 5, Hint.load (iA (Prod.fst q))), (7, 9, Hint.idx), (7, 11, Hint.load (iA (Prod.snd q))), (7, 15, Hint.app)] (loopAt Try.f7 0) (rpT ps a b i (AVal.row 15 0 2 0 n)) (rpS al) bs [] = .ok (r.1, r.2.1, r.2.2, ob)) (hp : allOb ob) => roundP_ok h hp
  unfold rpNext
  exact bif_case (P := fun r => roundC 0 (evalC (cf R3) (evalF (cf R3) 61) (Option.getD (List.lookup 7 lives) []) 0 0 61 (loopAt Try.f7 0)) (rpT ps a b i (AVal.row 15 0 2 0 n)) (rpS al) = some r)
    (fun h0 => key [true] ((AExit.normal, (([AVal.list (List.length ps) (flatPP ps), AVal.v (Value.int IntKind.i64 a), AVal.v (Value.int IntKind.i64 b)] ++ jk 4 ++ [AVal.row 15 0 2 0 (n + (0 + 1)), AVal.v (Value.int IntKind.i64 (IntKind.wrap IntKind.i64 (i + 1)))] ++ jk 76), (List.replicate 15 AObj.free ++ [AObj.row 2 0 none (List.drop (0 * 2) (flatP al) ++ [iA (Int.tmod (Prod.fst q) 100), iA (Int.tmod (Prod.snd q) 100)])])))) _ (by kernel_rfl) (allOb_cons (show Plain (List.replicate 15 AObj.free ++ [AObj.row 2 1 none (List.drop (0 * 2) (flatP al) ++ [iA (Int.tmod (Prod.fst q) 100), iA (Int.tmod (Prod.snd q) 100)])] ++ List.replicate 14 AObj.free ++ [AObj.row 2 0 none [AVal.v (Value.int IntKind.i64 (Int.tmod (Prod.fst q) 100)), AVal.v (Value.int IntKind.i64 (Int.tmod (Prod.snd q) 100))], AObj.free, AObj.free]) from by simp only [Plain, List.all_append, List.all_cons, List.all_nil, plainO, flatP_plain, Nat.zero_mul, List.drop_zero] <;> rfl) (allOb_cons (by exact e4) (allOb_cons (by exact e3) (allOb_cons (by exact e2) (allOb_cons (by exact e1) (allOb_cons (by exact e0) (allOb_cons h0 allOb_nil))))))))
    (fun h0 => key [false] ((AExit.exit 0, (([AVal.list (List.length ps) (flatPP ps), AVal.v (Value.int IntKind.i64 a), AVal.v (Value.int IntKind.i64 b)] ++ jk 4 ++ [AVal.row 15 0 2 0 n, AVal.v (Value.int IntKind.i64 i)] ++ jk 14 ++ [AVal.v (Value.bool false)] ++ jk 61), (List.replicate 15 AObj.free ++ [AObj.row 2 0 none (flatP al)])))) _ (by kernel_rfl) (allOb_cons (show Plain (List.replicate 15 AObj.free ++ [AObj.row 2 0 none (flatP al)]) from by simp only [Plain, List.all_append, List.all_cons, List.all_nil, plainO, flatP_plain, Nat.zero_mul, List.drop_zero] <;> rfl) (allOb_cons h0 allOb_nil)))
end Go.Proofs.Ytmopbegmdegooaa
/- The law RingParts: what its code answers behind its loop. -/
namespace Go.Proofs.Ytmopbegmdegooaa
open Go Vm M
set_option linter.unusedVariables false
set_option linter.unusedSimpArgs false
def rpE (ps : List P2) (a b i : Int) (n : Nat) : List AVal := [slA ps, iA a, iA b] ++ jk 4 ++ [.row 15 0 2 0 n, iA i] ++ jk 14 ++ [bA false] ++ jk 61
def rpQ (al : List P2) (x1 x3 : List AVal) (f0 f15 f28 : Option Nat) : List AObj := [.row 2 1 f0 x1] ++ List.replicate 14 .free ++ [.row 2 0 f15 (flatP al)] ++ List.replicate 12 .free ++ [.row 2 2 f28 x3] ++ List.replicate 10 .free
def rpAllE (ps : List P2) (al : List P2) (av : Int) (bv : Int) (A : Int) (B : Int) (i0 : Int) (k1 : Int) (k2 : Int) (k3 : Int) (n : Nat) : PVal :=
  (bif IntKind.wrap IntKind.i64 (k1 + k2) == k3 then PVal.v (Value.bool true) else PVal.v (Value.bool false))
theorem rpAllE_calls (ps : List P2) (al : List P2) (av : Int) (bv : Int) (A : Int) (B : Int) (i0 : Int) (k1 : Int) (k2 : Int) (k3 : Int) (n : Nat) (p2 : decide (A > B) = false) (p1 : decide ((↑(List.length ps) : Int) > 60) = false) (p0 : decide ((↑(List.length ps) : Int) < 3) = false) (e0 : iterC 0 (evalC (cf R3) (evalF (cf R3) 61) ((lives.lookup 7).getD []) 0 0 61 (loopAt Try.f7 0)) 61 (rpT ps av bv 0 nilA) [] = some (.exit 0, rpE ps av bv i0 n, rpS al)) (e1 : binA Try.prog BinOp.rem 3 (Operand.tmp 43) (Operand.tmp 45) (iA (and255 av)) (iA (n : Int)) = some (iA A)) (e2 : binA Try.prog BinOp.rem 3 (Operand.tmp 48) (Operand.tmp 50) (iA (and255 bv)) (iA (n : Int)) = some (iA B)) (e3 : boundsA n (some (iA A)) (some (iA (IntKind.i64.wrap (B + 1)))) none = some ((A).toNat, (IntKind.i64.wrap (B + 1)).toNat, none)) (e4 : (0 + 0) * 2 = ([] : List AVal).length ∧ (0 + ((IntKind.i64.wrap (B + 1)).toNat - (A).toNat)) * 16 ≤ 140737488355328 ∧ 0 + ((IntKind.i64.wrap (B + 1)).toNat - (A).toNat) ≤ 9223372036854775807) (e5 : Ones (cutA (flatP al) 2 (0 + (A).toNat) (0 + (A).toNat + ((IntKind.i64.wrap (B + 1)).toNat - (A).toNat)))) (e6 : 0 < ((IntKind.i64.wrap (B + 1)).toNat - (A).toNat)) (e7 : (0 + (A).toNat + ((IntKind.i64.wrap (B + 1)).toNat - (A).toNat)) * 2 ≤ (flatP al).length) (e8 : boundsA n (some (iA B)) none none = some ((B).toNat, n, none)) (e9 : (0 + 0) * 2 = ([] : List AVal).length ∧ (0 + (n - (B).toNat)) * 16 ≤ 140737488355328 ∧ 0 + (n - (B).toNat) ≤ 9223372036854775807) (e10 : Ones (cutA (flatP al) 2 (0 + (B).toNat) (0 + (B).toNat + (n - (B).toNat)))) (e11 : 0 < (n - (B).toNat)) (e12 : (0 + (B).toNat + (n - (B).toNat)) * 2 ≤ (flatP al).length) (e13 : boundsA n none (some (iA (IntKind.i64.wrap (A + 1)))) none = some (0, (IntKind.i64.wrap (A + 1)).toNat, none)) (e14 : (0 + (0 + (n - (B).toNat))) * 2 = ((List.drop (0 * 2) ([] : List AVal) ++ cutA (flatP al) 2 (0 + (B).toNat) (0 + (B).toNat + (n - (B).toNat)))).length ∧ ((0 + (n - (B).toNat)) + ((IntKind.i64.wrap (A + 1)).toNat - 0)) * 16 ≤ 140737488355328 ∧ (0 + (n - (B).toNat)) + ((IntKind.i64.wrap (A + 1)).toNat - 0) ≤ 9223372036854775807) (e15 : Ones (cutA (flatP al) 2 (0 + 0) (0 + 0 + ((IntKind.i64.wrap (A + 1)).toNat - 0)))) (e16 : 0 < ((IntKind.i64.wrap (A + 1)).toNat - 0)) (e17 : (0 + 0 + ((IntKind.i64.wrap (A + 1)).toNat - 0)) * 2 ≤ (flatP al).length) (e18 : callA (cf R3) (evalF (cf R3) 61) 0 23 [.row 0 1 2 0 (0 + ((IntKind.i64.wrap (B + 1)).toNat - (A).toNat))] (rpQ al (List.drop (0 * 2) ([] : List AVal) ++ cutA (flatP al) 2 (0 + (A).toNat) (0 + (A).toNat + ((IntKind.i64.wrap (B + 1)).toNat - (A).toNat))) (List.drop (0 * 2) (List.drop (0 * 2) ([] : List AVal) ++ cutA (flatP al) 2 (0 + (B).toNat) (0 + (B).toNat + (n - (B).toNat))) ++ cutA (flatP al) 2 (0 + 0) (0 + 0 + ((IntKind.i64.wrap (A + 1)).toNat - 0))) none none none) = some (iA k1, (rpQ al (List.drop (0 * 2) ([] : List AVal) ++ cutA (flatP al) 2 (0 + (A).toNat) (0 + (A).toNat + ((IntKind.i64.wrap (B + 1)).toNat - (A).toNat))) (List.drop (0 * 2) (List.drop (0 * 2) ([] : List AVal) ++ cutA (flatP al) 2 (0 + (B).toNat) (0 + (B).toNat + (n - (B).toNat))) ++ cutA (flatP al) 2 (0 + 0) (0 + 0 + ((IntKind.i64.wrap (A + 1)).toNat - 0))) (some (List.drop (0 * 2) ([] : List AVal) ++ cutA (flatP al) 2 (0 + (A).toNat) (0 + (A).toNat + ((IntKind.i64.wrap (B + 1)).toNat - (A).toNat))).length) none none))) (e19 : callA (cf R3) (evalF (cf R3) 61) 0 23 [.row 28 2 2 0 (0 + (n - (B).toNat) + ((IntKind.i64.wrap (A + 1)).toNat - 0))] (rpQ al (List.drop (0 * 2) ([] : List AVal) ++ cutA (flatP al) 2 (0 + (A).toNat) (0 + (A).toNat + ((IntKind.i64.wrap (B + 1)).toNat - (A).toNat))) (List.drop (0 * 2) (List.drop (0 * 2) ([] : List AVal) ++ cutA (flatP al) 2 (0 + (B).toNat) (0 + (B).toNat + (n - (B).toNat))) ++ cutA (flatP al) 2 (0 + 0) (0 + 0 + ((IntKind.i64.wrap (A + 1)).toNat - 0))) (some (List.drop (0 * 2) ([] : List AVal) ++ cutA (flatP al) 2 (0 + (A).toNat) (0 + (A).toNat + ((IntKind.i64.wrap (B + 1)).toNat - (A).toNat))).length) none none) = some (iA k2, (rpQ al (List.drop (0 * 2) ([] : List AVal) ++ cutA (flatP al) 2 (0 + (A).toNat) (0 + (A).toNat + ((IntKind.i64.wrap (B + 1)).toNat - (A).toNat))) (List.drop (0 * 2) (List.drop (0 * 2) ([] : List AVal) ++ cutA (flatP al) 2 (0 + (B).toNat) (0 + (B).toNat + (n - (B).toNat))) ++ cutA (flatP al) 2 (0 + 0) (0 + 0 + ((IntKind.i64.wrap (A + 1)).toNat - 0))) (some (List.drop (0 * 2) ([] : List AVal) ++ cutA (flatP al) 2 (0 + (A).toNat) (0 + (A).toNat + ((IntKind.i64.wrap (B + 1)).toNat - (A).toNat))).length) none (some (List.drop (0 * 2) (List.drop (0 * 2) ([] : List AVal) ++ cutA (flatP al) 2 (0 + (B).toNat) (0 + (B).toNat + (n - (B).toNat))) ++ cutA (flatP al) 2 (0 + 0) (0 + 0 + ((IntKind.i64.wrap (A + 1)).toNat - 0))).length)))) (e20 : callA (cf R3) (evalF (cf R3) 61) 0 23 [.row 15 0 2 0 n] (rpQ al (List.drop (0 * 2) ([] : List AVal) ++ cutA (flatP al) 2 (0 + (A).toNat) (0 + (A).toNat + ((IntKind.i64.wrap (B + 1)).toNat - (A).toNat))) (List.drop (0 * 2) (List.drop (0 * 2) ([] : List AVal) ++ cutA (flatP al) 2 (0 + (B).toNat) (0 + (B).toNat + (n - (B).toNat))) ++ cutA (flatP al) 2 (0 + 0) (0 + 0 + ((IntKind.i64.wrap (A + 1)).toNat - 0))) (some (List.drop (0 * 2) ([] : List AVal) ++ cutA (flatP al) 2 (0 + (A).toNat) (0 + (A).toNat + ((IntKind.i64.wrap (B + 1)).toNat - (A).toNat))).length) none (some (List.drop (0 * 2) (List.drop (0 * 2) ([] : List AVal) ++ cutA (flatP al) 2 (0 + (B).toNat) (0 + (B).toNat + (n - (B).toNat))) ++ cutA (flatP al) 2 (0 + 0) (0 + 0 + ((IntKind.i64.wrap (A + 1)).toNat - 0))).length)) = some (iA k3, (rpQ al (List.drop (0 * 2) ([] : List AVal) ++ cutA (flatP al) 2 (0 + (A).toNat) (0 + (A).toNat + ((IntKind.i64.wrap (B + 1)).toNat - (A).toNat))) (List.drop (0 * 2) (List.drop (0 * 2) ([] : List AVal) ++ cutA (flatP al) 2 (0 + (B).toNat) (0 + (B).toNat + (n - (B).toNat))) ++ cutA (flatP al) 2 (0 + 0) (0 + 0 + ((IntKind.i64.wrap (A + 1)).toNat - 0))) (some (List.drop (0 * 2) ([] : List AVal) ++ cutA (flatP al) 2 (0 + (A).toNat) (0 + (A).toNat + ((IntKind.i64.wrap (B + 1)).toNat - (A).toNat))).length) (some (flatP al).length) (some (List.drop (0 * 2) (List.drop (0 * 2) ([] : List AVal) ++ cutA (flatP al) 2 (0 + (B).toNat) (0 + (B).toNat + (n - (B).toNat))) ++ cutA (flatP al) 2 (0 + 0) (0 + 0 + ((IntKind.i64.wrap (A + 1)).toNat - 0))).length)))) : CallsP Try.prog 7 [slP ps, iP av, iP bv] (rpAllE ps al av bv A B i0 k1 k2 k3 n) := by
  have key := fun (bs : List Bool) (r : PVal) (ob : List Prop) (h : callP (cf R3) (evalF (cf R3) 61) 61 [(8, 4, Hint.val (Value.int IntKind.i64 A)), (8, 9, Hint.val (Value.int IntKind.i64 B)), (11, 5, Hint.cut), (11, 6, Hint.appX), (12, 3, Hint.cut), (12, 4, Hint.appX), (12, 8, Hint.cut), (12, 9, Hint.appX), (13, 1, Hint.call (iA k1) (rpQ al (List.drop (0 * 2) [] ++ cutA (flatP al) 2 (0 + Int.toNat A) (0 + Int.toNat A + (Int.toNat (IntKind.wrap IntKind.i64 (B + 1)) - Int.toNat A))) (List.drop (0 * 2) (List.drop (0 * 2) [] ++ cutA (flatP al) 2 (0 + Int.toNat B) (0 + Int.toNat B + (n - Int.toNat B))) ++ cutA (flatP al) 2 (0 + 0) (0 + 0 + (Int.toNat (IntKind.wrap IntKind.i64 (A + 1)) - 0))) (some (List.length (List.drop (0 * 2) [] ++ cutA (flatP al) 2 (0 + Int.toNat A) (0 + Int.toNat A + (Int.toNat (IntKind.wrap IntKind.i64 (B + 1)) - Int.toNat A))))) none none)), (13, 3, Hint.call (iA k2) (rpQ al (List.drop (0 * 2) [] ++ cutA (flatP al) 2 (0 + Int.toNat A) (0 + Int.toNat A + (Int.toNat (IntKind.wrap IntKind.i64 (B + 1)) - Int.toNat A))) (List.drop (0 * 2) (List.drop (0 * 2) [] ++ cutA (flatP al) 2 (0 + Int.toNat B) (0 + Int.toNat B + (n - Int.toNat B))) ++ cutA (flatP al) 2 (0 + 0) (0 + 0 + (Int.toNat (IntKind.wrap IntKind.i64 (A + 1)) - 0))) (some (List.length (List.drop (0 * 2) [] ++ cutA (flatP al) 2 (0 + Int.toNat A) (0 + Int.toNat A + (Int.toNat (IntKind.wrap IntKind.i64 (B + 1)) - Int.toNat A))))) none (some (List.length (List.drop (0 * 2) (List.drop (0 * 2) [] ++ cutA (flatP al) 2 (0 + Int.toNat B) (0 + Int.toNat B + (n - Int.toNat B))) ++ cutA (flatP al) 2 (0 + 0) (0 + 0 + (Int.toNat (IntKind.wrap IntKind.i64 (A + 1)) - 0))))))), (13, 6, Hint.call (iA k3) (rpQ al (List.drop (0 * 2) [] ++ cutA (flatP al) 2 (0 + Int.toNat A) (0 + Int.toNat A + (Int.toNat (IntKind.wrap IntKind.i64 (B + 1)) - Int.toNat A))) (List.drop (0 * 2) (List.drop (0 * 2) [] ++ cutA (flatP al) 2 (0 + Int.toNat B) (0 + Int.toNat B + (n - Int.toNat B))) ++ cutA (flatP al) 2 (0 + 0) (0 + 0 + (Int.toNat (IntKind.wrap IntKind.i64 (A + 1)) - 0))) (some (List.length (List.drop (0 * 2) [] ++ cutA (flatP al) 2 (0 + Int.toNat A) (0 + Int.toNat A + (Int.toNat (IntKind.wrap IntKind.i64 (B + 1)) - Int.toNat A))))) (some (List.length (flatP al))) (some (List.length (List.drop (0 * 2) (List.drop (0 * 2) [] ++ cutA (flatP al) 2 (0 + Int.toNat B) (0 + Int.toNat B + (n - Int.toNat B))) ++ cutA (flatP al) 2 (0 + 0) (0 + 0 + (Int.toNat (IntKind.wrap IntKind.i64 (A + 1)) - 0)))))))] 7 [slP ps, iP av, iP bv] bs [(AExit.exit 0, rpE ps av bv i0 n, rpS al)] (none) = .ok (r, ob)) (hp : allOb ob) => callP_ok (cf_ok R3) h hp
  unfold rpAllE
  exact bif_case (P := fun r => CallsP Try.prog 7 [slP ps, iP av, iP bv] r)
    (fun h0 => key [false, false, false, true] (PVal.v (Value.bool true)) _ (by kernel_rfl) (allOb_cons h0 (allOb_cons (by exact e20) (allOb_cons (by exact e19) (allOb_cons (by exact e18) (allOb_cons (by exact e17) (allOb_cons (by exact e16) (allOb_cons (by exact e15) (allOb_cons (by exact e14) (allOb_cons (by exact e13) (allOb_cons (by exact e12) (allOb_cons (by exact e11) (allOb_cons (by exact e10) (allOb_cons (by exact e9) (allOb_cons (by exact e8) (allOb_cons (by exact e7) (allOb_cons (by exact e6) (allOb_cons (by exact e5) (allOb_cons (by exact e4) (allOb_cons (by exact e3) (allOb_cons p2 (allOb_cons (by exact e2) (allOb_cons (by exact e1) (allOb_cons (by exact e0) (allOb_cons p1 (allOb_cons p0 allOb_nil))))))))))))))))))))))))))
    (fun h0 => key [false, false, false, false] (PVal.v (Value.bool false)) _ (by kernel_rfl) (allOb_cons h0 (allOb_cons (by exact e20) (allOb_cons (by exact e19) (allOb_cons (by exact e18) (allOb_cons (by exact e17) (allOb_cons (by exact e16) (allOb_cons (by exact e15) (allOb_cons (by exact e14) (allOb_cons (by exact e13) (allOb_cons (by exact e12) (allOb_cons (by exact e11) (allOb_cons (by exact e10) (allOb_cons (by exact e9) (allOb_cons (by exact e8) (allOb_cons (by exact e7) (allOb_cons (by exact e6) (allOb_cons (by exact e5) (allOb_cons (by exact e4) (allOb_cons (by exact e3) (allOb_cons p2 (allOb_cons (by exact e2) (allOb_cons (by exact e1) (allOb_cons (by exact e0) (allOb_cons p1 (allOb_cons p0 allOb_nil))))))))))))))))))))))))))
def rpAllF (ps : List P2) (al : List P2) (av : Int) (bv : Int) (A : Int) (B : Int) (i0 : Int) (k1 : Int) (k2 : Int) (k3 : Int) (n : Nat) : PVal :=
  (bif IntKind.wrap IntKind.i64 (k1 + k2) == k3 then PVal.v (Value.bool true) else PVal.v (Value.bool false))
theorem rpAllF_calls (ps : List P2) (al : List P2) (av : Int) (bv : Int) (A : Int) (B : Int) (i0 : Int) (k1 : Int) (k2 : Int) (k3 : Int) (n : Nat) (p2 : decide (A > B) = true) (p1 : decide ((↑(List.length ps) : Int) > 60) = false) (p0 : decide ((↑(List.length ps) : Int) < 3) = false) (e0 : iterC 0 (evalC (cf R3) (evalF (cf R3) 61) ((lives.lookup 7).getD []) 0 0 61 (loopAt Try.f7 0)) 61 (rpT ps av bv 0 nilA) [] = some (.exit 0, rpE ps av bv i0 n, rpS al)) (e1 : binA Try.prog BinOp.rem 3 (Operand.tmp 43) (Operand.tmp 45) (iA (and255 av)) (iA (n : Int)) = some (iA A)) (e2 : binA Try.prog BinOp.rem 3 (Operand.tmp 48) (Operand.tmp 50) (iA (and255 bv)) (iA (n : Int)) = some (iA B)) (e3 : boundsA n (some (iA B)) (some (iA (IntKind.i64.wrap (A + 1)))) none = some ((B).toNat, (IntKind.i64.wrap (A + 1)).toNat, none)) (e4 : (0 + 0) * 2 = ([] : List AVal).length ∧ (0 + ((IntKind.i64.wrap (A + 1)).toNat - (B).toNat)) * 16 ≤ 140737488355328 ∧ 0 + ((IntKind.i64.wrap (A + 1)).toNat - (B).toNat) ≤ 9223372036854775807) (e5 : Ones (cutA (flatP al) 2 (0 + (B).toNat) (0 + (B).toNat + ((IntKind.i64.wrap (A + 1)).toNat - (B).toNat)))) (e6 : 0 < ((IntKind.i64.wrap (A + 1)).toNat - (B).toNat)) (e7 : (0 + (B).toNat + ((IntKind.i64.wrap (A + 1)).toNat - (B).toNat)) * 2 ≤ (flatP al).length) (e8 : boundsA n (some (iA A)) none none = some ((A).toNat, n, none)) (e9 : (0 + 0) * 2 = ([] : List AVal).length ∧ (0 + (n - (A).toNat)) * 16 ≤ 140737488355328 ∧ 0 + (n - (A).toNat) ≤ 9223372036854775807) (e10 : Ones (cutA (flatP al) 2 (0 + (A).toNat) (0 + (A).toNat + (n - (A).toNat)))) (e11 : 0 < (n - (A).toNat)) (e12 : (0 + (A).toNat + (n - (A).toNat)) * 2 ≤ (flatP al).length) (e13 : boundsA n none (some (iA (IntKind.i64.wrap (B + 1)))) none = some (0, (IntKind.i64.wrap (B + 1)).toNat, none)) (e14 : (0 + (0 + (n - (A).toNat))) * 2 = ((List.drop (0 * 2) ([] : List AVal) ++ cutA (flatP al) 2 (0 + (A).toNat) (0 + (A).toNat + (n - (A).toNat)))).length ∧ ((0 + (n - (A).toNat)) + ((IntKind.i64.wrap (B + 1)).toNat - 0)) * 16 ≤ 140737488355328 ∧ (0 + (n - (A).toNat)) + ((IntKind.i64.wrap (B + 1)).toNat - 0) ≤ 9223372036854775807) (e15 : Ones (cutA (flatP al) 2 (0 + 0) (0 + 0 + ((IntKind.i64.wrap (B + 1)).toNat - 0)))) (e16 : 0 < ((IntKind.i64.wrap (B + 1)).toNat - 0)) (e17 : (0 + 0 + ((IntKind.i64.wrap (B + 1)).toNat - 0)) * 2 ≤ (flatP al).length) (e18 : callA (cf R3) (evalF (cf R3) 61) 0 23 [.row 0 1 2 0 (0 + ((IntKind.i64.wrap (A + 1)).toNat - (B).toNat))] (rpQ al (List.drop (0 * 2) ([] : List AVal) ++ cutA (flatP al) 2 (0 + (B).toNat) (0 + (B).toNat + ((IntKind.i64.wrap (A + 1)).toNat - (B).toNat))) (List.drop (0 * 2) (List.drop (0 * 2) ([] : List AVal) ++ cutA (flatP al) 2 (0 + (A).toNat) (0 + (A).toNat + (n - (A).toNat))) ++ cutA (flatP al) 2 (0 + 0) (0 + 0 + ((IntKind.i64.wrap (B + 1)).toNat - 0))) none none none) = some (iA k1, (rpQ al (List.drop (0 * 2) ([] : List AVal) ++ cutA (flatP al) 2 (0 + (B).toNat) (0 + (B).toNat + ((IntKind.i64.wrap (A + 1)).toNat - (B).toNat))) (List.drop (0 * 2) (List.drop (0 * 2) ([] : List AVal) ++ cutA (flatP al) 2 (0 + (A).toNat) (0 + (A).toNat + (n - (A).toNat))) ++ cutA (flatP al) 2 (0 + 0) (0 + 0 + ((IntKind.i64.wrap (B + 1)).toNat - 0))) (some (List.drop (0 * 2) ([] : List AVal) ++ cutA (flatP al) 2 (0 + (B).toNat) (0 + (B).toNat + ((IntKind.i64.wrap (A + 1)).toNat - (B).toNat))).length) none none))) (e19 : callA (cf R3) (evalF (cf R3) 61) 0 23 [.row 28 2 2 0 (0 + (n - (A).toNat) + ((IntKind.i64.wrap (B + 1)).toNat - 0))] (rpQ al (List.drop (0 * 2) ([] : List AVal) ++ cutA (flatP al) 2 (0 + (B).toNat) (0 + (B).toNat + ((IntKind.i64.wrap (A + 1)).toNat - (B).toNat))) (List.drop (0 * 2) (List.drop (0 * 2) ([] : List AVal) ++ cutA (flatP al) 2 (0 + (A).toNat) (0 + (A).toNat + (n - (A).toNat))) ++ cutA (flatP al) 2 (0 + 0) (0 + 0 + ((IntKind.i64.wrap (B + 1)).toNat - 0))) (some (List.drop (0 * 2) ([] : List AVal) ++ cutA (flatP al) 2 (0 + (B).toNat) (0 + (B).toNat + ((IntKind.i64.wrap (A + 1)).toNat - (B).toNat))).length) none none) = some (iA k2, (rpQ al (List.drop (0 * 2) ([] : List AVal) ++ cutA (flatP al) 2 (0 + (B).toNat) (0 + (B).toNat + ((IntKind.i64.wrap (A + 1)).toNat - (B).toNat))) (List.drop (0 * 2) (List.drop (0 * 2) ([] : List AVal) ++ cutA (flatP al) 2 (0 + (A).toNat) (0 + (A).toNat + (n - (A).toNat))) ++ cutA (flatP al) 2 (0 + 0) (0 + 0 + ((IntKind.i64.wrap (B + 1)).toNat - 0))) (some (List.drop (0 * 2) ([] : List AVal) ++ cutA (flatP al) 2 (0 + (B).toNat) (0 + (B).toNat + ((IntKind.i64.wrap (A + 1)).toNat - (B).toNat))).length) none (some (List.drop (0 * 2) (List.drop (0 * 2) ([] : List AVal) ++ cutA (flatP al) 2 (0 + (A).toNat) (0 + (A).toNat + (n - (A).toNat))) ++ cutA (flatP al) 2 (0 + 0) (0 + 0 + ((IntKind.i64.wrap (B + 1)).toNat - 0))).length)))) (e20 : callA (cf R3) (evalF (cf R3) 61) 0 23 [.row 15 0 2 0 n] (rpQ al (List.drop (0 * 2) ([] : List AVal) ++ cutA (flatP al) 2 (0 + (B).toNat) (0 + (B).toNat + ((IntKind.i64.wrap (A + 1)).toNat - (B).toNat))) (List.drop (0 * 2) (List.drop (0 * 2) ([] : List AVal) ++ cutA (flatP al) 2 (0 + (A).toNat) (0 + (A).toNat + (n - (A).toNat))) ++ cutA (flatP al) 2 (0 + 0) (0 + 0 + ((IntKind.i64.wrap (B + 1)).toNat - 0))) (some (List.drop (0 * 2) ([] : List AVal) ++ cutA (flatP al) 2 (0 + (B).toNat) (0 + (B).toNat + ((IntKind.i64.wrap (A + 1)).toNat - (B).toNat))).length) none (some (List.drop (0 * 2) (List.drop (0 * 2) ([] : List AVal) ++ cutA (flatP al) 2 (0 + (A).toNat) (0 + (A).toNat + (n - (A).toNat))) ++ cutA (flatP al) 2 (0 + 0) (0 + 0 + ((IntKind.i64.wrap (B + 1)).toNat - 0))).length)) = some (iA k3, (rpQ al (List.drop (0 * 2) ([] : List AVal) ++ cutA (flatP al) 2 (0 + (B).toNat) (0 + (B).toNat + ((IntKind.i64.wrap (A + 1)).toNat - (B).toNat))) (List.drop (0 * 2) (List.drop (0 * 2) ([] : List AVal) ++ cutA (flatP al) 2 (0 + (A).toNat) (0 + (A).toNat + (n - (A).toNat))) ++ cutA (flatP al) 2 (0 + 0) (0 + 0 + ((IntKind.i64.wrap (B + 1)).toNat - 0))) (some (List.drop (0 * 2) ([] : List AVal) ++ cutA (flatP al) 2 (0 + (B).toNat) (0 + (B).toNat + ((IntKind.i64.wrap (A + 1)).toNat - (B).toNat))).length) (some (flatP al).length) (some (List.drop (0 * 2) (List.drop (0 * 2) ([] : List AVal) ++ cutA (flatP al) 2 (0 + (A).toNat) (0 + (A).toNat + (n - (A).toNat))) ++ cutA (flatP al) 2 (0 + 0) (0 + 0 + ((IntKind.i64.wrap (B + 1)).toNat - 0))).length)))) : CallsP Try.prog 7 [slP ps, iP av, iP bv] (rpAllF ps al av bv A B i0 k1 k2 k3 n) := by
  have key := fun (bs : List Bool) (r : PVal) (ob : List Prop) (h : callP (cf R3) (evalF (cf R3) 61) 61 [(8, 4, Hint.val (Value.int IntKind.i64 A)), (8, 9, Hint.val (Value.int IntKind.i64 B)), (11, 5, Hint.cut), (11, 6, Hint.appX), (12, 3, Hint.cut), (12, 4, Hint.appX), (12, 8, Hint.cut), (12, 9, Hint.appX), (13, 1, Hint.call (iA k1) (rpQ al (List.drop (0 * 2) [] ++ cutA (flatP al) 2 (0 + Int.toNat B) (0 + Int.toNat B + (Int.toNat (IntKind.wrap IntKind.i64 (A + 1)) - Int.toNat B))) (List.drop (0 * 2) (List.drop (0 * 2) [] ++ cutA (flatP al) 2 (0 + Int.toNat A) (0 + Int.toNat A + (n - Int.toNat A))) ++ cutA (flatP al) 2 (0 + 0) (0 + 0 + (Int.toNat (IntKind.wrap IntKind.i64 (B + 1)) - 0))) (some (List.length (List.drop (0 * 2) [] ++ cutA (flatP al) 2 (0 + Int.toNat B) (0 + Int.toNat B + (Int.toNat (IntKind.wrap IntKind.i64 (A + 1)) - Int.toNat B))))) none none)), (13, 3, Hint.call (iA k2) (rpQ al (List.drop (0 * 2) [] ++ cutA (flatP al) 2 (0 + Int.toNat B) (0 + Int.toNat B + (Int.toNat (IntKind.wrap IntKind.i64 (A + 1)) - Int.toNat B))) (List.drop (0 * 2) (List.drop (0 * 2) [] ++ cutA (flatP al) 2 (0 + Int.toNat A) (0 + Int.toNat A + (n - Int.toNat A))) ++ cutA (flatP al) 2 (0 + 0) (0 + 0 + (Int.toNat (IntKind.wrap IntKind.i64 (B + 1)) - 0))) (some (List.length (List.drop (0 * 2) [] ++ cutA (flatP al) 2 (0 + Int.toNat B) (0 + Int.toNat B + (Int.toNat (IntKind.wrap IntKind.i64 (A + 1)) - Int.toNat B))))) none (some (List.length (List.drop (0 * 2) (List.drop (0 * 2) [] ++ cutA (flatP al) 2 (0 + Int.toNat A) (0 + Int.toNat A + (n - Int.toNat A))) ++ cutA (flatP al) 2 (0 + 0) (0 + 0 + (Int.toNat (IntKind.wrap IntKind.i64 (B + 1)) - 0))))))), (13, 6, Hint.call (iA k3) (rpQ al (List.drop (0 * 2) [] ++ cutA (flatP al) 2 (0 + Int.toNat B) (0 + Int.toNat B + (Int.toNat (IntKind.wrap IntKind.i64 (A + 1)) - Int.toNat B))) (List.drop (0 * 2) (List.drop (0 * 2) [] ++ cutA (flatP al) 2 (0 + Int.toNat A) (0 + Int.toNat A + (n - Int.toNat A))) ++ cutA (flatP al) 2 (0 + 0) (0 + 0 + (Int.toNat (IntKind.wrap IntKind.i64 (B + 1)) - 0))) (some (List.length (List.drop (0 * 2) [] ++ cutA (flatP al) 2 (0 + Int.toNat B) (0 + Int.toNat B + (Int.toNat (IntKind.wrap IntKind.i64 (A + 1)) - Int.toNat B))))) (some (List.length (flatP al))) (some (List.length (List.drop (0 * 2) (List.drop (0 * 2) [] ++ cutA (flatP al) 2 (0 + Int.toNat A) (0 + Int.toNat A + (n - Int.toNat A))) ++ cutA (flatP al) 2 (0 + 0) (0 + 0 + (Int.toNat (IntKind.wrap IntKind.i64 (B + 1)) - 0)))))))] 7 [slP ps, iP av, iP bv] bs [(AExit.exit 0, rpE ps av bv i0 n, rpS al)] (none) = .ok (r, ob)) (hp : allOb ob) => callP_ok (cf_ok R3) h hp
  unfold rpAllF
  exact bif_case (P := fun r => CallsP Try.prog 7 [slP ps, iP av, iP bv] r)
    (fun h0 => key [false, false, true, true] (PVal.v (Value.bool true)) _ (by kernel_rfl) (allOb_cons h0 (allOb_cons (by exact e20) (allOb_cons (by exact e19) (allOb_cons (by exact e18) (allOb_cons (by exact e17) (allOb_cons (by exact e16) (allOb_cons (by exact e15) (allOb_cons (by exact e14) (allOb_cons (by exact e13) (allOb_cons (by exact e12) (allOb_cons (by exact e11) (allOb_cons (by exact e10) (allOb_cons (by exact e9) (allOb_cons (by exact e8) (allOb_cons (by exact e7) (allOb_cons (by exact e6) (allOb_cons (by exact e5) (allOb_cons (by exact e4) (allOb_cons (by exact e3) (allOb_cons p2 (allOb_cons (by exact e2) (allOb_cons (by exact e1) (allOb_cons (by exact e0) (allOb_cons p1 (allOb_cons p0 allOb_nil))))))))))))))))))))))))))
    (fun h0 => key [false, false, true, false] (PVal.v (Value.bool false)) _ (by kernel_rfl) (allOb_cons h0 (allOb_cons (by exact e20) (allOb_cons (by exact e19) (allOb_cons (by exact e18) (allOb_cons (by exact e17) (allOb_cons (by exact e16) (allOb_cons (by exact e15) (allOb_cons (by exact e14) (allOb_cons (by exact e13) (allOb_cons (by exact e12) (allOb_cons (by exact e11) (allOb_cons (by exact e10) (allOb_cons (by exact e9) (allOb_cons (by exact e8) (allOb_cons (by exact e7) (allOb_cons (by exact e6) (allOb_cons (by exact e5) (allOb_cons (by exact e4) (allOb_cons (by exact e3) (allOb_cons p2 (allOb_cons (by exact e2) (allOb_cons (by exact e1) (allOb_cons (by exact e0) (allOb_cons p1 (allOb_cons p0 allOb_nil))))))))))))))))))))))))))
def rpShort (ps : List P2) (av : Int) (bv : Int) : PVal :=
  PVal.v (Value.bool true)
theorem rpShort_calls (ps : List P2) (av : Int) (bv : Int) (p0 : decide ((↑(List.length ps) : Int) < 3) = true) : CallsP Try.prog 7 [slP ps, iP av, iP bv] (rpShort ps av bv) := by
  have key := fun (bs : List Bool) (r : PVal) (ob : List Prop) (h : callP (cf R3) (evalF (cf R3) 61) 61 [] 7 [slP ps, iP av, iP bv] bs [] (none) = .ok (r, ob)) (hp : allOb ob) => callP_ok (cf_ok R3) h hp
  unfold rpShort
  exact key [true, true] (PVal.v (Value.bool true)) _ (by kernel_rfl) (allOb_cons lit_t (allOb_cons p0 allOb_nil))
def rpLong (ps : List P2) (av : Int) (bv : Int) : PVal :=
  PVal.v (Value.bool true)
theorem rpLong_calls (ps : List P2) (av : Int) (bv : Int) (p1 : decide ((↑(List.length ps) : Int) > 60) = true) (p0 : decide ((↑(List.length ps) : Int) < 3) = false) : CallsP Try.prog 7 [slP ps, iP av, iP bv] (rpLong ps av bv) := by
  have key := fun (bs : List Bool) (r : PVal) (ob : List Prop) (h : callP (cf R3) (evalF (cf R3) 61) 61 [] 7 [slP ps, iP av, iP bv] bs [] (none) = .ok (r, ob)) (hp : allOb ob) => callP_ok (cf_ok R3) h hp
  unfold rpLong
  exact key [false, true] (PVal.v (Value.bool true)) _ (by kernel_rfl) (allOb_cons p1 (allOb_cons p0 allOb_nil))
end Go.Proofs.Ytmopbegmdegooaa
/- The law RingParts: its loop; rows that are put together. -/
namespace Go.Proofs.Ytmopbegmdegooaa
open Go Vm M
set_option linter.unusedVariables false
set_option linter.unusedSimpArgs false
noncomputable abbrev bodyRp : List AVal → List AObj → Res := evalC (cf R3) (evalF (cf R3) 61) ((lives.lookup 7).getD []) 0 0 61 (loopAt Try.f7 0)
section
variable (ps : List P2) (a b : Int)
theorem rp_first {q : P2} (hq : ps[0]? = some q) : roundC 0 bodyRp (rpT ps a b 0 nilA) [] = some (.normal, rpT ps a b (1 : Nat) (.row 15 0 2 0 1), rpS [rsP1 q]) := by
  have hl := lt_of_get hq
  have h := rpFirst_eq ps a b 0 q ⟨Int.le_refl _, by omega, by omega, flatPP_length ps⟩ (load_x (i := 0) hq) ⟨Int.le_refl _, by omega, by omega, flatPP_length ps⟩ (load_y (i := 0) hq)
  rw [h]
  unfold rpFirst
  rw [decide_eq_true (by omega : (0 : Int) < (ps.length : Int)), IntWalk.i64_in (0 + 1) (by omega)]
  rfl
theorem rp_next {k : Nat} {q : P2} {al : List P2} (hq : ps[k]? = some q) (h60 : ps.length ≤ 60) (ha : al.length = k) :
    roundC 0 bodyRp (rpT ps a b k (.row 15 0 2 0 k)) (rpS al) = some (.normal, rpT ps a b (k + 1 : Nat) (.row 15 0 2 0 (k + 1)), rpS (al ++ [rsP1 q])) := by
  have hl := lt_of_get hq
  have s1 := flatP_snoc al (rsP1 q)
  have h := rpNext_eq ps al a b k k q ⟨by omega, by omega, by omega, flatPP_length ps⟩ (load_x (i := k) hq) ⟨by omega, by omega, by omega, flatPP_length ps⟩ (load_y (i := k) hq) ⟨by rw [flatP_length]; omega, by omega, by omega⟩
  rw [h]
  unfold rpNext
  rw [decide_eq_true (by omega : (k : Int) < (ps.length : Int)), IntWalk.i64_in ((k : Int) + 1) (by omega)]
  unfold rpS
  rw [← s1]
  rfl
theorem rp_end {al : List P2} {n : Nat} : roundC 0 bodyRp (rpT ps a b ps.length (.row 15 0 2 0 n)) (rpS al) = some (.exit 0, rpE ps a b ps.length n, rpS al) := by
  have hpl : Plain (rpS al) := by
    unfold rpS
    simp only [Plain, List.all_append, List.all_cons, List.all_nil, plainO, flatP_plain] <;> rfl
  exact roundP_ok (hs := []) (bs := [false]) (ls := []) (ob := [Plain (rpS al), decide ((ps.length : Int) < (ps.length : Int)) = false]) (by kernel_rfl) (allOb_cons hpl (allOb_cons (decide_eq_false (by omega)) allOb_nil))
theorem rp_loop (h60 : ps.length ≤ 60) : ∀ (d k : Nat), 1 ≤ k → k + d = ps.length → At 0 bodyRp (d + 1) (rpT ps a b k (.row 15 0 2 0 k)) (rpS (rsA ps k)) (some (.exit 0, rpE ps a b ps.length ps.length, rpS (rsA ps ps.length)))
  | 0, k, _, hk => by
    obtain rfl : k = ps.length := by omega
    exact At.leave (rp_end ps a b) (by simp)
  | d + 1, k, h1, hk => by
    have hlt : k < ps.length := by omega
    have hq : ps[k]? = some ps[k] := List.getElem?_eq_getElem hlt
    refine At.step (rp_next ps a b (al := rsA ps k) hq h60 (rsA_length (by omega))) ?_
    have := rp_loop h60 d (k + 1) (by omega) (by omega)
    rw [rsA_succ hq] at this
    exact this
theorem rp_loop0 (h60 : ps.length ≤ 60) (h1 : 1 ≤ ps.length) : iterC 0 bodyRp 61 (rpT ps a b 0 nilA) [] = some (.exit 0, rpE ps a b ps.length ps.length, rpS (rsA ps ps.length)) := by
  have hq : ps[0]? = some ps[0] := List.getElem?_eq_getElem (by omega)
  have hA : At 0 bodyRp (ps.length - 1 + 1 + 1) (rpT ps a b 0 nilA) [] (some (.exit 0, rpE ps a b ps.length ps.length, rpS (rsA ps ps.length))) := by
    refine At.step (rp_first ps a b hq) ?_
    have := rp_loop ps a b h60 (ps.length - 1) 1 (Nat.le_refl _) (by omega)
    have e : rsA ps 1 = [rsP1 ps[0]] := by rw [rsA_succ hq]; rfl
    rw [e] at this
    exact this
  exact At.use (at_more hA (m := 61) (by omega)) (by rfl) (by kernel_rfl)
end
theorem flatP_one : ∀ ps : List P2, Ones (flatP ps)
  | [] => rfl
  | p :: ps => by
    have := flatP_one ps
    unfold Ones at this ⊢
    simp [flatP, AVal.one, Value.oneCell', this]
theorem cutA_flat (al : List P2) (l h : Nat) : cutA (flatP al) 2 l h = flatP ((al.drop l).take (h - l)) := by
  unfold cutA
  rw [flatP_drop]
  generalize al.drop l = ps
  generalize h - l = k
  induction ps generalizing k with
  | nil => simp [flatP]
  | cons p ps ih =>
    cases k with
    | zero => simp [flatP]
    | succ k =>
      rw [show (k + 1) * 2 = k * 2 + 1 + 1 by omega]
      simp only [flatP, List.take_succ_cons]
      rw [ih k]
theorem callA_rowE {c : Cfg} {ev : Ev} {F : FuncId} {S S' : List AObj} {o e len : Nat} {fz : Option Nat} {ps : List P2} {xs : List AVal} {r : PVal} {g : List PVal → Option PVal} (h0 : c.givenS F = none) (hm : c.mode F = 0) (hg : c.givenP F = some g)
    (hx : xs = flatP ps) (hlen : len = ps.length) (h : S[o]? = some (.row 2 e fz xs)) (hS' : S.set o (.row 2 e (some xs.length) xs) = S') (hr : g [slP ps] = some r) : callA c ev 0 F [.row o e 2 0 len] S = some (up r, S') := by
  subst hx hlen hS'
  have ho := (List.getElem?_eq_some_iff.1 h).1
  refine callA_given h0 hm (mark_row (n := 5) (ep := e) (off := 0) (len := ps.length) h) ?_ hg hr
  simp only [mapO]
  have hp : peek (S.set o (.row 2 e (some (flatP ps).length) (flatP ps))) (4 + 2) (.row o e 2 0 ps.length) = some (slP ps) := by
    have hg' : (S.set o (.row 2 e (some (flatP ps).length) (flatP ps)))[o]? = some (.row 2 e (some (flatP ps).length) (flatP ps)) := by rw [List.getElem?_set_self ho]
    simp only [peek, hg']
    rw [if_pos ⟨trivial, trivial, by rw [flatP_length]; omega⟩]
    have e' : cutA (flatP ps) 2 0 (0 + ps.length) = flatP ps := by
      unfold cutA
      rw [Nat.zero_mul, List.drop_zero, List.take_of_length_le (by rw [flatP_length]; omega)]
    rw [e', peek_flat]
    rfl
  rw [show deep = 4 + 2 from rfl, hp]
theorem boundsA_both {n a b : Nat} (h1 : a ≤ b) (h2 : b ≤ n) : boundsA n (some (iA (a : Int))) (some (iA (b : Int))) none = some (a, b, none) := by
  simp [boundsA, numA, iA, mxOk, h1, h2]
theorem boundsA_lo {n a : Nat} (h1 : a ≤ n) : boundsA n (some (iA (a : Int))) none none = some (a, n, none) := by
  simp [boundsA, numA, iA, mxOk, h1]
theorem boundsA_hi {n b : Nat} (h2 : b ≤ n) : boundsA n none (some (iA (b : Int))) none = some (0, b, none) := by
  simp [boundsA, numA, iA, mxOk, h2]
end Go.Proofs.Ytmopbegmdegooaa
/- terrierlaw12.Grid: its loop's rounds, and its call. -/
namespace Go.Proofs.Ytmopbegmdegooaa
open Go Vm M
set_option linter.unusedVariables false
set_option linter.unusedSimpArgs false
def grT (ps : List P2) (x : AVal) (i : Int) : List AVal := [slA ps] ++ jk 2 ++ [x, iA i] ++ jk 15
def grE (ps : List P2) (x : AVal) (i : Int) : List AVal := [slA ps] ++ jk 2 ++ [x, iA i] ++ jk 3 ++ [bA false] ++ jk 11
def grS (gs : List P2) : List AObj := [.free, .row 2 0 none (flatP gs)]
def gr1 (ps : List P2) (i : Int) (q : P2) : AExit × List AVal × List AObj :=
  (bif decide (i < (↑(List.length ps) : Int)) then (AExit.normal, (([AVal.list (List.length ps) (flatPP ps), AVal.junk, AVal.junk, AVal.row 1 0 2 0 1, AVal.v (Value.int IntKind.i64 (IntKind.wrap IntKind.i64 (i + 1)))] ++ jk 15), ([AObj.free, AObj.row 2 0 none [AVal.v (Value.int IntKind.i64 (Prod.fst (nearP (Prod.fst q, Prod.snd q)))), AVal.v (Value.int IntKind.i64 (Prod.snd (nearP (Prod.fst q, Prod.snd q))))]]))) else (AExit.exit 0, (([AVal.list (List.length ps) (flatPP ps), AVal.junk, AVal.junk, AVal.v (Value.slice none 0 0), AVal.v (Value.int IntKind.i64 i), AVal.junk, AVal.junk, AVal.junk, AVal.v (Value.bool false)] ++ jk 11), [])))
theorem gr1_eq (ps : List P2) (i : Int) (q : P2) (e0 : 0 ≤ i ∧ i < (ps.length : Int) ∧ 0 < 2 ∧ (flatPP ps).length = ps.length * 2) (e1 : partA Try.prog 23 (upL ((flatPP ps).drop (i.toNat * 2))) 0 = some (ptA q)) : roundC 0 (evalC (cf N8) (evalF (cf N8) 201) (Option.getD (List.lookup 29 lives) []) 0 0 201 (loopAt Try.f29 0)) (grT ps (AVal.v (Value.slice none 0 0)) i) ([]) = some (gr1 ps i q) := by
  have key := fun (bs : List Bool) (r : AExit × List AVal × List AObj) (ob : List Prop) (h : roundP (cf N8) (evalF (cf N8) 201) (Option.getD (List.lookup 29 lives) []) 0 0 201 [(5, 3, Hint.idx), (5, 4, Hint.load (ptA q))] (loopAt Try.f29 0) (grT ps (AVal.v (Value.slice none 0 0)) i) ([]) bs [] = .ok (r.1, r.2.1, r.2.2, ob)) (hp : allOb ob) => roundP_ok h hp
  unfold gr1
  exact bif_case (P := fun r => roundC 0 (evalC (cf N8) (evalF (cf N8) 201) (Option.getD (List.lookup 29 lives) []) 0 0 201 (loopAt Try.f29 0)) (grT ps (AVal.v (Value.slice none 0 0)) i) ([]) = some r)
    (fun h0 => key [true] ((AExit.normal, (([AVal.list (List.length ps) (flatPP ps), AVal.junk, AVal.junk, AVal.row 1 0 2 0 1, AVal.v (Value.int IntKind.i64 (IntKind.wrap IntKind.i64 (i + 1)))] ++ jk 15), ([AObj.free, AObj.row 2 0 none [AVal.v (Value.int IntKind.i64 (Prod.fst (nearP (Prod.fst q, Prod.snd q)))), AVal.v (Value.int IntKind.i64 (Prod.snd (nearP (Prod.fst q, Prod.snd q))))]])))) _ (by kernel_rfl) (allOb_cons (show Plain ([AObj.row 2 0 none [AVal.v (Value.int IntKind.i64 (Prod.fst (nearP (Prod.fst q, Prod.snd q)))), AVal.v (Value.int IntKind.i64 (Prod.snd (nearP (Prod.fst q, Prod.snd q))))], AObj.row 2 0 none [AVal.v (Value.int IntKind.i64 (Prod.fst (nearP (Prod.fst q, Prod.snd q)))), AVal.v (Value.int IntKind.i64 (Prod.snd (nearP (Prod.fst q, Prod.snd q))))]]) from by simp only [Plain, List.all_append, List.all_cons, List.all_nil, plainO, flatP_plain, Nat.zero_mul, List.drop_zero] <;> rfl) (allOb_cons (by exact e1) (allOb_cons (by exact e0) (allOb_cons h0 allOb_nil)))))
    (fun h0 => key [false] ((AExit.exit 0, (([AVal.list (List.length ps) (flatPP ps), AVal.junk, AVal.junk, AVal.v (Value.slice none 0 0), AVal.v (Value.int IntKind.i64 i), AVal.junk, AVal.junk, AVal.junk, AVal.v (Value.bool false)] ++ jk 11), []))) _ (by kernel_rfl) (allOb_cons (show Plain [] from by simp only [Plain, List.all_append, List.all_cons, List.all_nil, plainO, flatP_plain, Nat.zero_mul, List.drop_zero] <;> rfl) (allOb_cons h0 allOb_nil)))
def gr2 (ps : List P2) (gs : List P2) (i : Int) (n : Nat) (q : P2) : AExit × List AVal × List AObj :=
  (bif decide (i < (↑(List.length ps) : Int)) then (AExit.normal, (([AVal.list (List.length ps) (flatPP ps), AVal.junk, AVal.junk, AVal.row 1 0 2 0 (n + (0 + 1)), AVal.v (Value.int IntKind.i64 (IntKind.wrap IntKind.i64 (i + 1)))] ++ jk 15), ([AObj.free, AObj.row 2 0 none (List.drop (0 * 2) (flatP gs) ++ [iA (Prod.fst (nearP q)), iA (Prod.snd (nearP q))])]))) else (AExit.exit 0, (([AVal.list (List.length ps) (flatPP ps), AVal.junk, AVal.junk, AVal.row 1 0 2 0 n, AVal.v (Value.int IntKind.i64 i), AVal.junk, AVal.junk, AVal.junk, AVal.v (Value.bool false)] ++ jk 11), ([AObj.free, AObj.row 2 0 none (flatP gs)]))))
theorem gr2_eq (ps : List P2) (gs : List P2) (i : Int) (n : Nat) (q : P2) (e0 : 0 ≤ i ∧ i < (ps.length : Int) ∧ 0 < 2 ∧ (flatPP ps).length = ps.length * 2) (e1 : partA Try.prog 23 (upL ((flatPP ps).drop (i.toNat * 2))) 0 = some (ptA q)) (e2 : (0 + n) * 2 = (flatP gs).length ∧ (n + (0 + 1)) * 16 ≤ 140737488355328 ∧ n + (0 + 1) ≤ 9223372036854775807) : roundC 0 (evalC (cf N8) (evalF (cf N8) 201) (Option.getD (List.lookup 29 lives) []) 0 0 201 (loopAt Try.f29 0)) (grT ps (AVal.row 1 0 2 0 n) i) (grS gs) = some (gr2 ps gs i n q) := by
  have key := fun (bs : List Bool) (r : AExit × List AVal × List AObj) (ob : List Prop) (h : roundP (cf N8) (evalF (cf N8) 201) (Option.getD (List.lookup 29 lives) []) 0 0 201 [(5, 3, Hint.idx), (5, 4, Hint.load (ptA q)), (5, 7, Hint.app)] (loopAt Try.f29 0) (grT ps (AVal.row 1 0 2 0 n) i) (grS gs) bs [] = .ok (r.1, r.2.1, r.2.2, ob)) (hp : allOb ob) => roundP_ok h hp
  unfold gr2
  exact bif_case (P := fun r => roundC 0 (evalC (cf N8) (evalF (cf N8) 201) (Option.getD (List.lookup 29 lives) []) 0 0 201 (loopAt Try.f29 0)) (grT ps (AVal.row 1 0 2 0 n) i) (grS gs) = some r)
    (fun h0 => key [true] ((AExit.normal, (([AVal.list (List.length ps) (flatPP ps), AVal.junk, AVal.junk, AVal.row 1 0 2 0 (n + (0 + 1)), AVal.v (Value.int IntKind.i64 (IntKind.wrap IntKind.i64 (i + 1)))] ++ jk 15), ([AObj.free, AObj.row 2 0 none (List.drop (0 * 2) (flatP gs) ++ [iA (Prod.fst (nearP q)), iA (Prod.snd (nearP q))])])))) _ (by kernel_rfl) (allOb_cons (show Plain ([AObj.row 2 0 none [AVal.v (Value.int IntKind.i64 (Prod.fst (nearP (Prod.fst q, Prod.snd q)))), AVal.v (Value.int IntKind.i64 (Prod.snd (nearP (Prod.fst q, Prod.snd q))))], AObj.row 2 1 none (List.drop (0 * 2) (flatP gs) ++ [iA (Prod.fst (nearP q)), iA (Prod.snd (nearP q))])]) from by simp only [Plain, List.all_append, List.all_cons, List.all_nil, plainO, flatP_plain, Nat.zero_mul, List.drop_zero] <;> rfl) (allOb_cons (by exact e2) (allOb_cons (by exact e1) (allOb_cons (by exact e0) (allOb_cons h0 allOb_nil))))))
    (fun h0 => key [false] ((AExit.exit 0, (([AVal.list (List.length ps) (flatPP ps), AVal.junk, AVal.junk, AVal.row 1 0 2 0 n, AVal.v (Value.int IntKind.i64 i), AVal.junk, AVal.junk, AVal.junk, AVal.v (Value.bool false)] ++ jk 11), ([AObj.free, AObj.row 2 0 none (flatP gs)])))) _ (by kernel_rfl) (allOb_cons (show Plain ([AObj.free, AObj.row 2 0 none (flatP gs)]) from by simp only [Plain, List.all_append, List.all_cons, List.all_nil, plainO, flatP_plain, Nat.zero_mul, List.drop_zero] <;> rfl) (allOb_cons h0 allOb_nil)))
end Go.Proofs.Ytmopbegmdegooaa
/- terrierlaw12.Grid: its call; terrierref12.Same: its loop's rounds. -/
namespace Go.Proofs.Ytmopbegmdegooaa
open Go Vm M
set_option linter.unusedVariables false
set_option linter.unusedSimpArgs false
def grAll (ps : List P2) (gs : List P2) (i : Int) (n : Nat) : PVal :=
  PVal.list (List.length gs) (flatPP gs)
theorem grAll_calls (ps : List P2) (gs : List P2) (i : Int) (n : Nat) (e0 : iterC 0 (evalC (cf N8) (evalF (cf N8) 201) ((lives.lookup 29).getD []) 0 0 201 (loopAt Try.f29 0)) 201 (grT ps (.v (.slice none 0 0)) 0) [] = some (.exit 0, grE ps (.row 1 0 2 0 n) i, grS gs)) (e1 : peek (Vm.mark 0 deep (grS gs) (.row 1 0 2 0 n)) deep (.row 1 0 2 0 n) = some (slP gs)) : CallsP Try.prog 29 [slP ps] (grAll ps gs i n) := by
  have key := fun (bs : List Bool) (r : PVal) (ob : List Prop) (h : callP (cf N8) (evalF (cf N8) 201) 201 [] 29 [slP ps] bs [(AExit.exit 0, grE ps (AVal.row 1 0 2 0 n) i, grS gs)] (some (slP gs)) = .ok (r, ob)) (hp : allOb ob) => callP_ok (cf_ok N8) h hp
  unfold grAll
  exact key [] (PVal.list (List.length gs) (flatPP gs)) _ (by kernel_rfl) (allOb_cons (by exact e1) (allOb_cons (by exact e0) allOb_nil))
def grNil : PVal :=
  PVal.v (Value.slice none 0 0)
theorem grNil_calls (e0 : iterC 0 (evalC (cf N8) (evalF (cf N8) 201) ((lives.lookup 29).getD []) 0 0 201 (loopAt Try.f29 0)) 201 (grT [] (.v (.slice none 0 0)) 0) [] = some (.exit 0, grE [] (.v (.slice none 0 0)) 0, [])) : CallsP Try.prog 29 [slP []] grNil := by
  have key := fun (bs : List Bool) (r : PVal) (ob : List Prop) (h : callP (cf N8) (evalF (cf N8) 201) 201 [] 29 [slP []] bs [(AExit.exit 0, grE [] (AVal.v (Value.slice none 0 0)) 0, [])] (none) = .ok (r, ob)) (hp : allOb ob) => callP_ok (cf_ok N8) h hp
  unfold grNil
  exact key [] (PVal.v (Value.slice none 0 0)) _ (by kernel_rfl) (allOb_cons (by exact e0) allOb_nil)
def smT (xs ys : List P2) (i : Int) : List AVal := [slA xs, slA ys] ++ jk 3 ++ [iA i] ++ jk 20
def sm1 (xs : List P2) (ys : List P2) (i : Int) (p : P2) (q : P2) : AExit × List AVal × List AObj :=
  (bif decide (i < (↑(List.length xs) : Int)) then (bif !eqB p q then (AExit.ret, ((jk 4 ++ [AVal.v (Value.bool false)] ++ jk 21), [])) else (AExit.normal, (([AVal.list (List.length xs) (flatPP xs), AVal.list (List.length ys) (flatPP ys), AVal.junk, AVal.junk, AVal.junk, AVal.v (Value.int IntKind.i64 (IntKind.wrap IntKind.i64 (i + 1)))] ++ jk 20), []))) else (AExit.exit 0, (([AVal.list (List.length xs) (flatPP xs), AVal.list (List.length ys) (flatPP ys), AVal.junk, AVal.junk, AVal.junk, AVal.v (Value.int IntKind.i64 i)] ++ jk 8 ++ [AVal.v (Value.bool false)] ++ jk 11), [])))
theorem sm1_eq (xs : List P2) (ys : List P2) (i : Int) (p : P2) (q : P2) (e0 : 0 ≤ i ∧ i < (xs.length : Int) ∧ 0 < 2 ∧ (flatPP xs).length = xs.length * 2) (e1 : partA Try.prog 23 (upL ((flatPP xs).drop (i.toNat * 2))) 0 = some (ptA p)) (e2 : 0 ≤ i ∧ i < (ys.length : Int) ∧ 0 < 2 ∧ (flatPP ys).length = ys.length * 2) (e3 : partA Try.prog 23 (upL ((flatPP ys).drop (i.toNat * 2))) 0 = some (ptA q)) : roundC 0 (evalC (cf N8) (evalF (cf N8) 201) (Option.getD (List.lookup 31 lives) []) 0 0 201 (loopAt Try.f31 0)) (smT xs ys i) ([]) = some (sm1 xs ys i p q) := by
  have key := fun (bs : List Bool) (r : AExit × List AVal × List AObj) (ob : List Prop) (h : roundP (cf N8) (evalF (cf N8) 201) (Option.getD (List.lookup 31 lives) []) 0 0 201 [(6, 2, Hint.idx), (6, 3, Hint.load (ptA p)), (6, 6, Hint.idx), (6, 7, Hint.load (ptA q))] (loopAt Try.f31 0) (smT xs ys i) ([]) bs [] = .ok (r.1, r.2.1, r.2.2, ob)) (hp : allOb ob) => roundP_ok h hp
  unfold sm1
  exact bif_case (P := fun r => roundC 0 (evalC (cf N8) (evalF (cf N8) 201) (Option.getD (List.lookup 31 lives) []) 0 0 201 (loopAt Try.f31 0)) (smT xs ys i) ([]) = some r)
    (fun h0 => bif_case (P := fun r => roundC 0 (evalC (cf N8) (evalF (cf N8) 201) (Option.getD (List.lookup 31 lives) []) 0 0 201 (loopAt Try.f31 0)) (smT xs ys i) ([]) = some r)
     (fun h1 => key [true, true] ((AExit.ret, ((jk 4 ++ [AVal.v (Value.bool false)] ++ jk 21), []))) _ (by kernel_rfl) (allOb_cons (show Plain (List.replicate 9 AObj.free) from by simp only [Plain, List.all_append, List.all_cons, List.all_nil, plainO, flatP_plain, Nat.zero_mul, List.drop_zero] <;> rfl) (allOb_cons h1 (allOb_cons (by exact e3) (allOb_cons (by exact e2) (allOb_cons (by exact e1) (allOb_cons (by exact e0) (allOb_cons h0 allOb_nil))))))))
     (fun h1 => key [true, false] ((AExit.normal, (([AVal.list (List.length xs) (flatPP xs), AVal.list (List.length ys) (flatPP ys), AVal.junk, AVal.junk, AVal.junk, AVal.v (Value.int IntKind.i64 (IntKind.wrap IntKind.i64 (i + 1)))] ++ jk 20), []))) _ (by kernel_rfl) (allOb_cons (show Plain (List.replicate 9 AObj.free) from by simp only [Plain, List.all_append, List.all_cons, List.all_nil, plainO, flatP_plain, Nat.zero_mul, List.drop_zero] <;> rfl) (allOb_cons h1 (allOb_cons (by exact e3) (allOb_cons (by exact e2) (allOb_cons (by exact e1) (allOb_cons (by exact e0) (allOb_cons h0 allOb_nil)))))))))
    (fun h0 => key [false] ((AExit.exit 0, (([AVal.list (List.length xs) (flatPP xs), AVal.list (List.length ys) (flatPP ys), AVal.junk, AVal.junk, AVal.junk, AVal.v (Value.int IntKind.i64 i)] ++ jk 8 ++ [AVal.v (Value.bool false)] ++ jk 11), []))) _ (by kernel_rfl) (allOb_cons (show Plain [] from by simp only [Plain, List.all_append, List.all_cons, List.all_nil, plainO, flatP_plain, Nat.zero_mul, List.drop_zero] <;> rfl) (allOb_cons h0 allOb_nil)))
end Go.Proofs.Ytmopbegmdegooaa
/- terrierlaw12.Grid and terrierref12.Same: what they answer. -/
namespace Go.Proofs.Ytmopbegmdegooaa
open Go Vm M
set_option linter.unusedVariables false
set_option linter.unusedSimpArgs false
/-- A call's answer, said with less. -/
theorem callsP_less {P : Program} {F : FuncId} {ps : List PVal} {r r' : PVal} (h : CallsP P F ps r) (hw : Wk r r') : CallsP P F ps r' :=
  fun ok w vs h1 h2 h3 => (h ok w vs h1 h2 h3).mono fun e w' ⟨v, ok', a, b, c, d, e', f⟩ => ⟨v, ok', a, b, c, d, e', hw _ _ f⟩
theorem load_pt {ps : List P2} {k : Nat} {q : P2} (h : ps[k]? = some q) : partA Try.prog 23 (upL ((flatPP ps).drop ((k : Int).toNat * 2))) 0 = some (ptA q) := by
  have hk := (List.getElem?_eq_some_iff.1 h).1
  have hq := (List.getElem?_eq_some_iff.1 h).2
  rw [Int.toNat_natCast, flatPP_drop, upL_flatPP, List.drop_eq_getElem_cons hk, hq]
  unfold partA
  rw [agg23, sz23]
  simp [flatP, ptA]
noncomputable abbrev bodyGr : List AVal → List AObj → Res := evalC (cf N8) (evalF (cf N8) 201) ((lives.lookup 29).getD []) 0 0 201 (loopAt Try.f29 0)
section
variable (ps : List P2)
theorem gr_first {q : P2} (hq : ps[0]? = some q) : roundC 0 bodyGr (grT ps (.v (.slice none 0 0)) 0) [] = some (.normal, grT ps (.row 1 0 2 0 1) (1 : Nat), grS [nearP q]) := by
  have hl := lt_of_get hq
  have h := gr1_eq ps 0 q ⟨Int.le_refl _, by omega, by omega, flatPP_length ps⟩ (load_pt (k := 0) hq)
  rw [h]
  unfold gr1
  rw [decide_eq_true (by omega : (0 : Int) < (ps.length : Int)), IntWalk.i64_in (0 + 1) (by omega)]
  rfl
theorem gr_next {k : Nat} {q : P2} {gs : List P2} (hq : ps[k]? = some q) (h200 : ps.length ≤ 200) (ha : gs.length = k) :
    roundC 0 bodyGr (grT ps (.row 1 0 2 0 k) k) (grS gs) = some (.normal, grT ps (.row 1 0 2 0 (k + 1)) (k + 1 : Nat), grS (gs ++ [nearP q])) := by
  have hl := lt_of_get hq
  have s1 := flatP_snoc gs (nearP q)
  have h := gr2_eq ps gs k k q ⟨by omega, by omega, by omega, flatPP_length ps⟩ (load_pt (k := k) hq) ⟨by rw [flatP_length]; omega, by omega, by omega⟩
  rw [h]
  unfold gr2
  rw [decide_eq_true (by omega : (k : Int) < (ps.length : Int)), IntWalk.i64_in ((k : Int) + 1) (by omega)]
  unfold grS
  rw [← s1]
  rfl
theorem gr_end {gs : List P2} {n : Nat} : roundC 0 bodyGr (grT ps (.row 1 0 2 0 n) ps.length) (grS gs) = some (.exit 0, grE ps (.row 1 0 2 0 n) ps.length, grS gs) := by
  have hpl : Plain (grS gs) := by
    unfold grS
    simp only [Plain, List.all_append, List.all_cons, List.all_nil, plainO, flatP_plain] <;> rfl
  exact roundP_ok (hs := []) (bs := [false]) (ls := []) (ob := [Plain (grS gs), decide ((ps.length : Int) < (ps.length : Int)) = false]) (by kernel_rfl) (allOb_cons hpl (allOb_cons (decide_eq_false (by omega)) allOb_nil))
theorem gr_loop (h200 : ps.length ≤ 200) : ∀ (d k : Nat), 1 ≤ k → k + d = ps.length → At 0 bodyGr (d + 1) (grT ps (.row 1 0 2 0 k) k) (grS ((ps.take k).map nearP)) (some (.exit 0, grE ps (.row 1 0 2 0 ps.length) ps.length, grS (ps.map nearP)))
  | 0, k, _, hk => by
    obtain rfl : k = ps.length := by omega
    rw [List.take_length]
    exact At.leave (gr_end ps) (by simp)
  | d + 1, k, h1, hk => by
    have hlt : k < ps.length := by omega
    have hq : ps[k]? = some ps[k] := List.getElem?_eq_getElem hlt
    refine At.step (gr_next ps (gs := (ps.take k).map nearP) hq h200 (by simp; omega)) ?_
    have := gr_loop h200 d (k + 1) (by omega) (by omega)
    have e : (ps.take (k + 1)).map nearP = (ps.take k).map nearP ++ [nearP ps[k]] := by rw [List.take_add_one, hq, List.map_append]; rfl
    rw [e] at this
    exact this
theorem grid_calls (h200 : ps.length ≤ 200) : CallsP Try.prog 29 [slP ps] (slP (ps.map nearP)) := by
  by_cases h1 : 1 ≤ ps.length
  · have hq : ps[0]? = some ps[0] := List.getElem?_eq_getElem (by omega)
    have hA : At 0 bodyGr (ps.length - 1 + 1 + 1) (grT ps (.v (.slice none 0 0)) 0) [] (some (.exit 0, grE ps (.row 1 0 2 0 ps.length) ps.length, grS (ps.map nearP))) := by
      refine At.step (gr_first ps hq) ?_
      have := gr_loop ps h200 (ps.length - 1) 1 (Nat.le_refl _) (by omega)
      have e : ps.take 1 = [ps[0]] := by rw [List.take_add_one, hq]; rfl
      rw [e] at this
      exact this
    refine grAll_calls ps (ps.map nearP) ps.length ps.length (At.use (at_more hA (m := 201) (by omega)) (by rfl) (by kernel_rfl)) ?_
    have hS : (grS (ps.map nearP))[1]? = some (.row 2 0 none (flatP (ps.map nearP))) := rfl
    rw [show deep = 5 + 1 from rfl, mark_row (n := 5) hS]
    have := peek_row (S := (grS (ps.map nearP)).set 1 (.row 2 0 (some (flatP (ps.map nearP)).length) (flatP (ps.map nearP)))) (o := 1) (n := 4) (ps := ps.map nearP) rfl
    rw [List.length_map] at this
    exact this
  · obtain rfl : ps = [] := List.eq_nil_of_length_eq_zero (by omega)
    exact callsP_less (grNil_calls (by kernel_rfl)) (unSl_wk rfl)
end
end Go.Proofs.Ytmopbegmdegooaa
/- terrierref12.Same: its paths. -/
namespace Go.Proofs.Ytmopbegmdegooaa
open Go Vm M
set_option linter.unusedVariables false
set_option linter.unusedSimpArgs false
def smR : List AVal := jk 4 ++ [bA false] ++ jk 21
def smE (xs ys : List P2) (i : Int) : List AVal := [slA xs, slA ys] ++ jk 3 ++ [iA i] ++ jk 8 ++ [bA false] ++ jk 11
def smNe (xs : List P2) (ys : List P2) : PVal :=
  PVal.v (Value.bool false)
theorem smNe_calls (xs : List P2) (ys : List P2) (p0 : !(↑(List.length xs) : Int) == (↑(List.length ys) : Int) = true) : CallsP Try.prog 31 [slP xs, slP ys] (smNe xs ys) := by
  have key := fun (bs : List Bool) (r : PVal) (ob : List Prop) (h : callP (cf N8) (evalF (cf N8) 201) 201 [] 31 [slP xs, slP ys] bs [] (none) = .ok (r, ob)) (hp : allOb ob) => callP_ok (cf_ok N8) h hp
  unfold smNe
  exact key [true] (PVal.v (Value.bool false)) _ (by kernel_rfl) (allOb_cons p0 allOb_nil)
def smRt (xs : List P2) (ys : List P2) : PVal :=
  PVal.v (Value.bool false)
theorem smRt_calls (xs : List P2) (ys : List P2) (p0 : !(↑(List.length xs) : Int) == (↑(List.length ys) : Int) = false) (e0 : iterC 0 (evalC (cf N8) (evalF (cf N8) 201) ((lives.lookup 31).getD []) 0 0 201 (loopAt Try.f31 0)) 201 (smT xs ys 0) [] = some (.ret, smR, [])) : CallsP Try.prog 31 [slP xs, slP ys] (smRt xs ys) := by
  have key := fun (bs : List Bool) (r : PVal) (ob : List Prop) (h : callP (cf N8) (evalF (cf N8) 201) 201 [] 31 [slP xs, slP ys] bs [(AExit.ret, smR, [])] (none) = .ok (r, ob)) (hp : allOb ob) => callP_ok (cf_ok N8) h hp
  unfold smRt
  exact key [false] (PVal.v (Value.bool false)) _ (by kernel_rfl) (allOb_cons (by exact e0) (allOb_cons p0 allOb_nil))
def smEx (xs : List P2) (ys : List P2) (i : Int) : PVal :=
  PVal.v (Value.bool true)
theorem smEx_calls (xs : List P2) (ys : List P2) (i : Int) (p0 : !(↑(List.length xs) : Int) == (↑(List.length ys) : Int) = false) (e0 : iterC 0 (evalC (cf N8) (evalF (cf N8) 201) ((lives.lookup 31).getD []) 0 0 201 (loopAt Try.f31 0)) 201 (smT xs ys 0) [] = some (.exit 0, smE xs ys i, [])) : CallsP Try.prog 31 [slP xs, slP ys] (smEx xs ys i) := by
  have key := fun (bs : List Bool) (r : PVal) (ob : List Prop) (h : callP (cf N8) (evalF (cf N8) 201) 201 [] 31 [slP xs, slP ys] bs [(AExit.exit 0, smE xs ys i, [])] (none) = .ok (r, ob)) (hp : allOb ob) => callP_ok (cf_ok N8) h hp
  unfold smEx
  exact key [false] (PVal.v (Value.bool true)) _ (by kernel_rfl) (allOb_cons (by exact e0) (allOb_cons p0 allOb_nil))
end Go.Proofs.Ytmopbegmdegooaa
/- terrierref12.Same: whether two slices are the same. -/
namespace Go.Proofs.Ytmopbegmdegooaa
open Go Vm M
set_option linter.unusedVariables false
set_option linter.unusedSimpArgs false
noncomputable abbrev bodySm : List AVal → List AObj → Res := evalC (cf N8) (evalF (cf N8) 201) ((lives.lookup 31).getD []) 0 0 201 (loopAt Try.f31 0)
theorem sm_loop (xs ys : List P2) (hl : xs.length = ys.length) (h200 : xs.length ≤ 200) : ∀ (d k : Nat), k + d = xs.length →
    (At 0 bodySm (d + 1) (smT xs ys k) [] (some (.ret, smR, [])) ∧ xs.drop k ≠ ys.drop k) ∨ (At 0 bodySm (d + 1) (smT xs ys k) [] (some (.exit 0, smE xs ys xs.length, [])) ∧ xs.drop k = ys.drop k)
  | 0, k, hk => by
    obtain rfl : k = xs.length := by omega
    refine .inr ⟨At.leave (x := .exit 0) ?_ (by simp), by rw [List.drop_length, hl, List.drop_length]⟩
    exact roundP_ok (hs := []) (bs := [false]) (ls := []) (ob := [Plain [], decide ((xs.length : Int) < (xs.length : Int)) = false]) (by kernel_rfl) (allOb_cons (by rfl) (allOb_cons (decide_eq_false (by omega)) allOb_nil))
  | d + 1, k, hk => by
    have hx : k < xs.length := by omega
    have hy : k < ys.length := by omega
    have h := sm1_eq xs ys k xs[k] ys[k] ⟨by omega, by omega, by omega, flatPP_length xs⟩ (load_pt (List.getElem?_eq_getElem hx)) ⟨by omega, by omega, by omega, flatPP_length ys⟩ (load_pt (List.getElem?_eq_getElem hy))
    have dx : xs.drop k = xs[k] :: xs.drop (k + 1) := List.drop_eq_getElem_cons hx
    have dy : ys.drop k = ys[k] :: ys.drop (k + 1) := List.drop_eq_getElem_cons hy
    unfold sm1 at h
    rw [decide_eq_true (by omega : (k : Int) < (xs.length : Int))] at h
    cases he : eqB xs[k] ys[k] with
    | false =>
      rw [he] at h
      refine .inl ⟨At.leave (x := .ret) h (by simp), fun hc => ?_⟩
      rw [dx, dy, List.cons.injEq] at hc
      rw [hc.1] at he
      have := eqB_iff.2 (rfl : ys[k] = ys[k])
      rw [he] at this
      cases this
    | true =>
      rw [he, IntWalk.i64_in ((k : Int) + 1) (by omega)] at h
      have h' : roundC 0 bodySm (smT xs ys k) [] = some (.normal, smT xs ys (k + 1 : Nat), []) := h
      have e := eqB_iff.1 he
      rcases sm_loop xs ys hl h200 d (k + 1) (by omega) with ⟨h1, h2⟩ | ⟨h1, h2⟩
      · exact .inl ⟨At.step h' h1, fun hc => h2 (by rw [dx, dy, List.cons.injEq] at hc; exact hc.2)⟩
      · exact .inr ⟨At.step h' h1, by rw [dx, dy, e, h2]⟩
theorem same_calls (xs ys : List P2) (h200 : xs.length ≤ 200) : CallsP Try.prog 31 [slP xs, slP ys] (bP (decide (xs = ys))) := by
  by_cases hl : xs.length = ys.length
  · have p0 : (!((xs.length : Int) == (ys.length : Int))) = false := by simp [hl]
    rcases sm_loop xs ys hl h200 xs.length 0 (by omega) with ⟨h1, h2⟩ | ⟨h1, h2⟩
    · rw [decide_eq_false (p := xs = ys) (by simpa using h2)]
      exact smRt_calls xs ys p0 (At.use (at_more h1 (m := 201) (by omega)) (by rfl) (by kernel_rfl))
    · rw [decide_eq_true (p := xs = ys) (by simpa using h2)]
      exact smEx_calls xs ys _ p0 (At.use (at_more h1 (m := 201) (by omega)) (by rfl) (by kernel_rfl))
  · rw [decide_eq_false (p := xs = ys) (fun h => hl (by rw [h]))]
    have hl' : (xs.length : Int) ≠ (ys.length : Int) := by omega
    exact smNe_calls xs ys (by simp [hl'])
end Go.Proofs.Ytmopbegmdegooaa
/- ring.Turned: its parts, called among the caller's objects. -/
namespace Go.Proofs.Ytmopbegmdegooaa
open Go Vm M
set_option linter.unusedVariables false
set_option linter.unusedSimpArgs false
/-- slices.Clone, Clip, Reverse are called by reference. -/
def modeT : FuncId → Nat := fun f => bif Nat.beq f 60 || Nat.beq f 59 || Nat.beq f 61 then 2 else 0
noncomputable def cfT (L : Lib Try.prog) : Cfg := cfgOf lives modeT L
theorem cfT_ok (L : Lib Try.prog) : CfgOk (cfT L) := cfgOf_ok lives modeT L
def tuClone (q : P2) (qs : List P2) : AVal × List AObj :=
  (AVal.row 0 1 2 0 (0 + List.length (q :: qs)), ([AObj.row 2 1 none (AVal.v (Value.int IntKind.i64 (Prod.fst q)) :: AVal.v (Value.int IntKind.i64 (Prod.snd q)) :: upL (flatPP qs))]))
theorem tuClone_eq (q : P2) (qs : List P2) (e0 : (0 + 0) * 2 = ([] : List AVal).length ∧ (0 + (q :: qs).length) * 16 ≤ 140737488355328 ∧ 0 + (q :: qs).length ≤ 9223372036854775807) (e1 : Ones (upL (flatPP (q :: qs)))) (e2 : 0 < (q :: qs).length) (e3 : (flatPP (q :: qs)).length = (q :: qs).length * 2) : evalF (cfT N8) (201 + 1) (0) 60 ([slA (q :: qs)]) ([]) = some (tuClone q qs) := by
  have key := fun (bs : List Bool) (r : AVal × List AObj) (ob : List Prop) (h : funP (cfT N8) (evalF (cfT N8) 201) 201 [(3, 2, Hint.appX)] 60 (0) ([slA (q :: qs)]) ([]) bs [] = .ok (r.1, r.2, ob)) (hp : allOb ob) => funP_ok h hp
  unfold tuClone
  exact key [false] ((AVal.row 0 1 2 0 (0 + List.length (q :: qs)), ([AObj.row 2 1 none (AVal.v (Value.int IntKind.i64 (Prod.fst q)) :: AVal.v (Value.int IntKind.i64 (Prod.snd q)) :: upL (flatPP qs))]))) _ (by kernel_rfl) (allOb_cons (by exact e3) (allOb_cons (by exact e2) (allOb_cons (by exact e1) (allOb_cons (by exact e0) (allOb_cons lit_f allOb_nil)))))
def tuClip (e : Nat) (n : Nat) (xs : List AVal) : AVal × List AObj :=
  (AVal.row 0 e 2 0 (Int.toNat (↑n : Int) - 0), ([AObj.row 2 e none xs]))
theorem tuClip_eq (e : Nat) (n : Nat) (xs : List AVal) (e0 : ∃ m, boundsA n none (some (iA (n : Int))) (some (iA (n : Int))) = some (0, ((n : Int)).toNat, some m) ∧ m ≠ 0) : evalF (cfT N8) (201 + 1) (0) 59 ([AVal.row 0 e 2 0 n]) ([AObj.row 2 e none xs]) = some (tuClip e n xs) := by
  have key := fun (bs : List Bool) (r : AVal × List AObj) (ob : List Prop) (h : funP (cfT N8) (evalF (cfT N8) 201) 201 [(1, 5, Hint.cut)] 59 (0) ([AVal.row 0 e 2 0 n]) ([AObj.row 2 e none xs]) bs [] = .ok (r.1, r.2, ob)) (hp : allOb ob) => funP_ok h hp
  unfold tuClip
  exact key [] ((AVal.row 0 e 2 0 (Int.toNat (↑n : Int) - 0), ([AObj.row 2 e none xs]))) _ (by kernel_rfl) (allOb_cons (by exact e0) allOb_nil)
def tuT (m : Nat) (i j : Int) : List AVal := [.row 0 1 2 1 m, .junk, iA i, iA j] ++ jk 24
def tuRev (m : Nat) (i : Int) (j : Int) (l : List P2) (l1 : List P2) (l2 : List P2) (p : P2) (q : P2) : AExit × List AVal × List AObj :=
  (bif decide (i < j) then (AExit.normal, (([AVal.row 0 1 2 1 m, AVal.junk, AVal.v (Value.int IntKind.i64 (IntKind.wrap IntKind.i64 (i + 1))), AVal.v (Value.int IntKind.i64 (IntKind.wrap IntKind.i64 (j - 1)))] ++ jk 24), ([AObj.row 2 1 none (flatP l2)]))) else (AExit.exit 0, (([AVal.row 0 1 2 1 m, AVal.junk, AVal.v (Value.int IntKind.i64 i), AVal.v (Value.int IntKind.i64 j)] ++ jk 5 ++ [AVal.v (Value.bool false)] ++ jk 18), ([AObj.row 2 1 none (flatP l)]))))
theorem tuRev_eq (m : Nat) (i : Int) (j : Int) (l : List P2) (l1 : List P2) (l2 : List P2) (p : P2) (q : P2) (e0 : 0 ≤ j ∧ j < (m : Int)) (e1 : partA Try.prog 23 (flatP l) ((1 + j.toNat) * 2) = some (ptA p)) (e2 : 0 ≤ i ∧ i < (m : Int)) (e3 : partA Try.prog 23 (flatP l) ((1 + i.toNat) * 2) = some (ptA q)) (e4 : 0 ≤ i ∧ i < (m : Int)) (e5 : putA (flatP l) ((1 + i.toNat) * 2) (cellsP p) = some (flatP l1)) (e6 : 0 ≤ j ∧ j < (m : Int)) (e7 : putA (flatP l1) ((1 + j.toNat) * 2) (cellsP q) = some (flatP l2)) : roundC 1 (evalC (cfT N8) (evalF (cfT N8) 201) (Option.getD (List.lookup 61 lives) []) 0 1 201 (loopAt Try.f61 0)) (tuT m i j) ([AObj.row 2 1 none (flatP l)]) = some (tuRev m i j l l1 l2 p q) := by
  have key := fun (bs : List Bool) (r : AExit × List AVal × List AObj) (ob : List Prop) (h : roundP (cfT N8) (evalF (cfT N8) 201) (Option.getD (List.lookup 61 lives) []) 0 1 201 [(3, 6, Hint.idx), (3, 7, Hint.load (ptA p)), (3, 10, Hint.idx), (3, 11, Hint.load (ptA q)), (3, 12, Hint.idx), (3, 13, Hint.store (flatP l1)), (3, 14, Hint.idx), (3, 15, Hint.store (flatP l2))] (loopAt Try.f61 0) (tuT m i j) ([AObj.row 2 1 none (flatP l)]) bs [] = .ok (r.1, r.2.1, r.2.2, ob)) (hp : allOb ob) => roundP_ok h hp
  unfold tuRev
  exact bif_case (P := fun r => roundC 1 (evalC (cfT N8) (evalF (cfT N8) 201) (Option.getD (List.lookup 61 lives) []) 0 1 201 (loopAt Try.f61 0)) (tuT m i j) ([AObj.row 2 1 none (flatP l)]) = some r)
    (fun h0 => key [true] ((AExit.normal, (([AVal.row 0 1 2 1 m, AVal.junk, AVal.v (Value.int IntKind.i64 (IntKind.wrap IntKind.i64 (i + 1))), AVal.v (Value.int IntKind.i64 (IntKind.wrap IntKind.i64 (j - 1)))] ++ jk 24), ([AObj.row 2 1 none (flatP l2)])))) _ (by kernel_rfl) (allOb_cons (show Plain ([AObj.row 2 1 none (flatP l2)] ++ List.replicate 16 AObj.free) from by simp only [Plain, List.all_append, List.all_cons, List.all_nil, plainO, flatP_plain, Nat.zero_mul, List.drop_zero] <;> rfl) (allOb_cons (by exact e7) (allOb_cons (by exact e6) (allOb_cons (by exact e5) (allOb_cons (by exact e4) (allOb_cons (by exact e3) (allOb_cons (by exact e2) (allOb_cons (by exact e1) (allOb_cons (by exact e0) (allOb_cons h0 allOb_nil)))))))))))
    (fun h0 => key [false] ((AExit.exit 0, (([AVal.row 0 1 2 1 m, AVal.junk, AVal.v (Value.int IntKind.i64 i), AVal.v (Value.int IntKind.i64 j)] ++ jk 5 ++ [AVal.v (Value.bool false)] ++ jk 18), ([AObj.row 2 1 none (flatP l)])))) _ (by kernel_rfl) (allOb_cons (show Plain ([AObj.row 2 1 none (flatP l)]) from by simp only [Plain, List.all_append, List.all_cons, List.all_nil, plainO, flatP_plain, Nat.zero_mul, List.drop_zero] <;> rfl) (allOb_cons h0 allOb_nil)))
def tuE (m : Nat) (i j : Int) : List AVal := [.row 0 1 2 1 m, .junk, iA i, iA j] ++ jk 5 ++ [bA false] ++ jk 18
def tuRvAll (m : Nat) (i : Int) (j : Int) (l : List P2) (l1 : List P2) : AVal × List AObj :=
  (AVal.tup [], ([AObj.row 2 1 none (flatP l1)]))
theorem tuRvAll_eq (m : Nat) (i : Int) (j : Int) (l : List P2) (l1 : List P2) (e0 : iterC 1 (evalC (cfT N8) (evalF (cfT N8) 201) ((lives.lookup 61).getD []) 0 1 201 (loopAt Try.f61 0)) 201 (tuT m 0 (IntKind.i64.wrap ((m : Int) - 1))) [.row 2 1 none (flatP l)] = some (.exit 0, tuE m i j, [.row 2 1 none (flatP l1)])) : evalF (cfT N8) (201 + 1) (0) 61 ([AVal.row 0 1 2 1 m]) ([AObj.row 2 1 none (flatP l)]) = some (tuRvAll m i j l l1) := by
  have key := fun (bs : List Bool) (r : AVal × List AObj) (ob : List Prop) (h : funP (cfT N8) (evalF (cfT N8) 201) 201 [] 61 (0) ([AVal.row 0 1 2 1 m]) ([AObj.row 2 1 none (flatP l)]) bs [(AExit.exit 0, tuE m i j, [AObj.row 2 1 none (flatP l1)])] = .ok (r.1, r.2, ob)) (hp : allOb ob) => funP_ok h hp
  unfold tuRvAll
  exact key [] ((AVal.tup [], ([AObj.row 2 1 none (flatP l1)]))) _ (by kernel_rfl) (allOb_cons (by exact e0) allOb_nil)
def tuAll (ps : List P2) (l : List P2) (l1 : List P2) (n : Nat) : PVal :=
  PVal.list (List.length l1) (flatPP l1)
theorem tuAll_calls (ps : List P2) (l : List P2) (l1 : List P2) (n : Nat) (p0 : decide ((↑n : Int) > 0) = true) (e0 : callA (cfT N8) (evalF (cfT N8) 202) 0 60 [slA ps] [] = some (.row 0 1 2 0 n, [.row 2 1 none (flatP l)])) (e1 : callA (cfT N8) (evalF (cfT N8) 202) 0 59 [.row 0 1 2 0 n] [.row 2 1 none (flatP l)] = some (.row 0 1 2 0 n, [.row 2 1 none (flatP l)])) (e2 : boundsA n (some (iA 1)) none none = some (1, n, none)) (e3 : callA (cfT N8) (evalF (cfT N8) 202) 0 61 [.row 0 1 2 (0 + 1) (n - 1)] [.row 2 1 none (flatP l)] = some (.tup [], [.row 2 1 none (flatP l1)])) (e4 : peek (Vm.mark 0 deep [.row 2 1 none (flatP l1)] (.row 0 1 2 0 n)) deep (.row 0 1 2 0 n) = some (slP l1)) : CallsP Try.prog 30 [slP ps] (tuAll ps l l1 n) := by
  have key := fun (bs : List Bool) (r : PVal) (ob : List Prop) (h : callP (cfT N8) (evalF (cfT N8) 202) 202 [(1, 1, Hint.call (AVal.row 0 1 2 0 n) [AObj.row 2 1 none (flatP l)]), (1, 2, Hint.call (AVal.row 0 1 2 0 n) [AObj.row 2 1 none (flatP l)]), (3, 1, Hint.cut), (3, 2, Hint.call (AVal.tup []) [AObj.row 2 1 none (flatP l1)])] 30 [slP ps] bs [] (some (slP l1)) = .ok (r, ob)) (hp : allOb ob) => callP_ok (cfT_ok N8) h hp
  unfold tuAll
  exact key [true] (PVal.list (List.length l1) (flatPP l1)) _ (by kernel_rfl) (allOb_cons (by exact e4) (allOb_cons (by exact e3) (allOb_cons (by exact e2) (allOb_cons p0 (allOb_cons (by exact e1) (allOb_cons (by exact e0) allOb_nil))))))
end Go.Proofs.Ytmopbegmdegooaa
/- slices.Reverse behind a first point: its loop. -/
namespace Go.Proofs.Ytmopbegmdegooaa
open Go Vm M
set_option linter.unusedVariables false
set_option linter.unusedSimpArgs false
theorem flatP_set : ∀ (l : List P2) (j : Nat) (p : P2), j < l.length → (flatP l).take (j * 2) ++ cellsP p ++ (flatP l).drop (j * 2 + 2) = flatP (l.set j p)
  | [], j, p, h => by simp at h
  | q :: l, 0, p, h => by simp [flatP, cellsP]
  | q :: l, j + 1, p, h => by
    have := flatP_set l j p (by simpa using h)
    rw [show (j + 1) * 2 = j * 2 + 1 + 1 by omega, show j * 2 + 1 + 1 + 2 = (j * 2 + 2) + 1 + 1 by omega]
    simp only [flatP, List.take_succ_cons, List.drop_succ_cons, List.set_cons_succ, List.cons_append]
    rw [← this]
theorem putA_flat {l : List P2} {j : Nat} {p : P2} (h : j < l.length) : putA (flatP l) (j * 2) (cellsP p) = some (flatP (l.set j p)) := by
  unfold putA
  rw [if_pos (by simp [flatP_length, cellsP, AVal.one, Value.oneCell']; omega)]
  congr 1
  exact flatP_set l j p h
theorem set_mid (x y : P2) (ys : List P2) : ∀ xs : List P2, (xs ++ x :: ys).set xs.length y = xs ++ y :: ys
  | [] => rfl
  | a :: xs => by simp [set_mid x y ys xs]
noncomputable abbrev bodyTu : List AVal → List AObj → Res := evalC (cfT N8) (evalF (cfT N8) 201) ((lives.lookup 61).getD []) 0 1 201 (loopAt Try.f61 0)
theorem tu_round (p0 x y : P2) (A M B : List P2) (m : Nat) (hm : m = A.length + (M.length + 2) + B.length) (hAB : A.length = B.length) (h200 : m ≤ 200) :
    roundC 1 bodyTu (tuT m A.length ((m : Int) - 1 - A.length)) [.row 2 1 none (flatP (p0 :: (A ++ (x :: M ++ [y]) ++ B)))] = some (.normal, tuT m ((A ++ [y]).length : Nat) ((m : Int) - 1 - ((A ++ [y]).length : Nat)), [.row 2 1 none (flatP (p0 :: ((A ++ [y]) ++ M ++ (x :: B))))]) := by
  have l0 : p0 :: (A ++ (x :: M ++ [y]) ++ B) = (p0 :: A) ++ x :: (M ++ y :: B) := by simp
  have l1 : (p0 :: A) ++ y :: (M ++ y :: B) = (p0 :: A ++ y :: M) ++ y :: B := by simp
  have l2 : (p0 :: A ++ y :: M) ++ x :: B = p0 :: ((A ++ [y]) ++ M ++ (x :: B)) := by simp
  have l0' : p0 :: (A ++ (x :: M ++ [y]) ++ B) = (p0 :: A ++ x :: M) ++ y :: B := by simp
  have j1 : ((m : Int) - 1 - A.length).toNat = A.length + M.length + 1 := by omega
  have i1 : ((A.length : Nat) : Int).toNat = A.length := by omega
  have gy : (p0 :: (A ++ (x :: M ++ [y]) ++ B))[1 + (A.length + M.length + 1)]? = some y := by
    rw [l0', show 1 + (A.length + M.length + 1) = (p0 :: A ++ x :: M).length by simp; omega]
    simp
  have gx : (p0 :: (A ++ (x :: M ++ [y]) ++ B))[1 + A.length]? = some x := by
    rw [l0, show 1 + A.length = (p0 :: A).length by simp; omega]
    simp
  have s1 : (p0 :: (A ++ (x :: M ++ [y]) ++ B)).set (1 + A.length) y = (p0 :: A ++ y :: M) ++ y :: B := by
    rw [l0, show 1 + A.length = (p0 :: A).length by simp; omega, set_mid, l1]
  have s2 : ((p0 :: A ++ y :: M) ++ y :: B).set (1 + (A.length + M.length + 1)) x = p0 :: ((A ++ [y]) ++ M ++ (x :: B)) := by
    rw [show 1 + (A.length + M.length + 1) = (p0 :: A ++ y :: M).length by simp; omega, set_mid, l2]
  have h := tuRev_eq m A.length ((m : Int) - 1 - A.length) (p0 :: (A ++ (x :: M ++ [y]) ++ B)) ((p0 :: A ++ y :: M) ++ y :: B) (p0 :: ((A ++ [y]) ++ M ++ (x :: B))) y x ⟨by omega, by omega⟩
    (by rw [j1]; exact flatP_part gy agg23 sz23) ⟨by omega, by omega⟩ (by rw [i1]; exact flatP_part gx agg23 sz23) ⟨by omega, by omega⟩
    (by rw [i1, putA_flat (by simp; omega), s1]) ⟨by omega, by omega⟩ (by rw [j1, putA_flat (by simp; omega), s2])
  rw [h]
  unfold tuRev
  rw [decide_eq_true (by omega : (A.length : Int) < (m : Int) - 1 - A.length), IntWalk.i64_in ((A.length : Int) + 1) (by omega), IntWalk.i64_in ((m : Int) - 1 - A.length - 1) (by omega)]
  rw [show (A ++ [y]).length = A.length + 1 by simp, show ((A.length + 1 : Nat) : Int) = (A.length : Int) + 1 by omega, show (m : Int) - 1 - ((A.length : Int) + 1) = (m : Int) - 1 - A.length - 1 by omega]
  rfl
theorem tu_end (l : List P2) (m : Nat) (i j : Int) (h : ¬ i < j) : roundC 1 bodyTu (tuT m i j) [.row 2 1 none (flatP l)] = some (.exit 0, tuE m i j, [.row 2 1 none (flatP l)]) := by
  have hpl : Plain [.row 2 1 none (flatP l)] := by
    simp only [Plain, List.all_append, List.all_cons, List.all_nil, plainO, flatP_plain] <;> rfl
  exact roundP_ok (hs := []) (bs := [false]) (ls := []) (ob := [Plain [.row 2 1 none (flatP l)], decide (i < j) = false]) (by kernel_rfl) (allOb_cons hpl (allOb_cons (decide_eq_false h) allOb_nil))
theorem tu_loop (p0 : P2) (m : Nat) (h200 : m ≤ 200) : ∀ (d : Nat) (A M B : List P2), M.length ≤ 2 * d + 1 → m = A.length + M.length + B.length → A.length = B.length →
    ∃ i j, At 1 bodyTu (d + 1) (tuT m A.length ((m : Int) - 1 - A.length)) [.row 2 1 none (flatP (p0 :: (A ++ M ++ B)))] (some (.exit 0, tuE m i j, [.row 2 1 none (flatP (p0 :: (A ++ M.reverse ++ B)))])) := by
  intro d
  induction d with
  | zero =>
    intro A M B hM hm hAB
    have e : M.reverse = M := by
      match M, hM with
      | [], _ => rfl
      | [x], _ => rfl
    rw [e]
    exact ⟨_, _, At.leave (tu_end _ m _ _ (by omega)) (by simp)⟩
  | succ d ih =>
    intro A M B hM hm hAB
    match M, hM, hm with
    | [], _, hm =>
      simp only [List.length_nil] at hm
      exact ⟨_, _, At.leave (tu_end _ m _ _ (by omega)) (by simp)⟩
    | [x], _, hm =>
      simp only [List.length_singleton] at hm
      exact ⟨_, _, At.leave (tu_end _ m _ _ (by omega)) (by simp)⟩
    | x :: z :: N, hM, hm =>
      obtain ⟨M', y, hy⟩ : ∃ M' y, z :: N = M' ++ [y] := ⟨(z :: N).dropLast, (z :: N).getLast (by simp), (List.dropLast_concat_getLast (by simp)).symm⟩
      rw [hy] at hM hm ⊢
      simp only [List.length_cons, List.length_append, List.length_nil] at hM hm
      obtain ⟨i, j, h⟩ := ih (A ++ [y]) M' (x :: B) (by omega) (by simp; omega) (by simp; omega)
      refine ⟨i, j, At.step (tu_round p0 x y A M' B m (by omega) hAB h200) ?_⟩
      have e : A ++ (x :: (M' ++ [y])).reverse ++ B = (A ++ [y]) ++ M'.reverse ++ (x :: B) := by simp
      rw [e]
      exact h
end Go.Proofs.Ytmopbegmdegooaa
/- ring.Turned: a ring the other way round. -/
namespace Go.Proofs.Ytmopbegmdegooaa
open Go Vm M
set_option linter.unusedVariables false
set_option linter.unusedSimpArgs false
theorem callA_m2 {c : Cfg} {ev : Ev} {lo : Nat} {F : FuncId} {args : List AVal} {S : List AObj} {x : AVal × List AObj} (h0 : c.givenS F = none) (hm : c.mode F = 2) (he : ev lo F args S = some x) : callA c ev lo F args S = some x := by
  unfold callA
  simp only [h0, hm, he]
theorem onesP : ∀ ps : List P2, Ones (flatP ps)
  | [] => rfl
  | p :: ps => by
    have := onesP ps
    unfold Ones at this ⊢
    simp [flatP, AVal.one, Value.oneCell', this]
theorem boundsA_clip (n : Nat) : boundsA n none (some (iA (n : Int))) (some (iA (n : Int))) = some (0, ((n : Int)).toNat, some n) := by
  simp [boundsA, numA, iA, mxOk]
theorem peek_rowE {S : List AObj} {o n e : Nat} {ps : List P2} (h : S[o]? = some (.row 2 e (some (flatP ps).length) (flatP ps))) : peek S (n + 2) (.row o e 2 0 ps.length) = some (slP ps) := by
  simp only [peek, h]
  rw [if_pos ⟨trivial, trivial, by rw [flatP_length]; omega⟩]
  have e : cutA (flatP ps) 2 0 (0 + ps.length) = flatP ps := by
    unfold cutA
    rw [Nat.zero_mul, List.drop_zero, List.take_of_length_le (by rw [flatP_length]; omega)]
  rw [e, peek_flat]
  rfl
theorem turned_cons (q : P2) (qs : List P2) (h200 : qs.length < 200) : CallsP Try.prog 30 [slP (q :: qs)] (slP (q :: qs.reverse)) := by
  have hn : (q :: qs).length = qs.length + 1 := rfl
  have c1 := tuClone_eq q qs ⟨rfl, by omega, by omega⟩ (by rw [upL_flatPP]; exact onesP _) (by omega) (flatPP_length _)
  unfold tuClone at c1
  rw [Nat.zero_add, upL_flatPP] at c1
  have e0 : callA (cfT N8) (evalF (cfT N8) 202) 0 60 [slA (q :: qs)] [] = some (.row 0 1 2 0 (q :: qs).length, [.row 2 1 none (flatP (q :: qs))]) := callA_m2 rfl rfl c1
  have c2 := tuClip_eq 1 (q :: qs).length (flatP (q :: qs)) ⟨(q :: qs).length, boundsA_clip _, by simp⟩
  unfold tuClip at c2
  rw [Int.toNat_natCast, Nat.sub_zero] at c2
  have e1 : callA (cfT N8) (evalF (cfT N8) 202) 0 59 [.row 0 1 2 0 (q :: qs).length] [.row 2 1 none (flatP (q :: qs))] = some (.row 0 1 2 0 (q :: qs).length, [.row 2 1 none (flatP (q :: qs))]) := callA_m2 rfl rfl c2
  obtain ⟨i, j, hl⟩ := tu_loop q qs.length (by omega) 199 [] qs [] (by omega) (by simp) rfl
  have hl' := At.use (at_more hl (m := 201) (by omega)) (T := tuT qs.length 0 (IntKind.i64.wrap ((qs.length : Int) - 1))) (S := [.row 2 1 none (flatP (q :: qs))]) (by simp only [List.all_cons, List.all_nil, plainO, flatP_plain]; rfl) (by
    rw [IntWalk.i64_in _ (by omega)]
    simp only [List.nil_append, List.append_nil, List.length_nil]
    rw [show ((qs.length : Int) - 1 - ((0 : Nat) : Int)) = (qs.length : Int) - 1 by omega]
    kernel_rfl)
  simp only [List.nil_append, List.append_nil] at hl'
  have c3 := tuRvAll_eq qs.length i j (q :: qs) (q :: qs.reverse) hl'
  have e3 : callA (cfT N8) (evalF (cfT N8) 202) 0 61 [.row 0 1 2 (0 + 1) ((q :: qs).length - 1)] [.row 2 1 none (flatP (q :: qs))] = some (.tup [], [.row 2 1 none (flatP (q :: qs.reverse))]) := callA_m2 rfl rfl c3
  refine tuAll_calls (q :: qs) (q :: qs) (q :: qs.reverse) (q :: qs).length (decide_eq_true (by omega)) e0 e1 (by rw [show (1 : Int) = ((1 : Nat) : Int) from rfl]; exact boundsA_lo (by simp)) e3 ?_
  have hS : ([.row 2 1 none (flatP (q :: qs.reverse))] : List AObj)[0]? = some (.row 2 1 none (flatP (q :: qs.reverse))) := rfl
  rw [show deep = 5 + 1 from rfl, mark_row (n := 5) hS]
  have hp : ([.row 2 1 none (flatP (q :: qs.reverse))] : List AObj).set 0 (.row 2 1 (some (flatP (q :: qs.reverse)).length) (flatP (q :: qs.reverse))) = [.row 2 1 (some (flatP (q :: qs.reverse)).length) (flatP (q :: qs.reverse))] := rfl
  rw [hp]
  have hlen : (q :: qs).length = (q :: qs.reverse).length := by simp
  rw [hlen]
  exact peek_rowE (n := 4) rfl
end Go.Proofs.Ytmopbegmdegooaa
