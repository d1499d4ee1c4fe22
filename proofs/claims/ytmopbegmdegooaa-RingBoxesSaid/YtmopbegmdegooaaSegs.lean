/- A range over a ring's segments: the iterator's contract. -/
import Derived.RangeFuncNested
import Derived.RangeFuncBound
import Derived.RangeFuncCalls
import Derived.RangeFuncLeaves
import Derived.Shelf.Abstract
import Derived.Shelf.RegionOpen
import Derived.WalkKit
import Derived.OwnWalkIn
import Derived.TacticsInMore
import Derived.LoopNIn
import Derived.LoopIn
import Derived.Test.YtmopbegmdegooaaSl
namespace Go.Proofs.Ytmopbegmdegooaa
open Go Go.RowKit Go.Shelf M
attribute [local go_sem] Oper.semAt_some
set_option linter.unusedVariables false
set_option linter.unusedSimpArgs false
def ptV (p : P2) : Value := .agg #[.int .i64 p.1, .int .i64 p.2]
def upto {α : Type} (f : Nat → α) (k : Nat) : List α := (List.range k).map f
theorem upto_succ {α : Type} (f : Nat → α) (k : Nat) : upto f (k + 1) = upto f k ++ [f k] := by simp [upto, List.range_succ]
theorem upto_length {α : Type} (f : Nat → α) (k : Nat) : (upto f k).length = k := by simp [upto]
abbrev SegP := P2 × P2
/-- The k-th segment of a ring. -/
def segAt (ps : List P2) (k : Nat) : SegP := (ps[k]?.getD (0, 0), ps[(k + 1) % ps.length]?.getD (0, 0))
/-- What a round keeps: all that lay ahead, and the ring's box. -/
def KpS (n₀ Bs : Nat) (A B : World) : Prop := Below n₀ A B ∧ B.heap[Bs]? = A.heap[Bs]?
theorem KpS.trans {n₀ Bs : Nat} {A B C : World} (h : KpS n₀ Bs A B) (k : KpS n₀ Bs B C) : KpS n₀ Bs A C := ⟨h.1.trans k.1, k.2.trans h.2⟩
theorem KpS.refl (n₀ Bs : Nat) (A : World) : KpS n₀ Bs A A := ⟨Below.refl _ _, rfl⟩
theorem KpS.of_below {n₀ Bs B : Nat} {X Y : World} (h : Below B X Y) (h1 : n₀ ≤ B) (h2 : Bs < B) : KpS n₀ Bs X Y := ⟨h.mono h1, h.block Bs h2⟩
theorem kpS_b {n₀ Bs : Nat} {w : World} (hn : n₀ ≤ w.heap.size) (hB : Bs < w.heap.size) (W : World) (l : Nat) (o o' : Obj) (hl : w.heap.size ≤ l) (h : W.heap[l]? = some o) (h1 : o.isCells = false) (h2 : o.isWalk = false) : KpS n₀ Bs W (W.putObj l o') := by
  refine ⟨belowK_b hn W l o o' hl h h1 h2, ?_⟩
  exact (belowK_b (n₀ := w.heap.size) (Nat.le_refl _) W l o o' hl h h1 h2).block Bs hB
theorem segments_in (n : Nat) (hn : 1 ≤ n) (a : Option Addr) (len cap : Nat) (w : World) :
    CallsIn Fence.wide n Try.prog 53 #[.slice a len cap] w fun e w' => e = .returned (.func (.func 79) #[] #[.pointer (some ⟨w.heap.size, 0, none⟩)]) ∧ w' = w.alloc (.cells #[.slice a len cap] 24) := by
  refine callsIn_of_wp Try.func53 rfl trivial ?_ rfl
  simp only [Try.ntmps53, List.size_toArray, List.length_cons, List.length_nil, Nat.reduceAdd, Nat.reduceSub, Array.replicate_succ, Array.replicate_zero, List.push_toArray, List.append_toArray, List.nil_append, List.cons_append]
  gi_wp2
  go_ret
  exact ⟨rfl, rfl⟩
set_option maxRecDepth 100000 in
set_option maxHeartbeats 2000000 in
theorem segs1_in (n : Nat) (hn : 1 ≤ n) (l Bs n₀ b off cap : Nat) (ps : List P2) (hlen : ps.length < 4611686018427387904) (hb : b < n₀) (J Jx : List SegP → World → Prop)
    (hJ : ∀ s W o, J s W → J s (W.alloc o)) (hD : ∀ s W, J s W → J s W.drew)
    (hY : ∀ pre x W, J pre W → pre.length < ps.length → YieldAt Fence.wide (n - 1) Try.prog l #[ptV x.1, ptV x.2] W fun e W' =>
      (e = .returned (.bool true) ∧ J (pre ++ [x]) W' ∧ KpS n₀ Bs W W') ∨ (e = .returned (.bool false) ∧ Jx (pre ++ [x]) W'))
    (W : World) (hBs : W.cell? ⟨Bs, 0, none⟩ = some (.slice (some ⟨b, off, none⟩) ps.length cap)) (hBn : Bs < W.heap.size) (hnW : n₀ ≤ W.heap.size)
    (hc : ∀ j, j < ps.length → W.cell? ⟨b, off + j * 2, none⟩ = some (.int .i64 (ps[j]?.getD (0, 0)).1) ∧ W.cell? ⟨b, off + j * 2 + 1, none⟩ = some (.int .i64 (ps[j]?.getD (0, 0)).2)) (h0 : J [] W) :
    CallsIn Fence.wide n Try.prog 79 #[.func (.yield l) #[] #[], .pointer (some ⟨Bs, 0, none⟩)] W fun e W' => (∃ v, e = .returned v) ∧
      ((∃ ys, ys = upto (segAt ps) ps.length ∧ J ys W') ∨ (∃ pre, (∃ k, k ≤ ps.length ∧ pre = upto (segAt ps) k) ∧ Jx pre W')) := by
  refine callsIn_of_wp Try.func79 rfl trivial ?_ rfl
  simp only [Try.ntmps79, List.size_toArray, List.length_cons, List.length_nil, Nat.reduceAdd, Nat.reduceSub, Array.replicate_succ, Array.replicate_zero, List.push_toArray, List.append_toArray, List.nil_append, List.cons_append]
  gi_wp2
  gi_loopw [7] (fun i wr => ∃ k : Nat, k ≤ ps.length ∧ i = .int .i64 k ∧ J (upto (segAt ps) k) wr ∧ KpS n₀ Bs W wr)
    (fun i _ => ps.length - (intOf i).toNat)
  case atStart => exact ⟨0, Nat.zero_le _, rfl, h0, KpS.refl _ _ _⟩
  case round =>
    obtain ⟨k, hk, rfl, hJs, hnx⟩ := hrel
    have hcx : ∀ j, j < ps.length → wr.cell? ⟨b, off + j * 2, none⟩ = some (.int .i64 (ps[j]?.getD (0, 0)).1) ∧ wr.cell? ⟨b, off + j * 2 + 1, none⟩ = some (.int .i64 (ps[j]?.getD (0, 0)).2) := fun j h => ⟨(hnx.1.cell (p := ⟨b, off + j * 2, none⟩) hb).trans (hc j h).1, (hnx.1.cell (p := ⟨b, off + j * 2 + 1, none⟩) hb).trans (hc j h).2⟩
    have hBw := (World.cell?_of_block (w := W) (a := ⟨Bs, 0, none⟩) hnx.2).trans hBs
    have hBnr : Bs < wr.heap.size := Nat.lt_of_lt_of_le hBn hnx.1.size
    by_cases hlt : k < ps.length
    · have hcx' := hcx k hlt
      have hBel : KpS n₀ Bs W ((wr.alloc (Obj.cells #[.int .i64 ps[k].1, .int .i64 ps[k].2] 23)).drew) := hnx.trans (KpS.of_below (((Below.refl wr.heap.size wr).alloc (Nat.le_refl _) _).drew) (Nat.le_trans hnW hnx.1.size) hBnr)
      have hb1 := (World.cell?_of_block (w := W) (a := ⟨Bs, 0, none⟩) hBel.2).trans hBs
      have hb2 := fun j h => (hBel.1.cell (p := ⟨b, off + j * 2, none⟩) hb).trans (hc j h).1
      have hb3 := fun j h => (hBel.1.cell (p := ⟨b, off + j * 2 + 1, none⟩) hb).trans (hc j h).2
      have hb4 := hb2 ((k + 1) % ps.length) (Nat.mod_lt _ (by omega))
      have hb5 := hb3 ((k + 1) % ps.length) (Nat.mod_lt _ (by omega))
      have hne : ¬ ps = [] := fun h => by subst h; simp at hlt
      obtain ⟨m, hm⟩ : ∃ m, (k + 1) % ps.length = m := ⟨_, rfl⟩
      have hml : m < ps.length := hm ▸ Nat.mod_lt (k + 1) (y := ps.length) (by omega)
      have hidx : (IntKind.i64.wrap ((k : Int) + 1)).tmod (ps.length : Int) = (m : Int) := by
        rw [IntWalk.i64_in _ (by omega), Int.tmod_eq_emod_of_nonneg (by omega), ← hm]
        rfl
      rw [hm] at hb4 hb5
      have hseg : segAt ps k = (ps[k], ps[m]) := by simp [segAt, hm, hlt, hml]
      obtain ⟨fn, tmps, assign, body, hy, hR⟩ := hY (upto (segAt ps) k) (ps[k], ps[m]) _ (hD _ _ (hJ _ _ (Obj.cells #[.int .i64 ps[k].1, .int .i64 ps[k].2] 23) hJs)) (by rw [upto_length]; exact hlt)
      simp only [ptV] at hy
      have hR' := hR.mono (R' := fun e W' => ∃ bb : Bool, e = .returned (.bool bb) ∧ (bb = true → J (upto (segAt ps) (k + 1)) W' ∧ KpS n₀ Bs W W') ∧ (bb = false → Jx (upto (segAt ps) (k + 1)) W')) (by
        rintro e W' (⟨rfl, h1, h2⟩ | ⟨rfl, h1⟩)
        · exact ⟨true, rfl, fun _ => ⟨by rw [upto_succ, hseg]; exact h1, hBel.trans h2⟩, fun h => by cases h⟩
        · exact ⟨false, rfl, fun h => (by cases h), fun _ => by rw [upto_succ, hseg]; exact h1⟩)
      clear hR
      gi_wp2
      gi_region_with (refine hR'.mono ?_; rintro e W3 ⟨bb, rfl, hbt, hbf⟩; gi_wp2)
      all_goals (
        cases bb
        · gi_wp2
          refine bodyPost_ret (results_none rfl _ _ _) rfl ?_
          exact ⟨⟨_, rfl⟩, .inr ⟨_, ⟨k + 1, by omega, rfl⟩, hbf (by simp)⟩⟩
        · gi_wp2
          go_roundw
          case rel => exact ⟨k + 1, by omega, by simp, (hbt (by simp)).1, (hbt (by simp)).2⟩
          case measure => simp [intOf]; omega)
    · obtain rfl : k = ps.length := by omega
      gi_wp2
      go_end0
      exact ⟨⟨_, rfl⟩, .inl ⟨_, rfl, hJs⟩⟩
set_option maxRecDepth 100000 in
set_option maxHeartbeats 1000000 in
/-- .. of no points: no round. -/
theorem segs1_nil_in (n : Nat) (l Bs : Nat) (A : Option Addr) (cap : Nat) (J : List SegP → World → Prop) (W : World) (hBs : W.cell? ⟨Bs, 0, none⟩ = some (.slice A 0 cap)) (h0 : J [] W) :
    CallsIn Fence.wide n Try.prog 79 #[.func (.yield l) #[] #[], .pointer (some ⟨Bs, 0, none⟩)] W fun e W' => (∃ v, e = .returned v) ∧ J [] W' := by
  refine callsIn_of_wp Try.func79 rfl trivial ?_ rfl
  simp only [Try.ntmps79, List.size_toArray, List.length_cons, List.length_nil, Nat.reduceAdd, Nat.reduceSub, Array.replicate_succ, Array.replicate_zero, List.push_toArray, List.append_toArray, List.nil_append, List.cons_append]
  gi_wp2
  gi_loopw [7] (fun i wr => i = .int .i64 0 ∧ J [] wr) (fun _ _ => 0)
  case atStart => exact ⟨rfl, h0⟩
  case round =>
    obtain ⟨rfl, hJs⟩ := hrel
    gi_wp2
    go_end0
    exact ⟨⟨_, rfl⟩, hJs⟩
/-- The slice value sv holds the points ps, below n₀. -/
def HoldsP (n₀ : Nat) (W : World) (sv : Value) (ps : List P2) : Prop :=
  ∃ A cap, sv = .slice A ps.length cap ∧ (ps = [] ∨ ∃ b off, A = some ⟨b, off, none⟩ ∧ b < n₀ ∧ ∀ j, j < ps.length → W.cell? ⟨b, off + j * 2, none⟩ = some (.int .i64 (ps[j]?.getD (0, 0)).1) ∧ W.cell? ⟨b, off + j * 2 + 1, none⟩ = some (.int .i64 (ps[j]?.getD (0, 0)).2))
theorem HoldsP.below {n₀ : Nat} {X Y : World} (h : Below n₀ X Y) {sv : Value} {ps : List P2} : HoldsP n₀ X sv ps → HoldsP n₀ Y sv ps
  | ⟨A, cap, e, .inl h1⟩ => ⟨A, cap, e, .inl h1⟩
  | ⟨A, cap, e, .inr ⟨b, off, e1, hb, hc⟩⟩ => ⟨A, cap, e, .inr ⟨b, off, e1, hb, fun j hj => ⟨(h.cell (p := ⟨b, off + j * 2, none⟩) hb).trans (hc j hj).1, (h.cell (p := ⟨b, off + j * 2 + 1, none⟩) hb).trans (hc j hj).2⟩⟩⟩
theorem segs_stops (n : Nat) (hn : 1 ≤ n) (Bs n₀ : Nat) (sv : Value) (ps : List P2) (hlen : ps.length < 4611686018427387904) (w : World) (hBs : Bs < w.heap.size) (hn₀ : n₀ ≤ w.heap.size)
    (hc : w.cell? ⟨Bs, 0, none⟩ = some sv) (hI : HoldsP n₀ w sv ps) :
    SeqStopsK Fence.wide n Try.prog 79 #[.pointer (some ⟨Bs, 0, none⟩)] (fun x : SegP => #[ptV x.1, ptV x.2]) (KpS n₀ Bs) (fun ys => ys = upto (segAt ps) ps.length) (fun pre => ∃ k, k ≤ ps.length ∧ pre = upto (segAt ps) k) ps.length w := fun l J Jx W hW hJ _ hY h0 => by
  have hc' := (hW.cell (p := ⟨Bs, 0, none⟩) hBs).trans hc
  have hsz := hW.size
  obtain ⟨A, cap, rfl, hl⟩ := hI.below (hW.mono hn₀)
  rcases hl with rfl | ⟨b, off, rfl, hb, hcs⟩
  · exact (segs1_nil_in n l Bs A cap J W hc' h0).mono fun e W' ⟨he, hj⟩ => ⟨he, .inl ⟨[], rfl, hj⟩⟩
  · refine segs1_in n hn l Bs n₀ b off cap ps hlen hb J Jx (fun s X o h => ?_) (fun s X h => ?_) hY W hc' (by omega) (by omega) hcs h0
    · exact hJ s X _ none h (World.grownBy_alloc X o none) (fun r e => by cases e)
    · exact hJ s X _ none h ⟨rfl, rfl, rfl, Nat.le_refl _, fun _ _ _ => rfl⟩ (fun r e => by cases e)
end Go.Proofs.Ytmopbegmdegooaa
