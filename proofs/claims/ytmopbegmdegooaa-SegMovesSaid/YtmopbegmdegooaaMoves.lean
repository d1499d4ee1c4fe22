/- The law SegMoves: what its code answers. -/
import Derived.Test.YtmopbegmdegooaaSegMath
namespace Go.Proofs.Ytmopbegmdegooaa
open Go Vm M
set_option linter.unusedVariables false
set_option linter.unusedSimpArgs false
def mvT (dx dy i : Int) : List AVal := jk 4 ++ [iA dx, iA dy] ++ jk 7 ++ [.row 4 0 2 0 4, .ptr 5 0 0, .ptr 6 0 0, .ptr 7 0 0, iA i] ++ jk 125
def mvE (dx dy i : Int) : List AVal := jk 4 ++ [iA dx, iA dy] ++ jk 7 ++ [.row 4 0 2 0 4, .ptr 5 0 0, .ptr 6 0 0, .ptr 7 0 0, iA i] ++ jk 7 ++ [bA false] ++ jk 117
def mvS (l0 l1 l2 l3 m0 m1 m2 m3 n0 n1 n2 n3 o0 o1 o2 o3 : P2) : List AObj := [.free, .free, .free, .free, .row 2 0 none (flatP [l0, l1, l2, l3]), .box (flatP [m0, m1, m2, m3]), .box (flatP [n0, n1, n2, n3]), .box (flatP [o0, o1, o2, o3])]
def mdP (p : P2) : P2 := (p.1.tmod 100, p.2.tmod 100)
def mvP (dx dy : Int) (p : P2) : P2 := (IntKind.i64.wrap (p.1 + dx.tmod 10000), IntKind.i64.wrap (p.2 + dy.tmod 10000))
def swP (p : P2) : P2 := (p.2, p.1)
def rtP (p : P2) : P2 := (IntKind.i64.wrap (0 - p.2), p.1)
noncomputable abbrev bodyMv (ev : Ev) : List AVal → List AObj → Res := evalC (cf L7) ev ((lives.lookup 3).getD []) 0 0 8 (loopAt Try.f3 0)
section
variable (ev : Ev) (dx dy : Int) (l0 l1 l2 l3 m0 m1 m2 m3 n0 n1 n2 n3 o0 o1 o2 o3 : P2)
theorem mv_canon (i : Int) (k : Nat) (h : k = 0 ∨ k = 66) : canon 0 (mvT dx dy i) (mvS l0 l1 l2 l3 m0 m1 m2 m3 n0 n1 n2 n3 o0 o1 o2 o3 ++ List.replicate k .free) = some (mvT dx dy i, mvS l0 l1 l2 l3 m0 m1 m2 m3 n0 n1 n2 n3 o0 o1 o2 o3) := by
  rcases h with rfl | rfl
  · exact canon_eq (by rfl) (by kernel_rfl)
  · exact canon_eq (by rfl) (by kernel_rfl)
theorem mv_round0 : bodyMv ev (mvT dx dy 0) (mvS l0 l1 l2 l3 m0 m1 m2 m3 n0 n1 n2 n3 o0 o1 o2 o3) = some (.normal, mvT dx dy (IntKind.i64.wrap (0 + 1)), mvS (mdP l0) l1 l2 l3 (mvP dx dy (mdP l0)) m1 m2 m3 (swP (mdP l0)) n1 n2 n3 (rtP (mdP l0)) o1 o2 o3 ++ List.replicate 66 .free) :=
  pathP_ok (hs := []) (bs := [true]) (ls := []) (ob := [true = true]) (by kernel_rfl) (allOb_cons rfl allOb_nil)
theorem mv_round1 : bodyMv ev (mvT dx dy 1) (mvS l0 l1 l2 l3 m0 m1 m2 m3 n0 n1 n2 n3 o0 o1 o2 o3) = some (.normal, mvT dx dy (IntKind.i64.wrap (1 + 1)), mvS l0 (mdP l1) l2 l3 m0 (mvP dx dy (mdP l1)) m2 m3 n0 (swP (mdP l1)) n2 n3 o0 (rtP (mdP l1)) o2 o3 ++ List.replicate 66 .free) :=
  pathP_ok (hs := []) (bs := [true]) (ls := []) (ob := [true = true]) (by kernel_rfl) (allOb_cons rfl allOb_nil)
theorem mv_round2 : bodyMv ev (mvT dx dy 2) (mvS l0 l1 l2 l3 m0 m1 m2 m3 n0 n1 n2 n3 o0 o1 o2 o3) = some (.normal, mvT dx dy (IntKind.i64.wrap (2 + 1)), mvS l0 l1 (mdP l2) l3 m0 m1 (mvP dx dy (mdP l2)) m3 n0 n1 (swP (mdP l2)) n3 o0 o1 (rtP (mdP l2)) o3 ++ List.replicate 66 .free) :=
  pathP_ok (hs := []) (bs := [true]) (ls := []) (ob := [true = true]) (by kernel_rfl) (allOb_cons rfl allOb_nil)
theorem mv_round3 : bodyMv ev (mvT dx dy 3) (mvS l0 l1 l2 l3 m0 m1 m2 m3 n0 n1 n2 n3 o0 o1 o2 o3) = some (.normal, mvT dx dy (IntKind.i64.wrap (3 + 1)), mvS l0 l1 l2 (mdP l3) m0 m1 m2 (mvP dx dy (mdP l3)) n0 n1 n2 (swP (mdP l3)) o0 o1 o2 (rtP (mdP l3)) ++ List.replicate 66 .free) :=
  pathP_ok (hs := []) (bs := [true]) (ls := []) (ob := [true = true]) (by kernel_rfl) (allOb_cons rfl allOb_nil)
theorem mv_end : bodyMv ev (mvT dx dy 4) (mvS l0 l1 l2 l3 m0 m1 m2 m3 n0 n1 n2 n3 o0 o1 o2 o3) = some (.exit 0, mvE dx dy 4, mvS l0 l1 l2 l3 m0 m1 m2 m3 n0 n1 n2 n3 o0 o1 o2 o3) :=
  pathP_ok (hs := []) (bs := [false]) (ls := []) (ob := [false = false]) (by kernel_rfl) (allOb_cons rfl allOb_nil)
end
theorem mv_loop (ev : Ev) (dx dy : Int) (a b c d : P2) :
    iterC 0 (bodyMv ev) 8 (mvT dx dy 0) [.box (cellsP a), .box (cellsP b), .box (cellsP c), .box (cellsP d), .row 2 0 none (flatP [a, b, c, d]), .box (flatP [(0, 0), (0, 0), (0, 0), (0, 0)]), .box (flatP [(0, 0), (0, 0), (0, 0), (0, 0)]), .box (flatP [(0, 0), (0, 0), (0, 0), (0, 0)])] =
      some (.exit 0, mvE dx dy 4, mvS (mdP a) (mdP b) (mdP c) (mdP d) (mvP dx dy (mdP a)) (mvP dx dy (mdP b)) (mvP dx dy (mdP c)) (mvP dx dy (mdP d)) (swP (mdP a)) (swP (mdP b)) (swP (mdP c)) (swP (mdP d)) (rtP (mdP a)) (rtP (mdP b)) (rtP (mdP c)) (rtP (mdP d))) := by
  have w : ∀ n : Int, -10 ≤ n ∧ n ≤ 10 → IntKind.i64.wrap n = n := fun n h => IntWalk.i64_in n (by omega)
  have e0 : canon 0 (mvT dx dy 0) [.box (cellsP a), .box (cellsP b), .box (cellsP c), .box (cellsP d), .row 2 0 none (flatP [a, b, c, d]), .box (flatP [(0, 0), (0, 0), (0, 0), (0, 0)]), .box (flatP [(0, 0), (0, 0), (0, 0), (0, 0)]), .box (flatP [(0, 0), (0, 0), (0, 0), (0, 0)])] =
      some (mvT dx dy 0, mvS a b c d (0, 0) (0, 0) (0, 0) (0, 0) (0, 0) (0, 0) (0, 0) (0, 0) (0, 0) (0, 0) (0, 0) (0, 0)) := canon_eq (by rfl) (by kernel_rfl)
  rw [iterC_round e0 (mv_round0 ev dx dy ..), w (0 + 1) (by omega), show (0 : Int) + 1 = 1 by rfl,
    iterC_round (mv_canon dx dy _ _ _ _ _ _ _ _ _ _ _ _ _ _ _ _ 1 66 (.inr rfl)) (mv_round1 ev dx dy ..), w (1 + 1) (by omega), show (1 : Int) + 1 = 2 by rfl,
    iterC_round (mv_canon dx dy _ _ _ _ _ _ _ _ _ _ _ _ _ _ _ _ 2 66 (.inr rfl)) (mv_round2 ev dx dy ..), w (2 + 1) (by omega), show (2 : Int) + 1 = 3 by rfl,
    iterC_round (mv_canon dx dy _ _ _ _ _ _ _ _ _ _ _ _ _ _ _ _ 3 66 (.inr rfl)) (mv_round3 ev dx dy ..), w (3 + 1) (by omega), show (3 : Int) + 1 = 4 by rfl]
  exact iterC_leave (mv_canon dx dy _ _ _ _ _ _ _ _ _ _ _ _ _ _ _ _ 4 66 (.inr rfl)) (mv_end ev dx dy ..) (by simp) (canon_eq (by rfl) (by kernel_rfl))
theorem tmod_bound (x : Int) (n : Int) (hn : 0 < n) : -n < x.tmod n ∧ x.tmod n < n := by
  have h1 := Int.tmod_lt_of_pos x hn
  have h2 : -n < x.tmod n := by
    have := Int.tmod_lt_of_pos (-x) hn
    rw [Int.neg_tmod] at this
    omega
  exact ⟨h2, h1⟩
theorem moves_eq (a b c d : P2) (dx dy : Int) :
    relate (mvP dx dy (mdP a)) (mvP dx dy (mdP b)) (mvP dx dy (mdP c)) (mvP dx dy (mdP d)) = relate (mdP a) (mdP b) (mdP c) (mdP d) ∧
    relate (swP (mdP a)) (swP (mdP b)) (swP (mdP c)) (swP (mdP d)) = relate (mdP a) (mdP b) (mdP c) (mdP d) ∧
    relate (rtP (mdP a)) (rtP (mdP b)) (rtP (mdP c)) (rtP (mdP d)) = relate (mdP a) (mdP b) (mdP c) (mdP d) := by
  have hb : ∀ p : P2, (-100 < (mdP p).1 ∧ (mdP p).1 < 100) ∧ (-100 < (mdP p).2 ∧ (mdP p).2 < 100) := fun p => ⟨tmod_bound p.1 100 (by omega), tmod_bound p.2 100 (by omega)⟩
  have hx := tmod_bound dx 10000 (by omega)
  have hy := tmod_bound dy 10000 (by omega)
  have hin : ∀ x ∈ [mdP a, mdP b, mdP c, mdP d], (-100 < x.1 ∧ x.1 < 100) ∧ (-100 < x.2 ∧ x.2 < 100) := by
    intro x hx
    simp only [List.mem_cons, List.not_mem_nil, or_false] at hx
    rcases hx with rfl | rfl | rfl | rfl <;> exact hb _
  have hG : ∀ x ∈ [mdP a, mdP b, mdP c, mdP d], inG x := fun x hx => by
    obtain ⟨h1, h2⟩ := hin x hx
    exact ⟨by omega, by omega⟩
  have em : ∀ p : P2, mvP dx dy (mdP p) = ((mdP p).1 + dx.tmod 10000, (mdP p).2 + dy.tmod 10000) := fun p => by
    obtain ⟨h1, h2⟩ := hb p
    unfold mvP
    rw [IntWalk.i64_in _ (by omega), IntWalk.i64_in _ (by omega)]
  have er : ∀ p : P2, rtP (mdP p) = (0 - (mdP p).2, (mdP p).1) := fun p => by
    obtain ⟨h1, h2⟩ := hb p
    unfold rtP
    rw [IntWalk.i64_in _ (by omega)]
  refine ⟨?_, relate_swap hG, ?_⟩
  · rw [em, em, em, em]
    refine relate_move fun x hx => ⟨hG x hx, ?_⟩
    obtain ⟨h1, h2⟩ := hin x hx
    exact ⟨by simp only; omega, by simp only; omega⟩
  · rw [er, er, er, er]
    exact relate_turn hG
theorem segMoves_calls (a b c d : P2) (dx dy : Int) : CallsP Try.prog 3 [ptP a, ptP b, ptP c, ptP d, iP dx, iP dy] (bP true) := by
  obtain ⟨h1, h2, h3⟩ := moves_eq a b c d dx dy
  have hl := mv_loop (evalF (cf L7) 8) dx dy a b c d
  exact callP_ok (cf_ok L7) (k := 8) (hs := []) (f := 3) (ps := [ptP a, ptP b, ptP c, ptP d, iP dx, iP dy]) (bs := [true, true, true])
    (ls := [(.exit 0, mvE dx dy 4, mvS (mdP a) (mdP b) (mdP c) (mdP d) (mvP dx dy (mdP a)) (mvP dx dy (mdP b)) (mvP dx dy (mdP c)) (mvP dx dy (mdP d)) (swP (mdP a)) (swP (mdP b)) (swP (mdP c)) (swP (mdP d)) (rtP (mdP a)) (rtP (mdP b)) (rtP (mdP c)) (rtP (mdP d)))]) (out := none)
    (ob := [(relate (rtP (mdP a)) (rtP (mdP b)) (rtP (mdP c)) (rtP (mdP d)) == relate (mdP a) (mdP b) (mdP c) (mdP d)) = true,
      (relate (swP (mdP a)) (swP (mdP b)) (swP (mdP c)) (swP (mdP d)) == relate (mdP a) (mdP b) (mdP c) (mdP d)) = true,
      (relate (mvP dx dy (mdP a)) (mvP dx dy (mdP b)) (mvP dx dy (mdP c)) (mvP dx dy (mdP d)) == relate (mdP a) (mdP b) (mdP c) (mdP d)) = true,
      iterC 0 (bodyMv (evalF (cf L7) 8)) 8 (mvT dx dy 0) [.box (cellsP a), .box (cellsP b), .box (cellsP c), .box (cellsP d), .row 2 0 none (flatP [a, b, c, d]), .box (flatP [(0, 0), (0, 0), (0, 0), (0, 0)]), .box (flatP [(0, 0), (0, 0), (0, 0), (0, 0)]), .box (flatP [(0, 0), (0, 0), (0, 0), (0, 0)])] =
        some (.exit 0, mvE dx dy 4, mvS (mdP a) (mdP b) (mdP c) (mdP d) (mvP dx dy (mdP a)) (mvP dx dy (mdP b)) (mvP dx dy (mdP c)) (mvP dx dy (mdP d)) (swP (mdP a)) (swP (mdP b)) (swP (mdP c)) (swP (mdP d)) (rtP (mdP a)) (rtP (mdP b)) (rtP (mdP c)) (rtP (mdP d)))])
    (by kernel_rfl) (allOb_cons (by rw [h3]; simp) (allOb_cons (by rw [h2]; simp) (allOb_cons (by rw [h1]; simp) (allOb_cons (by exact hl) allOb_nil))))
end Go.Proofs.Ytmopbegmdegooaa
