/- The law SegGrids: true whatever the input. -/
import Derived.Test.YtmopbegmdegooaaGridsAll
namespace Go.Proofs.Ytmopbegmdegooaa
open Go Vm M
set_option linter.unusedVariables false
set_option linter.unusedSimpArgs false
noncomputable abbrev bodyGd2 : List AVal → List AObj → Res := evalC (cf N9) (evalF (cf N9) 9) ((lives.lookup 5).getD []) 0 0 9 (loopAt Try.f5 2)
noncomputable abbrev bodyGd1 : List AVal → List AObj → Res := evalC (cf N9) (evalF (cf N9) 9) ((lives.lookup 5).getD []) 0 0 9 (loopAt Try.f5 1)
noncomputable abbrev bodyGd0 : List AVal → List AObj → Res := evalC (cf N9) (evalF (cf N9) 9) ((lives.lookup 5).getD []) 0 0 9 (loopAt Try.f5 0)
section
variable (l0 l1 l2 l3 : P2)
/-- One point looked at. -/
theorem gd_inner {n e x y : Int} {s : Int × Int} (hy : y < 8) (hn : 0 ≤ n ∧ n ≤ 100) (he : 0 ≤ e ∧ e ≤ 100) (hy0 : 0 ≤ y) (hs : gStep l0 l1 l2 l3 (n, e) (x, y) = s) :
    roundC 0 bodyGd2 (gdT2 n e x y) (gdS l0 l1 l2 l3) = some (.normal, gdT2 s.1 s.2 x (y + 1), gdS l0 l1 l2 l3) := by
  have wr : ∀ m : Int, 0 ≤ m ∧ m ≤ 200 → IntKind.i64.wrap m = m := fun m h => IntWalk.i64_in m (by omega)
  have h := gdInner_eq n e x y l0 l1 l2 l3
  rw [h]
  subst hs
  unfold gdInner
  rw [decide_eq_true hy]
  rw [wr (n + 1) (by omega), wr (e + 1) (by omega), wr (y + 1) (by omega)]
  have eqx : ∀ p : P2, (x == p.1 && (fun r => y == p.2 && r) true) = eqB (x, y) p := fun p => rfl
  simp only [eqx, cond_true]
  unfold gStep
  obtain ⟨a0, b0⟩ := l0
  obtain ⟨a1, b1⟩ := l1
  obtain ⟨a2, b2⟩ := l2
  obtain ⟨a3, b3⟩ := l3
  simp only
  cases M.on (a0, b0) (a1, b1) (x, y) with
  | false => rfl
  | true =>
    cases M.on (a2, b2) (a3, b3) (x, y) with
    | false => rfl
    | true =>
      cases eqB (x, y) (a0, b0) <;> cases eqB (x, y) (a1, b1) <;> cases eqB (x, y) (a2, b2) <;> cases eqB (x, y) (a3, b3) <;> rfl
theorem gd_inner_end {n e x : Int} : roundC 0 bodyGd2 (gdT2 n e x 8) (gdS l0 l1 l2 l3) = some (.exit 4, gdT2E n e x 8, gdS l0 l1 l2 l3) := by
  have h := gdInner_eq n e x 8 l0 l1 l2 l3
  rw [h]
  rfl
/-- A column. -/
def colF : Nat → Int → List P2
  | 0, _ => []
  | k + 1, x => colF k x ++ [(x, (k : Int))]
def colB : Nat → Nat → Int → List P2
  | 0, _, _ => []
  | k + 1, y, x => (x, (y : Int)) :: colB k (y + 1) x
def gB (s : Int × Int) : Prop := (0 ≤ s.1 ∧ s.1 ≤ 100) ∧ 0 ≤ s.2 ∧ s.2 ≤ 100
theorem gStep_bound {s : Int × Int} {m : Nat} {p : P2} (h : (0 ≤ s.1 ∧ s.1 ≤ m) ∧ 0 ≤ s.2 ∧ s.2 ≤ m) : (0 ≤ (gStep l0 l1 l2 l3 s p).1 ∧ (gStep l0 l1 l2 l3 s p).1 ≤ (m + 1 : Nat)) ∧ 0 ≤ (gStep l0 l1 l2 l3 s p).2 ∧ (gStep l0 l1 l2 l3 s p).2 ≤ (m + 1 : Nat) := by
  unfold gStep
  split
  · refine ⟨⟨by simp only; omega, by simp only; omega⟩, ?_⟩
    simp only
    split <;> omega
  · omega
theorem gd_col (x : Int) : ∀ (k y : Nat) (s : Int × Int) (m : Nat), k + y = 8 → ((0 ≤ s.1 ∧ s.1 ≤ m) ∧ 0 ≤ s.2 ∧ s.2 ≤ m) → m + k ≤ 90 →
    At 0 bodyGd2 (k + 1) (gdT2 s.1 s.2 x y) (gdS l0 l1 l2 l3) (some (.exit 4, gdT2E ((colB k y x).foldl (gStep l0 l1 l2 l3) s).1 ((colB k y x).foldl (gStep l0 l1 l2 l3) s).2 x 8, gdS l0 l1 l2 l3))
  | 0, y, s, m, hk, hs, hm => by
    obtain rfl : y = 8 := by omega
    exact At.leave (gd_inner_end l0 l1 l2 l3) (by simp)
  | k + 1, y, s, m, hk, hs, hm => by
    have h := gd_inner l0 l1 l2 l3 (n := s.1) (e := s.2) (x := x) (y := y) (s := gStep l0 l1 l2 l3 s (x, (y : Int))) (by omega) (by omega) (by omega) (by omega) rfl
    refine At.step h ?_
    have := gd_col x k (y + 1) (gStep l0 l1 l2 l3 s (x, (y : Int))) (m + 1) (by omega) (gStep_bound l0 l1 l2 l3 hs) (by omega)
    simpa only [colB, List.foldl_cons, Int.natCast_add, Int.natCast_one] using this
theorem fold_bound : ∀ (L : List P2) (s : Int × Int) (m : Nat), ((0 ≤ s.1 ∧ s.1 ≤ m) ∧ 0 ≤ s.2 ∧ s.2 ≤ m) → (0 ≤ (L.foldl (gStep l0 l1 l2 l3) s).1 ∧ (L.foldl (gStep l0 l1 l2 l3) s).1 ≤ (m + L.length : Nat)) ∧ 0 ≤ (L.foldl (gStep l0 l1 l2 l3) s).2 ∧ (L.foldl (gStep l0 l1 l2 l3) s).2 ≤ (m + L.length : Nat)
  | [], s, m, h => by simpa using h
  | p :: L, s, m, h => by
    have := fold_bound L _ (m + 1) (gStep_bound l0 l1 l2 l3 (p := p) h)
    simp only [List.foldl_cons, List.length_cons]
    omega
theorem gd_outer {n e : Int} {x : Nat} {m : Nat} (hx : x < 8) (hs : (0 ≤ n ∧ n ≤ m) ∧ 0 ≤ e ∧ e ≤ m) (hm : m ≤ 80) :
    roundC 0 bodyGd1 (gdT n e x) (gdS l0 l1 l2 l3) = some (.normal, gdT ((colB 8 0 x).foldl (gStep l0 l1 l2 l3) (n, e)).1 ((colB 8 0 x).foldl (gStep l0 l1 l2 l3) (n, e)).2 ((x + 1 : Nat) : Int), gdS l0 l1 l2 l3) := by
  have hc := (gd_col l0 l1 l2 l3 x 8 0 (n, e) m (by omega) hs (by omega)).use (T := gdT2 n e x 0) (S := gdS l0 l1 l2 l3) (by rfl) (by kernel_rfl)
  have h := gdOuter_eq n e x _ _ 8 l0 l1 l2 l3 hc
  rw [h]
  unfold gdOuter
  rw [decide_eq_true (by omega : ((x : Int) < 8)), IntWalk.i64_in ((x : Int) + 1) (by omega)]
  rfl
theorem gd_outer_end {n e : Int} : roundC 0 bodyGd1 (gdT n e 8) (gdS l0 l1 l2 l3) = some (.exit 2, gdTE n e 8, gdS l0 l1 l2 l3) := by
  have hc := (gd_col l0 l1 l2 l3 8 8 0 (0, 0) 0 (by omega) (by simp) (by omega)).use (T := gdT2 0 0 8 0) (S := gdS l0 l1 l2 l3) (by rfl) (by kernel_rfl)
  exact roundP_ok (hs := []) (bs := [false]) (ls := []) (ob := [Plain (gdS l0 l1 l2 l3), decide ((8 : Int) < 8) = false]) (by kernel_rfl) (allOb_cons (by rfl) (allOb_cons (by rfl) allOb_nil))
def gridB : Nat → Nat → List P2
  | 0, _ => []
  | k + 1, x => colB 8 0 x ++ gridB k (x + 1)
theorem gd_grid : ∀ (k x : Nat) (s : Int × Int) (m : Nat), k + x = 8 → ((0 ≤ s.1 ∧ s.1 ≤ m) ∧ 0 ≤ s.2 ∧ s.2 ≤ m) → m + 8 * k ≤ 80 →
    At 0 bodyGd1 (k + 1) (gdT s.1 s.2 x) (gdS l0 l1 l2 l3) (some (.exit 2, gdTE ((gridB k x).foldl (gStep l0 l1 l2 l3) s).1 ((gridB k x).foldl (gStep l0 l1 l2 l3) s).2 8, gdS l0 l1 l2 l3))
  | 0, x, s, m, hk, hs, hm => by
    obtain rfl : x = 8 := by omega
    exact At.leave (gd_outer_end l0 l1 l2 l3) (by simp)
  | k + 1, x, s, m, hk, hs, hm => by
    refine At.step (gd_outer l0 l1 l2 l3 (by omega) hs (by omega)) ?_
    have hb := fold_bound l0 l1 l2 l3 (colB 8 0 x) s m hs
    have := gd_grid k (x + 1) ((colB 8 0 x).foldl (gStep l0 l1 l2 l3) s) (m + 8) (by omega) hb (by omega)
    simpa only [gridB, List.foldl_append] using this
end
def gBits (w e : Int) : Int := IntKind.i64.wrap ((BitVec.ofInt IntKind.i64.bits (w.fdiv (2 ^ min e.toNat IntKind.i64.bits)) &&& BitVec.ofInt IntKind.i64.bits 7).toNat : Nat)
def gPt (w i : Int) : P2 := (gBits w (IntKind.i64.wrap (6 * i)), gBits w (IntKind.i64.wrap (IntKind.i64.wrap (6 * i) + 3)))
def gi0 : Int := IntKind.i64.wrap (0 + 1)
def gi1' : Int := IntKind.i64.wrap (gi0 + 1)
def gi2' : Int := IntKind.i64.wrap (gi1' + 1)
def gi3' : Int := IntKind.i64.wrap (gi2' + 1)
theorem gBits_bound (w e : Int) : 0 ≤ gBits w e ∧ gBits w e < 8 := by
  unfold gBits
  have h : (BitVec.ofInt IntKind.i64.bits (w.fdiv (2 ^ min e.toNat IntKind.i64.bits)) &&& BitVec.ofInt IntKind.i64.bits 7).toNat ≤ 7 := by
    rw [BitVec.toNat_and]
    exact Nat.le_trans Nat.and_le_right (by decide)
  rw [IntWalk.i64_in _ (by omega)]
  omega
theorem gd_build (w : Int) : iterC 0 bodyGd0 9 ([iA w, .junk, .junk, .v (.slice none 0 0), iA 0] ++ jk 143) [] = some (.exit 0, gdE w gi3', gdS (gPt w 0) (gPt w gi0) (gPt w gi1') (gPt w gi2')) := by kernel_rfl
theorem mem_colB : ∀ (k y : Nat) (x : Int) (p : P2), p ∈ colB k y x ↔ p.1 = x ∧ (y : Int) ≤ p.2 ∧ p.2 < (y + k : Nat)
  | 0, y, x, p => by simp only [colB, List.not_mem_nil, false_iff]; omega
  | k + 1, y, x, p => by
    simp only [colB, List.mem_cons, mem_colB k (y + 1) x p]
    constructor
    · rintro (rfl | h)
      · exact ⟨rfl, Int.le_refl _, by show (y : Int) < (y + (k + 1) : Nat); omega⟩
      · omega
    · rintro ⟨h1, h2, h3⟩
      by_cases h : p.2 = y
      · exact .inl (Prod.ext h1 h)
      · exact .inr (by omega)
theorem mem_gridB : ∀ (k x : Nat) (p : P2), p ∈ gridB k x ↔ ((x : Int) ≤ p.1 ∧ p.1 < (x + k : Nat)) ∧ 0 ≤ p.2 ∧ p.2 < 8
  | 0, x, p => by simp only [gridB, List.not_mem_nil, false_iff]; omega
  | k + 1, x, p => by
    simp only [gridB, List.mem_append, mem_gridB k (x + 1) p, mem_colB]
    omega
theorem nodup_grid : (gridB 8 0).Nodup := by decide +kernel
theorem segGrids_calls (w : Int) : CallsP Try.prog 5 [iP w] (bP true) := by
  have b := fun e => gBits_bound w e
  generalize hl0 : gPt w 0 = l0
  generalize hl1 : gPt w gi0 = l1
  generalize hl2 : gPt w gi1' = l2
  generalize hl3 : gPt w gi2' = l3
  have hb := gd_build w
  rw [hl0, hl1, hl2, hl3] at hb
  have hm : ∀ i, gPt w i ∈ gridB 8 0 := by
    intro i
    rw [mem_gridB]
    have h1 := b (IntKind.i64.wrap (6 * i))
    have h2 := b (IntKind.i64.wrap (IntKind.i64.wrap (6 * i) + 3))
    unfold gPt
    simp only
    omega
  have hg := (gd_grid l0 l1 l2 l3 8 0 (0, 0) 0 (by omega) (by simp) (by omega)).use (T := gdT 0 0 0) (S := gdS l0 l1 l2 l3) (by rfl) (by kernel_rfl)
  generalize hne : (gridB 8 0).foldl (gStep l0 l1 l2 l3) (0, 0) = ne at hg
  obtain ⟨n, e⟩ := ne
  have told := grid_told nodup_grid (fun p hp => by
    rw [mem_gridB] at hp
    unfold inG
    omega) (hl0 ▸ hm _) (hl1 ▸ hm _) (hl2 ▸ hm _) (hl3 ▸ hm _) hne
  have h := gdAll_calls w gi3' n e 8 l0 l1 l2 l3 hb hg
  have e' : gdAll w gi3' n e 8 l0 l1 l2 l3 = bP true := by
    unfold gdAll
    obtain ⟨a0, b0⟩ := l0
    obtain ⟨a1, b1⟩ := l1
    obtain ⟨a2, b2⟩ := l2
    obtain ⟨a3, b3⟩ := l3
    rcases told with ⟨h1, h2⟩ | ⟨h1, h2, h3⟩ | ⟨h1, h2, h3⟩ | ⟨h1, h2, h3⟩ | ⟨h1, h2⟩
    · simp [h1, h2, bP]
    · simp [h1, h2, h3, bP]
    · simp [h1, h2, h3, bP]
    · simp [h1, h2, h3, bP]
    · simp [h1, h2, bP]
  rw [e'] at h
  exact h
end Go.Proofs.Ytmopbegmdegooaa
