/- The law RingShifts: what its code answers is true. -/
import Derived.Test.YtmopbegmdegooaaShifts2
import Derived.Test.YtmopbegmdegooaaShiftsN
namespace Go.Proofs.Ytmopbegmdegooaa
open Go Vm M
set_option linter.unusedVariables false
set_option linter.unusedSimpArgs false
/-- Numbers far from what a number can hold. -/
def small (p : P2) : Prop := (-20000 ≤ p.1 ∧ p.1 ≤ 20000) ∧ (-20000 ≤ p.2 ∧ p.2 ≤ 20000)
theorem small.inG {p : P2} (h : small p) : inG p := by
  obtain ⟨⟨h1, h2⟩, h3, h4⟩ := h
  exact ⟨⟨by omega, by omega⟩, by omega, by omega⟩
theorem cross_bound {x : SegP} (h1 : small x.1) (h2 : small x.2) : -800000000 ≤ cross x ∧ cross x ≤ 800000000 := by
  obtain ⟨⟨a1, a2⟩, a3, a4⟩ := h1
  obtain ⟨⟨b1, b2⟩, b3, b4⟩ := h2
  have m1 := mul_bound (A := 20000) (B := 20000) a1 a2 b3 b4
  have m2 := mul_bound (A := 20000) (B := 20000) a3 a4 b1 b2
  unfold cross
  omega
theorem segStep_eq {s : Int} {x : SegP} (h1 : small x.1) (h2 : small x.2) (hs : -1000000000000 ≤ s ∧ s ≤ 1000000000000) : segStep s x = s + cross x := by
  have hc := cross_bound h1 h2
  have g1 := h1.inG
  have g2 := h2.inG
  obtain ⟨⟨a1, a2⟩, a3, a4⟩ := h1
  obtain ⟨⟨b1, b2⟩, b3, b4⟩ := h2
  have m1 := mul_bound (A := 20000) (B := 20000) a1 a2 b3 b4
  have m2 := mul_bound (A := 20000) (B := 20000) a3 a4 b1 b2
  unfold segStep
  unfold cross at hc ⊢
  rw [nearP_id g1, nearP_id g2]
  rw [IntWalk.i64_in (x.1.1 * x.2.2) (by omega), IntWalk.i64_in (x.1.2 * x.2.1) (by omega), IntWalk.i64_in (x.1.1 * x.2.2 - x.1.2 * x.2.1) (by omega), IntWalk.i64_in _ (by omega)]
theorem segFold_eq : ∀ (xs : List SegP) (s B : Int), (∀ x ∈ xs, small x.1 ∧ small x.2) → -B ≤ s → s ≤ B → B + 800000000 * (xs.length : Int) ≤ 900000000000 → xs.foldl segStep s = s + sumC xs := by
  intro xs
  induction xs with
  | nil => intro s B _ _ _ _; simp [sumC]
  | cons x xs ih =>
    intro s B h h1 h2 hk
    have hx := h x (by simp)
    have hc := cross_bound hx.1 hx.2
    have hl : ((x :: xs).length : Int) = (xs.length : Int) + 1 := by simp
    rw [hl] at hk
    have e := segStep_eq hx.1 hx.2 (s := s) ⟨by omega, by omega⟩
    have := ih (s + cross x) (B + 800000000) (fun y hy => h y (by simp [hy])) (by omega) (by omega) (by omega)
    rw [List.foldl_cons, e, this, sumC_cons]
    omega
theorem ringS_length (ps : List P2) : (ringS ps).length = ps.length := by rw [← segs_eq, upto_length]
theorem areaP_eq {ps : List P2} (h : ∀ q ∈ ps, small q) (hl : ps.length ≤ 1000) : areaP ps = sumC (ringS ps) := by
  unfold areaP
  split
  · rename_i h3
    rw [ringS_short h3]
  · rw [segs_eq]
    unfold segSum
    rw [segFold_eq (ringS ps) 0 0 (fun x hx => ⟨h _ (ringS_mem hx).1, h _ (ringS_mem hx).2⟩) (by omega) (by omega) (by rw [ringS_length]; omega)]
    omega
theorem insideP_eq (ps : List P2) (p : P2) : insideP ps p = insideS (ringS ps) p := by
  unfold insideP
  rw [segs_eq]
theorem rsC_eq (al : List P2) (s : Nat) (h : 0 < al.length) : rsC al s al.length = al.drop (s % al.length) ++ al.take (s % al.length) := by
  have hm := Nat.mod_lt s h
  apply List.ext_getElem?
  intro i
  by_cases hi : i < al.length
  · have h1 : (rsC al s al.length)[i]? = some (al[(i + s) % al.length]?.getD (0, 0)) := by
      unfold rsC
      rw [List.getElem?_map, List.getElem?_range hi]
      rfl
    have e : (i + s) % al.length = (i + s % al.length) % al.length := by rw [Nat.add_mod, Nat.mod_eq_of_lt hi]
    rw [h1, e]
    generalize s % al.length = m at *
    by_cases h2 : i + m < al.length
    · rw [Nat.mod_eq_of_lt h2, List.getElem?_append_left (by simp; omega), List.getElem?_drop, Nat.add_comm m i, List.getElem?_eq_getElem h2]
      rfl
    · have e2 : (i + m) % al.length = i + m - al.length := by
        rw [Nat.mod_eq_sub_mod (by omega), Nat.mod_eq_of_lt (by omega)]
      rw [e2, List.getElem?_append_right (by simp; omega), List.length_drop, List.getElem?_take, if_pos (by omega)]
      rw [show i - (al.length - m) = i + m - al.length by omega, List.getElem?_eq_getElem (by omega)]
      rfl
  · rw [List.getElem?_eq_none (by rw [rsC_length]; omega), List.getElem?_eq_none (by simp; omega)]
theorem tmod_bound (a : Int) (n : Nat) (h : 0 < n) : -(n : Int) < a.tmod n ∧ a.tmod n < n := by
  have h1 := Int.tmod_lt_of_pos a (b := (n : Int)) (by omega)
  have h2 := Int.tmod_lt_of_pos (-a) (b := (n : Int)) (by omega)
  rw [Int.neg_tmod] at h2
  omega
theorem ringShifts_calls (ps : List P2) (p : P2) (dx dy f : Int) : CallsP Try.prog 6 [slP ps, ptP p, iP dx, iP dy, iP f] (bP true) := by
  by_cases h60 : ps.length > 60
  · exact rsLong ps p dx dy f h60
  · by_cases h1 : 1 ≤ ps.length
    · obtain ⟨s, hs⟩ : ∃ s : Nat, and255 f = (s : Int) := ⟨(and255 f).toNat, by have := and255_bound f; omega⟩
      have bx : -10000 < dx.tmod 10000 ∧ dx.tmod 10000 < 10000 := tmod_bound dx 10000 (by omega)
      have bb : -10000 < dy.tmod 10000 ∧ dy.tmod 10000 < 10000 := tmod_bound dy 10000 (by omega)
      have hl0 := sh_loop0 ps f (dx.tmod 10000) (dy.tmod 10000) p (by omega) h1
      generalize hal : rsA ps ps.length = al at hl0
      have hla : al.length = ps.length := by rw [← hal]; exact rsA_length (Nat.le_refl _)
      have hbl : rsB (dx.tmod 10000) (dy.tmod 10000) ps ps.length = al.map (rsMv (dx.tmod 10000) (dy.tmod 10000)) := by unfold rsB; rw [hal]
      rw [hbl] at hl0
      have hl1 := sc_loop1 f (dx.tmod 10000) (dy.tmod 10000) p al (al.map (rsMv (dx.tmod 10000) (dy.tmod 10000))) hla h1 (by omega) hs
      have hlb : (al.map (rsMv (dx.tmod 10000) (dy.tmod 10000))).length = ps.length := by simp [hla]
      have hlc : (rsC al s ps.length).length = ps.length := rsC_length _ _ _
      have hsm : ∀ q ∈ al, (-100 < q.1 ∧ q.1 < 100) ∧ (-100 < q.2 ∧ q.2 < 100) := by
        intro q hq
        rw [← hal] at hq
        unfold rsA at hq
        rw [List.mem_map] at hq
        obtain ⟨r, _, rfl⟩ := hq
        exact ⟨tmod_bound r.1 100 (by omega), tmod_bound r.2 100 (by omega)⟩
      have hmv : ∀ q : P2, ((-100 < q.1 ∧ q.1 < 100) ∧ (-100 < q.2 ∧ q.2 < 100)) → rsMv (dx.tmod 10000) (dy.tmod 10000) q = (q.1 + dx.tmod 10000, q.2 + dy.tmod 10000) := by
        intro q hq
        unfold rsMv
        rw [IntWalk.i64_in _ (by omega), IntWalk.i64_in _ (by omega)]
      have hmap : al.map (rsMv (dx.tmod 10000) (dy.tmod 10000)) = al.map fun q => (q.1 + dx.tmod 10000, q.2 + dy.tmod 10000) := List.map_congr_left fun q hq => hmv q (hsm q hq)
      have hp1 : (-100 < (rsP1 p).1 ∧ (rsP1 p).1 < 100) ∧ (-100 < (rsP1 p).2 ∧ (rsP1 p).2 < 100) := ⟨tmod_bound p.1 100 (by omega), tmod_bound p.2 100 (by omega)⟩
      have hq1 : rsQ1 p (dx.tmod 10000) (dy.tmod 10000) = ((rsP1 p).1 + dx.tmod 10000, (rsP1 p).2 + dy.tmod 10000) := hmv (rsP1 p) hp1
      have hrot : rsC al s ps.length = al.drop (s % al.length) ++ al.take (s % al.length) := by rw [← hla]; exact rsC_eq al s (by omega)
      have sA : ∀ q ∈ al, small q := fun q hq => by
        have := hsm q hq
        exact ⟨⟨by omega, by omega⟩, by omega, by omega⟩
      have k2 : insideP (al.map (rsMv (dx.tmod 10000) (dy.tmod 10000))) (rsQ1 p (dx.tmod 10000) (dy.tmod 10000)) = insideP al (rsP1 p) := by
        rw [insideP_eq, insideP_eq, hmap, hq1]
        refine inside_move (fun q hq => ?_) ⟨⟨⟨by omega, by omega⟩, by omega, by omega⟩, ⟨by simp only; omega, by simp only; omega⟩, by simp only; omega, by simp only; omega⟩
        have := hsm q hq
        exact ⟨⟨⟨by omega, by omega⟩, by omega, by omega⟩, ⟨by simp only; omega, by simp only; omega⟩, by simp only; omega, by simp only; omega⟩
      have k3 : insideP (rsC al s ps.length) (rsP1 p) = insideP al (rsP1 p) := by
        rw [insideP_eq, insideP_eq, hrot, inside_rot, List.take_append_drop]
      have k4 : areaP (al.map (rsMv (dx.tmod 10000) (dy.tmod 10000))) = areaP al := by
        rw [areaP_eq sA (by omega), areaP_eq (fun q hq => ?_) (by omega), hmap, sumC_move]
        rw [hmap, List.mem_map] at hq
        obtain ⟨r, hr, rfl⟩ := hq
        have := hsm r hr
        exact ⟨⟨by simp only; omega, by simp only; omega⟩, by simp only; omega, by simp only; omega⟩
      have k6 : areaP (rsC al s ps.length) = areaP al := by
        rw [areaP_eq sA (by omega), areaP_eq (fun q hq => ?_) (by omega), hrot, sumC_perm (ringS_rot _ _), List.take_append_drop]
        rw [hrot, List.mem_append] at hq
        exact sA q (hq.elim List.mem_of_mem_drop List.mem_of_mem_take)
      generalize hbq : al.map (rsMv (dx.tmod 10000) (dy.tmod 10000)) = bl at hl0 hl1 hlb k2 k4
      generalize hcq : rsC al s ps.length = cl at hl1 hlc k3 k6
      have b62 : ∀ l : List P2, l.length = ps.length → l.length < 4611686018427387904 := fun l h => by omega
      have cI : ∀ (l : List P2) (q : P2) (S S' : List AObj) (o : Nat) (fz : Option Nat), l.length = ps.length → S[o]? = some (.row 2 0 fz (flatP l)) → S.set o (.row 2 0 (some (flatP l).length) (flatP l)) = S' → callA (cf R3) (evalF (cf R3) 61) 0 22 [.row o 0 2 0 ps.length, ptA q] S = some (iA (insideP l q), S') := by
        intro l q S S' o fz hl hS hS'
        have := callA_rowPt (c := cf R3) (ev := evalF (cf R3) 61) (F := 22) (p := q) (r := iP (insideP l q)) (g := gSPb fun ps p => iP (insideP ps p)) rfl rfl rfl hS (gSPb_slP _ q (b62 l hl))
        rw [hl, hS'] at this
        exact this
      have cA : ∀ (l : List P2) (S S' : List AObj) (o : Nat) (fz : Option Nat), l.length = ps.length → S[o]? = some (.row 2 0 fz (flatP l)) → S.set o (.row 2 0 (some (flatP l).length) (flatP l)) = S' → callA (cf R3) (evalF (cf R3) 61) 0 23 [.row o 0 2 0 ps.length] S = some (iA (areaP l), S') := by
        intro l S S' o fz hl hS hS'
        have := callA_row (c := cf R3) (ev := evalF (cf R3) 61) (F := 23) (r := iP (areaP l)) (g := gSb fun ps => iP (areaP ps)) rfl rfl rfl hS (gSb_slP _ (b62 l hl))
        rw [hl, hS'] at this
        exact this
      have h := rsAll_calls ps al bl cl dx dy f ps.length ps.length (insideP al (rsP1 p)) (insideP bl (rsQ1 p (dx.tmod 10000) (dy.tmod 10000))) (insideP cl (rsP1 p)) (areaP bl) (areaP al) (areaP cl) (areaP al) ps.length ps.length p hl0 hl1
        (cI al _ _ _ 16 none hla rfl rfl) (cI bl _ _ _ 35 none hlb rfl rfl) (cI cl _ _ _ 2 none hlc rfl rfl) (cA bl _ _ 35 _ hlb rfl rfl) (cA al _ _ 16 _ hla rfl rfl) (cA cl _ _ 2 _ hlc rfl rfl) (cA al _ _ 16 _ hla rfl rfl)
      have e : rsAll ps al bl cl dx dy f ps.length ps.length (insideP al (rsP1 p)) (insideP bl (rsQ1 p (dx.tmod 10000) (dy.tmod 10000))) (insideP cl (rsP1 p)) (areaP bl) (areaP al) (areaP cl) (areaP al) ps.length ps.length p = bP true := by
        unfold rsAll
        rw [k2, k3, k4, k6]
        simp [bP]
      rw [e] at h
      exact h
    · obtain rfl : ps = [] := List.eq_nil_of_length_eq_zero (by omega)
      exact rsNil_all p dx dy f
end Go.Proofs.Ytmopbegmdegooaa
