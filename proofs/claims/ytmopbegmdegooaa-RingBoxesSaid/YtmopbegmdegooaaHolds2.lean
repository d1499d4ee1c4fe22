/- ring.Holds: whether all points lie within. -/
import Derived.Test.YtmopbegmdegooaaHolds
import Derived.Test.YtmopbegmdegooaaShifts2
namespace Go.Proofs.Ytmopbegmdegooaa
open Go Vm M
set_option linter.unusedVariables false
set_option linter.unusedSimpArgs false
theorem callA_m1 {c : Cfg} {ev : Ev} {lo : Nat} {F : FuncId} {args : List AVal} {S S' : List AObj} {r : AVal} {p : PVal} (h0 : c.givenS F = none) (hm : c.mode F = 1) (he : ev S.length F args S = some (r, S')) (hp : peek (Vm.mark S.length deep S' r) deep r = some p) : callA c ev lo F args S = some (up p, S) := by
  unfold callA
  simp only [h0, hm, he, hp, Option.map_some]
def badP (ls : List P2) (q : P2) : Bool := insideP ls q != 1
theorem ho_in (ls : List P2) (q : P2) (hl : ls.length < 4611686018427387904) : callA (cfB R3) (evalF (cfB R3) 200) 1 22 [slA ls, ptA q] [.box [slA ls], .box (cellsP q)] = some (iA (insideP ls q), [.box [slA ls], .box (cellsP q)]) :=
  callA_given (ps := [slP ls, ptP q]) (r := iP (insideP ls q)) (g := gSPb fun ps p => iP (insideP ps p)) rfl rfl rfl rfl rfl (gSPb_slP _ q hl)
theorem ho_c58 (ls : List P2) (q : P2) (hl : ls.length < 4611686018427387904) : callA (cfB R3) (evalF (cfB R3) 201) 1 58 [ptA q, .ptr 0 0 0] (hoS ls) = some (bA (badP ls q), hoS ls) :=
  callA_m1 (p := bP (badP ls q)) rfl rfl (ho58_eq ls q _ (ho_in ls q hl)) rfl
noncomputable abbrev bodyHo : List AVal → List AObj → Res := evalC (cfB R3) (evalF (cfB R3) 201) ((lives.lookup 80).getD []) 1 1 201 (loopAt Try.f80 0)
theorem ho_loop (ls ms : List P2) (hl : ls.length < 4611686018427387904) (h200 : ms.length ≤ 200) : ∀ (d k : Nat), k + d = ms.length →
    (∃ j : Nat, At 1 bodyHo (d + 1) (hoT ms k) (hoS ls) (some (.ret, hoR j, hoS ls)) ∧ (ms.drop k).any (badP ls) = true) ∨ (At 1 bodyHo (d + 1) (hoT ms k) (hoS ls) (some (.exit 0, hoE ms ms.length, hoS ls)) ∧ (ms.drop k).any (badP ls) = false)
  | 0, k, hk => by
    obtain rfl : k = ms.length := by omega
    refine .inr ⟨At.leave (x := .exit 0) ?_ (by simp), by simp⟩
    exact roundP_ok (hs := []) (bs := [false]) (ls := []) (ob := [Plain (hoS ls), decide ((ms.length : Int) < (ms.length : Int)) = false]) (by kernel_rfl) (allOb_cons (by rfl) (allOb_cons (decide_eq_false (by omega)) allOb_nil))
  | d + 1, k, hk => by
    have hlt : k < ms.length := by omega
    have hq : ms[k]? = some ms[k] := List.getElem?_eq_getElem hlt
    have hd : ms.drop k = ms[k] :: ms.drop (k + 1) := List.drop_eq_getElem_cons hlt
    have hpart : partA Try.prog 23 (upL ((flatPP ms).drop ((k : Int).toNat * 2))) 0 = some (ptA ms[k]) := by
      rw [Int.toNat_natCast, flatPP_drop, upL_flatPP, hd]
      unfold partA
      rw [agg23, sz23]
      simp [flatP, ptA]
    have h := ho80r_eq ls ms k ms[k] (badP ls ms[k]) ⟨by omega, by omega, by omega, flatPP_length ms⟩ hpart (ho_c58 ls ms[k] hl)
    unfold ho80r at h
    rw [decide_eq_true (by omega : (k : Int) < (ms.length : Int))] at h
    cases hb : badP ls ms[k] with
    | true =>
      rw [hb] at h
      refine .inl ⟨k, (At.leave (x := .ret) h (by simp)) , by rw [hd, List.any_cons, hb]; rfl⟩
    | false =>
      rw [hb, IntWalk.i64_in ((k : Int) + 1) (by omega)] at h
      have h' : roundC 1 bodyHo (hoT ms k) (hoS ls) = some (.normal, hoT ms (k + 1 : Nat), hoS ls) := h
      rcases ho_loop ls ms hl h200 d (k + 1) (by omega) with ⟨j, h1, h2⟩ | ⟨h1, h2⟩
      · exact .inl ⟨j, At.step h' h1, by rw [hd, List.any_cons, hb]; exact h2⟩
      · exact .inr ⟨At.step h' h1, by rw [hd, List.any_cons, hb]; exact h2⟩
theorem ho_calls (ls ms : List P2) (hl : ls.length < 4611686018427387904) (h200 : ms.length ≤ 200) : CallsP Try.prog 28 [slP ls, slP ms] (bP (decide (0 < ms.length) && !ms.any (badP ls))) := by
  have c57 : ∀ j : Int, evalF (cfB R3) (201 + 1) 1 80 [slA ms, .fn 58 [.ptr 0 0 0]] (hoS ls) = some (iA j, hoS ls) → CallsP Try.prog 28 [slP ls, slP ms] (ho28 ls ms (decide (j ≥ 0))) := by
    intro j h80
    have c1 := callA_m1 (c := cfB R3) (ev := evalF (cfB R3) 202) (lo := 1) (S := hoS ls) (p := iP j) rfl rfl h80 rfl
    have c2 := callA_m1 (c := cfB R3) (ev := evalF (cfB R3) 203) (lo := 0) (S := hoS ls) (p := bP (decide (j ≥ 0))) rfl rfl (ho57_eq ls ms j c1) rfl
    exact ho28_calls ls ms _ c2
  have fin : ∀ b : Bool, ho28 ls ms b = bP (decide (0 < ms.length) && !b) := by
    intro b
    unfold ho28
    by_cases h : 0 < ms.length
    · rw [decide_eq_true (by omega : (ms.length : Int) > 0), decide_eq_true h]; rfl
    · rw [decide_eq_false (by omega : ¬ (ms.length : Int) > 0), decide_eq_false h]; rfl
  rcases ho_loop ls ms hl h200 ms.length 0 (by omega) with ⟨j, h1, h2⟩ | ⟨h1, h2⟩
  · have h := c57 j (ho80f_eq ls ms j (At.use (at_more h1 (m := 201) (by omega)) (by rfl) (by kernel_rfl)))
    rw [fin, decide_eq_true (by omega : (j : Int) ≥ 0)] at h
    rw [List.drop_zero] at h2
    rw [h2]
    exact h
  · have h := c57 (-1) (ho80n_eq ls ms _ (At.use (at_more h1 (m := 201) (by omega)) (by rfl) (by kernel_rfl)))
    rw [fin, decide_eq_false (by omega : ¬ (-1 : Int) ≥ 0)] at h
    rw [List.drop_zero] at h2
    rw [h2]
    exact h
end Go.Proofs.Ytmopbegmdegooaa
