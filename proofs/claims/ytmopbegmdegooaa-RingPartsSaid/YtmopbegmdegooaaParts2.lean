/- The law RingParts: its loop; rows that are put together. -/
import Derived.Test.YtmopbegmdegooaaPartsB
import Derived.Test.YtmopbegmdegooaaShifts3
namespace Go.Proofs.Ytmopbegmdegooaa
open Go Vm M
set_option linter.unusedVariables false
set_option linter.unusedSimpArgs false
noncomputable abbrev bodyRp : List AVal → List AObj → Res := evalC (cf R3) (evalF (cf R3) 61) ((lives.lookup 7).getD []) 0 0 61 (loopAt Try.f7 0)
section
variable (ps : List P2) (a b : Int)
theorem rp_first {q : P2} (hq : ps[0]? = some q) : roundC 0 bodyRp (rpT ps a b 0 nilA) [] = some (.normal, rpT ps a b (1 : Nat) (.row 15 0 2 0 1), rpS [rsP1 q]) := by
  have hl := lt_of_get hq
  have h := rpFirst_eq ps a b 0 q ⟨Int.le_refl _, by omega, by omega, flatPP_length ps⟩ (load_x (i := 0) hq) ⟨Int.le_refl _, by omega, by omega, flatPP_length ps⟩ (load_y (i := 0) hq)
  rw [h]
  unfold rpFirst
  rw [decide_eq_true (by omega : (0 : Int) < (ps.length : Int)), IntWalk.i64_in (0 + 1) (by omega)]
  rfl
theorem rp_next {k : Nat} {q : P2} {al : List P2} (hq : ps[k]? = some q) (h60 : ps.length ≤ 60) (ha : al.length = k) :
    roundC 0 bodyRp (rpT ps a b k (.row 15 0 2 0 k)) (rpS al) = some (.normal, rpT ps a b (k + 1 : Nat) (.row 15 0 2 0 (k + 1)), rpS (al ++ [rsP1 q])) := by
  have hl := lt_of_get hq
  have s1 := flatP_snoc al (rsP1 q)
  have h := rpNext_eq ps al a b k k q ⟨by omega, by omega, by omega, flatPP_length ps⟩ (load_x (i := k) hq) ⟨by omega, by omega, by omega, flatPP_length ps⟩ (load_y (i := k) hq) ⟨by rw [flatP_length]; omega, by omega, by omega⟩
  rw [h]
  unfold rpNext
  rw [decide_eq_true (by omega : (k : Int) < (ps.length : Int)), IntWalk.i64_in ((k : Int) + 1) (by omega)]
  unfold rpS
  rw [← s1]
  rfl
theorem rp_end {al : List P2} {n : Nat} : roundC 0 bodyRp (rpT ps a b ps.length (.row 15 0 2 0 n)) (rpS al) = some (.exit 0, rpE ps a b ps.length n, rpS al) := by
  have hpl : Plain (rpS al) := by
    unfold rpS
    simp only [Plain, List.all_append, List.all_cons, List.all_nil, plainO, flatP_plain] <;> rfl
  exact roundP_ok (hs := []) (bs := [false]) (ls := []) (ob := [Plain (rpS al), decide ((ps.length : Int) < (ps.length : Int)) = false]) (by kernel_rfl) (allOb_cons hpl (allOb_cons (decide_eq_false (by omega)) allOb_nil))
theorem rp_loop (h60 : ps.length ≤ 60) : ∀ (d k : Nat), 1 ≤ k → k + d = ps.length → At 0 bodyRp (d + 1) (rpT ps a b k (.row 15 0 2 0 k)) (rpS (rsA ps k)) (some (.exit 0, rpE ps a b ps.length ps.length, rpS (rsA ps ps.length)))
  | 0, k, _, hk => by
    obtain rfl : k = ps.length := by omega
    exact At.leave (rp_end ps a b) (by simp)
  | d + 1, k, h1, hk => by
    have hlt : k < ps.length := by omega
    have hq : ps[k]? = some ps[k] := List.getElem?_eq_getElem hlt
    refine At.step (rp_next ps a b (al := rsA ps k) hq h60 (rsA_length (by omega))) ?_
    have := rp_loop h60 d (k + 1) (by omega) (by omega)
    rw [rsA_succ hq] at this
    exact this
theorem rp_loop0 (h60 : ps.length ≤ 60) (h1 : 1 ≤ ps.length) : iterC 0 bodyRp 61 (rpT ps a b 0 nilA) [] = some (.exit 0, rpE ps a b ps.length ps.length, rpS (rsA ps ps.length)) := by
  have hq : ps[0]? = some ps[0] := List.getElem?_eq_getElem (by omega)
  have hA : At 0 bodyRp (ps.length - 1 + 1 + 1) (rpT ps a b 0 nilA) [] (some (.exit 0, rpE ps a b ps.length ps.length, rpS (rsA ps ps.length))) := by
    refine At.step (rp_first ps a b hq) ?_
    have := rp_loop ps a b h60 (ps.length - 1) 1 (Nat.le_refl _) (by omega)
    have e : rsA ps 1 = [rsP1 ps[0]] := by rw [rsA_succ hq]; rfl
    rw [e] at this
    exact this
  exact At.use (at_more hA (m := 61) (by omega)) (by rfl) (by kernel_rfl)
end
theorem flatP_one : ∀ ps : List P2, Ones (flatP ps)
  | [] => rfl
  | p :: ps => by
    have := flatP_one ps
    unfold Ones at this ⊢
    simp [flatP, AVal.one, Value.oneCell', this]
theorem cutA_flat (al : List P2) (l h : Nat) : cutA (flatP al) 2 l h = flatP ((al.drop l).take (h - l)) := by
  unfold cutA
  rw [flatP_drop]
  generalize al.drop l = ps
  generalize h - l = k
  induction ps generalizing k with
  | nil => simp [flatP]
  | cons p ps ih =>
    cases k with
    | zero => simp [flatP]
    | succ k =>
      rw [show (k + 1) * 2 = k * 2 + 1 + 1 by omega]
      simp only [flatP, List.take_succ_cons]
      rw [ih k]
theorem callA_rowE {c : Cfg} {ev : Ev} {F : FuncId} {S S' : List AObj} {o e len : Nat} {fz : Option Nat} {ps : List P2} {xs : List AVal} {r : PVal} {g : List PVal → Option PVal} (h0 : c.givenS F = none) (hm : c.mode F = 0) (hg : c.givenP F = some g)
    (hx : xs = flatP ps) (hlen : len = ps.length) (h : S[o]? = some (.row 2 e fz xs)) (hS' : S.set o (.row 2 e (some xs.length) xs) = S') (hr : g [slP ps] = some r) : callA c ev 0 F [.row o e 2 0 len] S = some (up r, S') := by
  subst hx hlen hS'
  have ho := (List.getElem?_eq_some_iff.1 h).1
  refine callA_given h0 hm (mark_row (n := 5) (ep := e) (off := 0) (len := ps.length) h) ?_ hg hr
  simp only [mapO]
  have hp : peek (S.set o (.row 2 e (some (flatP ps).length) (flatP ps))) (4 + 2) (.row o e 2 0 ps.length) = some (slP ps) := by
    have hg' : (S.set o (.row 2 e (some (flatP ps).length) (flatP ps)))[o]? = some (.row 2 e (some (flatP ps).length) (flatP ps)) := by rw [List.getElem?_set_self ho]
    simp only [peek, hg']
    rw [if_pos ⟨trivial, trivial, by rw [flatP_length]; omega⟩]
    have e' : cutA (flatP ps) 2 0 (0 + ps.length) = flatP ps := by
      unfold cutA
      rw [Nat.zero_mul, List.drop_zero, List.take_of_length_le (by rw [flatP_length]; omega)]
    rw [e', peek_flat]
    rfl
  rw [show deep = 4 + 2 from rfl, hp]
theorem boundsA_both {n a b : Nat} (h1 : a ≤ b) (h2 : b ≤ n) : boundsA n (some (iA (a : Int))) (some (iA (b : Int))) none = some (a, b, none) := by
  simp [boundsA, numA, iA, mxOk, h1, h2]
theorem boundsA_lo {n a : Nat} (h1 : a ≤ n) : boundsA n (some (iA (a : Int))) none none = some (a, n, none) := by
  simp [boundsA, numA, iA, mxOk, h1]
theorem boundsA_hi {n b : Nat} (h2 : b ≤ n) : boundsA n none (some (iA (b : Int))) none = some (0, b, none) := by
  simp [boundsA, numA, iA, mxOk, h2]
end Go.Proofs.Ytmopbegmdegooaa
