/- The law RingShifts: true whatever the input. -/
import Derived.Test.YtmopbegmdegooaaShiftsC
import Derived.Test.YtmopbegmdegooaaRingMath
namespace Go.Proofs.Ytmopbegmdegooaa
open Go Vm M
set_option linter.unusedVariables false
set_option linter.unusedSimpArgs false
noncomputable abbrev bodyRs0 : List AVal → List AObj → Res := evalC (cf R3) (evalF (cf R3) 61) ((lives.lookup 6).getD []) 0 0 61 (loopAt Try.f6 0)
noncomputable abbrev bodyRs1 : List AVal → List AObj → Res := evalC (cf R3) (evalF (cf R3) 61) ((lives.lookup 6).getD []) 0 0 61 (loopAt Try.f6 1)
def rsMv (x y : Int) (a : P2) : P2 := (IntKind.i64.wrap (a.1 + x), IntKind.i64.wrap (a.2 + y))
theorem iterC_more {base : Nat} {body : List AVal → List AObj → Res} {r : AExit × List AVal × List AObj} : ∀ (n : Nat) (T : List AVal) (S : List AObj), iterC base body n T S = some r → iterC base body (n + 1) T S = some r
  | 0, T, S, h => by simp [iterC] at h
  | n + 1, T, S, h => by
    unfold iterC at h ⊢
    cases hc : canon base T S with
    | none => rw [hc] at h; cases h
    | some c =>
      obtain ⟨T1, S1⟩ := c
      rw [hc] at h
      simp only at h ⊢
      cases hb : body T1 S1 with
      | none => rw [hb] at h; cases h
      | some b =>
        obtain ⟨x, T', S'⟩ := b
        rw [hb] at h
        cases x with
        | normal => exact iterC_more n T' S' h
        | exit i => exact h
        | ret => exact h
theorem at_more {base : Nat} {body : List AVal → List AObj → Res} {n m : Nat} {T1 : List AVal} {S1 : List AObj} {r : AExit × List AVal × List AObj} (h : At base body n T1 S1 (some r)) (hm : n ≤ m) : At base body m T1 S1 (some r) := by
  intro T S hc
  obtain ⟨d, rfl⟩ : ∃ d, m = n + d := ⟨m - n, by omega⟩
  induction d with
  | zero => exact h T S hc
  | succ d ih => exact iterC_more _ _ _ (ih (by omega))
section
variable (ps : List P2) (f x y : Int) (p : P2)
theorem sh_first {q : P2} (hq : ps[0]? = some q) : roundC 0 bodyRs0 (rsT ps f x y 0 nilA nilA nilA) (rsS0 p) = some (.normal, rsT ps f x y (1 : Nat) (.row 16 0 2 0 1) (.row 35 0 2 0 1) nilA, rsS p [rsP1 q] [rsMv x y (rsP1 q)]) := by
  have hl := lt_of_get hq
  have h := rsFirst_eq ps f x y 0 p q (rsP1 q).1 (rsP1 q).2 ⟨Int.le_refl _, by omega, by omega, flatPP_length ps⟩ (load_x (i := 0) hq) ⟨Int.le_refl _, by omega, by omega, flatPP_length ps⟩ (load_y (i := 0) hq) (by omega) (by rw [part_int]; rfl) (by omega) (by rw [part_int]; rfl)
  rw [h]
  unfold rsFirst
  rw [decide_eq_true (by omega : (0 : Int) < (ps.length : Int)), IntWalk.i64_in (0 + 1) (by omega)]
  rfl
theorem sh_next {k : Nat} {q : P2} {al bl : List P2} (hq : ps[k]? = some q) (h60 : ps.length ≤ 60) (ha : al.length = k) (hb : bl.length = k) :
    roundC 0 bodyRs0 (rsT ps f x y k (.row 16 0 2 0 k) (.row 35 0 2 0 k) nilA) (rsS p al bl) = some (.normal, rsT ps f x y (k + 1 : Nat) (.row 16 0 2 0 (k + 1)) (.row 35 0 2 0 (k + 1)) nilA, rsS p (al ++ [rsP1 q]) (bl ++ [rsMv x y (rsP1 q)])) := by
  have hl := lt_of_get hq
  have e1 : (al ++ [rsP1 q])[k]? = some (rsP1 q) := by rw [← ha]; simp
  have g1 := flatP_get (al ++ [rsP1 q]) k _ e1
  have s1 := flatP_snoc al (rsP1 q)
  have s2 := flatP_snoc bl (rsMv x y (rsP1 q))
  have h := rsNext_eq ps al bl f x y k k p q (rsP1 q).1 (rsP1 q).2 ⟨by omega, by omega, by omega, flatPP_length ps⟩ (load_x (i := k) hq) ⟨by omega, by omega, by omega, flatPP_length ps⟩ (load_y (i := k) hq)
    ⟨by rw [flatP_length]; omega, by omega, by omega⟩ ⟨by omega, by omega⟩
    (by rw [part_int]; rw [show (List.drop (0 * 2) (flatP al) ++ [iA (q.1.tmod 100), iA (q.2.tmod 100)]) = flatP (al ++ [rsP1 q]) from s1]; simpa using g1.1) ⟨by omega, by omega⟩
    (by rw [part_int]; rw [show (List.drop (0 * 2) (flatP al) ++ [iA (q.1.tmod 100), iA (q.2.tmod 100)]) = flatP (al ++ [rsP1 q]) from s1]; simpa using g1.2)
    ⟨by rw [flatP_length]; omega, by omega, by omega⟩
  rw [h]
  unfold rsNext
  rw [decide_eq_true (by omega : (k : Int) < (ps.length : Int)), IntWalk.i64_in ((k : Int) + 1) (by omega)]
  unfold rsS
  rw [← s1, ← s2]
  rfl
theorem sh_end {al bl : List P2} {n : Nat} : roundC 0 bodyRs0 (rsT ps f x y ps.length (.row 16 0 2 0 n) (.row 35 0 2 0 n) nilA) (rsS p al bl) = some (.exit 0, rsE0 ps f x y ps.length n, rsS p al bl) := by
  have hpl : Plain (rsS p al bl) := by
    unfold rsS
    simp only [Plain, List.all_append, List.all_cons, List.all_nil, plainO, flatP_plain] <;> rfl
  exact roundP_ok (hs := []) (bs := [false]) (ls := []) (ob := [Plain (rsS p al bl), decide ((ps.length : Int) < (ps.length : Int)) = false]) (by kernel_rfl) (allOb_cons hpl (allOb_cons (decide_eq_false (by omega)) allOb_nil))
def rsA (ps : List P2) (k : Nat) : List P2 := (ps.take k).map rsP1
def rsB (x y : Int) (ps : List P2) (k : Nat) : List P2 := (rsA ps k).map (rsMv x y)
theorem rsA_length {ps : List P2} {k : Nat} (h : k ≤ ps.length) : (rsA ps k).length = k := by simp [rsA, h]
theorem rsA_succ {ps : List P2} {k : Nat} {q : P2} (h : ps[k]? = some q) : rsA ps (k + 1) = rsA ps k ++ [rsP1 q] := by
  unfold rsA
  rw [List.take_add_one, h]
  simp
theorem sh_loop (h60 : ps.length ≤ 60) : ∀ (d k : Nat), 1 ≤ k → k + d = ps.length → At 0 bodyRs0 (d + 1) (rsT ps f x y k (.row 16 0 2 0 k) (.row 35 0 2 0 k) nilA) (rsS p (rsA ps k) (rsB x y ps k)) (some (.exit 0, rsE0 ps f x y ps.length ps.length, rsS p (rsA ps ps.length) (rsB x y ps ps.length)))
  | 0, k, _, hk => by
    obtain rfl : k = ps.length := by omega
    exact At.leave (sh_end ps f x y p) (by simp)
  | d + 1, k, h1, hk => by
    have hlt : k < ps.length := by omega
    have hq : ps[k]? = some ps[k] := List.getElem?_eq_getElem hlt
    have h := sh_next ps f x y p (al := rsA ps k) (bl := rsB x y ps k) hq h60 (rsA_length (by omega)) (by unfold rsB; rw [List.length_map]; exact rsA_length (by omega))
    refine At.step h ?_
    have := sh_loop h60 d (k + 1) (by omega) (by omega)
    unfold rsB at this ⊢
    rw [rsA_succ hq] at this
    rw [List.map_append] at this
    exact this
theorem sh_loop0 (h60 : ps.length ≤ 60) (h1 : 1 ≤ ps.length) : iterC 0 bodyRs0 61 (rsT ps f x y 0 nilA nilA nilA) (rsS0 p) = some (.exit 0, rsE0 ps f x y ps.length ps.length, rsS p (rsA ps ps.length) (rsB x y ps ps.length)) := by
  have hq : ps[0]? = some ps[0] := List.getElem?_eq_getElem (by omega)
  have hA : At 0 bodyRs0 (ps.length - 1 + 1 + 1) (rsT ps f x y 0 nilA nilA nilA) (rsS0 p) (some (.exit 0, rsE0 ps f x y ps.length ps.length, rsS p (rsA ps ps.length) (rsB x y ps ps.length))) := by
    refine At.step (sh_first ps f x y p hq) ?_
    have := sh_loop ps f x y p h60 (ps.length - 1) 1 (Nat.le_refl _) (by omega)
    have e : rsA ps 1 = [rsP1 ps[0]] := by rw [rsA_succ hq]; rfl
    unfold rsB at this
    rw [e] at this
    exact this
  exact At.use (at_more hA (m := 61) (by omega)) (by rfl) (by kernel_rfl)
end
theorem and255_bound (f : Int) : 0 ≤ and255 f ∧ and255 f ≤ 255 := by
  unfold and255
  have h : (BitVec.ofInt IntKind.i64.bits f &&& BitVec.ofInt IntKind.i64.bits 255).toNat ≤ 255 := by
    rw [BitVec.toNat_and]
    exact Nat.le_trans Nat.and_le_right (by decide)
  rw [IntWalk.i64_in _ (by omega)]
  omega
/-- The ring begun at another point. -/
def rsC (al : List P2) (s k : Nat) : List P2 := (List.range k).map fun i => al[(i + s) % al.length]?.getD (0, 0)
theorem rsC_succ (al : List P2) (s k : Nat) : rsC al s (k + 1) = rsC al s k ++ [al[(k + s) % al.length]?.getD (0, 0)] := by simp [rsC, List.range_succ]
theorem rsC_length (al : List P2) (s k : Nat) : (rsC al s k).length = k := by simp [rsC]
section
variable (f x y : Int) (p : P2) (al bl : List P2)
theorem sc_args {k n s : Nat} (hn : al.length = n) (hk : k < n) (h60 : n ≤ 60) (hs : and255 f = (s : Int)) :
    binA Try.prog BinOp.rem 3 (Operand.tmp 79) (Operand.tmp 81) (iA (IntKind.i64.wrap ((k : Int) + and255 f))) (iA (n : Int)) = some (iA (((k + s) % n : Nat) : Int)) ∧ (0 ≤ (((k + s) % n : Nat) : Int) ∧ (((k + s) % n : Nat) : Int) < (n : Int)) ∧
      partA Try.prog 23 (flatP al) ((0 + ((((k + s) % n : Nat) : Int)).toNat) * 2) = some (ptA (al[(k + s) % n]?.getD (0, 0))) := by
  have hb := and255_bound f
  have hm := Nat.mod_lt (k + s) (y := n) (by omega)
  refine ⟨?_, ⟨by omega, by omega⟩, ?_⟩
  · rw [IntWalk.i64_in _ (by omega), hs]
    have := binA_rem ((k : Int) + s) n (Operand.tmp 79) (Operand.tmp 81) (by omega)
    rw [this, Int.tmod_eq_emod_of_nonneg (by omega)]
    rfl
  · rw [Nat.zero_add, Int.toNat_natCast]
    have hq : al[(k + s) % n]? = some (al[(k + s) % n]?.getD (0, 0)) := by
      rw [List.getElem?_eq_getElem (by omega)]
      rfl
    exact flatP_part hq agg23 sz23
theorem sc_first {n s : Nat} (hn : al.length = n) (h1 : 1 ≤ n) (h60 : n ≤ 60) (hs : and255 f = (s : Int)) :
    roundC 0 bodyRs1 (rsU f x y 0 n nilA) (rsS p al bl) = some (.normal, rsU f x y (1 : Nat) n (.row 2 0 2 0 1), rsS3 p al bl (rsC al s 1)) := by
  obtain ⟨e0, e1, e2⟩ := sc_args f al (k := 0) hn (by omega) h60 hs
  have h := rsC1_eq al bl f x y 0 _ n p _ e0 e1 e2
  rw [h]
  unfold rsC1
  rw [decide_eq_true (by omega : (0 : Int) < (n : Int)), IntWalk.i64_in (0 + 1) (by omega)]
  subst hn
  rfl
theorem sc_next {k n s : Nat} {cl : List P2} (hn : al.length = n) (hk : k < n) (h60 : n ≤ 60) (hs : and255 f = (s : Int)) (hc : cl.length = k) :
    roundC 0 bodyRs1 (rsU f x y k n (.row 2 0 2 0 k)) (rsS3 p al bl cl) = some (.normal, rsU f x y (k + 1 : Nat) n (.row 2 0 2 0 (k + 1)), rsS3 p al bl (cl ++ [al[(k + s) % n]?.getD (0, 0)])) := by
  obtain ⟨e0, e1, e2⟩ := sc_args f al (k := k) hn hk h60 hs
  have s1 := flatP_snoc cl (al[(k + s) % n]?.getD (0, 0))
  have h := rsC2_eq al bl cl f x y k _ n k p _ e0 e1 e2 ⟨by rw [flatP_length]; omega, by omega, by omega⟩
  rw [h]
  unfold rsC2
  rw [decide_eq_true (by omega : (k : Int) < (n : Int)), IntWalk.i64_in ((k : Int) + 1) (by omega)]
  unfold rsS3
  rw [← s1]
  rfl
theorem sc_end {cl : List P2} {n m : Nat} : roundC 0 bodyRs1 (rsU f x y n n (.row 2 0 2 0 m)) (rsS3 p al bl cl) = some (.exit 2, rsE1 f x y n n m, rsS3 p al bl cl) := by
  have hpl : Plain (rsS3 p al bl cl) := by
    unfold rsS3
    simp only [Plain, List.all_append, List.all_cons, List.all_nil, plainO, flatP_plain] <;> rfl
  exact roundP_ok (hs := []) (bs := [false]) (ls := []) (ob := [Plain (rsS3 p al bl cl), decide ((n : Int) < (n : Int)) = false]) (by kernel_rfl) (allOb_cons hpl (allOb_cons (decide_eq_false (by omega)) allOb_nil))
theorem sc_loop {n s : Nat} (hn : al.length = n) (h60 : n ≤ 60) (hs : and255 f = (s : Int)) : ∀ (d k : Nat), 1 ≤ k → k + d = n → At 0 bodyRs1 (d + 1) (rsU f x y k n (.row 2 0 2 0 k)) (rsS3 p al bl (rsC al s k)) (some (.exit 2, rsE1 f x y n n n, rsS3 p al bl (rsC al s n)))
  | 0, k, _, hk => by
    obtain rfl : k = n := by omega
    exact At.leave (sc_end f x y p al bl) (by simp)
  | d + 1, k, h1, hk => by
    have h := sc_next f x y p al bl (cl := rsC al s k) hn (by omega) h60 hs (rsC_length _ _ _)
    refine At.step h ?_
    have := sc_loop hn h60 hs d (k + 1) (by omega) (by omega)
    rw [rsC_succ, hn] at this
    exact this
theorem sc_loop1 {n s : Nat} (hn : al.length = n) (h1 : 1 ≤ n) (h60 : n ≤ 60) (hs : and255 f = (s : Int)) : iterC 0 bodyRs1 61 (rsU f x y 0 n nilA) (rsS p al bl) = some (.exit 2, rsE1 f x y n n n, rsS3 p al bl (rsC al s n)) := by
  have hA : At 0 bodyRs1 (n - 1 + 1 + 1) (rsU f x y 0 n nilA) (rsS p al bl) (some (.exit 2, rsE1 f x y n n n, rsS3 p al bl (rsC al s n))) :=
    At.step (sc_first f x y p al bl hn h1 h60 hs) (sc_loop f x y p al bl hn h60 hs (n - 1) 1 (Nat.le_refl _) (by omega))
  have hpl : Plain (rsS p al bl) := by
    unfold rsS
    simp only [Plain, List.all_append, List.all_cons, List.all_nil, plainO, flatP_plain] <;> rfl
  exact At.use (at_more hA (m := 61) (by omega)) hpl (by kernel_rfl)
end
end Go.Proofs.Ytmopbegmdegooaa
