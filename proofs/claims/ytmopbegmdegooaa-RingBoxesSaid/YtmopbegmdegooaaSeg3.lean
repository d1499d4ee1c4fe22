/- seg.ends: its outer loop, and the function. -/
import Derived.Test.YtmopbegmdegooaaSeg2
namespace Go.Proofs.Ytmopbegmdegooaa
open Go Vm M
set_option linter.unusedVariables false
set_option linter.unusedSimpArgs false
def seenA : List P2 → AVal
  | [] => .v (.slice none 0 0)
  | q :: qs => .row 6 0 2 0 (qs.length + 1)
def endsS (a b c d : P2) : List P2 → List AObj
  | [] => bx4 a b c d
  | q :: qs => bx4 a b c d ++ [.free, .free, .row 2 0 none (flatP (q :: qs))]
/-- One end looked at. -/
def endsStep (a b c d p : P2) (s : Int × Int × List P2) : Int × Int × List P2 :=
  if s.2.2.any (eqB · p) || !M.on a b p || !M.on c d p then s
  else (s.1 + 1, if (eqB p a || eqB p b) && (eqB p c || eqB p d) then s.2.1 + 1 else s.2.1, s.2.2 ++ [p])
section
variable (ev : Ev) (a b c d l0 l1 l2 l3 : P2)
theorem loopN_ok (p : P2) (on both i : Int) : loopN ev a b c d l0 l1 l2 l3 p on both i false := by
  refine iterC_leave (T1 := endsIn on both i (.v (.slice none 0 0)) false 0 0 .junk (ar4 l0 l1 l2 l3)) (S1 := bx4 a b c d ++ [.box (cellsP p)]) (T2 := endsIn on both i (.v (.slice none 0 0)) false 0 0 (bA false) (ar4 l0 l1 l2 l3)) (S2 := bx4 a b c d ++ [.box (cellsP p)]) ?_ ?_ (by simp) ?_
  · exact canon_eq (by rfl) (by kernel_rfl)
  · exact pathP_ok (hs := []) (bs := [false]) (ls := []) (ob := [false = false]) (by kernel_rfl) (allOb_cons rfl allOb_nil)
  · exact canon_eq (by rfl) (by kernel_rfl)
theorem loopR_ok (p : P2) (on both i : Int) (qs : List P2) (hq : qs.length < 8) : loopR ev a b c d l0 l1 l2 l3 p on both i qs (qs.any (eqB · p)) := by
  have h := endsIn_loop (ev := ev) a b c d l0 l1 l2 l3 on both i p qs (by omega) 8 0 false .free (by omega) (by omega) (.inl rfl)
  exact h
theorem idxH_ok {p : P2} {i : Nat} (h : [l0, l1, l2, l3][i]? = some p) : idxH l0 l1 l2 l3 p i := by
  match i, h with
  | 0, h => cases h; show (_ = _); kernel_rfl
  | 1, h => cases h; show (_ = _); kernel_rfl
  | 2, h => cases h; show (_ = _); kernel_rfl
  | 3, h => cases h; show (_ = _); kernel_rfl
  | i + 4, h => simp at h
theorem canonN_same (p : P2) (on both i : Int) : canon 0 (endsHd on both i (.v (.slice none 0 0)) (ar4 l0 l1 l2 l3)) (bx4 a b c d ++ [.box (cellsP p)]) = some (endsHd on both i (seenA []) (ar4 l0 l1 l2 l3), endsS a b c d []) :=
  canon_eq (by rfl) (by kernel_rfl)
theorem canonN_push (p : P2) (on both i : Int) : canon 0 (endsHd on both i (.row 6 0 2 0 1) (ar4 l0 l1 l2 l3)) (bx4 a b c d ++ [.box (cellsP p), .row 2 0 none (cellsP p), .row 2 0 none (cellsP p)]) = some (endsHd on both i (seenA [p]) (ar4 l0 l1 l2 l3), endsS a b c d [p]) :=
  canon_eq (by rfl) (by kernel_rfl)
theorem canonR_same (p q : P2) (on both i : Int) (qs : List P2) : canon 0 (endsHd on both i (.row 6 0 2 0 (q :: qs).length) (ar4 l0 l1 l2 l3)) (bx4 a b c d ++ [.box (cellsP p), .free, .row 2 0 none (flatP (q :: qs))]) = some (endsHd on both i (seenA (q :: qs)) (ar4 l0 l1 l2 l3), endsS a b c d (q :: qs)) :=
  canon_eq (by simp [bx4, plainO, flatP_plain]) (by kernel_rfl)
theorem canonR_push (p q : P2) (on both i : Int) (qs : List P2) : canon 0 (endsHd on both i (.row 6 1 2 0 ((q :: qs).length + 1)) (ar4 l0 l1 l2 l3)) (bx4 a b c d ++ [.box (cellsP p), .row 2 0 none (cellsP p), .row 2 1 none (flatP (q :: qs) ++ cellsP p)]) =
    some (endsHd on both i (seenA (q :: qs ++ [p])) (ar4 l0 l1 l2 l3), endsS a b c d (q :: qs ++ [p])) := by
  have e1 : seenA (q :: qs ++ [p]) = .row 6 0 2 0 ((q :: qs).length + 1) := by simp [seenA]
  have e2 : endsS a b c d (q :: qs ++ [p]) = bx4 a b c d ++ [.free, .free, .row 2 0 none (flatP (q :: qs) ++ cellsP p)] := by
    show bx4 a b c d ++ [.free, .free, .row 2 0 none (flatP (q :: (qs ++ [p])))] = _
    rw [← List.cons_append, flatP_append]
    rfl
  rw [e1, e2]
  refine canon_eq ?_ (by kernel_rfl)
  have := flatP_plain (q :: qs)
  simp only [flatP] at this ⊢
  simp [bx4, plainO, plainV, cellsP, flatP, flatP_plain]
/-- One round, whatever was seen. -/
theorem ends_round {p : P2} {i : Nat} {on both : Int} {qs : List P2} (hi : [l0, l1, l2, l3][i]? = some p) (hon : 0 ≤ on ∧ on ≤ i) (hbo : 0 ≤ both ∧ both ≤ i) (hq : qs.length ≤ i) :
    ∃ T2 S2, bodyOut ev (endsHd on both i (seenA qs) (ar4 l0 l1 l2 l3)) (endsS a b c d qs) = some (.normal, T2, S2) ∧
      canon 0 T2 S2 = some (endsHd (endsStep a b c d p (on, both, qs)).1 (endsStep a b c d p (on, both, qs)).2.1 (i + 1 : Nat) (seenA (endsStep a b c d p (on, both, qs)).2.2) (ar4 l0 l1 l2 l3), endsS a b c d (endsStep a b c d p (on, both, qs)).2.2) := by
  have hi4 : i < 4 := (List.getElem?_eq_some_iff.1 hi).1
  have hidx := idxH_ok l0 l1 l2 l3 hi
  have hlt : (i : Int) < 4 := by omega
  have wi : IntKind.i64.wrap ((i : Int) + 1) = ((i + 1 : Nat) : Int) := by rw [IntWalk.i64_in _ (by omega)]; omega
  have wo : IntKind.i64.wrap (on + 1) = on + 1 := IntWalk.i64_in _ (by omega)
  have wb : IntKind.i64.wrap (both + 1) = both + 1 := IntWalk.i64_in _ (by omega)
  match qs, hq with
  | [], hq =>
    have hl := loopN_ok ev a b c d l0 l1 l2 l3 p on both i
    have same : ∀ {T2 S2}, T2 = endsHd on both (IntKind.i64.wrap ((i : Int) + 1)) (.v (.slice none 0 0)) (ar4 l0 l1 l2 l3) → S2 = bx4 a b c d ++ [.box (cellsP p)] → canon 0 T2 S2 = some (endsHd on both (i + 1 : Nat) (seenA []) (ar4 l0 l1 l2 l3), endsS a b c d []) := by
      rintro _ _ rfl rfl; rw [wi]; exact canonN_same ..
    have push : ∀ (b' : Int) {T2 S2}, T2 = endsHd (IntKind.i64.wrap (on + 1)) b' (IntKind.i64.wrap ((i : Int) + 1)) (.row 6 0 2 0 1) (ar4 l0 l1 l2 l3) → S2 = bx4 a b c d ++ [.box (cellsP p), .row 2 0 none (cellsP p), .row 2 0 none (cellsP p)] →
        canon 0 T2 S2 = some (endsHd (on + 1) b' (i + 1 : Nat) (seenA [p]) (ar4 l0 l1 l2 l3), endsS a b c d [p]) := by
      rintro b' _ _ rfl rfl; rw [wi, wo]; exact canonN_push ..
    cases h1 : M.on a b p with
    | false =>
      refine ⟨_, _, endsN_ab ev a b c d l0 l1 l2 l3 p on both i false hl hidx hlt (by rw [h1]; rfl) rfl, ?_⟩
      simpa [endsStep, h1] using same rfl rfl
    | true =>
      cases h2 : M.on c d p with
      | false =>
        refine ⟨_, _, endsN_cd ev a b c d l0 l1 l2 l3 p on both i false hl hidx hlt (by rw [h2]; rfl) (by rw [h1]; rfl) rfl, ?_⟩
        simpa [endsStep, h1, h2] using same rfl rfl
      | true =>
        have n1 : (!M.on a b p) = false := by rw [h1]; rfl
        have n2 : (!M.on c d p) = false := by rw [h2]; rfl
        cases ha : eqB p a <;> cases hc : eqB p c
        · cases hb : eqB p b
          · refine ⟨_, _, endsN_b6 ev a b c d l0 l1 l2 l3 p on both i false hl hidx hlt hb ha n2 n1 rfl, ?_⟩
            simpa [endsStep, h1, h2, ha, hb, hc] using push both rfl rfl
          · cases hd : eqB p d
            · refine ⟨_, _, endsN_b5 ev a b c d l0 l1 l2 l3 p on both i false hl hidx hlt hd hc hb ha n2 n1 rfl, ?_⟩
              simpa [endsStep, h1, h2, ha, hb, hc, hd] using push both rfl rfl
            · refine ⟨_, _, endsN_b4 ev a b c d l0 l1 l2 l3 p on both i false hl hidx hlt hd hc hb ha n2 n1 rfl, ?_⟩
              simpa [endsStep, h1, h2, ha, hb, hc, hd, wb] using push _ rfl rfl
        · cases hb : eqB p b
          · refine ⟨_, _, endsN_b6 ev a b c d l0 l1 l2 l3 p on both i false hl hidx hlt hb ha n2 n1 rfl, ?_⟩
            simpa [endsStep, h1, h2, ha, hb, hc] using push both rfl rfl
          · refine ⟨_, _, endsN_b3 ev a b c d l0 l1 l2 l3 p on both i false hl hidx hlt hc hb ha n2 n1 rfl, ?_⟩
            simpa [endsStep, h1, h2, ha, hb, hc, wb] using push _ rfl rfl
        · cases hd : eqB p d
          · refine ⟨_, _, endsN_b2 ev a b c d l0 l1 l2 l3 p on both i false hl hidx hlt hd hc ha n2 n1 rfl, ?_⟩
            simpa [endsStep, h1, h2, ha, hc, hd] using push both rfl rfl
          · refine ⟨_, _, endsN_b1 ev a b c d l0 l1 l2 l3 p on both i false hl hidx hlt hd hc ha n2 n1 rfl, ?_⟩
            simpa [endsStep, h1, h2, ha, hc, hd, wb] using push _ rfl rfl
        · refine ⟨_, _, endsN_b0 ev a b c d l0 l1 l2 l3 p on both i false hl hidx hlt hc ha n2 n1 rfl, ?_⟩
          simpa [endsStep, h1, h2, ha, hc, wb] using push _ rfl rfl
  | q :: qs, hq =>
    have hl := loopR_ok ev a b c d l0 l1 l2 l3 p on both i (q :: qs) (by omega)
    have happ : (0 + (q :: qs).length) * 2 = (flatP (q :: qs)).length ∧ ((q :: qs).length + (0 + 1)) * 16 ≤ 140737488355328 ∧ (q :: qs).length + (0 + 1) ≤ 9223372036854775807 := by
      rw [flatP_length]; omega
    have same : ∀ {T2 S2}, T2 = endsHd on both (IntKind.i64.wrap ((i : Int) + 1)) (.row 6 0 2 0 (q :: qs).length) (ar4 l0 l1 l2 l3) → S2 = bx4 a b c d ++ [.box (cellsP p), .free, .row 2 0 none (flatP (q :: qs))] → canon 0 T2 S2 = some (endsHd on both (i + 1 : Nat) (seenA (q :: qs)) (ar4 l0 l1 l2 l3), endsS a b c d (q :: qs)) := by
      rintro _ _ rfl rfl; rw [wi]; exact canonR_same ..
    have push : ∀ (b' : Int) {T2 S2}, T2 = endsHd (IntKind.i64.wrap (on + 1)) b' (IntKind.i64.wrap ((i : Int) + 1)) (.row 6 1 2 0 ((q :: qs).length + 1)) (ar4 l0 l1 l2 l3) → S2 = bx4 a b c d ++ [.box (cellsP p), .row 2 0 none (cellsP p), .row 2 1 none (flatP (q :: qs) ++ cellsP p)] →
        canon 0 T2 S2 = some (endsHd (on + 1) b' (i + 1 : Nat) (seenA (q :: qs ++ [p])) (ar4 l0 l1 l2 l3), endsS a b c d (q :: qs ++ [p])) := by
      rintro b' _ _ rfl rfl; rw [wi, wo]; exact canonR_push ..
    cases h0 : (q :: qs).any (eqB · p) with
    | true =>
      rw [h0] at hl
      refine ⟨_, _, endsR_old ev a b c d l0 l1 l2 l3 p on both i (q :: qs) true hl hidx hlt happ rfl, ?_⟩
      have := same rfl rfl
      simpa only [endsStep, h0, Bool.true_or, if_true] using this
    | false =>
      rw [h0] at hl
      cases h1 : M.on a b p with
      | false =>
        refine ⟨_, _, endsR_ab ev a b c d l0 l1 l2 l3 p on both i (q :: qs) false hl hidx hlt happ (by rw [h1]; rfl) rfl, ?_⟩
        have := same rfl rfl
        simpa only [endsStep, h0, h1, Bool.not_false, Bool.or_true, Bool.true_or, if_true] using this
      | true =>
        cases h2 : M.on c d p with
        | false =>
          refine ⟨_, _, endsR_cd ev a b c d l0 l1 l2 l3 p on both i (q :: qs) false hl hidx hlt happ (by rw [h2]; rfl) (by rw [h1]; rfl) rfl, ?_⟩
          have := same rfl rfl
          simpa only [endsStep, h0, h1, h2, Bool.not_false, Bool.or_true, Bool.true_or, if_true] using this
        | true =>
          have n1 : (!M.on a b p) = false := by rw [h1]; rfl
          have n2 : (!M.on c d p) = false := by rw [h2]; rfl
          have st : endsStep a b c d p (on, both, q :: qs) = (on + 1, if (eqB p a || eqB p b) && (eqB p c || eqB p d) then both + 1 else both, q :: qs ++ [p]) := by
            simp only [endsStep, h0, h1, h2, Bool.not_true, Bool.or_false, Bool.false_eq_true, if_false]
          rw [st]
          cases ha : eqB p a <;> cases hc : eqB p c
          · cases hb : eqB p b
            · exact ⟨_, _, endsR_b6 ev a b c d l0 l1 l2 l3 p on both i (q :: qs) false hl hidx hlt happ hb ha n2 n1 rfl, push both rfl rfl⟩
            · cases hd : eqB p d
              · exact ⟨_, _, endsR_b5 ev a b c d l0 l1 l2 l3 p on both i (q :: qs) false hl hidx hlt happ hd hc hb ha n2 n1 rfl, push both rfl rfl⟩
              · refine ⟨_, _, endsR_b4 ev a b c d l0 l1 l2 l3 p on both i (q :: qs) false hl hidx hlt happ hd hc hb ha n2 n1 rfl, ?_⟩
                rw [wb]; exact push _ rfl rfl
          · cases hb : eqB p b
            · exact ⟨_, _, endsR_b6 ev a b c d l0 l1 l2 l3 p on both i (q :: qs) false hl hidx hlt happ hb ha n2 n1 rfl, push both rfl rfl⟩
            · refine ⟨_, _, endsR_b3 ev a b c d l0 l1 l2 l3 p on both i (q :: qs) false hl hidx hlt happ hc hb ha n2 n1 rfl, ?_⟩
              rw [wb]; exact push _ rfl rfl
          · cases hd : eqB p d
            · exact ⟨_, _, endsR_b2 ev a b c d l0 l1 l2 l3 p on both i (q :: qs) false hl hidx hlt happ hd hc ha n2 n1 rfl, push both rfl rfl⟩
            · refine ⟨_, _, endsR_b1 ev a b c d l0 l1 l2 l3 p on both i (q :: qs) false hl hidx hlt happ hd hc ha n2 n1 rfl, ?_⟩
              rw [wb]; exact push _ rfl rfl
          · refine ⟨_, _, endsR_b0 ev a b c d l0 l1 l2 l3 p on both i (q :: qs) false hl hidx hlt happ hc ha n2 n1 rfl, ?_⟩
            rw [wb]; exact push _ rfl rfl
/-- All that is left to be looked at. -/
def endsF (a b c d : P2) : List P2 → Int × Int × List P2 → Int × Int × List P2
  | [], s => s
  | p :: ps, s => endsF a b c d ps (endsStep a b c d p s)
def endsEnd (on both : Int) (seen : AVal) (ar : List AVal) : List AVal := jk 4 ++ [.ptr 0 0 0, .ptr 1 0 0, .ptr 2 0 0, .ptr 3 0 0, iA on, iA both, seen] ++ jk 17 ++ [.agg ar, iA 4, bA false] ++ jk 58
theorem endsStep_bound {p : P2} {i : Nat} {s : Int × Int × List P2} (h1 : 0 ≤ s.1 ∧ s.1 ≤ i) (h2 : 0 ≤ s.2.1 ∧ s.2.1 ≤ i) (h3 : s.2.2.length ≤ i) :
    (0 ≤ (endsStep a b c d p s).1 ∧ (endsStep a b c d p s).1 ≤ (i + 1 : Nat)) ∧ (0 ≤ (endsStep a b c d p s).2.1 ∧ (endsStep a b c d p s).2.1 ≤ (i + 1 : Nat)) ∧ (endsStep a b c d p s).2.2.length ≤ i + 1 := by
  unfold endsStep
  split
  · refine ⟨by omega, by omega, by omega⟩
  · refine ⟨by simp only; omega, ?_, by simp; omega⟩
    simp only
    split <;> omega
theorem ends_leave (on both : Int) (qs : List P2) : ∃ T2, bodyOut ev (endsHd on both 4 (seenA qs) (ar4 l0 l1 l2 l3)) (endsS a b c d qs) = some (.exit 0, T2, endsS a b c d qs) ∧ canon 0 T2 (endsS a b c d qs) = some (endsEnd on both (seenA qs) (ar4 l0 l1 l2 l3), endsS a b c d qs) := by
  match qs with
  | [] => exact ⟨endsEnd on both (.v (.slice none 0 0)) (ar4 l0 l1 l2 l3), pathP_ok (hs := []) (bs := [false]) (ls := []) (ob := [false = false]) (by kernel_rfl) (allOb_cons rfl allOb_nil), canon_eq (by rfl) (by kernel_rfl)⟩
  | q :: qs => exact ⟨endsEnd on both (.row 6 0 2 0 (qs.length + 1)) (ar4 l0 l1 l2 l3), pathP_ok (hs := []) (bs := [false]) (ls := []) (ob := [false = false]) (by kernel_rfl) (allOb_cons rfl allOb_nil), canon_eq (by simp [endsS, bx4, plainO, flatP_plain]) (by kernel_rfl)⟩
theorem ends_loop : ∀ (ps : List P2) (i m : Nat) (s : Int × Int × List P2) (T : List AVal) (S : List AObj), [l0, l1, l2, l3].drop i = ps → i + ps.length = 4 → (0 ≤ s.1 ∧ s.1 ≤ i) → (0 ≤ s.2.1 ∧ s.2.1 ≤ i) → s.2.2.length ≤ i → ps.length < m →
    canon 0 T S = some (endsHd s.1 s.2.1 i (seenA s.2.2) (ar4 l0 l1 l2 l3), endsS a b c d s.2.2) →
    iterC 0 (bodyOut ev) m T S = some (.exit 0, endsEnd (endsF a b c d ps s).1 (endsF a b c d ps s).2.1 (seenA (endsF a b c d ps s).2.2) (ar4 l0 l1 l2 l3), endsS a b c d (endsF a b c d ps s).2.2)
  | [], i, m, s, T, S, hd, hi, h1, h2, h3, hm, hc => by
    obtain ⟨m, rfl⟩ : ∃ k, m = k + 1 := ⟨m - 1, by simp at hm; omega⟩
    have : i = 4 := by simpa using hi
    subst this
    obtain ⟨T2, k1, k2⟩ := ends_leave ev a b c d l0 l1 l2 l3 s.1 s.2.1 s.2.2
    exact iterC_leave hc k1 (by simp) k2
  | p :: ps, i, m, s, T, S, hd, hi, h1, h2, h3, hm, hc => by
    obtain ⟨m, rfl⟩ : ∃ k, m = k + 1 := ⟨m - 1, by simp at hm; omega⟩
    have hp : [l0, l1, l2, l3][i]? = some p := by
      have := congrArg (fun l => l[0]?) hd
      simpa using this
    obtain ⟨T2, S2, k1, k2⟩ := ends_round ev a b c d l0 l1 l2 l3 (on := s.1) (both := s.2.1) (qs := s.2.2) hp h1 h2 h3
    rw [iterC_round hc k1]
    obtain ⟨b1, b2, b3⟩ := endsStep_bound a b c d (p := p) h1 h2 h3
    refine ends_loop ps (i + 1) m (endsStep a b c d p s) T2 S2 ?_ (by simp at hi; omega) b1 b2 b3 (by simp at hm; omega) k2
    have := congrArg List.tail hd
    simpa using this
end
/-- The two numbers that the function tells. -/
def endsR (a b c d : P2) : Int × Int × List P2 := endsF (nearP a) (nearP b) (nearP c) (nearP d) [nearP a, nearP b, nearP c, nearP d] (0, 0, [])
theorem endsR_def (a b c d : P2) : endsR a b c d = endsF (nearP a) (nearP b) (nearP c) (nearP d) [nearP a, nearP b, nearP c, nearP d] (0, 0, []) := rfl
theorem ends_calls (a b c d : P2) : CallsP Try.prog 47 [ptP a, ptP b, ptP c, ptP d] (.tup [iP (endsR a b c d).1, iP (endsR a b c d).2.1]) := by
  have hl := ends_loop (evalF (cf L5) 8) (nearP a) (nearP b) (nearP c) (nearP d) (nearP a) (nearP b) (nearP c) (nearP d) [nearP a, nearP b, nearP c, nearP d] 0 8 (0, 0, []) (endsHd 0 0 0 (.v (.slice none 0 0)) (ar4 (nearP a) (nearP b) (nearP c) (nearP d))) (bx4 (nearP a) (nearP b) (nearP c) (nearP d) ++ List.replicate 12 .free) rfl rfl (by simp) (by simp) (by simp) (by simp) (canon_eq (by rfl) (by kernel_rfl))
  rw [← endsR_def] at hl
  exact callP_ok (cf_ok L5) (k := 8) (hs := []) (f := 47) (ps := [ptP a, ptP b, ptP c, ptP d]) (bs := [])
    (ls := [(.exit 0, endsEnd (endsR a b c d).1 (endsR a b c d).2.1 (seenA (endsR a b c d).2.2) (ar4 (nearP a) (nearP b) (nearP c) (nearP d)), endsS (nearP a) (nearP b) (nearP c) (nearP d) (endsR a b c d).2.2)]) (out := none)
    (ob := [iterC 0 (bodyOut (evalF (cf L5) 8)) 8 (endsHd 0 0 0 (.v (.slice none 0 0)) (ar4 (nearP a) (nearP b) (nearP c) (nearP d))) (bx4 (nearP a) (nearP b) (nearP c) (nearP d) ++ List.replicate 12 .free) =
      some (.exit 0, endsEnd (endsR a b c d).1 (endsR a b c d).2.1 (seenA (endsR a b c d).2.2) (ar4 (nearP a) (nearP b) (nearP c) (nearP d)), endsS (nearP a) (nearP b) (nearP c) (nearP d) (endsR a b c d).2.2)])
    (by kernel_rfl) (allOb_cons (by exact hl) allOb_nil)
noncomputable def L6 : Lib Try.prog := L5.add 47 (g4 fun a b c d => .tup [iP (endsR a b c d).1, iP (endsR a b c d).2.1]) (enters_of named_prog Try.func47 (by kernel_rfl)) (g4_spec ends_calls)
end Go.Proofs.Ytmopbegmdegooaa
