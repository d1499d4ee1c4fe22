/- Texts put together: Ends2. What is proved stands at the head of each part. -/
import Derived.Test.YtmopbegmdegooaaBnLine7
/- The law LineEnds: what its code answers is true. -/
namespace Go.Proofs.Ytmopbegmdegooaa
open Go Vm M
set_option linter.unusedVariables false
set_option linter.unusedSimpArgs false
noncomputable def LE1 : Lib Try.prog := LS1.add 29 (gSo fGrid) (Vm.enters_of named_prog Try.func29 (by kernel_rfl)) (gSo_spec fGrid_ok)
def fRev : List P2 → Option PVal
  | [] => none
  | q :: qs => if qs.length < 200 then some (slP (q :: qs).reverse) else none
theorem fRev_ok (ps : List P2) (r : PVal) (h : fRev ps = some r) : CallsP Try.prog 38 [slP ps] r := by
  cases ps with
  | nil => cases h
  | cons q qs =>
    by_cases h2 : qs.length < 200
    · have e : fRev (q :: qs) = some (slP (q :: qs).reverse) := if_pos h2
      rw [e, Option.some.injEq] at h
      subst h
      exact reverse_cons q qs h2
    · have e : fRev (q :: qs) = none := if_neg h2
      rw [e] at h
      cases h
theorem fRev_of {ps : List P2} (h1 : 1 ≤ ps.length) (h200 : ps.length ≤ 200) : fRev ps = some (slP ps.reverse) := by
  cases ps with
  | nil => simp at h1
  | cons q qs =>
    have : qs.length + 1 ≤ 200 := h200
    exact if_pos (by omega)
noncomputable def LE2 : Lib Try.prog := LE1.add 38 (gSo fRev) (Vm.enters_of named_prog Try.func38 (by kernel_rfl)) (gSo_spec fRev_ok)
section
variable {ev : Ev} {ps : List P2}
theorem e_ok : pureCall (cf LE2) ev 33 [slP ps] = some (bP (okB ps)) := pure_given (g := gSo fun ps => some (bP (okB ps))) (by kernel_rfl) (by rw [gSo_slP])
theorem e_closed (h : ps.length ≤ 200) : pureCall (cf LE2) ev 34 [slP ps] = some (bP (closedB ps)) := pure_given (g := gSo fun ps => lim ps (bP (closedB ps))) (by kernel_rfl) (by rw [gSo_slP, lim_of h])
theorem e_awake : pureCall (cf LE2) ev 32 [] = some (bP true) := pure_given (g := fun ps => match ps with | [] => some (bP true) | _ => none) (by kernel_rfl) rfl
theorem e_grid (h : ps.length ≤ 200) : pureCall (cf LE2) ev 29 [slP ps] = some (slP (ps.map nearP)) := pure_given (g := gSo fGrid) (by kernel_rfl) (by rw [gSo_slP]; unfold fGrid; rw [if_pos h])
theorem e_rev (h1 : 1 ≤ ps.length) (h : ps.length ≤ 200) : pureCall (cf LE2) ev 38 [slP ps] = some (slP ps.reverse) := pure_given (g := gSo fRev) (by kernel_rfl) (by rw [gSo_slP, fRev_of h1 h])
theorem e_at (p : P2) (h : ps.length ≤ 200) : pureCall (cf LE2) ev 39 [slP ps, ptP p] = some (iP (atI ps p)) := pure_given (g := gSPo fun ps p => lim ps (iP (atI ps p))) (by kernel_rfl) (by rw [gSPo_slP, lim_of h])
theorem e_split (p : P2) (h : ps.length ≤ 200) : pureCall (cf LE2) ev 40 [slP ps, ptP p] = some (splitP ps p) := pure_given (g := gSPo fun ps p => lim ps (splitP ps p)) (by kernel_rfl) (by rw [gSPo_slP, lim_of h])
end
theorem splitP_form (ps : List P2) (p : P2) : ∃ x y, splitP ps p = .tup [x, y, bP (splitO ps p).isSome] := by
  unfold splitP
  cases splitO ps p with
  | none => exact ⟨_, _, rfl⟩
  | some ab => exact ⟨_, _, rfl⟩
noncomputable abbrev bodyLe : List AVal → List AObj → Res := evalC (cf LE2) (evalF (cf LE2) 201) ((lives.lookup 13).getD []) 0 0 201 (loopAt Try.f13 0)
section
variable (xs : List P2) (h2 : 2 ≤ xs.length) (h64 : xs.length ≤ 64)
include h2 h64
theorem le_next {i : Nat} (hi : i < xs.length) : roundC 0 bodyLe (leT xs (okB xs) i) [] = some (.normal, leT xs (okB xs) (i + 1 : Nat), []) := by
  obtain ⟨k, hk, hki⟩ := at_self h2 hi
  obtain ⟨x, y, hs⟩ := splitP_form xs (pAt xs i)
  have ha : atI xs (pAt xs i) = (k : Int) := by unfold atI; rw [hk]
  have hw : IntKind.i64.wrap ((i : Int) - 1) = (i : Int) - 1 := IntWalk.i64_in _ (by omega)
  have hw2 : IntKind.i64.wrap ((xs.length : Int) - 1) = ((xs.length - 1 : Nat) : Int) := by rw [IntWalk.i64_in _ (by omega)]; omega
  have h := leR_eq LE2 xs (okB xs) i k true (splitO xs (pAt xs i)).isSome x y (decide_eq_false (by rw [hw]; split <;> omega)) (decide_eq_false (by omega)) (fun _ => ⟨by omega, by omega⟩)
    (fun _ => by rw [Int.toNat_natCast, ← ha]; exact e_at _ (by omega)) (fun _ => by rw [Int.toNat_natCast]; have := @e_split (evalF (cf LE2) 201) xs (pAt xs i) (by omega); rw [hs] at this; exact this)
  rw [show bodyLe = _ from rfl]
  rw [h]
  have hd : decide ((i : Int) < (xs.length : Int)) = true := decide_eq_true (by omega)
  unfold leR
  rw [hd, hw2, wrS (by omega)]
  cases ho : okB xs with
  | false => rfl
  | true =>
    have hb := split_self ho hi
    rw [hb]
    by_cases h0 : 0 < i
    · rw [decide_eq_true h0, decide_eq_true (by omega : (i : Int) > 0)]
      by_cases h1 : i < xs.length - 1
      · rw [decide_eq_true h1, decide_eq_true (by omega : (i : Int) < ((xs.length - 1 : Nat) : Int))]
        rfl
      · rw [decide_eq_false h1, decide_eq_false (by omega : ¬ (i : Int) < ((xs.length - 1 : Nat) : Int))]
        rfl
    · rw [decide_eq_false h0, decide_eq_false (by omega : ¬ (i : Int) > 0)]
      rfl
theorem le_end : roundC 0 bodyLe (leT xs (okB xs) xs.length) [] = some (.exit 0, leE xs (okB xs) xs.length, []) := by
  have hd : decide ((xs.length : Int) < (xs.length : Int)) = false := decide_eq_false (by omega)
  have hw : IntKind.i64.wrap ((xs.length : Int) - 1) = (xs.length : Int) - 1 := IntWalk.i64_in _ (by omega)
  have h := leR_eq LE2 xs (okB xs) xs.length 0 true true noneP noneP (decide_eq_false (by rw [hw]; split <;> omega)) (by rfl) (fun h => by rw [hd] at h; cases h) (fun h => by rw [hd] at h; cases h) (fun h => by rw [hd] at h; cases h)
  rw [show bodyLe = _ from rfl]
  rw [h]
  unfold leR
  rw [hd]
  rfl
theorem le_loop : At 0 bodyLe (xs.length + 1) (leT xs (okB xs) (0 : Nat)) [] (some (.exit 0, leE xs (okB xs) xs.length, [])) :=
  At.upto (base := 0) (body := bodyLe) (T := fun k => leT xs (okB xs) k) (S := fun _ => []) (n := xs.length) (m := 1) (fun k hk => le_next xs h2 h64 hk) (At.leave (le_end xs h2 h64) (by simp)) xs.length 0 (by omega)
end
theorem lineEnds_calls (ps : List P2) : CallsP Try.prog 13 [slP ps] (bP true) := by
  generalize hx : ps.map nearP = xs
  have hl : xs.length = ps.length := by rw [← hx]; simp
  have hs : ∀ {P : Prop}, (2 ≤ xs.length → xs.length ≤ 64 → P) → (decide ((ps.length : Int) > 64)) = false → (decide ((ps.length : Int) < 2)) = false → P := fun f h1 h2 => f (by have := of_decide_eq_false h2; omega) (by have := of_decide_eq_false h1; omega)
  have key := leA_calls LE2 ps xs (okB xs) (closedB xs) (by cases closedB xs <;> rfl) (by cases okB xs <;> rfl) e_awake (hs fun h2 h64 => by rw [← hx]; exact e_grid (by omega)) (hs fun h2 h64 => e_ok)
    (hs fun h2 h64 => e_rev (by omega) (by omega)) (hs fun h2 h64 => by rw [← ok_rev xs]; exact e_ok) (hs fun h2 h64 => by rw [← closed_rev xs]; exact e_closed (by rw [List.length_reverse]; omega))
    (hs fun h2 h64 => e_closed (by omega)) (hs fun h2 h64 => At.use (at_more (le_loop xs h2 h64) (m := 201) (by omega)) (by rfl) (T := leT xs (okB xs) (0 : Nat)) (S := []) (by kernel_rfl))
  have e : leA LE2 ps xs (okB xs) (closedB xs) = bP true := by
    unfold leA
    cases decide ((ps.length : Int) > 64) <;> cases decide ((ps.length : Int) < 2) <;> rfl
  rw [e] at key
  exact key
end Go.Proofs.Ytmopbegmdegooaa
