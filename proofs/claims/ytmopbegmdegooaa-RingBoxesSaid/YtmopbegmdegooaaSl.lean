/- Slices of points that are handed over: as values. -/
import Derived.Test.YtmopbegmdegooaaGen
namespace Go.Proofs.Ytmopbegmdegooaa
open Go Vm M
set_option linter.unusedVariables false
set_option linter.unusedSimpArgs false
def flatPP : List P2 → List PVal
  | [] => []
  | p :: ps => .v (.int .i64 p.1) :: .v (.int .i64 p.2) :: flatPP ps
def slP (ps : List P2) : PVal := .list ps.length (flatPP ps)
def slA (ps : List P2) : AVal := .list ps.length (flatPP ps)
theorem flatPP_length : ∀ ps : List P2, (flatPP ps).length = ps.length * 2
  | [] => rfl
  | p :: ps => by simp [flatPP, flatPP_length ps]; omega
theorem upL_flatPP : ∀ ps : List P2, upL (flatPP ps) = flatP ps
  | [] => rfl
  | p :: ps => by simp [flatPP, flatP, upL, up, upL_flatPP ps]
theorem upL_drop : ∀ (xs : List PVal) (k : Nat), upL (xs.drop k) = (upL xs).drop k
  | xs, 0 => by simp
  | [], k + 1 => by simp [upL]
  | x :: xs, k + 1 => by simp [upL, upL_drop xs k]
theorem flatPP_drop : ∀ (ps : List P2) (k : Nat), (flatPP ps).drop (k * 2) = flatPP (ps.drop k)
  | ps, 0 => by simp
  | [], k + 1 => by simp [flatPP]
  | p :: ps, k + 1 => by
    rw [show (k + 1) * 2 = k * 2 + 1 + 1 by omega]
    simp only [flatPP, List.drop_succ_cons]
    exact flatPP_drop ps k
theorem flatPP_take : ∀ (ps : List P2) (k : Nat), (flatPP ps).take (k * 2) = flatPP (ps.take k)
  | ps, 0 => by simp [flatPP]
  | [], k + 1 => by simp [flatPP]
  | p :: ps, k + 1 => by
    rw [show (k + 1) * 2 = k * 2 + 1 + 1 by omega]
    simp only [flatPP, List.take_succ_cons]
    rw [flatPP_take ps k]
theorem flatPP_append : ∀ (ps qs : List P2), flatPP (ps ++ qs) = flatPP ps ++ flatPP qs
  | [], qs => rfl
  | p :: ps, qs => by simp [flatPP, flatPP_append ps qs]
theorem load_list {S : List AObj} {ps : List P2} {i : Int} {p : P2} (h : ps[i.toNat]? = some p) : loadA Try.prog S 23 (.eptr ((flatPP ps).drop (i.toNat * 2))) = some (ptA p) := by
  have hk := (List.getElem?_eq_some_iff.1 h).1
  have hp : ps[i.toNat] = p := (List.getElem?_eq_some_iff.1 h).2
  unfold loadA
  simp only
  rw [flatPP_drop, upL_flatPP, List.drop_eq_getElem_cons hk, hp]
  unfold partA
  rw [agg23, sz23]
  simp [flatP, ptA]
/-- What a value says that a slice of points can be. -/
def unFlat : List PVal → Option (List P2)
  | [] => some []
  | .v (.int .i64 a) :: .v (.int .i64 b) :: xs => match unFlat xs with
    | some ps => some ((a, b) :: ps)
    | none => none
  | _ => none
theorem unFlat_flat : ∀ ps : List P2, unFlat (flatPP ps) = some ps
  | [] => rfl
  | (a, b) :: ps => by simp [flatPP, unFlat, unFlat_flat ps]
theorem unFlat_some : ∀ {xs : List PVal} {ps : List P2}, unFlat xs = some ps → xs = flatPP ps
  | [], ps, h => by
    simp only [unFlat, Option.some.injEq] at h
    subst h; rfl
  | x :: xs, ps, h => by
    unfold unFlat at h
    split at h
    · rename_i he; cases he
    · rename_i a b ys he
      split at h
      · rename_i qs hq
        simp only [Option.some.injEq] at h
        subst h
        have := unFlat_some hq
        rw [List.cons.injEq] at he
        obtain ⟨rfl, rfl⟩ := he
        simp [flatPP, this]
      · cases h
    · cases h
termination_by xs => xs.length
decreasing_by
  all_goals simp_all
  all_goals omega
def unSl : PVal → Option (List P2)
  | .list n xs => match unFlat xs with
    | some ps => if ps.length = n then some ps else none
    | none => none
  | .clip => some []
  | .v (.slice none 0 0) => some []
  | _ => none
theorem unSl_slP (ps : List P2) : unSl (slP ps) = some ps := by simp [unSl, slP, unFlat_flat]
/-- A value that says less. -/
def Wk (p p' : PVal) : Prop := ∀ L u, Rp L p u → Rp L p' u
theorem Wk.refl (p : PVal) : Wk p p := fun _ _ h => h
theorem unSl_wk {x : PVal} {ps : List P2} (h : unSl x = some ps) : Wk x (slP ps) := by
  unfold unSl at h
  split at h
  · split at h
    · rename_i qs hq
      split at h
      · rename_i hl
        simp only [Option.some.injEq] at h
        subst h
        rw [unFlat_some hq, ← hl]
        exact Wk.refl _
      · cases h
    · cases h
  · simp only [Option.some.injEq] at h
    subst h
    intro L u hu
    simp only [Rp] at hu
    obtain ⟨A, rfl⟩ := hu
    simp only [slP, Rp, flatPP, Rps]
    exact ⟨A, 0, rfl, Nat.le_refl _, trivial⟩
  · simp only [Option.some.injEq] at h
    subst h
    intro L u hu
    simp only [Rp] at hu
    subst hu
    simp only [slP, Rp, flatPP, Rps]
    exact ⟨none, 0, rfl, Nat.le_refl _, trivial⟩
  · cases h
def Wks : List PVal → List PVal → Prop
  | [], [] => True
  | x :: xs, y :: ys => Wk x y ∧ Wks xs ys
  | _, _ => False
theorem Wks.rps {L : Addr → Value → Prop} : ∀ {xs ys : List PVal} {f : Nat → Value → Prop} {i : Nat}, Wks xs ys → Rps L xs f i → Rps L ys f i
  | [], [], _, _, _, h => h
  | x :: xs, y :: ys, f, i, hw, h => by
    simp only [Rps] at h ⊢
    obtain ⟨⟨u, h1, h2⟩, h3⟩ := h
    exact ⟨⟨u, h1, hw.1 L u h2⟩, hw.2.rps h3⟩
  | [], _ :: _, _, _, hw, _ => hw.elim
  | _ :: _, [], _, _, hw, _ => hw.elim
theorem Wks.length : ∀ {xs ys : List PVal}, Wks xs ys → xs.length = ys.length
  | [], [], _ => rfl
  | x :: xs, y :: ys, h => by simp [h.2.length]
  | [], _ :: _, h => h.elim
  | _ :: _, [], h => h.elim
theorem callsP_weak {P : Program} {F : FuncId} {ps ps' : List PVal} {r : PVal} (h : CallsP P F ps' r) (hw : Wks ps ps') : CallsP P F ps r :=
  fun ok w vs h1 h2 h3 => h ok w vs h1 (h2.trans hw.length) (hw.rps h3)
/-- One slice. -/
def gS (f : List P2 → PVal) : List PVal → Option PVal
  | [x] => match unSl x with
    | some ps => some (f ps)
    | none => none
  | _ => none
theorem gS_spec {P : Program} {F : FuncId} {f : List P2 → PVal} (h : ∀ ps, CallsP P F [slP ps] (f ps)) : ∀ ps r, gS f ps = some r → CallsP P F ps r := by
  intro ps r hg
  unfold gS at hg
  split at hg
  · split at hg
    · rename_i qs hq
      simp only [Option.some.injEq] at hg
      subst hg
      exact callsP_weak (h qs) ⟨unSl_wk hq, trivial⟩
    · cases hg
  · cases hg
theorem gS_slP (f : List P2 → PVal) (ps : List P2) : gS f [slP ps] = some (f ps) := by simp [gS, unSl_slP]
/-- A slice and a point. -/
def gSP (f : List P2 → P2 → PVal) : List PVal → Option PVal
  | [x, y] => match unSl x, unPt y with
    | some ps, some p => some (f ps p)
    | _, _ => none
  | _ => none
theorem gSP_spec {P : Program} {F : FuncId} {f : List P2 → P2 → PVal} (h : ∀ ps p, CallsP P F [slP ps, ptP p] (f ps p)) : ∀ ps r, gSP f ps = some r → CallsP P F ps r := by
  intro ps r hg
  unfold gSP at hg
  split at hg
  · split at hg
    · rename_i qs p hq hp
      simp only [Option.some.injEq] at hg
      subst hg
      rw [unPt_some hp]
      exact callsP_weak (h qs p) ⟨unSl_wk hq, Wk.refl _, trivial⟩
    · cases hg
  · cases hg
theorem gSP_slP (f : List P2 → P2 → PVal) (ps : List P2) (p : P2) : gSP f [slP ps, ptP p] = some (f ps p) := by simp [gSP, unSl_slP, unPt, ptP]
/-- Two slices. -/
def gSS (f : List P2 → List P2 → PVal) : List PVal → Option PVal
  | [x, y] => match unSl x, unSl y with
    | some ps, some qs => some (f ps qs)
    | _, _ => none
  | _ => none
theorem gSS_spec {P : Program} {F : FuncId} {f : List P2 → List P2 → PVal} (h : ∀ ps qs, CallsP P F [slP ps, slP qs] (f ps qs)) : ∀ ps r, gSS f ps = some r → CallsP P F ps r := by
  intro ps r hg
  unfold gSS at hg
  split at hg
  · split at hg
    · rename_i qs p hq hp
      simp only [Option.some.injEq] at hg
      subst hg
      exact callsP_weak (h qs p) ⟨unSl_wk hq, unSl_wk hp, trivial⟩
    · cases hg
  · cases hg
theorem gSS_slP (f : List P2 → List P2 → PVal) (ps qs : List P2) : gSS f [slP ps, slP qs] = some (f ps qs) := by simp [gSS, unSl_slP]
/-- Of a call whose arguments are seen as values. -/
theorem callA_given {c : Cfg} {ev : Ev} {lo : Nat} {F : FuncId} {args : List AVal} {S S' : List AObj} {ps : List PVal} {r : PVal} {g : List PVal → Option PVal} (h0 : c.givenS F = none) (hm : c.mode F = 0)
    (hS : args.foldl (Vm.mark lo deep) S = S') (hp : mapO (peek S' deep) args = some ps) (hg : c.givenP F = some g) (hr : g ps = some r) : callA c ev lo F args S = some (up r, S') := by
  unfold callA
  simp only [h0, hm, hS, hp, pureCall, hg, hr, Option.map_some]
theorem peekCall_given {c : Cfg} {ev : Ev} {F : FuncId} {args : List AVal} {S : List AObj} {ps : List PVal} {r : PVal} {g : List PVal → Option PVal} (h0 : c.givenS F = none) (hm : c.mode F = 0)
    (hp : mapO (peek S deep) args = some ps) (hg : c.givenP F = some g) (hr : g ps = some r) : peekCall c ev F args S = some (up r) := by
  unfold peekCall
  simp only [h0, hm, hp, pureCall, hg, hr, Option.map_some]
  rfl
theorem lt_of_get {ps : List P2} {i : Nat} {p : P2} (h : ps[i]? = some p) : i < ps.length := (List.getElem?_eq_some_iff.1 h).1
end Go.Proofs.Ytmopbegmdegooaa
