/- Calls of the abstract machine: what is frozen, what is handed over by value, what comes back. -/
import Derived.Test.YtmopbegmdegooaaVmOps6
namespace Go.Proofs.Ytmopbegmdegooaa.Vm
open Go Go.RowKit
set_option linter.unusedVariables false
set_option linter.unusedSimpArgs false
set_option linter.unnecessarySimpa false

/-! ## freezing -/
theorem freeze1 {C : Ctx} (hS : St C) {o sz ep : Nat} {fz : Option Nat} {xs : List AVal} (hx : C.S[o]? = some (.row sz ep fz xs)) :
    ∃ ok', (∀ b j, C.ok b j → ok' b j) ∧ St ⟨C.ρ, C.S.set o (.row sz ep (some xs.length) xs), ok', C.w⟩ ∧ Ext C ⟨C.ρ, C.S.set o (.row sz ep (some xs.length) xs), ok', C.w⟩ := by
  have hlen : o < C.S.length := (List.getElem?_eq_some_iff.1 hx).1
  have hset : (C.S.set o (.row sz ep (some xs.length) xs))[o]? = some (.row sz ep (some xs.length) xs) := by rw [List.getElem?_set]; simp [hlen]
  have hsetO : ∀ q, q ≠ o → (C.S.set o (.row sz ep (some xs.length) xs))[q]? = C.S[q]? := fun q hq => by rw [List.getElem?_set]; simp [Ne.symm hq]
  let ok' : Nat → Nat → Prop := fun b j => C.ok b j ∨ (b = (C.ρ o).b ∧ (C.ρ o).off ≤ j ∧ j < (C.ρ o).off + xs.length)
  have hok : ∀ b j, C.ok b j → ok' b j := fun b j h => .inl h
  have hro := hS.obj o _ hx
  have hlt := hro.lt (e := ep) rfl
  have g : Grows C ⟨C.ρ, C.S.set o (.row sz ep (some xs.length) xs), ok', C.w⟩ := by
    refine ⟨fun a y ⟨h1, h2⟩ => ⟨hok _ _ h1, h2⟩, fun q y e1 hy hye => ?_⟩
    by_cases hq : q = o
    · subst hq
      rw [hx] at hy; cases hy
      exact ⟨_, e1, hset, hye, .inl ⟨rfl, rfl⟩⟩
    · exact ⟨y, e1, (hsetO q hq).trans hy, hye, .inl ⟨rfl, rfl⟩⟩
  refine ⟨ok', hok, ⟨fun q y hy => ?_, fun q q' y y' e1 e2 hy hy' h1 h2 hb => ?_, fun b j hb => ?_, fun b j hb q y e1 hy h1 hbo => ?_⟩, ⟨g, rfl, rfl, rfl, Nat.le_refl _, hok, fun _ _ _ => rfl, fun b j hb => ?_, fun q y e1 hy h1 => ?_⟩⟩
  · by_cases hq : q = o
    · subst hq
      simp only [hset] at hy
      cases hy
      obtain ⟨cs, t, h1, h2, h3, h4, h5, h6, h7⟩ := hro
      exact ⟨cs, t, h1, h2, h3, h4, Rvs_mono g _ _ _ _ (fun _ _ h => h) h5, h6, fun k hk => by
        cases hk
        exact ⟨Nat.le_refl _, fun j hj => .inr ⟨rfl, Nat.le_add_right _ _, Nat.add_lt_add_left hj _⟩⟩⟩
    · simp only [hsetO q hq] at hy
      exact (hS.obj q y hy).keep g hok rfl fun _ _ => rfl
  · have key : ∀ (q : Nat) (y : AObj) (e1 : Nat), (C.S.set o (.row sz ep (some xs.length) xs))[q]? = some y → y.ep? = some e1 → ∃ (y' : AObj) (e' : Nat), C.S[q]? = some y' ∧ y'.ep? = some e' := by
      intro q y e1 hy h1
      by_cases hq : q = o
      · subst hq; exact ⟨_, ep, hx, rfl⟩
      · exact ⟨y, e1, (hsetO q hq).symm.trans hy, h1⟩
    obtain ⟨z, f1, k1, k2⟩ := key q y e1 hy h1
    obtain ⟨z', f2, k3, k4⟩ := key q' y' e2 hy' h2
    exact hS.inj q q' z z' f1 f2 k1 k3 k2 k4 hb
  · rcases hb with hb | ⟨rfl, _⟩
    · exact hS.okIn b j hb
    · exact hlt
  · by_cases hq : q = o
    · subst hq
      simp only [hset] at hy
      cases hy
      rcases hb with hb | ⟨rfl, hb1, hb2⟩
      · obtain ⟨s1, e2, k, xs', hx', hj⟩ := hS.okRow b j hb q _ ep hx rfl hbo
        cases hx'
        exact ⟨_, _, _, _, rfl, hj⟩
      · exact ⟨_, _, _, _, rfl, hb2⟩
    · simp only [hsetO q hq] at hy
      rcases hb with hb | ⟨rfl, hb1, hb2⟩
      · exact hS.okRow b j hb q y e1 hy h1 hbo
      · exact absurd (hS.inj q o y _ e1 ep hy hx h1 rfl hbo) hq
  · rcases hb with hb | ⟨rfl, _⟩
    · exact .inl hb
    · exact .inr (.inr ⟨o, _, ep, hx, rfl, rfl⟩)
  · by_cases hq : q = o
    · subst hq; exact .inr ⟨q, _, ep, hx, rfl, rfl⟩
    · simp only [hsetO q hq] at hy
      exact .inr ⟨q, y, e1, hy, h1, rfl⟩

/-- What marking leaves: the same places, the same world; objects below lo are as they were. -/
structure Marked (lo : Nat) (C C' : Ctx) : Prop where
  st : St C'
  ext : Ext C C'
  ρ : C'.ρ = C.ρ
  w : C'.w = C.w
  ok : ∀ b j, C.ok b j → C'.ok b j
  len : C'.S.length = C.S.length
  keep : ∀ q, q < lo → C'.S[q]? = C.S[q]?
theorem Marked.refl {lo : Nat} {C : Ctx} (h : St C) : Marked lo C C := ⟨h, Ext.refl C, rfl, rfl, fun _ _ h => h, rfl, fun _ _ => rfl⟩
theorem Marked.trans {lo : Nat} {A B C : Ctx} (h : Marked lo A B) (k : Marked lo B C) : Marked lo A C :=
  ⟨k.st, h.ext.trans k.ext, k.ρ.trans h.ρ, k.w.trans h.w, fun b j hb => k.ok b j (h.ok b j hb), k.len.trans h.len, fun q hq => (k.keep q hq).trans (h.keep q hq)⟩
theorem mark_ok (lo : Nat) : ∀ (n : Nat) (x : AVal) (C : Ctx), St C → ∃ C', Marked lo C C' ∧ C'.S = mark lo n C.S x := by
  have fold : ∀ n, (∀ (x : AVal) (C : Ctx), St C → ∃ C', Marked lo C C' ∧ C'.S = mark lo n C.S x) →
      ∀ (xs : List AVal) (C : Ctx), St C → ∃ C', Marked lo C C' ∧ C'.S = xs.foldl (mark lo n) C.S := by
    intro n ih xs
    induction xs with
    | nil => intro C hS; exact ⟨C, Marked.refl hS, rfl⟩
    | cons x xs ihx =>
      intro C hS
      obtain ⟨C1, h1, h2⟩ := ih x C hS
      obtain ⟨C2, k1, k2⟩ := ihx C1 h1.st
      exact ⟨C2, h1.trans k1, by rw [k2, h2]; rfl⟩
  intro n
  induction n with
  | zero => intro x C hS; exact ⟨C, Marked.refl hS, by simp [mark]⟩
  | succ n ih =>
    intro x C hS
    cases x with
    | agg xs => simpa only [mark] using fold n ih xs C hS
    | tup xs => simpa only [mark] using fold n ih xs C hS
    | fn f xs => simpa only [mark] using fold n ih xs C hS
    | row o ep sz off len =>
      simp only [mark]
      split
      · rename_i s e fz xs hx
        split
        · rename_i hlo
          obtain ⟨ok', h0, h1, h2⟩ := freeze1 hS hx
          obtain ⟨C2, k1, k2⟩ := fold n ih xs _ h1
          refine ⟨C2, Marked.trans ⟨h1, h2, rfl, rfl, h0, by simp, fun q hq => ?_⟩ k1, k2⟩
          simp only
          rw [List.getElem?_set, if_neg (by omega)]
        · exact ⟨C, Marked.refl hS, rfl⟩
      · exact ⟨C, Marked.refl hS, rfl⟩
    | _ => exact ⟨C, Marked.refl hS, by simp [mark]⟩
theorem marks_ok (lo n : Nat) : ∀ (xs : List AVal) (C : Ctx), St C → ∃ C', Marked lo C C' ∧ C'.S = xs.foldl (mark lo n) C.S
  | [], C, hS => ⟨C, Marked.refl hS, rfl⟩
  | x :: xs, C, hS => by
    obtain ⟨C1, h1, h2⟩ := mark_ok lo n x C hS
    obtain ⟨C2, k1, k2⟩ := marks_ok lo n xs C1 h1.st
    exact ⟨C2, h1.trans k1, by rw [k2, h2]; rfl⟩

theorem peek_ok {C : Ctx} (hS : St C) : ∀ (n : Nat) (x : AVal) (p : PVal) (u : Value), peek C.S n x = some p → Rv C x u → Rp (sees C.ok C.w) p u := by
  have list : ∀ n, (∀ (x : AVal) (p : PVal) (u : Value), peek C.S n x = some p → Rv C x u → Rp (sees C.ok C.w) p u) →
      ∀ (xs : List AVal) (ps : List PVal) (f f' : Nat → Value → Prop) (i : Nat), mapO (peek C.S n) xs = some ps → (∀ j y, j < i + xs.length → f j y → f' j y) → Rvs C xs f i → Rps (sees C.ok C.w) ps f' i := by
    intro n ih xs
    induction xs with
    | nil => intro ps f f' i h _ _; simp only [mapO, Option.some.injEq] at h; subst h; simp [Rps]
    | cons x xs ihx =>
      intro ps f f' i h hf hr
      simp only [mapO] at h
      split at h
      · rename_i p qs h1 h2
        simp only [Option.some.injEq] at h
        subst h
        simp only [Rvs] at hr
        simp only [Rps]
        obtain ⟨⟨y, hy, hry⟩, hr2⟩ := hr
        exact ⟨⟨y, hf _ _ (by simp) hy, ih _ _ _ h1 hry⟩, ihx _ f f' (i + 1) h2 (fun j y hj => hf j y (by simp at hj ⊢; omega)) hr2⟩
      · cases h
  intro n
  induction n with
  | zero => intro x p u h; simp [peek] at h
  | succ n ih =>
    intro x p u h hr
    cases x with
    | v y => simp only [peek, Option.some.injEq] at h; subst h; simpa [Rp, Rv] using hr
    | agg xs =>
      simp only [peek, Option.map_eq_some_iff] at h
      obtain ⟨ps, h1, rfl⟩ := h
      simp only [Rv] at hr
      obtain ⟨cs, h2, h3, h4⟩ := hr
      simp only [Rp]
      exact ⟨cs, h2, by rw [h3, (mapO_get h1).1], list n ih xs ps _ _ 0 h1 (fun _ _ _ h => h) h4⟩
    | tup xs =>
      simp only [peek, Option.map_eq_some_iff] at h
      obtain ⟨ps, h1, rfl⟩ := h
      simp only [Rv] at hr
      obtain ⟨cs, h2, h3, h4⟩ := hr
      simp only [Rp]
      exact ⟨cs, h2, by rw [h3, (mapO_get h1).1], list n ih xs ps _ _ 0 h1 (fun _ _ _ h => h) h4⟩
    | list k xs => simp only [peek, Option.some.injEq] at h; subst h; simpa [Rp, Rv] using hr
    | clip => simp only [peek, Option.some.injEq] at h; subst h; simpa [Rp, Rv] using hr
    | fn f xs =>
      simp only [peek, Option.map_eq_some_iff] at h
      obtain ⟨ps, h1, rfl⟩ := h
      simp only [Rv] at hr
      obtain ⟨cs, h2, h3, h4⟩ := hr
      simp only [Rp]
      exact ⟨cs, h2, by rw [h3, (mapO_get h1).1], list n ih xs ps _ _ 0 h1 (fun _ _ _ h => h) h4⟩
    | row o ep sz off len =>
      simp only [peek] at h
      split at h
      · rename_i s e k xs hx
        split at h
        · rename_i hc
          obtain ⟨rfl, rfl, hk⟩ := hc
          simp only [Option.map_eq_some_iff] at h
          obtain ⟨ps, h1, rfl⟩ := h
          simp only [Rv] at hr
          obtain ⟨ad, c, rfl, hlc, ob, e0, k1, k2, k3, k4⟩ := hr
          rw [hx] at k1; cases k1
          simp only [AObj.ep?, Option.some.injEq] at k2
          subst k2
          obtain ⟨hkl, hko⟩ : k ≤ xs.length ∧ ∀ j, j < k → C.ok (C.ρ o).b ((C.ρ o).off + j) := by
            obtain ⟨cs, t, _, _, _, _, _, _, h7⟩ := hS.obj o _ hx
            exact h7 k rfl
          simp only [Rp]
          refine ⟨_, _, rfl, hlc, ?_⟩
          rcases k4 rfl with ⟨rfl, _⟩ | ⟨rfl, _⟩
          · refine list n ih _ ps _ _ 0 h1 (fun j y hj hy => ?_) (Rvs_take (Rvs_drop (row_cells hS hx) (off * s)) ((off + len - off) * s))
            refine ⟨_, rfl, ?_, ?_⟩
            · simp only [addr_add]
              have hj' : j < len * s := by
                simp only [cutA, List.length_take, List.length_drop, Nat.zero_add] at hj
                rw [show off + len - off = len by omega] at hj
                omega
              rw [Nat.add_mul] at hk
              have := hko (off * s + j) (by omega)
              rw [← Nat.add_assoc] at this
              exact this
            · simp only [addr_add] at hy ⊢
              rw [Nat.add_assoc]; exact hy
          · have hcut : cutA xs s off (off + 0) = [] := by simp [cutA]
            rw [hcut] at h1
            simp only [mapO, Option.some.injEq] at h1
            subst h1
            simp [Rps]
        · cases h
      · cases h
    | junk => simp only [peek, Option.some.injEq] at h; subst h; simp [Rp]
    | _ => simp [peek] at h
theorem peeks_ok {C : Ctx} (hS : St C) {n : Nat} : ∀ (xs : List AVal) (ps : List PVal) (f : Nat → Value → Prop) (i : Nat), mapO (peek C.S n) xs = some ps → Rvs C xs f i → Rps (sees C.ok C.w) ps f i
  | [], ps, f, i, h, _ => by simp only [mapO, Option.some.injEq] at h; subst h; simp [Rps]
  | x :: xs, ps, f, i, h, hr => by
    simp only [mapO] at h
    split at h
    · rename_i p qs h1 h2
      simp only [Option.some.injEq] at h
      subst h
      simp only [Rvs] at hr
      simp only [Rps]
      obtain ⟨⟨y, hy, hry⟩, hr2⟩ := hr
      exact ⟨⟨y, hy, peek_ok hS n _ _ _ h1 hry⟩, peeks_ok hS xs qs f (i + 1) h2 hr2⟩
    · cases h

/-! ## a store's beginning, by itself -/
mutual
theorem Rv_shrink {A C C' : Ctx} (hρ : C'.ρ = C.ρ) (hok : C'.ok = C.ok) (hw : C'.w = C.w) (hA : A.S = C'.S) (hS : ∀ (o : Nat) (x : AObj), C'.S[o]? = some x → C.S[o]? = some x) :
    ∀ (x : AVal) (u v : Value), Rv A x u → Rv C x v → Rv C' x v
  | .v x, u, v, _, h => by simpa [Rv] using h
  | .agg xs, u, v, h0, h => by
    simp only [Rv] at h h0 ⊢
    obtain ⟨cs, h1, h2, h3⟩ := h
    obtain ⟨ds, k1, k2, k3⟩ := h0
    exact ⟨cs, h1, h2, Rvs_shrink hρ hok hw hA hS xs _ _ 0 k3 h3⟩
  | .tup xs, u, v, h0, h => by
    simp only [Rv] at h h0 ⊢
    obtain ⟨cs, h1, h2, h3⟩ := h
    obtain ⟨ds, k1, k2, k3⟩ := h0
    exact ⟨cs, h1, h2, Rvs_shrink hρ hok hw hA hS xs _ _ 0 k3 h3⟩
  | .list n xs, u, v, _, h => by simpa only [Rv, hok, hw] using h
  | .clip, u, v, _, h => by simpa [Rv] using h
  | .row o ep sz off len, u, v, h0, h => by
    simp only [Rv] at h h0 ⊢
    obtain ⟨a, c, h1, h2, x, e, h3, h4, h5, h6⟩ := h
    obtain ⟨_, _, _, _, y, e', k3, k4, k5, k6⟩ := h0
    rw [hA] at k3
    have := hS o y k3
    rw [h3] at this; cases this
    exact ⟨a, c, h1, h2, x, e, k3, h4, h5, by rw [hρ]; exact h6⟩
  | .ptr o ep off, u, v, h0, h => by
    simp only [Rv] at h h0 ⊢
    obtain ⟨a, h1, x, e, h3, h4, h5, h6⟩ := h
    obtain ⟨_, _, y, e', k3, k4, k5, k6⟩ := h0
    rw [hA] at k3
    have := hS o y k3
    rw [h3] at this; cases this
    exact ⟨a, h1, x, e, k3, h4, h5, by rw [hρ]; exact h6⟩
  | .eptr xs, u, v, _, h => by simpa only [Rv, hok, hw] using h
  | .fn f xs, u, v, h0, h => by
    simp only [Rv] at h h0 ⊢
    obtain ⟨cs, h1, h2, h3⟩ := h
    obtain ⟨ds, k1, k2, k3⟩ := h0
    exact ⟨cs, h1, h2, Rvs_shrink hρ hok hw hA hS xs _ _ 0 k3 h3⟩
  | .mp o, u, v, h0, h => by
    simp only [Rv] at h h0 ⊢
    obtain ⟨a, h1, x, e, h3, h4, h5, h6⟩ := h
    obtain ⟨_, _, y, e', k3, k4, k5, k6⟩ := h0
    rw [hA] at k3
    have := hS o y k3
    rw [h3] at this; cases this
    exact ⟨a, h1, x, e, k3, h4, h5, by rw [hρ]; exact h6⟩
  | .junk, u, v, _, h => by simp [Rv]
theorem Rvs_shrink {A C C' : Ctx} (hρ : C'.ρ = C.ρ) (hok : C'.ok = C.ok) (hw : C'.w = C.w) (hA : A.S = C'.S) (hS : ∀ (o : Nat) (x : AObj), C'.S[o]? = some x → C.S[o]? = some x) :
    ∀ (xs : List AVal) (f g : Nat → Value → Prop) (i : Nat), Rvs A xs f i → Rvs C xs g i → Rvs C' xs g i
  | [], _, _, _, _, _ => by simp [Rvs]
  | x :: xs, f, g, i, h0, h => by
    simp only [Rvs] at h h0 ⊢
    obtain ⟨⟨y, hy, hr⟩, h2⟩ := h
    obtain ⟨⟨z, hz, hr0⟩, h20⟩ := h0
    exact ⟨⟨y, hy, Rv_shrink hρ hok hw hA hS x z y hr0 hr⟩, Rvs_shrink hρ hok hw hA hS xs f g (i + 1) h20 h2⟩
end
/-- The objects that were there when the call began stand by themselves again. -/
theorem shrink {C C' : Ctx} (hS : St C) (hS' : St C') (hE : Ext C C') (hpre : ∀ (o : Nat) (x : AObj), C.S[o]? = some x → C'.S[o]? = some x) :
    St ⟨C'.ρ, C.S, C'.ok, C'.w⟩ ∧ Ext C ⟨C'.ρ, C.S, C'.ok, C'.w⟩ := by
  have hρ : ∀ o x e, C.S[o]? = some x → x.ep? = some e → C'.ρ o = C.ρ o := by
    intro o x e hx he
    obtain ⟨x', e', h1, h2, h3⟩ := hE.grows.refs o x e hx he
    rw [hpre o x hx] at h1; cases h1
    rw [he] at h2; cases h2
    rcases h3 with ⟨_, h3⟩ | h3
    · exact h3
    · omega
  have g : Grows C ⟨C'.ρ, C.S, C'.ok, C'.w⟩ := ⟨hE.grows.sees, fun o x e hx he => ⟨x, e, hx, he, .inl ⟨rfl, hρ o x e hx he⟩⟩⟩
  refine ⟨⟨fun o x hx => ?_, fun o o' x x' e e' hx hx' he he' hb => hS'.inj o o' x x' e e' (hpre o x hx) (hpre o' x' hx') he he' hb, hS'.okIn, fun b j hb o x e hx he hbo => hS'.okRow b j hb o x e (hpre o x hx) he hbo⟩,
    ⟨g, hE.os, hE.tape, hE.output, hE.size, hE.ok, hE.frame, hE.okNew, fun o x e hx he => hE.blocks o x e (hpre o x hx) he⟩⟩
  have h0 := hS.obj o x hx
  have h1 := hS'.obj o x (hpre o x hx)
  cases x with
  | box xs =>
    obtain ⟨cs, t, k1, k2, k3, k4, k5⟩ := h1
    obtain ⟨_, _, _, _, _, l4, _⟩ := h0
    exact ⟨cs, t, k1, k2, k3, Rvs_shrink (A := C) (C := C') (C' := ⟨C'.ρ, C.S, C'.ok, C'.w⟩) rfl rfl rfl rfl hpre xs _ _ 0 l4 k4, k5⟩
  | row sz ep fz xs =>
    obtain ⟨cs, t, k1, k2, k3, k4, k5, k6, k7⟩ := h1
    obtain ⟨_, _, _, _, _, _, l5, _⟩ := h0
    exact ⟨cs, t, k1, k2, k3, k4, Rvs_shrink (A := C) (C := C') (C' := ⟨C'.ρ, C.S, C'.ok, C'.w⟩) rfl rfl rfl rfl hpre xs _ _ 0 l5 k5, k6, k7⟩
  | mapo es => exact h1.elim
  | free => trivial
  | hidden => exact h1.elim

/-! ## calls -/
/-- The model enters this function's body. -/
def Enters (P : Program) (f : FuncId) : Prop := ∃ fn, P.funcs[f]? = some fn ∧ (fn.name == "runtime.NumGoroutine") = false ∧ fn.body.isNone = false
/-- A call that goes by objects. -/
def CallsA (P : Program) (f : FuncId) (args : List AVal) (S : List AObj) (r : AVal) (S' : List AObj) : Prop :=
  ∀ (C : Ctx) (vs : Array Value), C.S = S → St C → vs.size = args.length → Rvs C args (fun i y => vs[i]? = some y) 0 →
    Calls P f vs C.w fun e w' => ∃ v C', e = .returned v ∧ C'.w = w' ∧ C'.S = S' ∧ St C' ∧ Ext C C' ∧ Rv C' r v
/-- A call that goes by values. -/
def CallsP (P : Program) (f : FuncId) (ps : List PVal) (r : PVal) : Prop :=
  ∀ (ok : Nat → Nat → Prop) (w : World) (vs : Array Value), (∀ b j, ok b j → b < w.heap.size) → vs.size = ps.length → Rps (sees ok w) ps (fun i y => vs[i]? = some y) 0 →
    Calls P f vs w fun e w' => ∃ v ok', e = .returned v ∧ Below w.heap.size w w' ∧ (∀ b j, ok b j → ok' b j) ∧ (∀ b j, ok' b j → ok b j ∨ w.heap.size ≤ b) ∧ (∀ b j, ok' b j → b < w'.heap.size) ∧ Rp (sees ok' w') r v
/-- Objects below lo stay; none goes. -/
def Stays (lo : Nat) (S S' : List AObj) : Prop := S.length ≤ S'.length ∧ ∀ q, q < lo → q < S.length → S'[q]? = S[q]?
structure EvOk (c : Cfg) (ev : Ev) : Prop where
  calls : ∀ lo f args S r S', ev lo f args S = some (r, S') → CallsA c.P f args S r S'
  enters : ∀ lo f args S r S', ev lo f args S = some (r, S') → Enters c.P f
  stays : ∀ lo f args S r S', ev lo f args S = some (r, S') → Stays lo S S'
structure TabOk (c : Cfg) (f : FuncId) (a : FnA) : Prop where
  fn : ∃ fn, c.P.funcs[f]? = some fn ∧ (fn.name == "runtime.NumGoroutine") = false ∧ fn.body = some a.body ∧ fn.ntmps = a.ntmps ∧ fn.results = a.results
structure CfgOk (c : Cfg) : Prop where
  mixed : c.P.follows .mixedOrders = true
  tab : ∀ f a, c.tab f = some a → TabOk c f a
  givenP : ∀ f g, c.givenP f = some g → Enters c.P f ∧ ∀ ps r, g ps = some r → CallsP c.P f ps r
  givenS : ∀ f g, c.givenS f = some g → Enters c.P f ∧ ∀ lo args S r S', g lo args S = some (r, S') → CallsA c.P f args S r S' ∧ Stays lo S S'

theorem pureCall_ok {c : Cfg} {ev : Ev} (hc : CfgOk c) (he : EvOk c ev) {f : FuncId} {ps : List PVal} {r : PVal} (h : pureCall c ev f ps = some r) : Enters c.P f ∧ CallsP c.P f ps r := by
  unfold pureCall at h
  split at h
  · rename_i g hg
    obtain ⟨h1, h2⟩ := hc.givenP f g hg
    exact ⟨h1, h2 ps r h⟩
  · split at h
    · rename_i r0 S hev
      refine ⟨he.enters _ _ _ _ _ _ hev, fun ok w vs hin hs hr => ?_⟩
      let C : Ctx := ⟨fun _ => ⟨0, 0, 0⟩, [], ok, w⟩
      have hS : St C := ⟨fun o x hx => by simp [C] at hx, fun o o' x x' e e' hx => by simp [C] at hx, hin, fun b j hb o x e hx => by simp [C] at hx⟩
      refine (he.calls _ _ _ _ _ _ hev C vs rfl hS (by simp [hs]) ((Rvs_up ps _ 0).2 hr)).mono ?_
      rintro e w' ⟨v, C', rfl, rfl, hCS, hS', hE, hrv⟩
      obtain ⟨C2, hm, hm2⟩ := mark_ok 0 deep r0 C' hS'
      have hrv2 := Rv_mono hm.ext.grows _ _ hrv
      have hE2 := hE.trans hm.ext
      have hp := peek_ok hm.st deep r0 r v (by rw [hm2, hCS]; exact h) hrv2
      refine ⟨v, C2.ok, rfl, ?_, fun b j hb => ?_, fun b j hb => ?_, fun b j hb => ?_, ?_⟩
      · rw [← hm.w]; exact hE2.below rfl
      · exact hE2.ok b j hb
      · rcases hE2.okNew b j hb with h1 | h1 | ⟨o, x, e, h1, _⟩
        · exact .inl h1
        · exact .inr h1
        · simp [C] at h1
      · rw [← hm.w]; exact hm.st.okIn b j hb
      · rw [← hm.w]; exact hp
    · cases h

end Go.Proofs.Ytmopbegmdegooaa.Vm
