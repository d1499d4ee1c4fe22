/- How the abstract machine's values, objects and stores stand to the model's worlds; and that they go on standing so. -/
import Derived.Test.YtmopbegmdegooaaVmDef
namespace Go.Proofs.Ytmopbegmdegooaa.Vm
open Go Go.RowKit
set_option linter.unusedVariables false
set_option linter.unusedSimpArgs false
set_option linter.unnecessarySimpa false

structure Pl where
  b : Nat
  off : Nat
  cap : Nat
structure Ctx where
  ρ : Nat → Pl
  S : List AObj
  ok : Nat → Nat → Prop
  w : World

/-- A cell that is never written again holds x. -/
def sees (ok : Nat → Nat → Prop) (w : World) (a : Addr) (x : Value) : Prop := ok a.block a.off ∧ w.cell? a = some x

mutual
def Rp (L : Addr → Value → Prop) : PVal → Value → Prop
  | .v x, u => u = x
  | .agg xs, u => ∃ cs, u = .agg cs ∧ cs.size = xs.length ∧ Rps L xs (fun i y => cs[i]? = some y) 0
  | .tup xs, u => ∃ cs, u = .tuple cs ∧ cs.size = xs.length ∧ Rps L xs (fun i y => cs[i]? = some y) 0
  | .list n xs, u => ∃ A c, u = .slice A n c ∧ n ≤ c ∧ Rps L xs (fun i y => ∃ a, A = some a ∧ L (a.add i) y) 0
  | .clip, u => ∃ A, u = .slice A 0 0
  | .fn f xs, u => ∃ cs, u = .func (.func f) #[] cs ∧ cs.size = xs.length ∧ Rps L xs (fun i y => cs[i]? = some y) 0
  | .junk, _ => True
def Rps (L : Addr → Value → Prop) : List PVal → (Nat → Value → Prop) → Nat → Prop
  | [], _, _ => True
  | x :: xs, f, i => (∃ y, f i y ∧ Rp L x y) ∧ Rps L xs f (i + 1)
end

/-- An object that a value names: it is there, and where it lies, if nothing has turned it since. -/
def refAt (ρ : Nat → Pl) (S : List AObj) (o ep : Nat) (k : Pl → Prop) : Prop :=
  ∃ x e, S[o]? = some x ∧ x.ep? = some e ∧ ep ≤ e ∧ (ep = e → k (ρ o))

mutual
def Rv (C : Ctx) : AVal → Value → Prop
  | .v x, u => u = x
  | .agg xs, u => ∃ cs, u = .agg cs ∧ cs.size = xs.length ∧ Rvs C xs (fun i y => cs[i]? = some y) 0
  | .tup xs, u => ∃ cs, u = .tuple cs ∧ cs.size = xs.length ∧ Rvs C xs (fun i y => cs[i]? = some y) 0
  | .list n xs, u => ∃ A c, u = .slice A n c ∧ n ≤ c ∧ Rps (sees C.ok C.w) xs (fun i y => ∃ a, A = some a ∧ sees C.ok C.w (a.add i) y) 0
  | .clip, u => ∃ A, u = .slice A 0 0
  | .row o ep sz off len, u => ∃ a c, u = .slice (some a) len c ∧ len ≤ c ∧
      refAt C.ρ C.S o ep (fun p => (a = ⟨p.b, p.off + off * sz, none⟩ ∧ off + c ≤ p.cap) ∨ (len = 0 ∧ c = 0))
  | .ptr o ep off, u => ∃ a, u = .pointer (some a) ∧ refAt C.ρ C.S o ep (fun p => a = ⟨p.b, p.off + off, none⟩)
  | .eptr xs, u => ∃ a, u = .pointer (some a) ∧ Rps (sees C.ok C.w) xs (fun i y => sees C.ok C.w (a.add i) y) 0
  | .fn f xs, u => ∃ cs, u = .func (.func f) #[] cs ∧ cs.size = xs.length ∧ Rvs C xs (fun i y => cs[i]? = some y) 0
  | .mp o, u => ∃ r, u = .map (some r) ∧ refAt C.ρ C.S o 0 (fun p => r = p.b)
  | .junk, _ => True
def Rvs (C : Ctx) : List AVal → (Nat → Value → Prop) → Nat → Prop
  | [], _, _ => True
  | x :: xs, f, i => (∃ y, f i y ∧ Rv C x y) ∧ Rvs C xs f (i + 1)
end

/-! ## reading -/
theorem Rps_get {L : Addr → Value → Prop} : ∀ {xs : List PVal} {f : Nat → Value → Prop} {i : Nat}, Rps L xs f i → ∀ j x, xs[j]? = some x → ∃ y, f (i + j) y ∧ Rp L x y
  | [], _, _, _, j, x, h => by simp at h
  | y :: ys, f, i, h, 0, x, hx => by
    simp only [Rps] at h
    simp only [List.getElem?_cons_zero, Option.some.injEq] at hx
    subst hx
    simpa using h.1
  | y :: ys, f, i, h, j + 1, x, hx => by
    simp only [Rps] at h
    have := Rps_get h.2 j x (by simpa using hx)
    rwa [show i + 1 + j = i + (j + 1) by omega] at this
theorem Rps_mk {L : Addr → Value → Prop} : ∀ {xs : List PVal} {f : Nat → Value → Prop} {i : Nat}, (∀ j x, xs[j]? = some x → ∃ y, f (i + j) y ∧ Rp L x y) → Rps L xs f i
  | [], _, _, _ => by simp [Rps]
  | x :: xs, f, i, h => by
    simp only [Rps]
    refine ⟨by simpa using h 0 x rfl, Rps_mk fun j y hy => ?_⟩
    have := h (j + 1) y (by simpa using hy)
    rwa [show i + (j + 1) = i + 1 + j by omega] at this
theorem Rvs_get {C : Ctx} : ∀ {xs : List AVal} {f : Nat → Value → Prop} {i : Nat}, Rvs C xs f i → ∀ j x, xs[j]? = some x → ∃ y, f (i + j) y ∧ Rv C x y
  | [], _, _, _, j, x, h => by simp at h
  | y :: ys, f, i, h, 0, x, hx => by
    simp only [Rvs] at h
    simp only [List.getElem?_cons_zero, Option.some.injEq] at hx
    subst hx
    simpa using h.1
  | y :: ys, f, i, h, j + 1, x, hx => by
    simp only [Rvs] at h
    have := Rvs_get h.2 j x (by simpa using hx)
    rwa [show i + 1 + j = i + (j + 1) by omega] at this
theorem Rvs_mk {C : Ctx} : ∀ {xs : List AVal} {f : Nat → Value → Prop} {i : Nat}, (∀ j x, xs[j]? = some x → ∃ y, f (i + j) y ∧ Rv C x y) → Rvs C xs f i
  | [], _, _, _ => by simp [Rvs]
  | x :: xs, f, i, h => by
    simp only [Rvs]
    refine ⟨by simpa using h 0 x rfl, Rvs_mk fun j y hy => ?_⟩
    have := h (j + 1) y (by simpa using hy)
    rwa [show i + (j + 1) = i + 1 + j by omega] at this

/-! ## going on -/
/-- What may turn while values stay what they are. -/
structure Grows (C C' : Ctx) : Prop where
  sees : ∀ a x, Vm.sees C.ok C.w a x → Vm.sees C'.ok C'.w a x
  refs : ∀ o x e, C.S[o]? = some x → x.ep? = some e → ∃ x' e', C'.S[o]? = some x' ∧ x'.ep? = some e' ∧ (e' = e ∧ C'.ρ o = C.ρ o ∨ e < e')
theorem Grows.refl (C : Ctx) : Grows C C := ⟨fun _ _ h => h, fun o x e h he => ⟨x, e, h, he, .inl ⟨rfl, rfl⟩⟩⟩
theorem Grows.trans {A B C : Ctx} (h : Grows A B) (k : Grows B C) : Grows A C := by
  refine ⟨fun a x hx => k.sees a x (h.sees a x hx), fun o x e hx he => ?_⟩
  obtain ⟨x1, e1, h1, h2, h3⟩ := h.refs o x e hx he
  obtain ⟨x2, e2, k1, k2, k3⟩ := k.refs o x1 e1 h1 h2
  refine ⟨x2, e2, k1, k2, ?_⟩
  rcases h3 with ⟨rfl, h3⟩ | h3
  · rcases k3 with ⟨rfl, k3⟩ | k3
    · exact .inl ⟨rfl, k3.trans h3⟩
    · exact .inr k3
  · rcases k3 with ⟨rfl, _⟩ | k3
    · exact .inr h3
    · exact .inr (Nat.lt_trans h3 k3)
theorem refAt.grows {C C' : Ctx} (g : Grows C C') {o ep : Nat} {k : Pl → Prop} (h : refAt C.ρ C.S o ep k) : refAt C'.ρ C'.S o ep k := by
  obtain ⟨x, e, hx, he, hle, hk⟩ := h
  obtain ⟨x', e', hx', he', h3⟩ := g.refs o x e hx he
  refine ⟨x', e', hx', he', ?_, ?_⟩
  · rcases h3 with ⟨rfl, _⟩ | h3 <;> omega
  · rcases h3 with ⟨rfl, h3⟩ | h3
    · intro h; rw [h3]; exact hk h
    · intro h; omega
mutual
theorem Rp_mono {L L' : Addr → Value → Prop} (hL : ∀ a x, L a x → L' a x) : ∀ (x : PVal) (u : Value), Rp L x u → Rp L' x u
  | .v x, u, h => by simpa [Rp] using h
  | .agg xs, u, h => by
    simp only [Rp] at h ⊢
    obtain ⟨cs, h1, h2, h3⟩ := h
    exact ⟨cs, h1, h2, Rps_mono hL xs _ _ _ (fun _ _ h => h) h3⟩
  | .tup xs, u, h => by
    simp only [Rp] at h ⊢
    obtain ⟨cs, h1, h2, h3⟩ := h
    exact ⟨cs, h1, h2, Rps_mono hL xs _ _ _ (fun _ _ h => h) h3⟩
  | .list n xs, u, h => by
    simp only [Rp] at h ⊢
    obtain ⟨A, c, h1, h2, h3⟩ := h
    exact ⟨A, c, h1, h2, Rps_mono hL xs _ _ _ (fun i y h => by obtain ⟨a, ha, hs⟩ := h; exact ⟨a, ha, hL _ _ hs⟩) h3⟩
  | .clip, u, h => by simpa [Rp] using h
  | .fn f xs, u, h => by
    simp only [Rp] at h ⊢
    obtain ⟨cs, h1, h2, h3⟩ := h
    exact ⟨cs, h1, h2, Rps_mono hL xs _ _ _ (fun _ _ h => h) h3⟩
  | .junk, u, h => by simp [Rp]
theorem Rps_mono {L L' : Addr → Value → Prop} (hL : ∀ a x, L a x → L' a x) : ∀ (xs : List PVal) (f f' : Nat → Value → Prop) (i : Nat), (∀ i y, f i y → f' i y) → Rps L xs f i → Rps L' xs f' i
  | [], _, _, _, _, _ => by simp [Rps]
  | x :: xs, f, f', i, hf, h => by
    simp only [Rps] at h ⊢
    obtain ⟨⟨y, hy, hr⟩, h2⟩ := h
    exact ⟨⟨y, hf _ _ hy, Rp_mono hL x y hr⟩, Rps_mono hL xs f f' (i + 1) hf h2⟩
end
mutual
theorem Rv_mono {C C' : Ctx} (g : Grows C C') : ∀ (x : AVal) (u : Value), Rv C x u → Rv C' x u
  | .v x, u, h => by simpa [Rv] using h
  | .agg xs, u, h => by
    simp only [Rv] at h ⊢
    obtain ⟨cs, h1, h2, h3⟩ := h
    exact ⟨cs, h1, h2, Rvs_mono g xs _ _ _ (fun _ _ h => h) h3⟩
  | .tup xs, u, h => by
    simp only [Rv] at h ⊢
    obtain ⟨cs, h1, h2, h3⟩ := h
    exact ⟨cs, h1, h2, Rvs_mono g xs _ _ _ (fun _ _ h => h) h3⟩
  | .list n xs, u, h => by
    simp only [Rv] at h ⊢
    obtain ⟨A, c, h1, h2, h3⟩ := h
    exact ⟨A, c, h1, h2, Rps_mono g.sees xs _ _ _ (fun i y h => by obtain ⟨a, ha, hs⟩ := h; exact ⟨a, ha, g.sees _ _ hs⟩) h3⟩
  | .clip, u, h => by simpa [Rv] using h
  | .row o ep sz off len, u, h => by
    simp only [Rv] at h ⊢
    obtain ⟨A, c, h1, h2, h3⟩ := h
    exact ⟨A, c, h1, h2, h3.grows g⟩
  | .ptr o ep off, u, h => by
    simp only [Rv] at h ⊢
    obtain ⟨a, h1, h2⟩ := h
    exact ⟨a, h1, h2.grows g⟩
  | .eptr xs, u, h => by
    simp only [Rv] at h ⊢
    obtain ⟨a, h1, h2⟩ := h
    exact ⟨a, h1, Rps_mono g.sees xs _ _ _ (fun i y h => g.sees _ _ h) h2⟩
  | .fn f xs, u, h => by
    simp only [Rv] at h ⊢
    obtain ⟨cs, h1, h2, h3⟩ := h
    exact ⟨cs, h1, h2, Rvs_mono g xs _ _ _ (fun _ _ h => h) h3⟩
  | .mp o, u, h => by
    simp only [Rv] at h ⊢
    obtain ⟨r, h1, h2⟩ := h
    exact ⟨r, h1, h2.grows g⟩
  | .junk, u, h => by simp [Rv]
theorem Rvs_mono {C C' : Ctx} (g : Grows C C') : ∀ (xs : List AVal) (f f' : Nat → Value → Prop) (i : Nat), (∀ i y, f i y → f' i y) → Rvs C xs f i → Rvs C' xs f' i
  | [], _, _, _, _, _ => by simp [Rvs]
  | x :: xs, f, f', i, hf, h => by
    simp only [Rvs] at h ⊢
    obtain ⟨⟨y, hy, hr⟩, h2⟩ := h
    exact ⟨⟨y, hf _ _ hy, Rv_mono g x y hr⟩, Rvs_mono g xs f f' (i + 1) hf h2⟩
end

/-! ## what leads to nothing, among the others -/
theorem upL_eq_map : ∀ xs : List PVal, upL xs = xs.map up
  | [] => rfl
  | x :: xs => by simp [upL, upL_eq_map xs]
@[simp] theorem length_upL (xs : List PVal) : (upL xs).length = xs.length := by simp [upL_eq_map]
mutual
theorem Rv_up {C : Ctx} : ∀ (x : PVal) (u : Value), Rv C (up x) u ↔ Rp (sees C.ok C.w) x u
  | .v x, u => by simp [up, Rv, Rp]
  | .agg xs, u => by
    simp only [up, Rv, Rp, length_upL]
    exact exists_congr fun cs => and_congr_right fun _ => and_congr_right fun _ => Rvs_up xs _ _
  | .tup xs, u => by
    simp only [up, Rv, Rp, length_upL]
    exact exists_congr fun cs => and_congr_right fun _ => and_congr_right fun _ => Rvs_up xs _ _
  | .list n xs, u => by simp [up, Rv, Rp]
  | .clip, u => by simp [up, Rv, Rp]
  | .fn f xs, u => by
    simp only [up, Rv, Rp, length_upL]
    exact exists_congr fun cs => and_congr_right fun _ => and_congr_right fun _ => Rvs_up xs _ _
  | .junk, u => by simp [up, Rv, Rp]
theorem Rvs_up {C : Ctx} : ∀ (xs : List PVal) (f : Nat → Value → Prop) (i : Nat), Rvs C (upL xs) f i ↔ Rps (sees C.ok C.w) xs f i
  | [], f, i => by simp [upL, Rvs, Rps]
  | x :: xs, f, i => by
    simp only [upL, Rvs, Rps]
    exact and_congr (exists_congr fun y => and_congr_right fun _ => Rv_up x y) (Rvs_up xs f (i + 1))
end

/-! ## objects, stores -/
def Robj (C : Ctx) (o : Nat) : AObj → Prop
  | .free => True
  | .hidden => False
  | .box xs => ∃ cs t, C.w.heap[(C.ρ o).b]? = some (.cells cs t (0, 0)) ∧ cs.size = xs.length ∧ (C.ρ o).off = 0 ∧ Rvs C xs (fun i y => cs[i]? = some y) 0 ∧ xs.all AVal.one = true
  | .row sz _ fz xs => ∃ cs t, C.w.heap[(C.ρ o).b]? = some (.cells cs t (0, 0)) ∧ (C.ρ o).off + (C.ρ o).cap * sz ≤ cs.size ∧ xs.length ≤ (C.ρ o).cap * sz ∧ 0 < sz ∧
      Rvs C xs (fun i y => cs[(C.ρ o).off + i]? = some y) 0 ∧ xs.all AVal.one = true ∧ (∀ k, fz = some k → k ≤ xs.length ∧ ∀ j, j < k → C.ok (C.ρ o).b ((C.ρ o).off + j))
  | .mapo _ => False

structure St (C : Ctx) : Prop where
  obj : ∀ o x, C.S[o]? = some x → Robj C o x
  inj : ∀ o o' x x' e e', C.S[o]? = some x → C.S[o']? = some x' → x.ep? = some e → x'.ep? = some e' → (C.ρ o).b = (C.ρ o').b → o = o'
  okIn : ∀ b j, C.ok b j → b < C.w.heap.size
  /-- what is never written again lies in no object, but where the object says so -/
  okRow : ∀ b j, C.ok b j → ∀ o x e, C.S[o]? = some x → x.ep? = some e → (C.ρ o).b = b → ∃ sz ep k xs, x = .row sz ep (some k) xs ∧ j < (C.ρ o).off + xs.length

/-- From one world to a later one. -/
structure Ext (C C' : Ctx) : Prop where
  grows : Grows C C'
  os : C'.w.os = C.w.os
  tape : C'.w.tape = C.w.tape
  output : C'.w.output = C.w.output
  size : C.w.heap.size ≤ C'.w.heap.size
  ok : ∀ b j, C.ok b j → C'.ok b j
  frame : ∀ b, b < C.w.heap.size → (∀ o x e, C.S[o]? = some x → x.ep? = some e → (C.ρ o).b ≠ b) → C'.w.heap[b]? = C.w.heap[b]?
  okNew : ∀ b j, C'.ok b j → C.ok b j ∨ C.w.heap.size ≤ b ∨ ∃ o x e, C.S[o]? = some x ∧ x.ep? = some e ∧ (C.ρ o).b = b
  blocks : ∀ o x e, C'.S[o]? = some x → x.ep? = some e → C.w.heap.size ≤ (C'.ρ o).b ∨ ∃ o2 x2 e2, C.S[o2]? = some x2 ∧ x2.ep? = some e2 ∧ (C.ρ o2).b = (C'.ρ o).b
theorem Ext.refl (C : Ctx) : Ext C C :=
  ⟨Grows.refl C, rfl, rfl, rfl, Nat.le_refl _, fun _ _ h => h, fun _ _ _ => rfl, fun _ _ h => .inl h, fun o x e h he => .inr ⟨o, x, e, h, he, rfl⟩⟩
theorem Ext.trans {A B C : Ctx} (h : Ext A B) (k : Ext B C) : Ext A C := by
  refine ⟨h.grows.trans k.grows, k.os.trans h.os, k.tape.trans h.tape, k.output.trans h.output, Nat.le_trans h.size k.size, fun b j hb => k.ok b j (h.ok b j hb), fun b hb hn => ?_, fun b j hj => ?_, fun o x e hx he => ?_⟩
  · refine (k.frame b (Nat.lt_of_lt_of_le hb h.size) fun o x e hx he hbo => ?_).trans (h.frame b hb hn)
    rcases h.blocks o x e hx he with hge | ⟨o2, x2, e2, h1, h2, h3⟩
    · omega
    · exact hn o2 x2 e2 h1 h2 (h3.trans hbo)
  · rcases k.okNew b j hj with h1 | h1 | ⟨o, x, e, h1, h2, h3⟩
    · exact h.okNew b j h1
    · exact .inr (.inl (Nat.le_trans h.size h1))
    · rcases h.blocks o x e h1 h2 with hge | ⟨o2, x2, e2, k1, k2, k3⟩
      · exact .inr (.inl (by omega))
      · exact .inr (.inr ⟨o2, x2, e2, k1, k2, k3.trans h3⟩)
  · rcases k.blocks o x e hx he with hge | ⟨o2, x2, e2, h1, h2, h3⟩
    · exact .inl (Nat.le_trans h.size hge)
    · rcases h.blocks o2 x2 e2 h1 h2 with hge | ⟨o3, x3, e3, k1, k2, k3⟩
      · exact .inl (by omega)
      · exact .inr ⟨o3, x3, e3, k1, k2, k3.trans h3⟩
/-- Where no object is, all that was is as it was. -/
theorem Ext.below {C C' : Ctx} (h : Ext C C') (hS : C.S = []) : Below C.w.heap.size C.w C'.w :=
  ⟨h.os, h.tape, h.output, h.size, fun k hk => h.frame k hk fun o x e hx _ => by simp [hS] at hx⟩

/-- The temporaries. -/
def RT (C : Ctx) (T : List AVal) (tmps : Array Value) : Prop := tmps.size = T.length ∧ Rvs C T (fun i y => tmps[i]? = some y) 0
theorem RT.mono {C C' : Ctx} (g : Grows C C') {T : List AVal} {tmps : Array Value} (h : RT C T tmps) : RT C' T tmps := ⟨h.1, Rvs_mono g _ _ _ _ (fun _ _ h => h) h.2⟩
theorem RT.get {C : Ctx} {T : List AVal} {tmps : Array Value} (h : RT C T tmps) (t : Nat) : Rv C (T.getD t .junk) (tmps.getD t undef) := by
  rcases Nat.lt_or_ge t T.length with hlt | hge
  · obtain ⟨y, hy, hr⟩ := Rvs_get h.2 t T[t] (List.getElem?_eq_getElem hlt)
    simp only [Nat.zero_add] at hy
    have e1 : T.getD t .junk = T[t] := by simp [List.getD, List.getElem?_eq_getElem hlt]
    have e2 : tmps.getD t undef = y := by rw [Array.getD_eq_getD_getElem?, hy]; rfl
    rw [e1, e2]; exact hr
  · have e1 : T.getD t .junk = .junk := by simp [List.getD, List.getElem?_eq_none hge]
    rw [e1]; simp [Rv]
theorem RT.put {C : Ctx} {T : List AVal} {a : Act} (h : RT C T a.tmps) (d : Option Tmp) {x : AVal} {u : Value} (hr : Rv C x u) : RT C (putT T d x) (a.put d u).tmps := by
  cases d with
  | none => exact h
  | some d =>
    simp only [putT, Act.put]
    refine ⟨by simp [h.1], Rvs_mk fun j y hy => ?_⟩
    simp only [Nat.zero_add]
    rw [List.getElem?_set] at hy
    by_cases hd : d = j
    · subst hd
      rw [if_pos rfl] at hy
      split at hy
      · rename_i hlt
        simp only [Option.some.injEq] at hy
        subst hy
        exact ⟨u, by simp [Array.getElem?_setIfInBounds, h.1, hlt], hr⟩
      · simp at hy
    · rw [if_neg hd] at hy
      obtain ⟨z, hz, hr'⟩ := Rvs_get h.2 j y hy
      simp only [Nat.zero_add] at hz
      exact ⟨z, by simp [Array.getElem?_setIfInBounds, hd, hz], hr'⟩
theorem constA_rel (C : Ctx) (x : Value) : Rv C (constA x) x := by
  cases x with
  | agg cs =>
    simp only [constA, Rv]
    refine ⟨cs, rfl, by simp, Rvs_mk fun j y hy => ?_⟩
    simp only [List.getElem?_map, Array.getElem?_toList, Option.map_eq_some_iff] at hy
    obtain ⟨z, hz, rfl⟩ := hy
    exact ⟨z, by simpa using hz, by simp [Rv]⟩
  | _ => simp [constA, Rv]
theorem opd_rel {C : Ctx} {T : List AVal} {a : Act} (h : RT C T a.tmps) (x : Operand) : Rv C (opd T x) (a.eval x) := by
  cases x with
  | tmp t => exact h.get t
  | const u => exact constA_rel C u
  | func f => simp [opd, Act.eval, Rv, Rvs]
  | global g => simp [opd, Rv]

end Go.Proofs.Ytmopbegmdegooaa.Vm
