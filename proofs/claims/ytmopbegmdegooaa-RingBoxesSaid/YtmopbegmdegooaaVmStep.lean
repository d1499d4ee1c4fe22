/- The steps on memory: a new block, a store, a row that grows: how the store of objects stands behind them. -/
import Derived.Test.YtmopbegmdegooaaVmRel
namespace Go.Proofs.Ytmopbegmdegooaa.Vm
open Go Go.RowKit
set_option linter.unusedVariables false
set_option linter.unusedSimpArgs false
set_option linter.unnecessarySimpa false

theorem pureOf_run (P : Program) {α : Type} : ∀ (s : Sem α) (a : α), pureOf P s = some a → ∀ w, s.run P w = .ok a w := by
  intro s
  induction s with
  | pure b => intro a h w; simp only [pureOf, Option.some.injEq] at h; subst h; rfl
  | program k ih => intro a h w; simp only [pureOf] at h; exact ih P a h w
  | _ => intro a h; simp [pureOf] at h

theorem addr_add (b o n : Nat) : Addr.add ⟨b, o, none⟩ n = ⟨b, o + n, none⟩ := Addr.add_lit b o n
theorem addr_add_add (a : Addr) (i j : Nat) : (a.add i).add j = a.add (i + j) := by
  unfold Addr.add
  by_cases hi : i = 0 <;> by_cases hj : j = 0 <;> simp [hi, hj, Nat.add_assoc]

/-! ## lists -/
theorem Rvs_drop {C : Ctx} {xs : List AVal} {f : Nat → Value → Prop} (h : Rvs C xs f 0) (k : Nat) : Rvs C (xs.drop k) (fun i y => f (k + i) y) 0 :=
  Rvs_mk fun j x hx => by
    rw [List.getElem?_drop] at hx
    obtain ⟨y, hy, hr⟩ := Rvs_get h (k + j) x hx
    exact ⟨y, by simpa using hy, hr⟩
theorem Rps_drop {L : Addr → Value → Prop} {xs : List PVal} {f : Nat → Value → Prop} (h : Rps L xs f 0) (k : Nat) : Rps L (xs.drop k) (fun i y => f (k + i) y) 0 :=
  Rps_mk fun j x hx => by
    rw [List.getElem?_drop] at hx
    obtain ⟨y, hy, hr⟩ := Rps_get h (k + j) x hx
    exact ⟨y, by simpa using hy, hr⟩
theorem Rps_take {L : Addr → Value → Prop} {xs : List PVal} {f : Nat → Value → Prop} (h : Rps L xs f 0) (k : Nat) : Rps L (xs.take k) f 0 :=
  Rps_mk fun j x hx => by
    rw [List.getElem?_take] at hx
    split at hx
    · exact Rps_get h j x hx
    · simp at hx
theorem Rvs_take {C : Ctx} {xs : List AVal} {f : Nat → Value → Prop} (h : Rvs C xs f 0) (k : Nat) : Rvs C (xs.take k) f 0 :=
  Rvs_mk fun j x hx => by
    rw [List.getElem?_take] at hx
    split at hx
    · exact Rvs_get h j x hx
    · simp at hx
theorem Rvs_append {C : Ctx} {xs ys : List AVal} {f : Nat → Value → Prop} (h : Rvs C xs f 0) (k : Rvs C ys (fun i y => f (xs.length + i) y) 0) : Rvs C (xs ++ ys) f 0 :=
  Rvs_mk fun j x hx => by
    rw [List.getElem?_append] at hx
    split at hx
    · exact Rvs_get h j x hx
    · rename_i hge
      obtain ⟨y, hy, hr⟩ := Rvs_get k (j - xs.length) x hx
      refine ⟨y, ?_, hr⟩
      simp only [Nat.zero_add] at hy ⊢
      rwa [show xs.length + (j - xs.length) = j by omega] at hy
/-- The values of cells, as a list. -/
theorem Rvs_list {C : Ctx} : ∀ {xs : List AVal} {f : Nat → Value → Prop} {i : Nat}, Rvs C xs f i →
    ∃ ys : List Value, ys.length = xs.length ∧ Rvs C xs (fun j y => ys[j]? = some y) 0 ∧ ∀ j y, ys[j]? = some y → f (i + j) y
  | [], f, i, _ => ⟨[], rfl, by simp [Rvs], by simp⟩
  | x :: xs, f, i, h => by
    simp only [Rvs] at h
    obtain ⟨⟨y, hy, hr⟩, h2⟩ := h
    obtain ⟨ys, h3, h4, h5⟩ := Rvs_list h2
    refine ⟨y :: ys, by simp [h3], Rvs_mk fun j z hz => ?_, fun j z hz => ?_⟩
    · cases j with
      | zero => simp only [List.getElem?_cons_zero, Option.some.injEq] at hz; subst hz; exact ⟨y, by simp, hr⟩
      | succ j =>
        obtain ⟨u, hu, hru⟩ := Rvs_get h4 j z (by simpa using hz)
        exact ⟨u, by simpa using hu, hru⟩
    · cases j with
      | zero => simp only [List.getElem?_cons_zero, Option.some.injEq] at hz; subst hz; simpa using hy
      | succ j =>
        have := h5 j z (by simpa using hz)
        rwa [show i + (j + 1) = i + 1 + j by omega]
theorem one_of {C : Ctx} {x : AVal} {u : Value} (h : Rv C x u) (h1 : x.one = true) : u.oneCell' = true := by
  cases x with
  | v y => simp only [Rv] at h; subst h; exact h1
  | agg xs => simp [AVal.one] at h1
  | tup xs => simp [AVal.one] at h1
  | list n xs => simp only [Rv] at h; obtain ⟨A, c, rfl, _⟩ := h; rfl
  | clip => simp only [Rv] at h; obtain ⟨A, rfl⟩ := h; rfl
  | row o ep sz off len => simp only [Rv] at h; obtain ⟨A, c, rfl, _⟩ := h; rfl
  | ptr o ep off => simp only [Rv] at h; obtain ⟨a, rfl, _⟩ := h; rfl
  | eptr xs => simp only [Rv] at h; obtain ⟨a, rfl, _⟩ := h; rfl
  | fn f xs => simp only [Rv] at h; obtain ⟨cs, rfl, _⟩ := h; rfl
  | mp o => simp only [Rv] at h; obtain ⟨r, rfl, _⟩ := h; rfl
  | junk => simp [AVal.one] at h1
theorem ones_of {C : Ctx} {xs : List AVal} {ys : List Value} (hl : ys.length = xs.length) (h : Rvs C xs (fun j y => ys[j]? = some y) 0) (h1 : xs.all AVal.one = true) : ∀ y ∈ ys, y.oneCell' = true := by
  intro y hy
  obtain ⟨j, hj, rfl⟩ := List.mem_iff_getElem.1 hy
  have hjx : j < xs.length := by omega
  obtain ⟨u, hu, hr⟩ := Rvs_get h j xs[j] (List.getElem?_eq_getElem hjx)
  simp only [Nat.zero_add, List.getElem?_eq_getElem hj, Option.some.injEq] at hu
  subst hu
  exact one_of hr (List.all_eq_true.1 h1 _ (List.getElem_mem hjx))
/-- The cells of a value. -/
theorem cells_rel {C : Ctx} {x : AVal} {u : Value} (h : Rv C x u) (h1 : x.cells.all AVal.one = true) : u.cells.size = x.cells.length ∧ Rvs C x.cells (fun i y => u.cells[i]? = some y) 0 := by
  cases x with
  | agg xs =>
    simp only [Rv] at h
    obtain ⟨cs, rfl, h2, h3⟩ := h
    exact ⟨h2, h3⟩
  | _ =>
    have ho := one_of h (by simpa [AVal.cells] using h1)
    have hc : u.cells = #[u] := by cases u <;> first | rfl | simp [Value.oneCell'] at ho
    rw [hc]
    exact ⟨rfl, by simp only [AVal.cells, Rvs, and_true]; exact ⟨u, rfl, h⟩⟩

/-! ## stores of objects -/
theorem setObj_get_same (S : List AObj) (o : Nat) (x : AObj) (h : o ≤ S.length) : (setObj S o x)[o]? = some x := by
  unfold setObj
  split
  · rw [List.getElem?_set]; simp; assumption
  · have : o = S.length := by omega
    subst this
    simp
theorem setObj_get_other (S : List AObj) (o q : Nat) (x : AObj) (h : o ≤ S.length) (hne : q ≠ o) : (setObj S o x)[q]? = S[q]? := by
  unfold setObj
  split
  · rw [List.getElem?_set]; simp [Ne.symm hne]
  · have : o = S.length := by omega
    subst this
    rw [List.getElem?_append]
    split
    · rfl
    · rw [List.getElem?_eq_none (by simp; omega), List.getElem?_eq_none (by omega)]
theorem setObj_length (S : List AObj) (o : Nat) (x : AObj) (h : o ≤ S.length) : S.length ≤ (setObj S o x).length := by
  unfold setObj; split <;> simp

/-- What an object says stands while its block stands. -/
theorem Robj.keep {C C' : Ctx} (g : Grows C C') (hok : ∀ b j, C.ok b j → C'.ok b j) {o : Nat} {x : AObj} (h : Robj C o x) (hρ : C'.ρ o = C.ρ o) (hb : ∀ e, x.ep? = some e → C'.w.heap[(C.ρ o).b]? = C.w.heap[(C.ρ o).b]?) : Robj C' o x := by
  cases x with
  | box xs =>
    obtain ⟨cs', t', h1, h2, h3, h4, h5⟩ := h
    exact ⟨cs', t', by rw [hρ, hb 0 rfl]; exact h1, h2, by rw [hρ]; exact h3, Rvs_mono g _ _ _ _ (fun _ _ h => h) h4, h5⟩
  | row sz ep fr xs =>
    obtain ⟨cs', t', h1, h2, h3, h4, h5, h6, h7⟩ := h
    exact ⟨cs', t', by rw [hρ, hb ep rfl]; exact h1, by rw [hρ]; exact h2, by rw [hρ]; exact h3, h4, by rw [hρ]; exact Rvs_mono g _ _ _ _ (fun _ _ h => h) h5, h6, fun k hk => ⟨(h7 k hk).1, fun j hj => by rw [hρ]; exact hok _ _ ((h7 k hk).2 j hj)⟩⟩
  | mapo es => exact h.elim
  | free => trivial
  | hidden => exact h.elim
theorem Robj.lt {C : Ctx} {o : Nat} {x : AObj} {e : Nat} (h : Robj C o x) (he : x.ep? = some e) : (C.ρ o).b < C.w.heap.size := by
  cases x with
  | box xs => obtain ⟨cs, t, h, _⟩ := h; exact (Array.getElem?_eq_some_iff.1 h).1
  | row sz ep fr xs => obtain ⟨cs, t, h, _⟩ := h; exact (Array.getElem?_eq_some_iff.1 h).1
  | mapo es => exact h.elim
  | free => simp [AObj.ep?] at he
  | hidden => simp [AObj.ep?] at he

/-- A new block of cells, as a new object. -/
theorem made {C : Ctx} (hS : St C) (slot : Nat) (hslot : slot = C.S.length ∨ C.S[slot]? = some .free) (cs : Array Value) (t : TypeId) (x : AObj) (cap : Nat) (e : Nat) (he : x.ep? = some e)
    (w : World) (hw : w.heap = C.w.heap) (hos : w.os = C.w.os) (htape : w.tape = C.w.tape) (hout : w.output = C.w.output)
    (hobj : ∀ C' : Ctx, Grows C C' → C'.w = w.alloc (.cells cs t) → C'.ρ slot = ⟨C.w.heap.size, 0, cap⟩ → C'.ok = C.ok → Robj C' slot x) :
    ∃ ρ', St ⟨ρ', setObj C.S slot x, C.ok, w.alloc (.cells cs t)⟩ ∧ Ext C ⟨ρ', setObj C.S slot x, C.ok, w.alloc (.cells cs t)⟩ ∧ ρ' slot = ⟨C.w.heap.size, 0, cap⟩ := by
  have hle : slot ≤ C.S.length := by
    rcases hslot with rfl | h
    · exact Nat.le_refl _
    · exact Nat.le_of_lt (List.getElem?_eq_some_iff.1 h).1
  have hnot : ∀ y e', C.S[slot]? = some y → y.ep? = some e' → False := by
    intro y e' hy hye
    rcases hslot with h | h
    · rw [h, List.getElem?_eq_none (Nat.le_refl _)] at hy; cases hy
    · rw [h] at hy; cases hy; simp [AObj.ep?] at hye
  let ρ' : Nat → Pl := fun o => if o = slot then ⟨C.w.heap.size, 0, cap⟩ else C.ρ o
  have hρs : ρ' slot = ⟨C.w.heap.size, 0, cap⟩ := by simp [ρ']
  have hρo : ∀ o, o ≠ slot → ρ' o = C.ρ o := fun o ho => by simp [ρ', ho]
  have hlt : ∀ o y e', C.S[o]? = some y → y.ep? = some e' → (C.ρ o).b < C.w.heap.size := fun o y e' hy hye => (hS.obj o y hy).lt hye
  have hheap : ∀ b, b < C.w.heap.size → (w.alloc (.cells cs t)).heap[b]? = C.w.heap[b]? := fun b hb => by
    rw [Below.heap_alloc _ _ _ (by rw [hw]; exact hb), hw]
  have g : Grows C ⟨ρ', setObj C.S slot x, C.ok, w.alloc (.cells cs t)⟩ := by
    refine ⟨fun a y ⟨h1, h2⟩ => ⟨h1, ?_⟩, fun o y e' hy hye => ?_⟩
    · rw [← h2]
      exact World.cell?_of_block (hheap a.block (hS.okIn _ _ h1))
    · have ho : o ≠ slot := fun h => hnot y e' (h ▸ hy) hye
      exact ⟨y, e', by simpa [setObj_get_other _ _ _ _ hle ho] using hy, hye, .inl ⟨rfl, hρo o ho⟩⟩
  refine ⟨ρ', ?_, ?_, hρs⟩
  · refine ⟨fun o y hy => ?_, fun o o' y y' e1 e2 hy hy' h1 h2 hb => ?_, fun b j hb => ?_, fun b j hb o y e1 hy h1 hbo => ?_⟩
    · by_cases ho : o = slot
      · subst ho
        rw [setObj_get_same _ _ _ hle] at hy
        cases hy
        exact hobj _ g rfl hρs rfl
      · rw [setObj_get_other _ _ _ _ hle ho] at hy
        exact (hS.obj o y hy).keep g (fun _ _ h => h) (hρo o ho) fun e1 h1 => hheap _ (hlt o y e1 hy h1)
    · by_cases ho : o = slot <;> by_cases ho' : o' = slot
      · rw [ho, ho']
      · subst ho
        rw [setObj_get_other _ _ _ _ hle ho'] at hy'
        simp only [hρs, hρo o' ho'] at hb
        have := hlt o' y' e2 hy' h2
        omega
      · subst ho'
        rw [setObj_get_other _ _ _ _ hle ho] at hy
        simp only [hρs, hρo o ho] at hb
        have := hlt o y e1 hy h1
        omega
      · rw [setObj_get_other _ _ _ _ hle ho] at hy
        rw [setObj_get_other _ _ _ _ hle ho'] at hy'
        simp only [hρo o ho, hρo o' ho'] at hb
        exact hS.inj o o' y y' e1 e2 hy hy' h1 h2 hb
    · have := hS.okIn b j hb
      show b < (w.alloc (.cells cs t)).heap.size
      rw [World.size_alloc, hw]; omega
    · by_cases ho : o = slot
      · subst ho
        have := hS.okIn b j hb
        simp only [hρs] at hbo
        omega
      · rw [setObj_get_other _ _ _ _ hle ho] at hy
        simp only [hρo o ho] at hbo
        simp only [hρo o ho]
        exact hS.okRow b j hb o y e1 hy h1 hbo
  · refine ⟨g, hos, htape, hout, ?_, fun _ _ h => h, fun b hb _ => hheap b hb, fun b j hb => .inl hb, fun o y e1 hy h1 => ?_⟩
    · show C.w.heap.size ≤ (w.alloc (.cells cs t)).heap.size
      rw [World.size_alloc, hw]; omega
    · by_cases ho : o = slot
      · subst ho; left; simp only [hρs, Nat.le_refl]
      · rw [setObj_get_other _ _ _ _ hle ho] at hy
        exact .inr ⟨o, y, e1, hy, h1, by simp [hρo o ho]⟩

/-- An object turns where it lies: the same block, other cells. -/
theorem turned {C : Ctx} (hS : St C) (o : Nat) (x x' : AObj) (e e' : Nat) (hx : C.S[o]? = some x) (he : x.ep? = some e) (he' : x'.ep? = some e') (cs : Array Value) (p : Pl) (hp : p.b = (C.ρ o).b)
    (hep : e' = e ∧ p = C.ρ o ∨ e < e')
    (hrow : ∀ j, C.ok p.b j → (∃ sz ep k xs, x' = .row sz ep (some k) xs ∧ j < p.off + xs.length) ∧ ∀ old t, C.w.heap[p.b]? = some (.cells old t (0, 0)) → cs[j]? = old[j]?)
    (hobj : ∀ C' : Ctx, Grows C C' → C'.w = C.w.setRow p.b cs → C'.ρ o = p → C'.ok = C.ok → Robj C' o x') :
    ∃ ρ', St ⟨ρ', C.S.set o x', C.ok, C.w.setRow p.b cs⟩ ∧ Ext C ⟨ρ', C.S.set o x', C.ok, C.w.setRow p.b cs⟩ ∧ ρ' o = p := by
  have hlen : o < C.S.length := (List.getElem?_eq_some_iff.1 hx).1
  have hset : (C.S.set o x')[o]? = some x' := by rw [List.getElem?_set]; simp [hlen]
  have hsetO : ∀ q, q ≠ o → (C.S.set o x')[q]? = C.S[q]? := fun q hq => by rw [List.getElem?_set]; simp [Ne.symm hq]
  let ρ' : Nat → Pl := fun q => if q = o then p else C.ρ q
  have hρs : ρ' o = p := by simp [ρ']
  have hρo : ∀ q, q ≠ o → ρ' q = C.ρ q := fun q hq => by simp [ρ', hq]
  have hblk : ∃ old t, C.w.heap[p.b]? = some (.cells old t (0, 0)) := by
    have hro := hS.obj o x hx
    rw [hp]
    cases x with
    | box xs => obtain ⟨cs, t, h, _⟩ := hro; exact ⟨cs, t, h⟩
    | row sz ep fr xs => obtain ⟨cs, t, h, _⟩ := hro; exact ⟨cs, t, h⟩
    | mapo es => exact hro.elim
    | free => simp [AObj.ep?] at he
    | hidden => simp [AObj.ep?] at he
  obtain ⟨old, t, hold⟩ := hblk
  have hother : ∀ b, b ≠ p.b → (C.w.setRow p.b cs).heap[b]? = C.w.heap[b]? := fun b hb => setRow_other _ _ _ _ hb
  have g : Grows C ⟨ρ', C.S.set o x', C.ok, C.w.setRow p.b cs⟩ := by
    refine ⟨fun a y ⟨h1, h2⟩ => ⟨h1, ?_⟩, fun q y e1 hy hye => ?_⟩
    · by_cases hb : a.block = p.b
      · have hk := (hrow a.off (hb ▸ h1)).2 old t hold
        have hsp : a.spot = none := by
          cases hs : a.spot with
          | none => rfl
          | some z => simp [World.cell?, hs] at h2; split at h2 <;> simp at h2
        obtain ⟨ab, ao, as⟩ := a
        simp only at hb hsp hk
        subst hb hsp
        show (C.w.setRow p.b cs).cell? ⟨p.b, ao, none⟩ = some y
        rw [cell_setRow_same _ _ _ _ _ _ _ hold, hk, ← h2, cell_of_row _ _ _ _ _ _ hold]
      · show (C.w.setRow p.b cs).cell? a = some y
        rw [← h2]; exact World.cell?_of_block (hother _ hb)
    · by_cases hq : q = o
      · subst hq
        rw [hx] at hy; cases hy
        rw [he] at hye; cases hye
        exact ⟨x', e', hset, he', hep.imp (fun h => ⟨h.1, hρs.trans h.2⟩) id⟩
      · exact ⟨y, e1, (hsetO q hq).trans hy, hye, .inl ⟨rfl, hρo q hq⟩⟩
  refine ⟨ρ', ?_, ?_, hρs⟩
  · refine ⟨fun q y hy => ?_, fun q q' y y' e1 e2 hy hy' h1 h2 hb => ?_, fun b j hb => ?_, fun b j hb q y e1 hy h1 hbo => ?_⟩
    · by_cases hq : q = o
      · subst hq
        simp only [hset] at hy
        cases hy
        exact hobj _ g rfl hρs rfl
      · simp only [hsetO q hq] at hy
        have hne : ∀ e1, y.ep? = some e1 → (C.ρ q).b ≠ p.b := fun e1 h1 hbb => hq (hS.inj q o y x e1 e hy hx h1 he (hbb.trans hp))
        exact (hS.obj q y hy).keep g (fun _ _ h => h) (hρo q hq) fun e1 h1 => hother _ (hne e1 h1)
    · by_cases hq : q = o <;> by_cases hq' : q' = o
      · rw [hq, hq']
      · subst hq
        simp only [hsetO q' hq'] at hy'
        simp only [hρs, hρo q' hq'] at hb
        exact hS.inj q q' x y' e e2 hx hy' he h2 (hp.symm.trans hb)
      · subst hq'
        simp only [hsetO q hq] at hy
        simp only [hρs, hρo q hq] at hb
        exact hS.inj q q' y x e1 e hy hx h1 he (hb.trans hp)
      · simp only [hsetO q hq] at hy
        simp only [hsetO q' hq'] at hy'
        simp only [hρo q hq, hρo q' hq'] at hb
        exact hS.inj q q' y y' e1 e2 hy hy' h1 h2 hb
    · have := hS.okIn b j hb
      show b < (C.w.setRow p.b cs).heap.size
      rw [size_setRow]; exact this
    · by_cases hq : q = o
      · subst hq
        simp only [hset] at hy
        cases hy
        simp only [hρs] at hbo
        subst hbo
        obtain ⟨⟨sz, ep, k, xs, h2, h3⟩, _⟩ := hrow j hb
        exact ⟨sz, ep, k, xs, h2, by simp only [hρs]; exact h3⟩
      · simp only [hsetO q hq] at hy
        simp only [hρo q hq] at hbo
        simp only [hρo q hq]
        exact hS.okRow b j hb q y e1 hy h1 hbo
  · refine ⟨g, rfl, rfl, rfl, by simp, fun _ _ h => h, fun b hb hn => hother b (fun h => hn o x e hx he (by rw [h, hp])), fun b j hb => .inl hb, fun q y e1 hy h1 => ?_⟩
    by_cases hq : q = o
    · subst hq; exact .inr ⟨q, x, e, hx, he, by simp only [hρs, hp]⟩
    · simp only [hsetO q hq] at hy
      exact .inr ⟨q, y, e1, hy, h1, by simp only [hρo q hq]⟩

/-- A row moves to a new block. -/
theorem moved {C : Ctx} (hS : St C) (o : Nat) (x x' : AObj) (e e' : Nat) (hx : C.S[o]? = some x) (he : x.ep? = some e) (he' : x'.ep? = some e') (hep : e < e') (cs : Array Value) (t : TypeId) (cap : Nat)
    (w : World) (hw : w.heap = C.w.heap) (hos : w.os = C.w.os) (htape : w.tape = C.w.tape) (hout : w.output = C.w.output)
    (hobj : ∀ C' : Ctx, Grows C C' → C'.w = w.alloc (.cells cs t) → C'.ρ o = ⟨C.w.heap.size, 0, cap⟩ → C'.ok = C.ok → Robj C' o x') :
    ∃ ρ', St ⟨ρ', C.S.set o x', C.ok, w.alloc (.cells cs t)⟩ ∧ Ext C ⟨ρ', C.S.set o x', C.ok, w.alloc (.cells cs t)⟩ ∧ ρ' o = ⟨C.w.heap.size, 0, cap⟩ := by
  have hlen : o < C.S.length := (List.getElem?_eq_some_iff.1 hx).1
  have hset : (C.S.set o x')[o]? = some x' := by rw [List.getElem?_set]; simp [hlen]
  have hsetO : ∀ q, q ≠ o → (C.S.set o x')[q]? = C.S[q]? := fun q hq => by rw [List.getElem?_set]; simp [Ne.symm hq]
  let ρ' : Nat → Pl := fun q => if q = o then ⟨C.w.heap.size, 0, cap⟩ else C.ρ q
  have hρs : ρ' o = ⟨C.w.heap.size, 0, cap⟩ := by simp [ρ']
  have hρo : ∀ q, q ≠ o → ρ' q = C.ρ q := fun q hq => by simp [ρ', hq]
  have hlt : ∀ o y e', C.S[o]? = some y → y.ep? = some e' → (C.ρ o).b < C.w.heap.size := fun o y e' hy hye => (hS.obj o y hy).lt hye
  have hheap : ∀ b, b < C.w.heap.size → (w.alloc (.cells cs t)).heap[b]? = C.w.heap[b]? := fun b hb => by
    rw [Below.heap_alloc _ _ _ (by rw [hw]; exact hb), hw]
  have g : Grows C ⟨ρ', C.S.set o x', C.ok, w.alloc (.cells cs t)⟩ := by
    refine ⟨fun a y ⟨h1, h2⟩ => ⟨h1, ?_⟩, fun q y e1 hy hye => ?_⟩
    · rw [← h2]
      exact World.cell?_of_block (hheap a.block (hS.okIn _ _ h1))
    · by_cases hq : q = o
      · subst hq
        rw [hx] at hy; cases hy
        rw [he] at hye; cases hye
        exact ⟨x', e', hset, he', .inr hep⟩
      · exact ⟨y, e1, (hsetO q hq).trans hy, hye, .inl ⟨rfl, hρo q hq⟩⟩
  refine ⟨ρ', ?_, ?_, hρs⟩
  · refine ⟨fun q y hy => ?_, fun q q' y y' e1 e2 hy hy' h1 h2 hb => ?_, fun b j hb => ?_, fun b j hb q y e1 hy h1 hbo => ?_⟩
    · by_cases hq : q = o
      · subst hq
        simp only [hset] at hy
        cases hy
        exact hobj _ g rfl hρs rfl
      · simp only [hsetO q hq] at hy
        exact (hS.obj q y hy).keep g (fun _ _ h => h) (hρo q hq) fun e1 h1 => hheap _ (hlt q y e1 hy h1)
    · by_cases hq : q = o <;> by_cases hq' : q' = o
      · rw [hq, hq']
      · subst hq
        simp only [hsetO q' hq'] at hy'
        simp only [hρs, hρo q' hq'] at hb
        have := hlt q' y' e2 hy' h2
        omega
      · subst hq'
        simp only [hsetO q hq] at hy
        simp only [hρs, hρo q hq] at hb
        have := hlt q y e1 hy h1
        omega
      · simp only [hsetO q hq] at hy
        simp only [hsetO q' hq'] at hy'
        simp only [hρo q hq, hρo q' hq'] at hb
        exact hS.inj q q' y y' e1 e2 hy hy' h1 h2 hb
    · have := hS.okIn b j hb
      show b < (w.alloc (.cells cs t)).heap.size
      rw [World.size_alloc, hw]; omega
    · by_cases hq : q = o
      · subst hq
        have := hS.okIn b j hb
        simp only [hρs] at hbo
        omega
      · simp only [hsetO q hq] at hy
        simp only [hρo q hq] at hbo
        simp only [hρo q hq]
        exact hS.okRow b j hb q y e1 hy h1 hbo
  · refine ⟨g, hos, htape, hout, ?_, fun _ _ h => h, fun b hb _ => hheap b hb, fun b j hb => .inl hb, fun q y e1 hy h1 => ?_⟩
    · show C.w.heap.size ≤ (w.alloc (.cells cs t)).heap.size
      rw [World.size_alloc, hw]; omega
    · by_cases hq : q = o
      · subst hq; left; simp only [hρs, Nat.le_refl]
      · simp only [hsetO q hq] at hy
        exact .inr ⟨q, y, e1, hy, h1, by simp only [hρo q hq]⟩

end Go.Proofs.Ytmopbegmdegooaa.Vm
