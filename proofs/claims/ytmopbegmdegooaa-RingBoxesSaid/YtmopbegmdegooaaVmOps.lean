/- Each operation of the abstract machine is the model's: the plain ones, loads, stores, what is built. -/
import Derived.Test.YtmopbegmdegooaaVmStep
namespace Go.Proofs.Ytmopbegmdegooaa.Vm
open Go Go.RowKit
set_option linter.unusedVariables false
set_option linter.unusedSimpArgs false
set_option linter.unnecessarySimpa false

def nextVal : Next → Option Value
  | .value u => some u
  | .skip => some undef
  | _ => none
def OpOk (P : Program) (o : Oper) (a : Act) (C : Ctx) (x : AVal) (S' : List AObj) : Prop :=
  ∃ nx u C', (execOp a.eval o).run P C.w = .ok nx C'.w ∧ nextVal nx = some u ∧ C'.S = S' ∧ St C' ∧ Ext C C' ∧ Rv C' x u
theorem OpOk.plain {P : Program} {o : Oper} {a : Act} {C : Ctx} {x : AVal} {u : Value} (hS : St C) (hr : (execOp a.eval o).run P C.w = .ok (.value u) C.w) (h : Rv C x u) : OpOk P o a C x C.S :=
  ⟨_, u, C, hr, rfl, rfl, hS, Ext.refl C, h⟩

/-! ## values that are the model's own -/
theorem toV1_rel {C : Ctx} {x : AVal} {y u : Value} (h : toV1 x = some y) (hr : Rv C x u) : u = y := by
  cases x <;> simp only [toV1, Option.some.injEq, reduceCtorEq] at h
  subst h
  simpa [Rv] using hr
theorem mapO_get {α β : Type} {f : α → Option β} : ∀ {xs : List α} {ys : List β}, mapO f xs = some ys → ys.length = xs.length ∧ ∀ (j : Nat) (x : α), xs[j]? = some x → ∃ y, f x = some y ∧ ys[j]? = some y
  | [], ys, h => by simp only [mapO, Option.some.injEq] at h; subst h; simp
  | x :: xs, ys, h => by
    simp only [mapO] at h
    split at h
    · rename_i y zs hy hz
      simp only [Option.some.injEq] at h
      subst h
      obtain ⟨h1, h2⟩ := mapO_get hz
      refine ⟨by simp [h1], fun j z hj => ?_⟩
      cases j with
      | zero => simp only [List.getElem?_cons_zero, Option.some.injEq] at hj; subst hj; exact ⟨y, hy, rfl⟩
      | succ j => simpa using h2 j z (by simpa using hj)
    · simp at h
theorem toVs_rel {C : Ctx} {xs : List AVal} {ys : List Value} (h : mapO toV1 xs = some ys) {f : Nat → Option Value} (hr : Rvs C xs (fun i y => f i = some y) 0) : ∀ j y, ys[j]? = some y → f j = some y := by
  intro j y hy
  obtain ⟨hl, hg⟩ := mapO_get h
  have hj : j < xs.length := by have := (List.getElem?_eq_some_iff.1 hy).1; omega
  obtain ⟨z, hz, hzy⟩ := hg j xs[j] (List.getElem?_eq_getElem hj)
  rw [hy, Option.some.injEq] at hzy
  subst hzy
  obtain ⟨u, hu, hru⟩ := Rvs_get hr j xs[j] (List.getElem?_eq_getElem hj)
  rw [toV1_rel hz hru] at hu
  simpa using hu
theorem toV_rel {C : Ctx} {x : AVal} {y u : Value} (h : toV x = some y) (hr : Rv C x u) : u = y := by
  cases x <;> simp only [toV, Option.some.injEq, reduceCtorEq, Option.map_eq_some_iff] at h
  · subst h; simpa [Rv] using hr
  · rename_i xs
    obtain ⟨ys, hy, rfl⟩ := h
    simp only [Rv] at hr
    obtain ⟨cs, rfl, hs, hc⟩ := hr
    have := toVs_rel hy hc
    congr 1
    apply Array.ext'
    apply List.ext_getElem?
    intro j
    obtain ⟨hl, _⟩ := mapO_get hy
    rcases Nat.lt_or_ge j ys.length with hj | hj
    · have := this j ys[j] (List.getElem?_eq_getElem hj)
      simp [this, List.getElem?_eq_getElem hj]
    · rw [List.getElem?_eq_none (by simp; omega), List.getElem?_eq_none (by simpa using hj)]

/-! ## parts -/
theorem run_isAgg {P : Program} {t : TypeId} {b : Bool} (h : aggT P t = some b) (w : World) : (isAgg t).run P w = .ok b w := by
  unfold aggT at h
  unfold isAgg
  cases hu : P.underlying t with
  | none => simp [hu] at h
  | some d =>
    rw [hu] at h
    simp only [Sem.run_bind, run_underlying hu, Result.andThen_ok]
    cases d <;> simp at h <;> subst h <;> rfl
theorem run_sizeOf {P : Program} {t : TypeId} {n : Nat} (h : szOf P t = some n) (w : World) : (sizeOf t).run P w = .ok n w := by
  simp only [szOf, Option.map_eq_some_iff] at h
  obtain ⟨i, hi, rfl⟩ := h
  simp [sizeOf, typeInfo, hi]
theorem partA_cases {P : Program} {t : TypeId} {xs : List AVal} {off : Nat} {x : AVal} (h : partA P t xs off = some x) :
    (∃ n, aggT P t = some true ∧ szOf P t = some n ∧ off + n ≤ xs.length ∧ x = .agg ((xs.drop off).take n)) ∨ (∃ n, aggT P t = some false ∧ szOf P t = some n ∧ xs[off]? = some x) := by
  unfold partA at h
  split at h
  · rename_i n h1 h2
    split at h
    · rename_i hle
      simp only [Option.some.injEq] at h
      exact .inl ⟨n, h1, h2, hle, h.symm⟩
    · simp at h
  · rename_i n h1 h2
    exact .inr ⟨n, h1, h2, h⟩
  · simp at h
theorem part_ok {P : Program} {C : Ctx} {t : TypeId} {xs : List AVal} {cs : Array Value} {off : Nat} {x : AVal} (h : partA P t xs off = some x) (hs : cs.size = xs.length)
    (hr : Rvs C xs (fun i y => cs[i]? = some y) 0) (w : World) : ∃ u, (part t cs off).run P w = .ok u w ∧ Rv C x u := by
  rcases partA_cases h with ⟨n, h1, h2, h3, rfl⟩ | ⟨n, h1, h2, h3⟩
  · refine ⟨.agg (cs.extract off (off + n)), ?_, ?_⟩
    · simp [part, run_isAgg h1, run_sizeOf h2]
    · simp only [Rv]
      refine ⟨_, rfl, by simp; omega, Rvs_mk fun j y hy => ?_⟩
      rw [List.getElem?_take] at hy
      split at hy
      · rename_i hj
        rw [List.getElem?_drop] at hy
        obtain ⟨z, hz, hrz⟩ := Rvs_get hr (off + j) y hy
        refine ⟨z, ?_, hrz⟩
        simp only [Nat.zero_add] at hz ⊢
        rw [Array.getElem?_extract, if_pos (by omega)]
        exact hz
      · simp at hy
  · obtain ⟨z, hz, hrz⟩ := Rvs_get hr off x h3
    simp only [Nat.zero_add] at hz
    refine ⟨z, ?_, hrz⟩
    simp [part, run_isAgg h1, hz]
theorem loadVar_ok {P : Program} {C : Ctx} {t : TypeId} {xs : List AVal} {a : Addr} {off : Nat} {x : AVal} (h : partA P t xs off = some x)
    (hr : Rvs C xs (fun i y => C.w.cell? (a.add i) = some y) 0) : ∃ u, (loadVar t (a.add off)).run P C.w = .ok u C.w ∧ Rv C x u := by
  rcases partA_cases h with ⟨n, h1, h2, h3, rfl⟩ | ⟨n, h1, h2, h3⟩
  · obtain ⟨ys, hl, hr1, hr2⟩ := Rvs_list (Rvs_take (Rvs_drop hr off) n)
    have hn : ys.length = n := by rw [hl]; simp; omega
    refine ⟨.agg ys.toArray, ?_, ?_⟩
    · have := run_loadCells_list (P := P) C.w (a.add off) ys (fun j v hj => by
        have := hr2 j v hj
        simp only [Nat.zero_add] at this
        rw [addr_add_add]; exact this)
      rw [hn] at this
      simp [loadVar, run_isAgg h1, run_sizeOf h2, this]
    · simp only [Rv]
      exact ⟨_, rfl, by simpa using hl, by simpa using hr1⟩
  · obtain ⟨z, hz, hrz⟩ := Rvs_get hr off x h3
    simp only [Nat.zero_add] at hz
    refine ⟨z, ?_, hrz⟩
    simp [loadVar, run_isAgg h1, hz]

/-! ## cells that are put -/
theorem putA_some {xs ys zs : List AVal} {off : Nat} (h : putA xs off ys = some zs) : off + ys.length ≤ xs.length ∧ ys.all AVal.one = true ∧ zs = xs.take off ++ ys ++ xs.drop (off + ys.length) := by
  unfold putA at h
  split at h
  · rename_i hc
    simp only [Bool.and_eq_true, decide_eq_true_eq] at hc
    simp only [Option.some.injEq] at h
    exact ⟨hc.1, hc.2, h.symm⟩
  · simp at h
theorem put_rel {C : Ctx} {xs ys zs : List AVal} {off : Nat} (h : putA xs off ys = some zs) {cs vs ds : List Value} (base : Nat)
    (hr : Rvs C xs (fun i y => cs[base + i]? = some y) 0) (hv : Rvs C ys (fun i y => vs[i]? = some y) 0) (hvl : vs.length = ys.length) (hcs : base + xs.length ≤ cs.length)
    (hds : ds = cs.take (base + off) ++ vs ++ cs.drop (base + off + vs.length)) : zs.length = xs.length ∧ ds.length = cs.length ∧ Rvs C zs (fun i y => ds[base + i]? = some y) 0 := by
  obtain ⟨h1, h2, rfl⟩ := putA_some h
  subst hds
  refine ⟨by simp; omega, by simp; omega, Rvs_mk fun j x hx => ?_⟩
  simp only [Nat.zero_add]
  have hlen1 : (xs.take off).length = off := by simp; omega
  rw [List.append_assoc, List.getElem?_append] at hx
  rw [List.append_assoc, List.getElem?_append]
  have hlc : (cs.take (base + off)).length = base + off := by simp; omega
  rw [hlen1] at hx
  rw [hlc]
  by_cases hj : j < off
  · rw [if_pos hj] at hx
    rw [if_pos (by omega)]
    rw [List.getElem?_take, if_pos hj] at hx
    obtain ⟨y, hy, hry⟩ := Rvs_get hr j x hx
    exact ⟨y, by rw [List.getElem?_take, if_pos (by omega)]; simpa using hy, hry⟩
  · rw [if_neg hj] at hx
    rw [if_neg (by omega)]
    rw [List.getElem?_append] at hx ⊢
    rw [show base + j - (base + off) = j - off by omega, hvl]
    by_cases hj2 : j - off < ys.length
    · rw [if_pos hj2] at hx ⊢
      obtain ⟨y, hy, hry⟩ := Rvs_get hv (j - off) x hx
      exact ⟨y, by simpa using hy, hry⟩
    · rw [if_neg hj2] at hx ⊢
      rw [List.getElem?_drop] at hx ⊢
      rw [show off + ys.length + (j - off - ys.length) = j by omega] at hx
      rw [show base + off + ys.length + (j - off - ys.length) = base + j by omega]
      obtain ⟨y, hy, hry⟩ := Rvs_get hr j x hx
      exact ⟨y, by simpa using hy, hry⟩
theorem put_one {xs ys zs : List AVal} {off : Nat} (h : putA xs off ys = some zs) (hx : xs.all AVal.one = true) : zs.all AVal.one = true := by
  obtain ⟨h1, h2, rfl⟩ := putA_some h
  rw [List.all_eq_true] at *
  intro z hz
  simp only [List.mem_append] at hz
  rcases hz with (hz | hz) | hz
  · exact hx z (List.mem_of_mem_take hz)
  · exact h2 z hz
  · exact hx z (List.mem_of_mem_drop hz)
theorem fold_set : ∀ (l : List Value) (i off : Nat) (cs : Array Value), off + i + l.length ≤ cs.size →
    ((l.zipIdx i).foldl (fun cs p => cs.setIfInBounds (off + p.2) p.1) cs).toList = cs.toList.take (off + i) ++ l ++ cs.toList.drop (off + i + l.length)
  | [], i, off, cs, _ => by simp
  | x :: l, i, off, cs, h => by
    simp only [List.length_cons] at h
    rw [List.zipIdx_cons, List.foldl_cons, fold_set l (i + 1) off _ (by simp; omega)]
    simp only [Array.toList_setIfInBounds, List.length_cons]
    apply List.ext_getElem?
    intro j
    have h1 : ((cs.toList.set (off + i) x).take (off + (i + 1))).length = off + i + 1 := by simp; omega
    have h2 : (cs.toList.take (off + i)).length = off + i := by simp; omega
    simp only [List.append_assoc]
    rw [List.getElem?_append (l₁ := (cs.toList.set (off + i) x).take (off + (i + 1))), List.getElem?_append (l₁ := cs.toList.take (off + i)), h1, h2]
    by_cases hj : j < off + i
    · rw [if_pos (by omega), if_pos hj, List.getElem?_take, if_pos (by omega), List.getElem?_take, if_pos hj, List.getElem?_set, if_neg (by omega)]
    · rw [if_neg hj]
      by_cases hj2 : j = off + i
      · subst hj2
        rw [if_pos (by omega), List.getElem?_take, if_pos (by omega), List.getElem?_set, if_pos rfl, if_pos (by simp; omega)]
        simp
      · rw [if_neg (by omega), List.getElem?_append (l₁ := l), List.getElem?_append (l₁ := x :: l)]
        simp only [List.length_cons]
        rw [show j - (off + i + 1) = j - (off + i) - 1 by omega]
        obtain ⟨m, hm⟩ : ∃ m, j - (off + i) = m + 1 := ⟨j - (off + i) - 1, by omega⟩
        rw [hm]
        simp only [Nat.add_sub_cancel, List.getElem?_cons_succ]
        by_cases hm2 : m < l.length
        · rw [if_pos hm2, if_pos (by omega)]
        · rw [if_neg hm2, if_neg (by omega), List.getElem?_drop, List.getElem?_drop, List.getElem?_set, if_neg (by omega)]
          congr 1
          omega
theorem fill_ok {C : Ctx} {place : Nat → Option (Nat × Nat)} : ∀ (ps : List (Nat × AVal)) (vs : List (Nat × Value)) (xs ys : List AVal) (cs : Array Value),
    fillA place xs ps = some ys → vs.map (·.1) = ps.map (·.1) → Rvs C (ps.map (·.2)) (fun i y => (vs.map (·.2))[i]? = some y) 0 → cs.size = xs.length → Rvs C xs (fun i y => cs[i]? = some y) 0 → xs.all AVal.one = true →
    ∃ ds, Instr.fill place cs vs = some ds ∧ ds.size = ys.length ∧ ys.length = xs.length ∧ Rvs C ys (fun i y => ds[i]? = some y) 0 ∧ ys.all AVal.one = true
  | [], vs, xs, ys, cs, h, hv, _, hs, hr, h1 => by
    simp only [List.map_nil, List.map_eq_nil_iff] at hv
    subst hv
    simp only [fillA, Option.some.injEq] at h
    subst h
    exact ⟨cs, rfl, hs, rfl, hr, h1⟩
  | (i, x) :: ps, vs, xs, ys, cs, h, hv, hr2, hs, hr, h1 => by
    cases vs with
    | nil => simp at hv
    | cons v vs =>
      obtain ⟨i', u⟩ := v
      simp only [List.map_cons, List.cons.injEq] at hv
      obtain ⟨rfl, hv⟩ := hv
      simp only [List.map_cons, Rvs] at hr2
      obtain ⟨⟨u', hu', hru⟩, hr3⟩ := hr2
      simp only [List.getElem?_cons_zero, Option.some.injEq] at hu'
      subst hu'
      simp only [fillA] at h
      split at h
      · rename_i off n hp
        split at h
        · rename_i hn
          split at h
          · rename_i zs hz
            obtain ⟨hb1, hb2, hb3⟩ := putA_some hz
            obtain ⟨hc1, hc2⟩ := cells_rel hru hb2
            have hfold := fold_set u.cells.toList 0 off cs (by simp only [Array.length_toList]; omega)
            simp only [Nat.add_zero, Array.length_toList] at hfold
            have hf2 : (u.cells.zipIdx.foldl (fun cs (c, j) => cs.setIfInBounds (off + j) c) cs).toList = cs.toList.take off ++ u.cells.toList ++ cs.toList.drop (off + u.cells.size) := by
              rw [← hfold, ← Array.foldl_toList]
              simp
            obtain ⟨hp1, hp2, hp3⟩ := put_rel (C := C) hz (cs := cs.toList) (vs := u.cells.toList) 0 (by simpa using hr) (by simpa using hc2) (by simpa using hc1) (by simp [hs]) rfl
            simp only [Nat.zero_add, Array.length_toList] at hp2 hp3
            obtain ⟨ds, h2, h3, h4, h5, h6⟩ := fill_ok (C := C) ps vs zs ys (u.cells.zipIdx.foldl (fun cs (c, j) => cs.setIfInBounds (off + j) c) cs) h hv
              (by refine Rvs_mk fun j y hy => ?_
                  obtain ⟨z, hz1, hz2⟩ := Rvs_get hr3 j y hy
                  refine ⟨z, ?_, hz2⟩
                  rw [show 0 + 1 + j = j + 1 by omega] at hz1
                  simpa using hz1)
              (by rw [← Array.length_toList, hf2, hp2, hp1, hs])
              (by refine Rvs_mk fun j y hy => ?_
                  obtain ⟨z, hz1, hz2⟩ := Rvs_get hp3 j y hy
                  refine ⟨z, ?_, hz2⟩
                  rw [← Array.getElem?_toList, hf2]
                  exact hz1)
              (put_one hz h1)
            refine ⟨ds, ?_, h3, h4.trans hp1, h5, h6⟩
            simp only [Instr.fill, hp]
            rw [if_neg (by simp only [Bool.or_eq_true, decide_eq_true_eq, not_or]; omega)]
            exact h2
          · simp at h
        · simp at h
      · simp at h

end Go.Proofs.Ytmopbegmdegooaa.Vm
