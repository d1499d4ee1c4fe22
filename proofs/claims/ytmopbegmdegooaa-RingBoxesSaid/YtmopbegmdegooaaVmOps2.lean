/- Each operation of the abstract machine is the model's: one theorem an operation. -/
import Derived.Test.YtmopbegmdegooaaVmOps
namespace Go.Proofs.Ytmopbegmdegooaa.Vm
open Go Go.RowKit
set_option linter.unusedVariables false
set_option linter.unusedSimpArgs false
set_option linter.unnecessarySimpa false

variable {P : Program} {o : Oper} {a : Act} {C : Ctx} {T : List AVal} {slot : Nat} {x : AVal} {e : Eff}

/-- An operation whose result is told by a computation that turns nothing. -/
theorem OpOk.of_run {s : Sem Value} {u : Value} {e : Eff} (hS : St C) (he : e = []) (hx : execOp a.eval o = (do pure (.value (← s)))) (hr : s.run P C.w = .ok u C.w) (h : Rv C x u) : OpOk P o a C x (applyEff C.S e) := by
  subst he
  exact OpOk.plain hS (by rw [hx]; simp [hr]) h
theorem map_eff {r : Option AVal} (h : r.map (fun r => ((r, []) : AVal × Eff)) = some (x, e)) : r = some x ∧ e = [] := by
  cases r with
  | none => simp at h
  | some y => simp only [Option.map_some, Option.some.injEq, Prod.mk.injEq] at h; exact ⟨by rw [h.1], h.2.symm⟩
theorem map_effV {r : Option Value} (h : r.map (fun r => ((.v r, []) : AVal × Eff)) = some (x, e)) : ∃ u, r = some u ∧ x = .v u ∧ e = [] := by
  cases r with
  | none => simp at h
  | some y => simp only [Option.map_some, Option.some.injEq, Prod.mk.injEq] at h; exact ⟨y, rfl, h.1.symm, h.2.symm⟩
theorem applyEff_one (S : List AObj) (q : Nat) (y : AObj) : applyEff S [(q, y)] = setObj S q y := rfl
theorem setObj_lt {S : List AObj} {q : Nat} {x y : AObj} (h : S[q]? = some x) : setObj S q y = S.set q y := by
  unfold setObj; rw [if_pos (List.getElem?_eq_some_iff.1 h).1]
theorem Rv_v {y u : Value} : Rv C (.v y) u ↔ u = y := by simp [Rv]
theorem zeroA_some {t : TypeId} {zs : List AVal} (h : zeroA P t = some zs) : ∃ i z, P.info? t = some i ∧ i.zero = some z ∧ zs = z.cells.toList.map .v := by
  unfold zeroA at h
  split at h
  · rename_i i hi
    split at h
    · rename_i z hz
      simp only [Option.some.injEq] at h
      exact ⟨i, z, hi, hz, h.symm⟩
    · simp at h
  · simp at h
theorem zero_rel (C : Ctx) (z : Value) : Rvs C (z.cells.toList.map .v) (fun i y => z.cells[i]? = some y) 0 :=
  Rvs_mk fun j x hx => by
    simp only [List.getElem?_map, Option.map_eq_some_iff] at hx
    obtain ⟨y, hy, rfl⟩ := hx
    exact ⟨y, by simpa using hy, by simp [Rv]⟩
theorem run_zero {t : TypeId} {i : TypeInfo} {z : Value} (hi : P.info? t = some i) (hz : i.zero = some z) (w : World) : (zeroValue t).run P w = .ok z w := by
  simp [zeroValue, typeInfo, hi, hz]

/-! ## variables in memory -/
theorem boxed (hS : St C) (hslot : slot = C.S.length ∨ C.S[slot]? = some .free) (t : TypeId) (xs : List AVal) (cs : Array Value) (hs : cs.size = xs.length) (hr : Rvs C xs (fun i y => cs[i]? = some y) 0)
    (h1 : xs.all AVal.one = true) (hrun : (execOp a.eval o).run P C.w = .ok (.value (.pointer (some ⟨C.w.heap.size, 0, none⟩))) (C.w.alloc (.cells cs t))) :
    OpOk P o a C (.ptr slot 0 0) (applyEff C.S [(slot, .box xs)]) := by
  have hle : slot ≤ C.S.length := by
    rcases hslot with rfl | h
    · exact Nat.le_refl _
    · exact Nat.le_of_lt (List.getElem?_eq_some_iff.1 h).1
  obtain ⟨ρ', h2, h3, h4⟩ := made hS slot hslot cs t (.box xs) 0 0 rfl C.w rfl rfl rfl rfl (fun C' g hw hρ hok' => by
    refine ⟨cs, t, ?_, hs, by rw [hρ], Rvs_mono g _ _ _ _ (fun _ _ h => h) hr, h1⟩
    rw [hρ, hw]; exact heap_alloc_new C.w _)
  refine ⟨_, _, _, hrun, rfl, rfl, h2, h3, ?_⟩
  simp only [Rv]
  refine ⟨_, rfl, .box xs, 0, setObj_get_same _ _ _ hle, rfl, Nat.le_refl _, fun _ => ?_⟩
  simp [h4]
theorem op_alloc {t : TypeId} (hS : St C) (hslot : slot = C.S.length ∨ C.S[slot]? = some .free) (ho : o.op = .alloc t)
    (h : evalOp P T C.S slot o = some (x, e)) : OpOk P o a C x (applyEff C.S e) := by
  simp only [evalOp, ho] at h
  split at h
  · rename_i zs hz
    split at h
    · rename_i h1
      simp only [Option.some.injEq, Prod.mk.injEq] at h
      obtain ⟨rfl, rfl⟩ := h
      obtain ⟨i, z, hi, hzz, rfl⟩ := zeroA_some hz
      refine boxed hS hslot t _ z.cells (by simp) (zero_rel C z) h1 ?_
      simp [execOp, ho, Instr.alloc, run_zero hi hzz, newVar, newRow]
    · simp at h
  · simp at h
theorem op_box {t : TypeId} {y : Operand} (hS : St C) (hT : RT C T a.tmps) (hslot : slot = C.S.length ∨ C.S[slot]? = some .free) (ho : o.op = .box t y)
    (h : evalOp P T C.S slot o = some (x, e)) : OpOk P o a C x (applyEff C.S e) := by
  simp only [evalOp, ho] at h
  split at h
  · rename_i h1
    simp only [Option.some.injEq, Prod.mk.injEq] at h
    obtain ⟨rfl, rfl⟩ := h
    obtain ⟨h2, h3⟩ := cells_rel (opd_rel hT y) h1
    refine boxed hS hslot t _ (a.eval y).cells h2 h3 h1 ?_
    simp [execOp, ho, Instr.box, newVar, newRow]
  · simp at h

/-! ## loads, stores -/
theorem box_cells {q : Nat} {xs : List AVal} (hS : St C) (h : C.S[q]? = some (.box xs)) : Rvs C xs (fun i y => C.w.cell? (Addr.add ⟨(C.ρ q).b, (C.ρ q).off, none⟩ i) = some y) 0 := by
  obtain ⟨cs, t, h1, h2, h3, h4, h5⟩ := hS.obj q _ h
  refine Rvs_mk fun j x hx => ?_
  obtain ⟨y, hy, hr⟩ := Rvs_get h4 j x hx
  refine ⟨y, ?_, hr⟩
  simp only [Nat.zero_add] at hy ⊢
  rw [addr_add, h3, Nat.zero_add, cell_of_row _ _ _ _ _ _ h1]; exact hy
theorem row_cells {q sz ep : Nat} {fr : Option Nat} {xs : List AVal} (hS : St C) (h : C.S[q]? = some (.row sz ep fr xs)) : Rvs C xs (fun i y => C.w.cell? (Addr.add ⟨(C.ρ q).b, (C.ρ q).off, none⟩ i) = some y) 0 := by
  obtain ⟨cs, t, h1, h2, h3, h4, h5, h6, _⟩ := hS.obj q _ h
  refine Rvs_mk fun j x hx => ?_
  obtain ⟨y, hy, hr⟩ := Rvs_get h5 j x hx
  refine ⟨y, ?_, hr⟩
  simp only [Nat.zero_add] at hy ⊢
  rw [addr_add, cell_of_row _ _ _ _ _ _ h1]; exact hy
theorem list_cells {xs : List PVal} {ad : Addr} (h : Rps (sees C.ok C.w) xs (fun i y => sees C.ok C.w (ad.add i) y) 0) : Rvs C (upL xs) (fun i y => C.w.cell? (ad.add i) = some y) 0 :=
  (Rvs_up xs _ 0).2 (Rps_mono (fun _ _ h => h) xs _ _ 0 (fun i y h => h.2) h)
theorem load_ok {t : TypeId} {y : AVal} {u : Value} (hS : St C) (h : loadA P C.S t y = some x) (hr : Rv C y u) : ∃ v, (Instr.loadAt t u).run P C.w = .ok v C.w ∧ Rv C x v := by
  unfold loadA at h
  split at h
  · rename_i q ep off
    simp only [Rv] at hr
    obtain ⟨ad, rfl, obj, e0, h1, h2, h3, h4⟩ := hr
    split at h
    · rename_i xs hq
      split at h
      · rename_i he
        subst he
        rw [hq] at h1; cases h1
        simp only [AObj.ep?, Option.some.injEq] at h2
        subst h2
        rw [h4 rfl]
        obtain ⟨v, hv, hrv⟩ := loadVar_ok h (box_cells hS hq)
        rw [addr_add] at hv
        exact ⟨v, by simpa [Instr.loadAt, Instr.sureAddr] using hv, hrv⟩
      · simp at h
    · rename_i sz e1 fr xs hq
      split at h
      · rename_i he
        subst he
        rw [hq] at h1; cases h1
        simp only [AObj.ep?, Option.some.injEq] at h2
        subst h2
        rw [h4 rfl]
        obtain ⟨v, hv, hrv⟩ := loadVar_ok h (row_cells hS hq)
        rw [addr_add] at hv
        exact ⟨v, by simpa [Instr.loadAt, Instr.sureAddr] using hv, hrv⟩
      · simp at h
    · simp at h
  · rename_i xs
    simp only [Rv] at hr
    obtain ⟨ad, rfl, hc⟩ := hr
    obtain ⟨v, hv, hrv⟩ := loadVar_ok h (list_cells hc)
    have e1 : ad.add 0 = ad := by simp [Addr.add]
    rw [e1] at hv
    exact ⟨v, by simpa [Instr.loadAt, Instr.sureAddr] using hv, hrv⟩
  · simp at h
theorem op_load {t : TypeId} {y : Operand} (hS : St C) (hT : RT C T a.tmps) (ho : o.op = .load t y)
    (h : evalOp P T C.S slot o = some (x, e)) : OpOk P o a C x (applyEff C.S e) := by
  simp only [evalOp, ho] at h
  obtain ⟨h1, h2⟩ := map_eff h
  obtain ⟨v, hv, hr⟩ := load_ok hS h1 (opd_rel hT y)
  exact OpOk.of_run hS h2 (by simp [execOp, ho]) hv hr
theorem store_ok {t : TypeId} {y z : AVal} {u v : Value} (hS : St C) (h : storeA P C.S t y z = some e) (hr : Rv C y u) (hz : Rv C z v) :
    ∃ C', (Instr.storeAt t u v).run P C.w = .ok () C'.w ∧ C'.S = applyEff C.S e ∧ St C' ∧ Ext C C' := by
  unfold storeA at h
  split at h
  · rename_i q ep off
    simp only [Rv] at hr
    obtain ⟨ad, rfl, obj, e0, h1, h2, h3, h4⟩ := hr
    split at h
    · rename_i hsz
      split at h
      · rename_i xs hq
        split at h
        · rename_i he
          subst he
          rw [hq] at h1; cases h1
          simp only [AObj.ep?, Option.some.injEq] at h2
          subst h2
          rw [h4 rfl]
          simp only [Option.map_eq_some_iff] at h
          obtain ⟨ys, hp, rfl⟩ := h
          obtain ⟨hb1, hb2, hb3⟩ := putA_some hp
          obtain ⟨hc1, hc2⟩ := cells_rel hz hb2
          have hro := hS.obj q _ hq
          obtain ⟨cs, t0, hh, hs, hof, hrs, hone⟩ := hro
          obtain ⟨hp1, hp2, hp3⟩ := put_rel (C := C) hp (cs := cs.toList) (vs := v.cells.toList) 0 (by simpa using hrs) (by simpa using hc2) (by simpa using hc1) (by simp [hs]) rfl
          have hv1 : ∀ z ∈ v.cells.toList, z.oneCell' = true := ones_of (C := C) (by simpa using hc1) (by simpa using hc2) hb2
          have hst := run_storeCells_at P (C.ρ q).b off t0 v.cells.toList 0 cs C.w hh (by simp; omega) hv1
          obtain ⟨ρ', k1, k2, k3⟩ := turned hS q (.box xs) (.box ys) 0 0 hq rfl rfl (cs.toList.take (0 + off) ++ v.cells.toList ++ cs.toList.drop (0 + off + v.cells.toList.length)).toArray (C.ρ q) rfl (.inl ⟨rfl, rfl⟩)
            (fun j hj => by obtain ⟨_, _, _, _, hx, _⟩ := hS.okRow _ j hj q _ 0 hq rfl rfl; cases hx)
            (fun C' g hw hρ hok' => by
              refine ⟨_, t0, by rw [hρ, hw]; exact setRow_heap _ _ _ _ _ _ hh, ?_, by rw [hρ]; exact hof, ?_, put_one hp hone⟩
              · rw [List.size_toArray, hp2, Array.length_toList, hs, hp1]
              · refine Rvs_mono g _ _ _ _ (fun i y hy => ?_) hp3
                simpa using hy)
          refine ⟨_, ?_, ?_, k1, k2⟩
          · have hsize : (sizeOf t).run P C.w = .ok z.cells.length C.w := run_sizeOf hsz C.w
            simp only [Instr.storeAt, Instr.sureAddr, storeVar, Sem.run_bind, Sem.run_pure, Result.andThen_ok, hsize, hc1, ne_eq, not_true_eq_false, if_false, hof, Nat.zero_add, Sem.run_ite]
            simp only [Nat.zero_add, Nat.add_zero, hof] at hst ⊢
            rw [hst]
          · rw [applyEff_one, setObj_lt hq]
        · simp at h
      · rename_i sz e1 fr xs hq
        split at h
        · rename_i he
          obtain ⟨he, hfr⟩ := he
          subst he hfr
          rw [hq] at h1; cases h1
          simp only [AObj.ep?, Option.some.injEq] at h2
          subst h2
          rw [h4 rfl]
          simp only [Option.map_eq_some_iff] at h
          obtain ⟨ys, hp, rfl⟩ := h
          obtain ⟨hb1, hb2, hb3⟩ := putA_some hp
          obtain ⟨hc1, hc2⟩ := cells_rel hz hb2
          have hro := hS.obj q _ hq
          obtain ⟨cs, t0, hh, hs1, hs2, hs3, hrs, hone, _⟩ := hro
          obtain ⟨hp1, hp2, hp3⟩ := put_rel (C := C) hp (cs := cs.toList) (vs := v.cells.toList) (C.ρ q).off (by simpa using hrs) (by simpa using hc2) (by simpa using hc1) (by simp; omega) rfl
          have hv1 : ∀ z ∈ v.cells.toList, z.oneCell' = true := ones_of (C := C) (by simpa using hc1) (by simpa using hc2) hb2
          have hst := run_storeCells_at P (C.ρ q).b ((C.ρ q).off + off) t0 v.cells.toList 0 cs C.w hh (by simp; omega) hv1
          obtain ⟨ρ', k1, k2, k3⟩ := turned hS q (.row sz e1 none xs) (.row sz e1 none ys) e1 e1 hq rfl rfl (cs.toList.take ((C.ρ q).off + off) ++ v.cells.toList ++ cs.toList.drop ((C.ρ q).off + off + v.cells.toList.length)).toArray (C.ρ q) rfl (.inl ⟨rfl, rfl⟩)
            (fun j hj => by obtain ⟨_, _, _, _, hx, _⟩ := hS.okRow _ j hj q _ e1 hq rfl rfl; cases hx)
            (fun C' g hw hρ hok' => by
              refine ⟨_, t0, by rw [hρ, hw]; exact setRow_heap _ _ _ _ _ _ hh, ?_, by rw [hρ, hp1]; exact hs2, hs3, ?_, put_one hp hone, fun k hk => by cases hk⟩
              · rw [List.size_toArray, hp2, Array.length_toList, hρ]; exact hs1
              · rw [hρ]
                refine Rvs_mono g _ _ _ _ (fun i y hy => ?_) hp3
                simpa using hy)
          refine ⟨_, ?_, ?_, k1, k2⟩
          · have hsize : (sizeOf t).run P C.w = .ok z.cells.length C.w := run_sizeOf hsz C.w
            simp only [Instr.storeAt, Instr.sureAddr, storeVar, Sem.run_bind, Sem.run_pure, Result.andThen_ok, hsize, hc1, ne_eq, not_true_eq_false, if_false, Sem.run_ite]
            simp only [Nat.add_zero] at hst ⊢
            rw [hst]
          · rw [applyEff_one, setObj_lt hq]
        · simp at h
      · simp at h
    · simp at h
  · simp at h
theorem op_store {t : TypeId} {y z : Operand} (hS : St C) (hT : RT C T a.tmps) (ho : o.op = .store t y z)
    (h : evalOp P T C.S slot o = some (x, e)) : OpOk P o a C x (applyEff C.S e) := by
  simp only [evalOp, ho, Option.map_eq_some_iff, Prod.mk.injEq] at h
  obtain ⟨e', h1, rfl, rfl⟩ := h
  obtain ⟨C', k1, k2, k3, k4⟩ := store_ok hS h1 (opd_rel hT y) (opd_rel hT z)
  refine ⟨.skip, undef, C', ?_, rfl, k2, k3, k4, by simp [Rv]⟩
  simp [execOp, ho, k1]

end Go.Proofs.Ytmopbegmdegooaa.Vm
