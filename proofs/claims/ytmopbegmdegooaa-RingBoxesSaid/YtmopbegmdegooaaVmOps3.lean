/- Each operation of the abstract machine is the model's: what looks at no memory, structs, slices, indexes. -/
import Derived.Test.YtmopbegmdegooaaVmOps2
namespace Go.Proofs.Ytmopbegmdegooaa.Vm
open Go Go.RowKit
set_option linter.unusedVariables false
set_option linter.unusedSimpArgs false
set_option linter.unnecessarySimpa false

variable {P : Program} {o : Oper} {a : Act} {C : Ctx} {T : List AVal} {slot : Nat} {x : AVal} {e : Eff}

theorem op_move {y : Operand} (hS : St C) (hT : RT C T a.tmps) (ho : o.op = .move y ∨ o.op = .assign y)
    (h : evalOp P T C.S slot o = some (x, e)) : OpOk P o a C x (applyEff C.S e) := by
  rcases ho with ho | ho <;>
  · simp only [evalOp, ho, Option.some.injEq, Prod.mk.injEq] at h
    obtain ⟨rfl, rfl⟩ := h
    exact OpOk.plain hS (by simp [execOp, ho]) (opd_rel hT y)
theorem op_pick {c y z : Operand} (hS : St C) (hT : RT C T a.tmps) (ho : o.op = .pick c y z)
    (h : evalOp P T C.S slot o = some (x, e)) : OpOk P o a C x (applyEff C.S e) := by
  simp only [evalOp, ho] at h
  split at h
  · rename_i t hc
    have hr := opd_rel hT c
    rw [hc, Rv_v] at hr
    simp only [Option.some.injEq, Prod.mk.injEq] at h
    obtain ⟨rfl, rfl⟩ := h
    refine OpOk.plain (u := if t then a.eval y else a.eval z) hS (by cases t <;> simp [execOp, ho, hr, asBool]) ?_
    cases t
    · exact opd_rel hT z
    · exact opd_rel hT y
  · simp at h
theorem scalar_part {P : Program} {t : TypeId} {d : TypeDesc} {inf : TypeInfo} (hi : P.info? t = some inf) (hu : P.underlying t = some d) (hd : (∃ k, d = .int k) ∨ d = .bool) {cs : Array Value} {i : Nat} {v : Value} (h : cs[i]? = some v) (w : World) : (part t cs i).run P w = .ok v w := by
  have ha : aggT P t = some false := by
    unfold aggT
    rw [hu]
    rcases hd with ⟨k, rfl⟩ | rfl <;> rfl
  simp [part, run_isAgg ha, h]
theorem eqCells_ok {P : Program} {C : Ctx} {cs ds : Array Value} (n : Nat) (w : World) : ∀ (fs : List Field) (i : Nat) (xs ys : List AVal) (r : Bool), eqCells P fs i xs ys = some r → Rvs C xs (fun i y => cs[i]? = some y) i → Rvs C ys (fun i y => ds[i]? = some y) i →
    (Op.eqFields (n + 1) cs ds fs).run P w = .ok r w
  | [], i, xs, ys, r, h, hx, hy => by
    unfold eqCells at h
    split at h
    · simp only [Option.some.injEq] at h
      subst h
      simp [Op.eqFields]
    · simp_all
    · simp_all
    · cases h
  | f :: fs, i, xs, ys, r, h, hx, hy => by
    unfold eqCells at h
    split at h
    · simp_all
    · rename_i k a xs' k' b ys' heq
      cases heq
      split at h
      · rename_i inf hinf
        split at h
        · rename_i k2 hu
          split at h
          · rename_i hc
            obtain ⟨ho, rfl, hn⟩ := hc
            simp only [Option.map_eq_some_iff] at h
            obtain ⟨r', hr', rfl⟩ := h
            simp only [Rvs, Rv] at hx hy
            obtain ⟨⟨u, hu1, rfl⟩, hx2⟩ := hx
            obtain ⟨⟨v, hv1, rfl⟩, hy2⟩ := hy
            have hn' : f.name ≠ "_" := by simpa using hn
            have ih := eqCells_ok n w fs _ xs' ys' r' hr' hx2 hy2
            rw [Op.eqFields]
            simp only [if_pos hn', Sem.run_bind, ho, scalar_part hinf hu (.inl ⟨_, rfl⟩) hu1 w, scalar_part hinf hu (.inl ⟨_, rfl⟩) hv1 w, Result.andThen_ok, run_equalIn_int w n f.type k k2 a b hu]
            cases hab : (a == b)
            · simp
            · simpa using ih
          · cases h
        · cases h
      · cases h
    · rename_i a xs' b ys' heq
      cases heq
      split at h
      · rename_i inf hinf
        split at h
        · rename_i hu
          split at h
          · rename_i hc
            obtain ⟨ho, hn⟩ := hc
            simp only [Option.map_eq_some_iff] at h
            obtain ⟨r', hr', rfl⟩ := h
            simp only [Rvs, Rv] at hx hy
            obtain ⟨⟨u, hu1, rfl⟩, hx2⟩ := hx
            obtain ⟨⟨v, hv1, rfl⟩, hy2⟩ := hy
            have hn' : f.name ≠ "_" := by simpa using hn
            have ih := eqCells_ok n w fs _ xs' ys' r' hr' hx2 hy2
            rw [Op.eqFields]
            simp only [if_pos hn', Sem.run_bind, ho, scalar_part hinf hu (.inr rfl) hu1 w, scalar_part hinf hu (.inr rfl) hv1 w, Result.andThen_ok, run_equalIn_bool w n f.type a b hu]
            cases hab : (a == b)
            · simp
            · simpa using ih
          · cases h
        · cases h
      · cases h
    · cases h
theorem eqAgg_ok {P : Program} {C : Ctx} {op : BinOp} {t : TypeId} {y z : Operand} {a b x : AVal} {u v : Value} (h : eqAgg P op t a b = some x) (ha : Rv C a u) (hb : Rv C b v) (w : World) :
    ∃ r, (do eqGuard op t y z u v; binOp op t u v : Sem Value).run P w = .ok (.bool r) w ∧ x = .v (.bool r) := by
  unfold eqAgg at h
  split at h
  · rename_i xs ys
    simp only [Rv] at ha hb
    obtain ⟨cs, rfl, h1, h2⟩ := ha
    obtain ⟨ds, rfl, h3, h4⟩ := hb
    split at h
    · rename_i fs hu
      split at h
      · rename_i hc
        have hf : P.fieldsOf t = fs := by simp [Program.fieldsOf, hu]
        have key : ∀ r, eqCells P fs.toList 0 xs ys = some r → (Op.equal t (.agg cs) (.agg ds)).run P w = .ok r w := by
          intro r hr
          unfold Op.equal Op.maxDepth
          rw [run_equalIn_struct (P := P) w 9999 t cs ds (by rw [hf]; exact hu) hc.1, hf]
          exact eqCells_ok 9998 w _ 0 xs ys r hr h2 h4
        split at h
        · rename_i r hr
          simp only [Option.some.injEq] at h
          exact ⟨r, by simp [eqGuard, hc.2, binOp, key r hr], h.symm⟩
        · rename_i r hr
          simp only [Option.some.injEq] at h
          exact ⟨!r, by simp [eqGuard, hc.2, binOp, key r hr], h.symm⟩
        · cases h
      · cases h
    · cases h
  · cases h
theorem op_bin {op : BinOp} {t ty : TypeId} {y z : Operand} (hS : St C) (hT : RT C T a.tmps) (ho : o.op = .binOp op t y z ty)
    (h : evalOp P T C.S slot o = some (x, e)) : OpOk P o a C x (applyEff C.S e) := by
  simp only [evalOp, ho] at h
  split at h
  · rename_i r hr
    simp only [Option.some.injEq, Prod.mk.injEq] at h
    obtain ⟨rfl, rfl⟩ := h
    obtain ⟨b, h1, h2⟩ := eqAgg_ok (y := y) (z := z) hr (opd_rel hT y) (opd_rel hT z) C.w
    exact OpOk.of_run hS rfl (s := do eqGuard op t y z (a.eval y) (a.eval z); binOp op t (a.eval y) (a.eval z)) (by simp [execOp, ho]) h1 (by rw [h2]; simp [Rv])
  · obtain ⟨h1, h2⟩ := map_eff h
    unfold binA at h1
    split at h1
    · rename_i u w hu hw
      simp only [Option.map_eq_some_iff] at h1
      obtain ⟨r, hr, rfl⟩ := h1
      have e1 := toV_rel hu (opd_rel hT y)
      have e2 := toV_rel hw (opd_rel hT z)
      exact OpOk.of_run hS h2 (s := do eqGuard op t y z (a.eval y) (a.eval z); binOp op t (a.eval y) (a.eval z)) (by simp [execOp, ho]) (by rw [e1, e2]; exact pureOf_run P _ _ hr _) (by simp [Rv])
    · simp at h1
theorem op_un {op : UnOp} {t : TypeId} {y : Operand} (hS : St C) (hT : RT C T a.tmps) (ho : o.op = .unOp op t y)
    (h : evalOp P T C.S slot o = some (x, e)) : OpOk P o a C x (applyEff C.S e) := by
  simp only [evalOp, ho] at h
  split at h
  · rename_i u hu
    obtain ⟨r, hr, rfl, rfl⟩ := map_effV h
    have e1 := opd_rel hT y
    rw [hu, Rv_v] at e1
    exact OpOk.of_run hS rfl (s := Op.unary op (a.eval y)) (by simp [execOp, ho]) (by rw [e1]; exact pureOf_run P _ _ hr _) (by simp [Rv])
  · simp at h
theorem op_convert {s d : TypeId} {y : Operand} (hS : St C) (hT : RT C T a.tmps) (ho : o.op = .convert s d y)
    (h : evalOp P T C.S slot o = some (x, e)) : OpOk P o a C x (applyEff C.S e) := by
  simp only [evalOp, ho] at h
  split at h
  · rename_i u hu
    obtain ⟨r, hr, rfl, rfl⟩ := map_effV h
    have e1 := opd_rel hT y
    rw [hu, Rv_v] at e1
    exact OpOk.of_run hS rfl (s := convert s d (a.eval y)) (by simp [execOp, ho]) (by rw [e1]; exact pureOf_run P _ _ hr _) (by simp [Rv])
  · simp at h
theorem op_nilCheck {y : Operand} (hS : St C) (hT : RT C T a.tmps) (ho : o.op = .nilCheck y)
    (h : evalOp P T C.S slot o = some (x, e)) : OpOk P o a C x (applyEff C.S e) := by
  simp only [evalOp, ho] at h
  have hr := opd_rel hT y
  split at h
  · rename_i q ep off hq
    simp only [Option.some.injEq, Prod.mk.injEq] at h
    obtain ⟨rfl, rfl⟩ := h
    rw [hq] at hr
    have hr2 := hr
    simp only [Rv] at hr2
    obtain ⟨ad, had, _⟩ := hr2
    exact OpOk.plain (u := a.eval y) hS (by simp [execOp, ho, had]) hr
  · rename_i xs hq
    simp only [Option.some.injEq, Prod.mk.injEq] at h
    obtain ⟨rfl, rfl⟩ := h
    rw [hq] at hr
    have hr2 := hr
    simp only [Rv] at hr2
    obtain ⟨ad, had, _⟩ := hr2
    exact OpOk.plain (u := a.eval y) hS (by simp [execOp, ho, had]) hr
  · rename_i f cs hq
    simp only [Option.some.injEq, Prod.mk.injEq] at h
    obtain ⟨rfl, rfl⟩ := h
    rw [hq] at hr
    have hr2 := hr
    simp only [Rv] at hr2
    obtain ⟨vs, had, _⟩ := hr2
    exact OpOk.plain (u := a.eval y) hS (by simp [execOp, ho, had]) hr
  · simp at h
theorem opds_rel (hT : RT C T a.tmps) (l : List Operand) : Rvs C (l.map (opd T)) (fun i y => (l.map a.eval)[i]? = some y) 0 :=
  Rvs_mk fun j x hx => by
    simp only [List.getElem?_map, Option.map_eq_some_iff] at hx
    obtain ⟨y, hy, rfl⟩ := hx
    exact ⟨a.eval y, by simp [hy], opd_rel hT y⟩
theorem op_makeFunc {f : Fn} {first caps : Array Operand} (hS : St C) (hT : RT C T a.tmps) (ho : o.op = .makeFunc f first caps)
    (h : evalOp P T C.S slot o = some (x, e)) : OpOk P o a C x (applyEff C.S e) := by
  cases f with
  | func f =>
    simp only [evalOp, ho] at h
    split at h
    · rename_i h0
      simp only [Option.some.injEq, Prod.mk.injEq] at h
      obtain ⟨rfl, rfl⟩ := h
      have hf : first = #[] := Array.eq_empty_of_size_eq_zero h0
      subst hf
      refine OpOk.plain (u := .func (.func f) #[] (caps.map a.eval)) hS (by simp [execOp, ho, Instr.makeFunc]) ?_
      simp only [Rv]
      refine ⟨_, rfl, by simp, ?_⟩
      have := opds_rel hT caps.toList
      refine Rvs_mono (Grows.refl C) _ _ _ _ (fun i y hy => ?_) this
      rw [← Array.getElem?_toList, Array.toList_map]; exact hy
    · simp at h
  | _ => simp [evalOp, ho] at h
theorem op_extract {y : Operand} {k : Nat} (hS : St C) (hT : RT C T a.tmps) (ho : o.op = .extract y k)
    (h : evalOp P T C.S slot o = some (x, e)) : OpOk P o a C x (applyEff C.S e) := by
  simp only [evalOp, ho] at h
  split at h
  · rename_i xs hq
    obtain ⟨h1, h2⟩ := map_eff h
    have hr := opd_rel hT y
    rw [hq] at hr
    simp only [Rv] at hr
    obtain ⟨cs, hc, hs, hrs⟩ := hr
    obtain ⟨u, hu, hru⟩ := Rvs_get hrs k x h1
    simp only [Nat.zero_add] at hu
    exact OpOk.of_run hS h2 (s := Instr.extract (a.eval y) k) (by simp [execOp, ho]) (by simp [Instr.extract, hc, hu]) hru
  · simp at h

/-! ## structs -/
theorem op_field {t : TypeId} {y : Operand} {k : Nat} (hS : St C) (hT : RT C T a.tmps) (ho : o.op = .field t y k)
    (h : evalOp P T C.S slot o = some (x, e)) : OpOk P o a C x (applyEff C.S e) := by
  simp only [evalOp, ho] at h
  split at h
  · rename_i fs xs hu hq
    split at h
    · rename_i fl hf
      obtain ⟨h1, h2⟩ := map_eff h
      have hr := opd_rel hT y
      rw [hq] at hr
      simp only [Rv] at hr
      obtain ⟨cs, hc, hs, hrs⟩ := hr
      obtain ⟨u, hr1, hr2⟩ := part_ok h1 hs hrs C.w
      exact OpOk.of_run hS h2 (s := Instr.field t (a.eval y) k) (by simp [execOp, ho]) (by simp [Instr.field, run_underlying hu, hf, hc, asAgg, hr1]) hr2
    · simp at h
  · simp at h
theorem op_fieldAddr {t : TypeId} {y : Operand} {k : Nat} (hS : St C) (hT : RT C T a.tmps) (ho : o.op = .fieldAddr t y k)
    (h : evalOp P T C.S slot o = some (x, e)) : OpOk P o a C x (applyEff C.S e) := by
  simp only [evalOp, ho] at h
  split at h
  · rename_i fs hu
    split at h
    · rename_i fl hf
      split at h
      · rename_i hz
        have hr := opd_rel hT y
        obtain ⟨n, hn, hn0⟩ : ∃ n, szOf P fl.type = some n ∧ n ≠ 0 := by
          cases hs : szOf P fl.type with
          | none => simp [hs] at hz
          | some n => simp [hs] at hz; exact ⟨n, rfl, by omega⟩
        split at h
        · rename_i q ep off hq
          simp only [Option.some.injEq, Prod.mk.injEq] at h
          obtain ⟨rfl, rfl⟩ := h
          rw [hq] at hr
          simp only [Rv] at hr
          obtain ⟨ad, had, hrf⟩ := hr
          refine OpOk.of_run hS rfl (s := Instr.fieldAt t (a.eval y) k) (u := .pointer (some (ad.add fl.offset))) (by simp [execOp, ho])
            (by simp [Instr.fieldAt, run_underlying hu, hf, had, Instr.sureAddr, fieldPlace, run_sizeOf hn, hn0]) ?_
          simp only [Rv]
          obtain ⟨ob, e0, k1, k2, k3, k4⟩ := hrf
          refine ⟨_, rfl, ob, e0, k1, k2, k3, fun hh => ?_⟩
          rw [k4 hh, addr_add, Nat.add_assoc]
        · rename_i xs hq
          simp only [Option.some.injEq, Prod.mk.injEq] at h
          obtain ⟨rfl, rfl⟩ := h
          rw [hq] at hr
          simp only [Rv] at hr
          obtain ⟨ad, had, hrs⟩ := hr
          refine OpOk.of_run hS rfl (s := Instr.fieldAt t (a.eval y) k) (u := .pointer (some (ad.add fl.offset))) (by simp [execOp, ho])
            (by simp [Instr.fieldAt, run_underlying hu, hf, had, Instr.sureAddr, fieldPlace, run_sizeOf hn, hn0]) ?_
          simp only [Rv]
          refine ⟨_, rfl, ?_⟩
          have := Rps_drop hrs fl.offset
          refine Rps_mono (fun _ _ h => h) _ _ _ _ (fun i y hy => ?_) this
          rw [addr_add_add]; exact hy
        · simp at h
      · simp at h
    · simp at h
  · simp at h
theorem run_mapM_fields {α : Type} (f : Field → Sem α) (g : Field → Option α) (w : World) (hfg : ∀ x y, g x = some y → (f x).run P w = .ok y w) :
    ∀ (l : List Field) (ys : List α), mapO g l = some ys → (l.mapM f).run P w = .ok ys w
  | [], ys, h => by simp only [mapO, Option.some.injEq] at h; subst h; simp
  | x :: l, ys, h => by
    simp only [mapO] at h
    split at h
    · rename_i y zs hy hz
      simp only [Option.some.injEq] at h
      subst h
      simp [List.mapM_cons, hfg x y hy, run_mapM_fields f g w hfg l zs hz]
    · simp at h
theorem parts_rel (hT : RT C T a.tmps) (l : List (Nat × Operand)) : Rvs C ((l.map fun p => (p.1, opd T p.2)).map (·.2)) (fun i y => ((l.map fun p => (p.1, a.eval p.2)).map (·.2))[i]? = some y) 0 :=
  Rvs_mk fun j x hx => by
    simp only [List.map_map, List.getElem?_map, Option.map_eq_some_iff, Function.comp_apply] at hx
    obtain ⟨y, hy, rfl⟩ := hx
    exact ⟨a.eval y.2, by simp [hy], opd_rel hT y.2⟩
theorem op_build {t : TypeId} {parts : Array (Nat × Operand)} (hS : St C) (hT : RT C T a.tmps) (ho : o.op = .build t parts)
    (h : evalOp P T C.S slot o = some (x, e)) : OpOk P o a C x (applyEff C.S e) := by
  simp only [evalOp, ho] at h
  split at h
  · rename_i zs place hz hp
    split at h
    · rename_i hone
      simp only [Option.map_eq_some_iff, Prod.mk.injEq] at h
      obtain ⟨xs, h1, rfl, rfl⟩ := h
      obtain ⟨i, z, hi, hzz, rfl⟩ := zeroA_some hz
      obtain ⟨ds, k1, k2, k3, k4, k5⟩ := fill_ok (C := C) _ (parts.toList.map fun p => (p.1, a.eval p.2)) _ _ z.cells h1 (by simp [Function.comp_def]) (parts_rel hT parts.toList) (by simp) (zero_rel C z) hone
      refine OpOk.of_run hS rfl (s := Instr.build t (parts.map fun (i, x) => (i, a.eval x))) (u := .agg ds) (by simp [execOp, ho]) ?_ (by simp only [Rv]; exact ⟨ds, rfl, k2, k4⟩)
      have hl : (parts.map fun (i, x) => (i, a.eval x)).toList = parts.toList.map fun p => (p.1, a.eval p.2) := by simp
      unfold placesA at hp
      split at hp
      · rename_i fs hu
        simp only [Option.map_eq_some_iff] at hp
        obtain ⟨l, hl2, rfl⟩ := hp
        have hm : (fs.mapM fun f => (do pure (f.offset, ← sizeOf f.type) : Sem (Nat × Nat))).run P C.w = .ok l.toArray C.w := by
          rw [Array.mapM_eq_mapM_toList]
          have := run_mapM_fields (P := P) (fun f => (do pure (f.offset, ← sizeOf f.type) : Sem (Nat × Nat))) (fun f => (szOf P f.type).map fun n => (f.offset, n)) C.w (fun x y hy => by
            simp only [Option.map_eq_some_iff] at hy
            obtain ⟨n, hn, rfl⟩ := hy
            simp [run_sizeOf hn]) fs.toList l hl2
          simp only [Sem.run_map, this, Result.andThen_ok]
        have hk : Instr.fill (l.toArray[·]?) z.cells (parts.map fun (i, x) => (i, a.eval x)).toList = some ds := by rw [hl]; simpa using k1
        simp only [Instr.build, Sem.run_bind, run_zero hi hzz, Result.andThen_ok, run_underlying hu, hm, hk, Sem.run_pure]
      · rename_i n el hu
        simp only [Option.map_eq_some_iff] at hp
        obtain ⟨n, hn, rfl⟩ := hp
        have hk : Instr.fill (fun i => some (i * n, n)) z.cells (parts.map fun (i, x) => (i, a.eval x)).toList = some ds := by rw [hl]; exact k1
        simp only [Instr.build, Sem.run_bind, run_zero hi hzz, Result.andThen_ok, run_underlying hu, run_sizeOf hn, hk, Sem.run_pure]
      · simp at hp
    · simp at h
  · simp at h

end Go.Proofs.Ytmopbegmdegooaa.Vm
