/- Each operation of the abstract machine is the model's: slices that are made, cut, indexed, appended to. -/
import Derived.Test.YtmopbegmdegooaaVmOps3
namespace Go.Proofs.Ytmopbegmdegooaa.Vm
open Go Go.RowKit
set_option linter.unusedVariables false
set_option linter.unusedSimpArgs false
set_option linter.unnecessarySimpa false

variable {P : Program} {o : Oper} {a : Act} {C : Ctx} {T : List AVal} {slot : Nat} {x : AVal} {e : Eff}

/-! ## rows that are made -/
theorem rowed (hS : St C) (hslot : slot = C.S.length ∨ C.S[slot]? = some .free) (t : TypeId) (xs : List AVal) (cs : Array Value) (sz n cap : Nat) (hsz : 0 < sz) (hx : xs.length = n * sz) (hn : n ≤ cap)
    (hcs : cap * sz ≤ cs.size) (hr : Rvs C xs (fun i y => cs[i]? = some y) 0) (h1 : xs.all AVal.one = true)
    (w : World) (hw : w.heap = C.w.heap) (hos : w.os = C.w.os) (htape : w.tape = C.w.tape) (hout : w.output = C.w.output)
    (hrun : (execOp a.eval o).run P C.w = .ok (.value (.slice (some ⟨C.w.heap.size, 0, none⟩) n cap)) (w.alloc (.cells cs t))) :
    OpOk P o a C (.row slot 0 sz 0 n) (applyEff C.S [(slot, .row sz 0 none xs)]) := by
  have hle : slot ≤ C.S.length := by
    rcases hslot with rfl | h
    · exact Nat.le_refl _
    · exact Nat.le_of_lt (List.getElem?_eq_some_iff.1 h).1
  obtain ⟨ρ', h2, h3, h4⟩ := made hS slot hslot cs t (.row sz 0 none xs) cap 0 rfl w hw hos htape hout (fun C' g hw' hρ hok' => by
    refine ⟨cs, t, ?_, by rw [hρ]; simpa using hcs, ?_, hsz, ?_, h1, fun k hk => by cases hk⟩
    · rw [hρ, hw', ← hw]; exact heap_alloc_new w _
    · rw [hρ, hx]; exact Nat.mul_le_mul_right _ hn
    · rw [hρ]
      exact Rvs_mono g _ _ _ _ (fun i y hy => by simpa using hy) hr)
  refine ⟨_, _, _, hrun, rfl, rfl, h2, h3, ?_⟩
  simp only [Rv]
  refine ⟨_, _, rfl, hn, .row sz 0 none xs, 0, setObj_get_same _ _ _ hle, rfl, Nat.le_refl _, fun _ => .inl ?_⟩
  simp [h4]
theorem get_flat {α : Type} (l : List α) : ∀ (n j : Nat), (List.replicate n l).flatten[j]? = if j < n * l.length then l[j % l.length]? else none
  | 0, j => by simp
  | n + 1, j => by
    rw [List.replicate_succ, List.flatten_cons, List.getElem?_append]
    by_cases hj : j < l.length
    · rw [if_pos hj, if_pos (by rw [Nat.add_mul]; omega), Nat.mod_eq_of_lt hj]
    · rw [if_neg hj, get_flat l n (j - l.length)]
      have hm : j % l.length = (j - l.length) % l.length := by rw [Nat.mod_eq_sub_mod (by omega)]
      rw [hm, Nat.add_mul, Nat.one_mul]
      by_cases h2 : j - l.length < n * l.length
      · rw [if_pos h2, if_pos (by omega)]
      · rw [if_neg h2, if_neg (by omega)]
theorem length_flat {α : Type} (l : List α) (n : Nat) : (List.replicate n l).flatten.length = n * l.length := by simp
theorem made_rel (C : Ctx) (z : Value) (n : Nat) (h0 : 0 < z.cells.size) : Rvs C (List.replicate n (z.cells.toList.map AVal.v)).flatten (fun i y => ((Array.range (n * z.cells.size)).map (fun k => z.cells[k % z.cells.size]!))[i]? = some y) 0 :=
  Rvs_mk fun j x hx => by
    rw [get_flat] at hx
    simp only [List.length_map, Array.length_toList, List.getElem?_map, Nat.zero_add] at hx ⊢
    split at hx
    · rename_i hj
      simp only [Option.map_eq_some_iff] at hx
      obtain ⟨u, hu, rfl⟩ := hx
      have hlt : j % z.cells.size < z.cells.size := Nat.mod_lt _ h0
      refine ⟨u, ?_, by simp [Rv]⟩
      rw [Array.getElem?_map, Array.getElem?_range, if_pos hj]
      simp only [Option.map_some, Option.some.injEq]
      rw [Array.getElem?_toList] at hu
      rw [getElem!_def, hu]
    · cases hx
theorem all_flat {l : List AVal} (h : l.all AVal.one = true) (n : Nat) : (List.replicate n l).flatten.all AVal.one = true := by
  rw [List.all_eq_true] at *
  intro y hy
  simp only [List.mem_flatten, List.mem_replicate] at hy
  obtain ⟨l', ⟨_, rfl⟩, hy⟩ := hy
  exact h y hy
theorem op_buildSlice {t : TypeId} {n : Nat} {parts : Array (Nat × Operand)} (hS : St C) (hT : RT C T a.tmps) (hslot : slot = C.S.length ∨ C.S[slot]? = some .free) (ho : o.op = .buildSlice t n parts)
    (h : evalOp P T C.S slot o = some (x, e)) : OpOk P o a C x (applyEff C.S e) := by
  simp only [evalOp, ho] at h
  split at h
  · rename_i el hu
    split at h
    · rename_i sz zs hsz hz
      split at h
      · rename_i hc
        obtain ⟨hc1, hc2, hc3, hc4⟩ := hc
        simp only [Option.map_eq_some_iff, Prod.mk.injEq] at h
        obtain ⟨xs, h1, rfl, rfl⟩ := h
        obtain ⟨i, z, hi, hzz, rfl⟩ := zeroA_some hz
        simp only [List.length_map, Array.length_toList] at hc3
        have hsize : ((Array.range (n * z.cells.size)).map (fun k => z.cells[k % z.cells.size]!)).size = (List.replicate n (z.cells.toList.map AVal.v)).flatten.length := by simp
        obtain ⟨ds, k1, k2, k3, k4, k5⟩ := fill_ok (C := C) _ (parts.toList.map fun p => (p.1, a.eval p.2)) _ _ _ h1 (by simp [Function.comp_def]) (parts_rel hT parts.toList) hsize (made_rel C z n (by omega)) (all_flat hc4 n)
        have hxl : xs.length = n * sz := by rw [k3]; simp [hc3]
        have hl : (parts.map fun (i, x) => (i, a.eval x)).toList = parts.toList.map fun p => (p.1, a.eval p.2) := by simp
        refine rowed hS hslot el xs ds sz n n hc2 hxl (Nat.le_refl _) (by rw [k2, hxl]; exact Nat.le_refl _) k4 k5 C.w rfl rfl rfl rfl ?_
        have hne : ¬ (n * sz > 2 ^ 24) := by omega
        by_cases hn0 : n * sz = 0
        · have hn : n = 0 := by
            rcases Nat.mul_eq_zero.1 hn0 with h | h
            · exact h
            · omega
          subst hn
          have hk : Instr.fill (fun i => some (i * sz, sz)) #[] (parts.toList.map fun p => (p.1, a.eval p.2)) = some ds := by
            rw [← k1, Nat.zero_mul, Array.range_zero', Array.map_empty]
          simp [execOp, ho, Instr.buildSlice, run_underlying hu, run_sizeOf hsz, Array.range_zero', hk, newRow]
        · have hk : Instr.fill (fun i => some (i * sz, sz)) ((Array.range (n * sz)).map (fun k => z.cells[k % z.cells.size]!)) (parts.map fun (i, x) => (i, a.eval x)).toList = some ds := by rw [hl, ← hc3]; rw [hc3] at k1 ⊢; exact k1
          simp only [execOp, ho, Instr.buildSlice, Sem.run_bind, run_underlying hu, Result.andThen_ok, run_sizeOf hsz, if_neg hne, hn0, if_false, run_zero hi hzz, Sem.run_pure, hk, newRow, run_newObj, World.alloc_eq]
      · simp at h
    · simp at h
  · simp at h
theorem op_makeSlice {t : TypeId} {l c : Operand} (hS : St C) (hT : RT C T a.tmps) (hslot : slot = C.S.length ∨ C.S[slot]? = some .free) (ho : o.op = .makeSlice t l c)
    (h : evalOp P T C.S slot o = some (x, e)) : OpOk P o a C x (applyEff C.S e) := by
  simp only [evalOp, ho] at h
  split at h
  · rename_i el kl n kc m hu hl hcq
    have e1 := opd_rel hT l
    have e2 := opd_rel hT c
    rw [hl, Rv_v] at e1
    rw [hcq, Rv_v] at e2
    split at h
    · rename_i i zs hi hz
      split at h
      · rename_i hc
        obtain ⟨rfl, hc1, hc2, hc3, hc4, hc5, hc6⟩ := hc
        simp only [Option.some.injEq, Prod.mk.injEq] at h
        obtain ⟨rfl, rfl⟩ := h
        obtain ⟨i', z, hi', hzz, rfl⟩ := zeroA_some hz
        rw [hi] at hi'; cases hi'
        simp only [List.length_map, Array.length_toList] at hc5
        have hmc : madeCells z.cells (n.toNat * i.size) = (Array.range (n.toNat * z.cells.size)).map (fun k => z.cells[k % z.cells.size]!) := by unfold madeCells; rw [← hc5]
        refine rowed hS hslot el _ (madeCells z.cells (n.toNat * i.size)) i.size n.toNat n.toNat hc4 (by simp [hc5]) (Nat.le_refl _) (by rw [size_madeCells]; exact Nat.le_refl _) ?_ (all_flat hc6 _) C.w rfl rfl rfl rfl ?_
        · rw [hmc]; exact made_rel C z _ (by omega)
        · have := run_make (P := P) C.w t el i z hu hi hzz kl kc n n hc1 (Int.le_refl _) hc2 hc3
          simp [execOp, ho, e1, e2, this]
      · simp at h
    · simp at h
  · simp at h

/-! ## cuts -/
theorem num_rel {q : Option Operand} {r : Option Nat} (hT : RT C T a.tmps) (h : numA (q.map (opd T)) = some r) :
    (q = none ∧ r = none) ∨ ∃ y k n, q = some y ∧ a.eval y = .int k n ∧ 0 ≤ n ∧ r = some n.toNat := by
  cases q with
  | none => simp only [Option.map_none, numA, Option.some.injEq] at h; exact .inl ⟨rfl, h.symm⟩
  | some y =>
    have h' : numA (some (opd T y)) = some r := h
    clear h
    unfold numA at h'
    split at h'
    · rename_i hc; cases hc
    · rename_i k n hc
      simp only [Option.some.injEq] at hc
      split at h'
      · rename_i h0
        simp only [Option.some.injEq] at h'
        have hr := opd_rel hT y
        rw [hc, Rv_v] at hr
        exact .inr ⟨y, k, n, rfl, hr, h0, h'.symm⟩
      · cases h'
    · cases h'
theorem bounds_ok {len cap : Nat} {lo hi mx : Option Operand} {l h : Nat} {m : Option Nat} (hT : RT C T a.tmps) (hb : boundsA len (lo.map (opd T)) (hi.map (opd T)) (mx.map (opd T)) = some (l, h, m)) (hlc : len ≤ cap) (w : World) :
    (Instr.sliceBounds true len cap (lo.map a.eval) (hi.map a.eval) (mx.map a.eval)).run P w = .ok (l, h, m.getD cap) w ∧ l ≤ h ∧ h ≤ len ∧ h ≤ m.getD cap ∧ m.getD cap ≤ cap ∧ (∀ k, m = some k → k ≤ len) := by
  unfold boundsA at hb
  split at hb
  · rename_i l' h' m' hl hh hm
    split at hb
    · rename_i hc
      simp only [Option.some.injEq, Prod.mk.injEq] at hb
      obtain ⟨rfl, rfl, rfl⟩ := hb
      obtain ⟨c1, c2, c3⟩ := hc
      rcases num_rel hT hm with ⟨rfl, rfl⟩ | ⟨ym, km, nm, rfl, em, gm, rfl⟩
      · simp only [Option.getD_none]
        refine ⟨?_, c1, c2, by omega, Nat.le_refl _, by simp⟩
        rcases num_rel hT hl with ⟨rfl, rfl⟩ | ⟨yl, kl, nl, rfl, el, gl, rfl⟩ <;> rcases num_rel hT hh with ⟨rfl, rfl⟩ | ⟨yh, kh, nh, rfl, eh, gh, rfl⟩
        · simp [Instr.sliceBounds]
        · simp only [Option.getD_some, Option.getD_none] at c1 c2 ⊢
          simp [Instr.sliceBounds, eh, run_sliceBound _ _ _ _ _ gh (show nh ≤ (cap : Int) by omega)]
        · simp only [Option.getD_some, Option.getD_none] at c1 c2 ⊢
          simp [Instr.sliceBounds, el, run_sliceBound _ _ _ _ _ gl (show nl ≤ (len : Int) by omega)]
        · simp only [Option.getD_some] at c1 c2 ⊢
          simp [Instr.sliceBounds, el, eh, run_sliceBound _ _ _ _ _ gh (show nh ≤ (cap : Int) by omega), run_sliceBound _ _ _ _ _ gl (show nl ≤ (nh.toNat : Int) by omega)]
      · simp only [mxOk, Bool.and_eq_true, decide_eq_true_eq] at c3
        obtain ⟨⟨c3, c4⟩, c5⟩ := c3
        simp only [Option.getD_some]
        refine ⟨?_, c1, c2, c3, by omega, by intro k hk; cases hk; exact c4⟩
        rcases num_rel hT hh with ⟨rfl, rfl⟩ | ⟨yh, kh, nh, rfl, eh, gh, rfl⟩
        · simp at c5
        · rcases num_rel hT hl with ⟨rfl, rfl⟩ | ⟨yl, kl, nl, rfl, el, gl, rfl⟩
          · simp only [Option.getD_some, Option.getD_none] at c1 c2 c3 ⊢
            simp [Instr.sliceBounds, em, eh, run_sliceBound _ _ _ _ _ gm (show nm ≤ (cap : Int) by omega), run_sliceBound _ _ _ _ _ gh (show nh ≤ (nm.toNat : Int) by omega)]
          · simp only [Option.getD_some] at c1 c2 c3 ⊢
            simp [Instr.sliceBounds, em, el, eh, run_sliceBound _ _ _ _ _ gm (show nm ≤ (cap : Int) by omega), run_sliceBound _ _ _ _ _ gh (show nh ≤ (nm.toNat : Int) by omega), run_sliceBound _ _ _ _ _ gl (show nl ≤ (nh.toNat : Int) by omega)]
    · cases hb
  · cases hb
theorem op_slice {t : TypeId} {y : Operand} {lo hi mx : Option Operand} (hS : St C) (hT : RT C T a.tmps) (ho : o.op = .slice t y lo hi mx)
    (h : evalOp P T C.S slot o = some (x, e)) : OpOk P o a C x (applyEff C.S e) := by
  simp only [evalOp, ho] at h
  obtain ⟨h1, h2⟩ := map_eff h
  have hr := opd_rel hT y
  unfold sliceA at h1
  split at h1
  · rename_i el hu
    have hel : P.elem t = el := by simp [Program.elem, hu]
    have hu' : P.underlying t = some (.slice (P.elem t)) := by rw [hel]; exact hu
    split at h1
    · rename_i sz hsz
      have run : ∀ (A : Option Addr) (n c l hb' : Nat) (m : Option Nat), a.eval y = .slice A n c → n ≤ c → boundsA n (lo.map (opd T)) (hi.map (opd T)) (mx.map (opd T)) = some (l, hb', m) →
          (Instr.sliceAt t (a.eval y) (lo.map a.eval) (hi.map a.eval) (mx.map a.eval)).run P C.w = .ok (sliced A l hb' (m.getD c) sz) C.w := by
        intro A n c l hb' m hv hnc hb
        obtain ⟨hb1, _⟩ := bounds_ok (P := P) hT hb hnc C.w
        rw [hv, run_sliceAt_slice C.w t _ _ _ _ hu', run_slice_any C.w t A n c hu', hb1]
        simp only [Result.andThen_ok, hel, run_sizeOf hsz]
      split at h1
      · rename_i n xs hq
        rw [hq] at hr
        simp only [Rv] at hr
        obtain ⟨A, c, hv, hnc, hrs⟩ := hr
        split at h1
        · rename_i l q' m hb
          obtain ⟨_, b1, b2, b3, b4, b5⟩ := bounds_ok (P := P) hT hb hnc C.w
          have hrun := run A n c l q' m hv hnc hb
          split at h1
          · rename_i hm
            simp only [Option.some.injEq] at h1
            subst h1 hm
            refine OpOk.of_run hS h2 (s := Instr.sliceAt t (a.eval y) (lo.map a.eval) (hi.map a.eval) (mx.map a.eval)) (by simp [execOp, ho]) hrun ?_
            simp only [Option.getD_some] at b3
            simp only [Rv, sliced, Option.getD_some, if_true]
            exact ⟨A, by rw [show q' - l = 0 by omega, Nat.sub_self]⟩
          · simp only [Option.some.injEq] at h1
            subst h1
            refine OpOk.of_run hS h2 (s := Instr.sliceAt t (a.eval y) (lo.map a.eval) (hi.map a.eval) (mx.map a.eval)) (by simp [execOp, ho]) hrun ?_
            simp only [Rv, sliced]
            refine ⟨_, _, rfl, by omega, ?_⟩
            by_cases hM : m.getD c = l
            · have : cutA xs sz l q' = [] := by simp [cutA, show q' - l = 0 by omega]
              rw [this]; simp [Rps]
            · rw [if_neg hM]
              refine Rps_mono (fun _ _ h => h) _ _ _ _ (fun i y hy => ?_) (Rps_take (Rps_drop hrs (l * sz)) ((q' - l) * sz))
              obtain ⟨a0, ha0, hs⟩ := hy
              exact ⟨a0.add (l * sz), by simp [ha0], by rw [addr_add_add]; exact hs⟩
        · cases h1
      · rename_i q ep sz' off len hq
        rw [hq] at hr
        simp only [Rv] at hr
        obtain ⟨a0, c, hv, hnc, hrf⟩ := hr
        split at h1
        · rename_i hse
          subst hse
          split at h1
          · rename_i l q' m hb
            obtain ⟨_, b1, b2, b3, b4, b5⟩ := bounds_ok (P := P) hT hb hnc C.w
            have hrun := run (some a0) len c l q' m hv hnc hb
            split at h1
            · rename_i hm
              simp only [Option.some.injEq] at h1
              subst h1 hm
              refine OpOk.of_run hS h2 (s := Instr.sliceAt t (a.eval y) (lo.map a.eval) (hi.map a.eval) (mx.map a.eval)) (by simp [execOp, ho]) hrun ?_
              simp only [Option.getD_some] at b3
              simp only [Rv, sliced, Option.getD_some, if_true]
              exact ⟨_, by rw [show q' - l = 0 by omega, Nat.sub_self]⟩
            · simp only [Option.some.injEq] at h1
              subst h1
              refine OpOk.of_run hS h2 (s := Instr.sliceAt t (a.eval y) (lo.map a.eval) (hi.map a.eval) (mx.map a.eval)) (by simp [execOp, ho]) hrun ?_
              simp only [Rv, sliced]
              obtain ⟨ob, e0, k1, k2, k3, k4⟩ := hrf
              by_cases hM : m.getD c = l
              · rw [if_pos hM]
                exact ⟨a0, _, rfl, by omega, ob, e0, k1, k2, k3, fun _ => .inr ⟨by omega, by omega⟩⟩
              · rw [if_neg hM]
                refine ⟨_, _, rfl, by omega, ob, e0, k1, k2, k3, fun hh => .inl ?_⟩
                rcases k4 hh with ⟨hA, hc⟩ | ⟨hA, hc⟩
                · refine ⟨?_, by omega⟩
                  rw [hA]
                  show Addr.add _ _ = _
                  rw [addr_add, Nat.add_assoc, ← Nat.add_mul]
                · omega
          · cases h1
        · cases h1
      · rename_i hq
        rw [hq] at hr
        simp only [Rv] at hr
        obtain ⟨A, hv⟩ := hr
        split at h1
        · rename_i r hb
          obtain ⟨l, q', m⟩ := r
          obtain ⟨_, b1, b2, b3, b4, b5⟩ := bounds_ok (P := P) (cap := 0) hT hb (Nat.le_refl _) C.w
          have hrun := run A 0 0 l q' m hv (Nat.le_refl _) hb
          simp only [Option.some.injEq] at h1
          subst h1
          refine OpOk.of_run hS h2 (s := Instr.sliceAt t (a.eval y) (lo.map a.eval) (hi.map a.eval) (mx.map a.eval)) (by simp [execOp, ho]) hrun ?_
          simp only [Rv, sliced]
          exact ⟨_, by rw [show q' - l = 0 by omega, show m.getD 0 - l = 0 by omega]⟩
        · cases h1
      · rename_i hq
        rw [hq, Rv_v] at hr
        split at h1
        · rename_i r hb
          obtain ⟨l, q', m⟩ := r
          obtain ⟨_, b1, b2, b3, b4, b5⟩ := bounds_ok (P := P) (cap := 0) hT hb (Nat.le_refl _) C.w
          have hrun := run none 0 0 l q' m hr (Nat.le_refl _) hb
          simp only [Option.some.injEq] at h1
          subst h1
          refine OpOk.of_run hS h2 (s := Instr.sliceAt t (a.eval y) (lo.map a.eval) (hi.map a.eval) (mx.map a.eval)) (by simp [execOp, ho]) hrun ?_
          simp only [Rv, sliced]
          rw [show q' - l = 0 by omega, show m.getD 0 - l = 0 by omega]
          split <;> rfl
        · cases h1
      · cases h1
    · cases h1
  · cases h1

/-! ## indexes -/
theorem op_indexAddr {t : TypeId} {y i : Operand} (hS : St C) (hT : RT C T a.tmps) (ho : o.op = .indexAddr t y i)
    (h : evalOp P T C.S slot o = some (x, e)) : OpOk P o a C x (applyEff C.S e) := by
  simp only [evalOp, ho] at h
  split at h
  · rename_i k n hi
    obtain ⟨h1, h2⟩ := map_eff h
    have hri := opd_rel hT i
    rw [hi, Rv_v] at hri
    have hr := opd_rel hT y
    unfold indexAddrA at h1
    split at h1
    · rename_i el hu
      have hel : P.elem t = el := by simp [Program.elem, hu]
      have hu' : P.underlying t = some (.slice (P.elem t)) := by rw [hel]; exact hu
      split at h1
      · rename_i sz hsz
        split at h1
        · rename_i m xs hq
          split at h1
          · rename_i hc
            obtain ⟨c1, c2, c3, c4⟩ := hc
            simp only [Option.some.injEq] at h1
            subst h1
            rw [hq] at hr
            simp only [Rv] at hr
            obtain ⟨A, c, hv, hnc, hrs⟩ := hr
            have hlt : n.toNat * sz < xs.length := by rw [c4]; exact Nat.mul_lt_mul_of_pos_right (by omega) c3
            obtain ⟨u, ⟨a0, ha0, _⟩, _⟩ := Rps_get hrs (n.toNat * sz) xs[n.toNat * sz] (List.getElem?_eq_getElem hlt)
            subst ha0
            refine OpOk.of_run hS h2 (s := Instr.indexAt t (a.eval y) (a.eval i)) (u := .pointer (some (a0.add (n.toNat * sz)))) (by simp [execOp, ho]) ?_ ?_
            · rw [hv, hri, run_indexAt_slice C.w t a0 m c k n hu', if_pos ⟨c1, c2⟩, hel, run_sizeOf hsz]; rfl
            · simp only [Rv]
              refine ⟨_, rfl, Rps_mono (fun _ _ h => h) _ _ _ _ (fun j v hj => ?_) (Rps_drop hrs (n.toNat * sz))⟩
              obtain ⟨a1, ha1, hs⟩ := hj
              cases ha1
              rw [addr_add_add]; exact hs
          · cases h1
        · rename_i q ep sz' off len hq
          split at h1
          · rename_i hc
            obtain ⟨rfl, c1, c2⟩ := hc
            simp only [Option.some.injEq] at h1
            subst h1
            rw [hq] at hr
            simp only [Rv] at hr
            obtain ⟨a0, c, hv, hnc, ob, e0, k1, k2, k3, k4⟩ := hr
            refine OpOk.of_run hS h2 (s := Instr.indexAt t (a.eval y) (a.eval i)) (u := .pointer (some (a0.add (n.toNat * sz')))) (by simp [execOp, ho]) ?_ ?_
            · rw [hv, hri, run_indexAt_slice C.w t a0 len c k n hu', if_pos ⟨c1, c2⟩, hel, run_sizeOf hsz]; rfl
            · simp only [Rv]
              refine ⟨_, rfl, ob, e0, k1, k2, k3, fun hh => ?_⟩
              rcases k4 hh with ⟨hA, hcc⟩ | ⟨hA, hcc⟩
              · rw [hA, addr_add, Nat.add_mul, Nat.add_assoc]
              · omega
          · cases h1
        · cases h1
      · cases h1
    · rename_i len el hu
      have hel : P.elem t = el := by simp [Program.elem, hu]
      have hln : P.arrayLen t = len := by simp [Program.arrayLen, hu]
      have hu' : P.underlying t = some (.array (P.arrayLen t) (P.elem t)) := by rw [hel, hln]; exact hu
      split at h1
      · rename_i sz hsz
        split at h1
        · rename_i q ep off hq
          split at h1
          · rename_i hc
            simp only [Option.some.injEq] at h1
            subst h1
            rw [hq] at hr
            simp only [Rv] at hr
            obtain ⟨a0, hv, ob, e0, k1, k2, k3, k4⟩ := hr
            refine OpOk.of_run hS h2 (s := Instr.indexAt t (a.eval y) (a.eval i)) (u := .pointer (some (a0.add (n.toNat * sz)))) (by simp [execOp, ho]) ?_ ?_
            · rw [hv, hri, run_indexAt_array C.w t a0 k n hu', hln, if_pos hc, hel, run_sizeOf hsz]; rfl
            · simp only [Rv]
              exact ⟨_, rfl, ob, e0, k1, k2, k3, fun hh => by rw [k4 hh, addr_add, Nat.add_assoc]⟩
          · cases h1
        · rename_i xs hq
          split at h1
          · rename_i hc
            simp only [Option.some.injEq] at h1
            subst h1
            rw [hq] at hr
            simp only [Rv] at hr
            obtain ⟨a0, hv, hrs⟩ := hr
            refine OpOk.of_run hS h2 (s := Instr.indexAt t (a.eval y) (a.eval i)) (u := .pointer (some (a0.add (n.toNat * sz)))) (by simp [execOp, ho]) ?_ ?_
            · rw [hv, hri, run_indexAt_array C.w t a0 k n hu', hln, if_pos hc, hel, run_sizeOf hsz]; rfl
            · simp only [Rv]
              refine ⟨_, rfl, Rps_mono (fun _ _ h => h) _ _ _ _ (fun j v hj => ?_) (Rps_drop hrs (n.toNat * sz))⟩
              rw [addr_add_add]; exact hj
          · cases h1
        · cases h1
      · cases h1
    · cases h1
  · simp at h
theorem op_index {t : TypeId} {y i : Operand} (hS : St C) (hT : RT C T a.tmps) (ho : o.op = .index t y i)
    (h : evalOp P T C.S slot o = some (x, e)) : OpOk P o a C x (applyEff C.S e) := by
  simp only [evalOp, ho] at h
  have hr := opd_rel hT y
  have hri := opd_rel hT i
  split at h
  · rename_i xs k n hq hi
    rw [hq] at hr
    rw [hi, Rv_v] at hri
    simp only [Rv] at hr
    obtain ⟨cs, hv, hs, hrs⟩ := hr
    split at h
    · rename_i len el hu
      split at h
      · rename_i sz hsz
        split at h
        · rename_i hc
          obtain ⟨h1, h2⟩ := map_eff h
          obtain ⟨u, hr1, hr2⟩ := part_ok h1 hs hrs C.w
          exact OpOk.of_run hS h2 (s := Instr.index t (a.eval y) (a.eval i)) (by simp [execOp, ho]) (by simp [Instr.index, hri, hv, asIntOf, run_underlying hu, hc, run_sizeOf hsz, hr1]) hr2
        · simp at h
      · simp at h
    · simp at h
  · rename_i u v hq hi
    obtain ⟨r, hr1, rfl, rfl⟩ := map_effV h
    rw [hq, Rv_v] at hr
    rw [hi, Rv_v] at hri
    exact OpOk.of_run hS rfl (s := Instr.index t (a.eval y) (a.eval i)) (by simp [execOp, ho]) (by rw [hr, hri]; exact pureOf_run P _ _ hr1 _) (by simp [Rv])
  · simp at h

end Go.Proofs.Ytmopbegmdegooaa.Vm
