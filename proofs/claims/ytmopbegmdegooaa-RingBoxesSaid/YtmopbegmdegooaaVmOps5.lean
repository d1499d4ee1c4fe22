/- Each operation of the abstract machine is the model's: builtins, append; all operations together. -/
import Derived.Test.YtmopbegmdegooaaVmOps4
namespace Go.Proofs.Ytmopbegmdegooaa.Vm
open Go Go.RowKit
set_option linter.unusedVariables false
set_option linter.unusedSimpArgs false
set_option linter.unnecessarySimpa false

variable {P : Program} {o : Oper} {a : Act} {C : Ctx} {T : List AVal} {slot : Nat} {x : AVal} {e : Eff}

theorem exec_builtin {b : Builtin} {args : Array Operand} {ts : Array TypeId} (ho : o.op = .call { callee := .builtin b, args, argTypes := ts }) :
    execOp a.eval o = builtin b ts o.type (args.map fun | .const _ => true | _ => false) (args.map a.eval) := by
  simp only [execOp, ho, resolve]
  rfl
theorem len_rel {y : AVal} {u : Value} {n : Nat} (h : lenA y = some n) (hr : Rv C y u) : ∃ A c, u = .slice A n c := by
  cases y <;> simp only [lenA, Option.some.injEq, reduceCtorEq] at h
  · subst h; simp only [Rv] at hr; obtain ⟨A, c, rfl, _⟩ := hr; exact ⟨A, c, rfl⟩
  · subst h; simp only [Rv] at hr; obtain ⟨A, rfl⟩ := hr; exact ⟨A, 0, rfl⟩
  · subst h; simp only [Rv] at hr; obtain ⟨A, c, rfl, _⟩ := hr; exact ⟨some A, c, rfl⟩
theorem elems_rel {sz m : Nat} {y : AVal} {ys : List AVal} {u : Value} (hS : St C) (h : elemsA C.S sz y = some (m, ys)) (hr : Rv C y u) :
    ∃ A c, u = .slice A m c ∧ ys.length = m * sz ∧ (m * sz ≠ 0 → ∃ ad, A = some ad ∧ Rvs C ys (fun i y => C.w.cell? (ad.add i) = some y) 0) := by
  unfold elemsA at h
  split at h
  · rename_i n xs
    split at h
    · rename_i hx
      simp only [Option.some.injEq, Prod.mk.injEq] at h
      obtain ⟨rfl, rfl⟩ := h
      simp only [Rv] at hr
      obtain ⟨A, c, rfl, h1, h2⟩ := hr
      refine ⟨A, c, rfl, by simpa using hx, fun hne => ?_⟩
      obtain ⟨v, ⟨ad, rfl, _⟩, _⟩ := Rps_get h2 0 (xs[0]'(by omega)) (List.getElem?_eq_getElem (by omega))
      refine ⟨ad, rfl, list_cells (Rps_mono (fun _ _ h => h) _ _ _ _ (fun i y hy => ?_) h2)⟩
      obtain ⟨a1, ha1, hs⟩ := hy
      cases ha1
      exact hs
    · cases h
  · simp only [Option.some.injEq, Prod.mk.injEq] at h
    obtain ⟨rfl, rfl⟩ := h
    simp only [Rv] at hr
    obtain ⟨A, rfl⟩ := hr
    exact ⟨A, 0, rfl, by simp, fun hne => absurd (Nat.zero_mul sz) hne⟩
  · simp only [Option.some.injEq, Prod.mk.injEq] at h
    obtain ⟨rfl, rfl⟩ := h
    rw [Rv_v] at hr
    exact ⟨none, 0, hr, by simp, fun hne => absurd (Nat.zero_mul sz) hne⟩
  · rename_i q ep sz' off len
    split at h
    · rename_i s e1 fr xs hq
      split at h
      · rename_i hc
        obtain ⟨rfl, rfl, rfl, c4⟩ := hc
        simp only [Option.some.injEq, Prod.mk.injEq] at h
        obtain ⟨rfl, rfl⟩ := h
        simp only [Rv] at hr
        obtain ⟨ad, c, rfl, h1, ob, e0, k1, k2, k3, k4⟩ := hr
        rw [hq] at k1; cases k1
        simp only [AObj.ep?, Option.some.injEq] at k2
        subst k2
        have hlen : (cutA xs sz' off (off + len)).length = len * sz' := by
          simp only [cutA, List.length_take, List.length_drop]
          rw [Nat.add_mul] at c4
          rw [show off + len - off = len by omega]
          omega
        refine ⟨some ad, c, rfl, hlen, fun hne => ⟨ad, rfl, ?_⟩⟩
        rcases k4 rfl with ⟨hA, _⟩ | ⟨hA, _⟩
        · subst hA
          refine Rvs_mono (Grows.refl C) _ _ _ _ (fun i y hy => ?_) (Rvs_take (Rvs_drop (row_cells hS hq) (off * sz')) ((off + len - off) * sz'))
          simp only [addr_add] at hy ⊢
          rw [Nat.add_assoc]; exact hy
        · subst hA; simp at hne
      · cases h
    · cases h
  · cases h

/-! ## append -/
theorem run_append_zero {t ty el : TypeId} {i : TypeInfo} (ht : P.underlying t = some (.slice el)) (hi : P.info? el = some i) (A B : Option Addr) (n c c' : Nat) (hn : n ≤ c) (w : World) :
    (Builtin.append_ #[t, t] ty #[.slice A n c, .slice B 0 c']).run P w = .ok (.slice A n c) w := by
  have hf : (Builtin.firstCells i.size 0 (.slice B 0 c')).run P w = .ok #[] w := by
    cases B with
    | none => simp [Builtin.firstCells]
    | some b => simp [Builtin.firstCells, loadCells, loadCellsFrom]
  cases A <;> simp [Builtin.append_, run_underlying ht, sizeOf, typeInfo, hi, Builtin.lenOf, hn, hf, storeCells]
theorem run_append_in {t ty el : TypeId} {i : TypeInfo} (ht : P.underlying t = some (.slice el)) (hi : P.info? el = some i) (w : World) (g o n c : Nat) (cur : Array Value) (te : TypeId) (hg : w.heap[g]? = some (.cells cur te (0, 0)))
    (ad : Addr) (m c' : Nat) (news : List Value) (hl : news.length = m * i.size) (hnews : ∀ j u, news[j]? = some u → w.cell? (ad.add j) = some u) (h1 : ∀ u ∈ news, u.oneCell' = true)
    (hroom : n + m ≤ c) (hfit : o + n * i.size + news.length ≤ cur.size) :
    (Builtin.append_ #[t, t] ty #[.slice (some ⟨g, o, none⟩) n c, .slice (some ad) m c']).run P w =
      .ok (.slice (some ⟨g, o, none⟩) (n + m) c) (w.setRow g (cur.toList.take (o + n * i.size) ++ news ++ cur.toList.drop (o + n * i.size + news.length)).toArray) := by
  have hf := run_firstCells_some (P := P) w i.size m ad m c' news hl hnews
  have hst := run_storeCells_at P g (o + n * i.size) te news 0 cur w hg (by simpa using hfit) h1
  simp only [Nat.add_zero] at hst
  simp [Builtin.append_, run_underlying ht, sizeOf, typeInfo, hi, Builtin.lenOf, hroom, hf, Addr.add_lit, hst]
theorem grown_size (w : World) (need old : Nat) (el : TypeId) (z : Array Value) (xs ys : List Value) (k sz : Nat) (hz : z.size = sz) (hx : xs.length + ys.length = need * sz) :
    (xs.toArray ++ ys.toArray ++ Builtin.zeroCells z (grownCap w need old el - need)).size = grownCap w need old el * sz := by
  have hge := grownCap_ge w need old el
  simp only [Array.size_append, List.size_toArray, size_zeroCells, hz, hx]
  rw [← Nat.add_mul]
  congr 1
  omega
theorem one_list {ys : List AVal} {f : Nat → Value → Prop} (h : Rvs C ys f 0) (h1 : ys.all AVal.one = true) :
    ∃ us : List Value, us.length = ys.length ∧ Rvs C ys (fun j y => us[j]? = some y) 0 ∧ (∀ j y, us[j]? = some y → f j y) ∧ ∀ u ∈ us, u.oneCell' = true := by
  obtain ⟨us, h2, h3, h4⟩ := Rvs_list h
  exact ⟨us, h2, h3, fun j y hj => by simpa using h4 j y hj, ones_of h2 h3 h1⟩

theorem append_ok {t ty : TypeId} {y z : AVal} {u v : Value} (hS : St C) (hslot : slot = C.S.length ∨ C.S[slot]? = some .free) (h : appendA P C.S slot t y z = some (x, e)) (hy : Rv C y u) (hz : Rv C z v) :
    ∃ r C', (Builtin.append_ #[t, t] ty #[u, v]).run P C.w = .ok r C'.w ∧ C'.S = applyEff C.S e ∧ St C' ∧ Ext C C' ∧ Rv C' x r := by
  unfold appendA at h
  split at h
  · rename_i el ht
    split at h
    · rename_i i hi
      split at h
      · rename_i hc
        obtain ⟨hsz, hzz⟩ := hc
        obtain ⟨zv, hzv, hzs⟩ : ∃ zv, i.zero = some zv ∧ zv.cells.size = i.size := by
          cases hh : i.zero with
          | none => simp [hh] at hzz
          | some zv => simp [hh] at hzz; exact ⟨zv, rfl, hzz⟩
        split at h
        · rename_i m ys hel
          obtain ⟨B, c', rfl, hyl, hys⟩ := elems_rel hS hel hz
          split at h
          · rename_i hm
            subst hm
            have same : ∀ (A : Option Addr) (n c : Nat), u = .slice A n c → n ≤ c → x = y → e = [] →
                ∃ r C', (Builtin.append_ #[t, t] ty #[u, .slice B 0 c']).run P C.w = .ok r C'.w ∧ C'.S = applyEff C.S e ∧ St C' ∧ Ext C C' ∧ Rv C' x r := by
              intro A n c hu hn hx he
              subst hx he
              refine ⟨u, C, ?_, rfl, hS, Ext.refl C, hy⟩
              rw [hu]; exact run_append_zero ht hi A B n c c' hn C.w
            split at h
            · simp only [Option.some.injEq, Prod.mk.injEq] at h
              have hy' := hy
              simp only [Rv] at hy'
              obtain ⟨A, hA⟩ := hy'
              exact same A 0 0 hA (Nat.le_refl _) h.1.symm h.2.symm
            · simp only [Option.some.injEq, Prod.mk.injEq] at h
              have hy' := hy
              rw [Rv_v] at hy'
              exact same none 0 0 hy' (Nat.le_refl _) h.1.symm h.2.symm
            · simp only [Option.some.injEq, Prod.mk.injEq] at h
              have hy' := hy
              simp only [Rv] at hy'
              obtain ⟨a0, c0, hA, hn, _⟩ := hy'
              exact same (some a0) _ c0 hA hn h.1.symm h.2.symm
            · simp only [Option.some.injEq, Prod.mk.injEq] at h
              have hy' := hy
              simp only [Rv] at hy'
              obtain ⟨A, c0, hA, hn, _⟩ := hy'
              exact same A _ c0 hA hn h.1.symm h.2.symm
            · cases h
          · rename_i hm
            split at h
            · rename_i hone
              have hmz : m * i.size ≠ 0 := Nat.mul_ne_zero hm (by omega)
              obtain ⟨ad, rfl, hcells⟩ := hys hmz
              obtain ⟨us, hul, hur, hus, hu1⟩ := one_list hcells hone
              have hul' : us.length = m * i.size := hul.trans hyl
              -- a new row out of nothing
              have fresh : ∀ A : Option Addr, u = .slice A 0 0 → m * i.bytes ≤ 140737488355328 → m ≤ 9223372036854775807 → x = .row slot 0 i.size 0 m → e = [(slot, .row i.size 0 none ys)] →
                  ∃ r C', (Builtin.append_ #[t, t] ty #[u, .slice (some ad) m c']).run P C.w = .ok r C'.w ∧ C'.S = applyEff C.S e ∧ St C' ∧ Ext C C' ∧ Rv C' x r := by
                intro A hu hb hmx hx he
                subst hx he hu
                have hle : slot ≤ C.S.length := by
                  rcases hslot with rfl | h
                  · exact Nat.le_refl _
                  · exact Nat.le_of_lt (List.getElem?_eq_some_iff.1 h).1
                have hrun : (Builtin.append_ #[t, t] ty #[.slice A 0 0, .slice (some ad) m c']).run P C.w =
                    .ok (.slice (some ⟨C.w.heap.size, 0, none⟩) m (grownCap C.w m 0 el)) (C.w.drew.alloc (.cells (([] : List Value).toArray ++ us.toArray ++ Builtin.zeroCells zv.cells (grownCap C.w m 0 el - m)) el)) := by
                  cases A with
                  | none =>
                    rw [run_append_nil C.w t ty el i zv ht hi hzv ad m c' us hul' hus (by omega) (by omega) (by omega)]
                    simp
                  | some b =>
                    have := run_append_grow (P := P) C.w t ty el i zv ht hi hzv b 0 0 [] (by simp) (by simp) ad m c' us hul' hus (by omega) (by omega) (by rw [Nat.zero_add]; exact growslice_fits (by omega) hb)
                    simpa using this
                have hgs := grown_size C.w m 0 el zv.cells [] us 0 i.size hzs (by simpa using hul')
                have hcap := grownCap_ge C.w m 0 el
                obtain ⟨ρ', h2, h3, h4⟩ := made hS slot hslot (([] : List Value).toArray ++ us.toArray ++ Builtin.zeroCells zv.cells (grownCap C.w m 0 el - m)) el (.row i.size 0 none ys) (grownCap C.w m 0 el) 0 rfl C.w.drew rfl rfl rfl rfl (fun C' g hw hρ hok' => by
                  refine ⟨_, el, by rw [hρ, hw]; exact heap_alloc_new C.w.drew _, by rw [hρ, hgs]; simp, by rw [hρ, hyl]; exact Nat.mul_le_mul_right _ hcap, hsz, ?_, hone, fun k hk => by cases hk⟩
                  rw [hρ]
                  refine Rvs_mono g _ _ _ _ (fun j y hj => ?_) hur
                  simp only [Nat.zero_add]
                  rw [Array.getElem?_append_left (by simp; exact (List.getElem?_eq_some_iff.1 hj).1)]
                  simpa using hj)
                refine ⟨_, _, hrun, rfl, h2, h3, ?_⟩
                simp only [Rv]
                exact ⟨_, _, rfl, hcap, .row i.size 0 none ys, 0, setObj_get_same _ _ _ hle, rfl, Nat.le_refl _, fun _ => .inl (by simp [h4])⟩
              split at h
              · split at h
                · rename_i hc2
                  simp only [Option.some.injEq, Prod.mk.injEq] at h
                  simp only [Rv] at hy
                  obtain ⟨A, hA⟩ := hy
                  exact fresh A hA hc2.1 hc2.2 h.1.symm h.2.symm
                · cases h
              · split at h
                · rename_i hc2
                  simp only [Option.some.injEq, Prod.mk.injEq] at h
                  rw [Rv_v] at hy
                  exact fresh none hy hc2.1 hc2.2 h.1.symm h.2.symm
                · cases h
              · rename_i q ep sz off len
                split at h
                · rename_i sz' e' fr xs hq
                  split at h
                  · rename_i hc2
                    obtain ⟨c1, c2, c3, c4, c5, c6⟩ := hc2
                    simp only [Option.some.injEq, Prod.mk.injEq] at h
                    obtain ⟨rfl, rfl⟩ := h
                    subst c1 c2 c3
                    simp only [Rv] at hy
                    obtain ⟨a0, c, rfl, hlc, ob, e0, k1, k2, k3, k4⟩ := hy
                    rw [hq] at k1; cases k1
                    simp only [AObj.ep?, Option.some.injEq] at k2
                    subst k2
                    obtain ⟨cs, t0, hh, hs1, hs2, hs3, hrs, hone2, _⟩ := hS.obj q _ hq
                    have hxl : xs.length = off * i.size + len * i.size := by rw [← c4, Nat.add_mul]
                    have hone3 : (xs.drop (off * i.size) ++ ys).all AVal.one = true := by
                      rw [List.all_eq_true] at *
                      intro b hb
                      rcases List.mem_append.1 hb with hb | hb
                      · exact hone2 b (List.mem_of_mem_drop hb)
                      · exact hone b hb
                    have hnl : (xs.drop (off * i.size) ++ ys).length = (len + m) * i.size := by
                      simp only [List.length_append, List.length_drop, hyl]
                      rw [Nat.add_mul]; omega
                    by_cases hroom : len + m ≤ c
                    · -- there is room
                      have hk : a0 = ⟨(C.ρ q).b, (C.ρ q).off + off * i.size, none⟩ ∧ off + c ≤ (C.ρ q).cap := by
                        rcases k4 rfl with hk | ⟨_, hk⟩
                        · exact hk
                        · omega
                      obtain ⟨rfl, hcap⟩ := hk
                      have hcapsz : off * i.size + c * i.size ≤ (C.ρ q).cap * i.size := by rw [← Nat.add_mul]; exact Nat.mul_le_mul_right _ hcap
                      have hlm : len * i.size + m * i.size ≤ c * i.size := by rw [← Nat.add_mul]; exact Nat.mul_le_mul_right _ hroom
                      have hrun := run_append_in (P := P) (ty := ty) ht hi C.w (C.ρ q).b ((C.ρ q).off + off * i.size) len c cs t0 hh ad m c' us hul' hus hu1 hroom (by rw [hul']; omega)
                      have hK : (C.ρ q).off + off * i.size + len * i.size = (C.ρ q).off + xs.length := by omega
                      rw [hK] at hrun
                      have hlt1 : (cs.toList.take ((C.ρ q).off + xs.length)).length = (C.ρ q).off + xs.length := by simp; omega
                      obtain ⟨ρ', h2, h3, h4⟩ := turned hS q (.row i.size e' fr xs) (.row i.size (e' + 1) (fr.map fun _ => 0) (xs.drop (off * i.size) ++ ys)) e' (e' + 1) hq rfl rfl
                        (cs.toList.take ((C.ρ q).off + xs.length) ++ us ++ cs.toList.drop ((C.ρ q).off + xs.length + us.length)).toArray ⟨(C.ρ q).b, (C.ρ q).off + off * i.size, (C.ρ q).cap - off⟩ rfl (.inr (Nat.lt_succ_self _))
                        (fun j hj => by
                          obtain ⟨s1, e1, k1, x1, hx1, hx2⟩ := hS.okRow _ j hj q _ e' hq rfl rfl
                          cases hx1
                          refine ⟨⟨_, _, 0, _, rfl, ?_⟩, fun old t1 hold => ?_⟩
                          · rw [hnl, Nat.add_mul]; simp only; omega
                          · simp only at hold
                            rw [hh] at hold; cases hold
                            simp only [List.getElem?_toArray]
                            rw [List.append_assoc, List.getElem?_append_left (by rw [hlt1]; exact hx2), List.getElem?_take, if_pos hx2, Array.getElem?_toList])
                        (fun C' g hw hρ hok' => by
                          refine ⟨_, t0, by rw [hρ, hw]; exact setRow_heap _ _ _ _ _ _ hh, ?_, ?_, hsz, ?_, hone3, fun k hk => by cases fr <;> simp at hk; subst hk; exact ⟨Nat.zero_le _, fun j hj => by omega⟩⟩
                          · rw [hρ]
                            simp only [List.size_toArray, List.length_append, hlt1, List.length_drop, Array.length_toList, hul']
                            rw [Nat.sub_mul]; omega
                          · rw [hρ, hnl]
                            simp only
                            refine Nat.mul_le_mul_right _ (by omega)
                          · rw [hρ]
                            refine Rvs_mk fun j b hb => ?_
                            simp only [Nat.zero_add, List.getElem?_toArray]
                            rw [List.getElem?_append] at hb
                            split at hb
                            · rename_i hj
                              rw [List.getElem?_drop] at hb
                              obtain ⟨p, hp1, hp2⟩ := Rvs_get hrs (off * i.size + j) b hb
                              refine ⟨p, ?_, Rv_mono g _ _ hp2⟩
                              have hjl : off * i.size + j < xs.length := (List.getElem?_eq_some_iff.1 hb).1
                              rw [List.append_assoc, List.getElem?_append_left (by rw [hlt1]; omega), List.getElem?_take, if_pos (by omega), Array.getElem?_toList]
                              simp only [Nat.zero_add] at hp1
                              rw [Nat.add_assoc]; exact hp1
                            · rename_i hj
                              obtain ⟨p, hp1, hp2⟩ := Rvs_get hur _ b hb
                              refine ⟨p, ?_, Rv_mono g _ _ hp2⟩
                              simp only [Nat.zero_add, List.length_drop] at hp1 hj
                              have hjl := (List.getElem?_eq_some_iff.1 hp1).1
                              rw [List.append_assoc, List.getElem?_append_right (by rw [hlt1]; omega), hlt1, List.getElem?_append_left (by omega)]
                              rw [← hp1]
                              congr 1
                              omega)
                      refine ⟨_, _, hrun, ?_, h2, h3, ?_⟩
                      · rw [applyEff_one, setObj_lt hq]
                      · simp only [Rv]
                        refine ⟨_, _, rfl, hroom, .row i.size (e' + 1) (fr.map fun _ => 0) (xs.drop (off * i.size) ++ ys), e' + 1, ?_, rfl, Nat.le_refl _, fun _ => .inl ?_⟩
                        · rw [List.getElem?_set, if_pos rfl, if_pos (List.getElem?_eq_some_iff.1 hq).1]
                        · rw [h4]
                          refine ⟨by simp, ?_⟩
                          simp only; omega
                    · -- it moves
                      obtain ⟨os, hol, hor, hos⟩ : ∃ os : List Value, os.length = len * i.size ∧ Rvs C (xs.drop (off * i.size)) (fun j y => os[j]? = some y) 0 ∧ ∀ j y, os[j]? = some y → C.w.cell? (a0.add j) = some y := by
                        rcases k4 rfl with ⟨rfl, _⟩ | ⟨hl0, _⟩
                        · have hd : Rvs C (xs.drop (off * i.size)) (fun j y => C.w.cell? (Addr.add ⟨(C.ρ q).b, (C.ρ q).off + off * i.size, none⟩ j) = some y) 0 := by
                            refine Rvs_mono (Grows.refl C) _ _ _ _ (fun j y hy => ?_) (Rvs_drop (row_cells hS hq) (off * i.size))
                            simp only [addr_add] at hy ⊢
                            rw [Nat.add_assoc]; exact hy
                          obtain ⟨os, h5, h6, h7⟩ := Rvs_list hd
                          exact ⟨os, by rw [h5]; simp; omega, h6, fun j y hj => by simpa using h7 j y hj⟩
                        · refine ⟨[], by simp [hl0], ?_, by simp⟩
                          have : xs.drop (off * i.size) = [] := by rw [List.drop_eq_nil_iff]; rw [hl0] at hxl; omega
                          rw [this]; simp [Rvs]
                      have hrun := run_append_grow (P := P) C.w t ty el i zv ht hi hzv a0 len c os hol hos ad m c' us hul' hus (by omega) (by omega) (growslice_fits (by omega) c5)
                      have hgs := grown_size C.w (len + m) c el zv.cells os us 0 i.size hzs (by rw [hol, hul', Nat.add_mul])
                      have hcap := grownCap_ge C.w (len + m) c el
                      obtain ⟨ρ', h2, h3, h4⟩ := moved hS q (.row i.size e' fr xs) (.row i.size (e' + 1) (fr.map fun _ => 0) (xs.drop (off * i.size) ++ ys)) e' (e' + 1) hq rfl rfl (Nat.lt_succ_self _)
                        (os.toArray ++ us.toArray ++ Builtin.zeroCells zv.cells (grownCap C.w (len + m) c el - (len + m))) el (grownCap C.w (len + m) c el) C.w.drew rfl rfl rfl rfl
                        (fun C' g hw hρ hok' => by
                          refine ⟨_, el, by rw [hρ, hw]; exact heap_alloc_new C.w.drew _, by rw [hρ, hgs]; simp, by rw [hρ, hnl]; exact Nat.mul_le_mul_right _ hcap, hsz, ?_, hone3, fun k hk => by cases fr <;> simp at hk; subst hk; exact ⟨Nat.zero_le _, fun j hj => by omega⟩⟩
                          rw [hρ]
                          have hdl : (xs.drop (off * i.size)).length = os.length := by rw [hol]; simp; omega
                          refine Rvs_append (Rvs_mono g _ _ _ _ (fun j y hj => ?_) hor) (Rvs_mono g _ _ _ _ (fun j y hj => ?_) hur)
                          · have hjl := (List.getElem?_eq_some_iff.1 hj).1
                            simp only [Nat.zero_add]
                            rw [Array.getElem?_append_left (by simp; omega), Array.getElem?_append_left (by simpa using hjl)]
                            simpa using hj
                          · have hjl := (List.getElem?_eq_some_iff.1 hj).1
                            simp only [Nat.zero_add]
                            rw [Array.getElem?_append_left (by simp; omega), Array.getElem?_append_right (by simp; omega)]
                            simp only [List.size_toArray, hdl, Nat.add_sub_cancel_left]
                            simpa using hj)
                      refine ⟨_, _, hrun, ?_, h2, h3, ?_⟩
                      · rw [applyEff_one, setObj_lt hq]
                      · simp only [Rv]
                        refine ⟨_, _, rfl, hcap, .row i.size (e' + 1) (fr.map fun _ => 0) (xs.drop (off * i.size) ++ ys), e' + 1, ?_, rfl, Nat.le_refl _, fun _ => .inl ?_⟩
                        · rw [List.getElem?_set, if_pos rfl, if_pos (List.getElem?_eq_some_iff.1 hq).1]
                        · rw [h4]
                          refine ⟨by simp, ?_⟩
                          simp only; omega
                  · cases h
                · cases h
              · cases h
            · cases h
        · cases h
      · cases h
    · cases h
  · cases h

end Go.Proofs.Ytmopbegmdegooaa.Vm
