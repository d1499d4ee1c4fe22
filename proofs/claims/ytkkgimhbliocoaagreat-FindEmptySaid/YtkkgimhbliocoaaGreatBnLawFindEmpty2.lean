/- Texts put together: VmOps5, VmFrz. What is proved stands at the head of each part. -/
import Derived.Test.YtkkgimhbliocoaaGreatBnLawFindEmpty1
import Derived.Lib.AppendZerosOnto
/- Each operation of the abstract machine is the model's: builtins, append; all operations together. -/
namespace Go.Proofs.YtkkgimhbliocoaaGreat.Vm
open Go Go.RowKit
set_option linter.unusedVariables false
set_option linter.unusedSimpArgs false
set_option linter.unnecessarySimpa false

variable {P : Program} {o : Oper} {a : Act} {C : Ctx} {T : List AVal} {slot : Nat} {x : AVal} {e : Eff}

theorem exec_builtin {b : Builtin} {args : Array Operand} {ts : Array TypeId} (ho : o.op = .call { callee := .builtin b, args, argTypes := ts }) :
    execOp a.eval o = builtin b ts o.type (args.map fun | .const _ => true | _ => false) (args.map a.eval) := by
  simp only [execOp, ho, resolve]
  rfl
theorem len_rel {y : AVal} {u : Value} {n : Nat} (h : lenA y = some n) (hr : Rv C y u) : ∃ A c, u = .slice A n c := by
  cases y <;> simp only [lenA, Option.some.injEq, reduceCtorEq] at h
  · subst h; simp only [Rv] at hr; obtain ⟨A, c, rfl, _⟩ := hr; exact ⟨A, c, rfl⟩
  · subst h; simp only [Rv] at hr; obtain ⟨A, rfl⟩ := hr; exact ⟨A, 0, rfl⟩
  · subst h; simp only [Rv] at hr; obtain ⟨A, c, rfl, _⟩ := hr; exact ⟨some A, c, rfl⟩
theorem elems_rel {sz m : Nat} {y : AVal} {ys : List AVal} {u : Value} (hS : St C) (h : elemsA C.S sz y = some (m, ys)) (hr : Rv C y u) :
    ∃ A c, u = .slice A m c ∧ ys.length = m * sz ∧ (m * sz ≠ 0 → ∃ ad, A = some ad ∧ Rvs C ys (fun i y => C.w.cell? (ad.add i) = some y) 0) := by
  unfold elemsA at h
  split at h
  · rename_i n xs
    split at h
    · rename_i hx
      simp only [Option.some.injEq, Prod.mk.injEq] at h
      obtain ⟨rfl, rfl⟩ := h
      simp only [Rv] at hr
      obtain ⟨A, c, rfl, h1, h2⟩ := hr
      refine ⟨A, c, rfl, by simpa using hx, fun hne => ?_⟩
      obtain ⟨v, ⟨ad, rfl, _⟩, _⟩ := Rps_get h2 0 (xs[0]'(by omega)) (List.getElem?_eq_getElem (by omega))
      refine ⟨ad, rfl, list_cells (Rps_mono (Look.Le.refl _) _ _ _ _ (fun i y hy => ?_) h2)⟩
      obtain ⟨a1, ha1, hs⟩ := hy
      cases ha1
      exact hs
    · cases h
  · simp only [Option.some.injEq, Prod.mk.injEq] at h
    obtain ⟨rfl, rfl⟩ := h
    simp only [Rv] at hr
    obtain ⟨A, rfl⟩ := hr
    exact ⟨A, 0, rfl, by simp, fun hne => absurd (Nat.zero_mul sz) hne⟩
  · simp only [Option.some.injEq, Prod.mk.injEq] at h
    obtain ⟨rfl, rfl⟩ := h
    rw [Rv_v] at hr
    exact ⟨none, 0, hr, by simp, fun hne => absurd (Nat.zero_mul sz) hne⟩
  · rename_i q ep sz' off len
    split at h
    · rename_i s e1 fr xs hq
      split at h
      · rename_i hc
        obtain ⟨rfl, rfl, rfl, c4⟩ := hc
        simp only [Option.some.injEq, Prod.mk.injEq] at h
        obtain ⟨rfl, rfl⟩ := h
        simp only [Rv] at hr
        obtain ⟨ad, c, rfl, h1, ob, e0, k1, k2, k3, k4⟩ := hr
        rw [hq] at k1; cases k1
        simp only [AObj.ep?, Option.some.injEq] at k2
        subst k2
        have hlen : (cutA xs sz' off (off + len)).length = len * sz' := by
          simp only [cutA, List.length_take, List.length_drop]
          rw [Nat.add_mul] at c4
          rw [show off + len - off = len by omega]
          omega
        refine ⟨some ad, c, rfl, hlen, fun hne => ⟨ad, rfl, ?_⟩⟩
        rcases k4 rfl with ⟨hA, _⟩ | ⟨hA, _⟩
        · subst hA
          refine Rvs_mono (Grows.refl C) _ _ _ _ (fun i y hy => ?_) (Rvs_take (Rvs_drop (row_cells hS hq) (off * sz')) ((off + len - off) * sz'))
          simp only [addr_add] at hy ⊢
          rw [Nat.add_assoc]; exact hy
        · subst hA; simp at hne
      · cases h
    · cases h
  · cases h

/-! ## append -/
theorem run_append_zero {t ty el : TypeId} {i : TypeInfo} (ht : P.underlying t = some (.slice el)) (hi : P.info? el = some i) (A B : Option Addr) (n c c' : Nat) (hn : n ≤ c) (w : World) :
    (Builtin.append_ #[t, t] ty #[.slice A n c, .slice B 0 c']).run P w = .ok (.slice A n c) w := by
  have hf : (Builtin.firstCells i.size 0 (.slice B 0 c')).run P w = .ok #[] w := by
    cases B with
    | none => simp [Builtin.firstCells]
    | some b => simp [Builtin.firstCells, loadCells, loadCellsFrom]
  cases A <;> simp [Builtin.append_, run_underlying ht, sizeOf, typeInfo, hi, Builtin.lenOf, hn, hf, storeCells]
theorem run_append_in {t ty el : TypeId} {i : TypeInfo} (ht : P.underlying t = some (.slice el)) (hi : P.info? el = some i) (w : World) (g o n c : Nat) (cur : Array Value) (te : TypeId) (hg : w.heap[g]? = some (.cells cur te (0, 0)))
    (ad : Addr) (m c' : Nat) (news : List Value) (hl : news.length = m * i.size) (hnews : ∀ j u, news[j]? = some u → w.cell? (ad.add j) = some u) (h1 : ∀ u ∈ news, u.oneCell' = true)
    (hroom : n + m ≤ c) (hfit : o + n * i.size + news.length ≤ cur.size) :
    (Builtin.append_ #[t, t] ty #[.slice (some ⟨g, o, none⟩) n c, .slice (some ad) m c']).run P w =
      .ok (.slice (some ⟨g, o, none⟩) (n + m) c) (w.setRow g (cur.toList.take (o + n * i.size) ++ news ++ cur.toList.drop (o + n * i.size + news.length)).toArray) := by
  have hf := run_firstCells_some (P := P) w i.size m ad m c' news hl hnews
  have hst := run_storeCells_at P g (o + n * i.size) te news 0 cur w hg (by simpa using hfit) h1
  simp only [Nat.add_zero] at hst
  simp [Builtin.append_, run_underlying ht, sizeOf, typeInfo, hi, Builtin.lenOf, hroom, hf, Addr.add_lit, hst]
theorem grown_size (w : World) (need old : Nat) (el : TypeId) (z : Array Value) (xs ys : List Value) (k sz : Nat) (hz : z.size = sz) (hx : xs.length + ys.length = need * sz) :
    (xs.toArray ++ ys.toArray ++ Builtin.zeroCells z (grownCap w need old el - need)).size = grownCap w need old el * sz := by
  have hge := grownCap_ge w need old el
  simp only [Array.size_append, List.size_toArray, size_zeroCells, hz, hx]
  rw [← Nat.add_mul]
  congr 1
  omega
theorem one_list {ys : List AVal} {f : Nat → Value → Prop} (h : Rvs C ys f 0) (h1 : ys.all AVal.one = true) :
    ∃ us : List Value, us.length = ys.length ∧ Rvs C ys (fun j y => us[j]? = some y) 0 ∧ (∀ j y, us[j]? = some y → f j y) ∧ ∀ u ∈ us, u.oneCell' = true := by
  obtain ⟨us, h2, h3, h4⟩ := Rvs_list h
  exact ⟨us, h2, h3, fun j y hj => by simpa using h4 j y hj, ones_of h2 h3 h1⟩

theorem append_ok {t ty : TypeId} {y z : AVal} {u v : Value} (hS : St C) (hslot : slot = C.S.length ∨ C.S[slot]? = some .free) (h : appendA P C.S slot t y z = some (x, e)) (hy : Rv C y u) (hz : Rv C z v) :
    ∃ r C', (Builtin.append_ #[t, t] ty #[u, v]).run P C.w = .ok r C'.w ∧ C'.S = applyEff C.S e ∧ St C' ∧ Ext C C' ∧ Rv C' x r := by
  unfold appendA at h
  split at h
  · rename_i el ht
    split at h
    · rename_i i hi
      split at h
      · rename_i hc
        obtain ⟨hsz, hzz⟩ := hc
        obtain ⟨zv, hzv, hzs⟩ : ∃ zv, i.zero = some zv ∧ zv.cells.size = i.size := by
          cases hh : i.zero with
          | none => simp [hh] at hzz
          | some zv => simp [hh] at hzz; exact ⟨zv, rfl, hzz⟩
        split at h
        · rename_i m ys hel
          obtain ⟨B, c', rfl, hyl, hys⟩ := elems_rel hS hel hz
          split at h
          · rename_i hm
            subst hm
            have same : ∀ (A : Option Addr) (n c : Nat), u = .slice A n c → n ≤ c → x = y → e = [] →
                ∃ r C', (Builtin.append_ #[t, t] ty #[u, .slice B 0 c']).run P C.w = .ok r C'.w ∧ C'.S = applyEff C.S e ∧ St C' ∧ Ext C C' ∧ Rv C' x r := by
              intro A n c hu hn hx he
              subst hx he
              refine ⟨u, C, ?_, rfl, hS, Ext.refl C, hy⟩
              rw [hu]; exact run_append_zero ht hi A B n c c' hn C.w
            split at h
            · simp only [Option.some.injEq, Prod.mk.injEq] at h
              have hy' := hy
              simp only [Rv] at hy'
              obtain ⟨A, hA⟩ := hy'
              exact same A 0 0 hA (Nat.le_refl _) h.1.symm h.2.symm
            · simp only [Option.some.injEq, Prod.mk.injEq] at h
              have hy' := hy
              rw [Rv_v] at hy'
              exact same none 0 0 hy' (Nat.le_refl _) h.1.symm h.2.symm
            · simp only [Option.some.injEq, Prod.mk.injEq] at h
              have hy' := hy
              simp only [Rv] at hy'
              obtain ⟨a0, c0, hA, hn, _⟩ := hy'
              exact same (some a0) _ c0 hA hn h.1.symm h.2.symm
            · simp only [Option.some.injEq, Prod.mk.injEq] at h
              have hy' := hy
              simp only [Rv] at hy'
              obtain ⟨A, c0, hA, hn, _⟩ := hy'
              exact same A _ c0 hA hn h.1.symm h.2.symm
            · cases h
          · rename_i hm
            split at h
            · rename_i hone
              have hmz : m * i.size ≠ 0 := Nat.mul_ne_zero hm (by omega)
              obtain ⟨ad, rfl, hcells⟩ := hys hmz
              obtain ⟨us, hul, hur, hus, hu1⟩ := one_list hcells hone
              have hul' : us.length = m * i.size := hul.trans hyl
              -- a new row out of nothing
              have fresh : ∀ A : Option Addr, u = .slice A 0 0 → m * i.bytes ≤ 140737488355328 → m ≤ 9223372036854775807 → x = .row slot 0 i.size 0 m → e = [(slot, .row i.size 0 none ys)] →
                  ∃ r C', (Builtin.append_ #[t, t] ty #[u, .slice (some ad) m c']).run P C.w = .ok r C'.w ∧ C'.S = applyEff C.S e ∧ St C' ∧ Ext C C' ∧ Rv C' x r := by
                intro A hu hb hmx hx he
                subst hx he hu
                have hle : slot ≤ C.S.length := by
                  rcases hslot with rfl | h
                  · exact Nat.le_refl _
                  · exact Nat.le_of_lt (List.getElem?_eq_some_iff.1 h).1
                have hrun : (Builtin.append_ #[t, t] ty #[.slice A 0 0, .slice (some ad) m c']).run P C.w =
                    .ok (.slice (some ⟨C.w.heap.size, 0, none⟩) m (grownCap C.w m 0 el)) (C.w.drew.alloc (.cells (([] : List Value).toArray ++ us.toArray ++ Builtin.zeroCells zv.cells (grownCap C.w m 0 el - m)) el)) := by
                  cases A with
                  | none =>
                    rw [run_append_nil C.w t ty el i zv ht hi hzv ad m c' us hul' hus (by omega) (by omega) (by omega)]
                    simp
                  | some b =>
                    have := run_append_grow (P := P) C.w t ty el i zv ht hi hzv b 0 0 [] (by simp) (by simp) ad m c' us hul' hus (by omega) (by omega) (by rw [Nat.zero_add]; exact growslice_fits (by omega) hb)
                    simpa using this
                have hgs := grown_size C.w m 0 el zv.cells [] us 0 i.size hzs (by simpa using hul')
                have hcap := grownCap_ge C.w m 0 el
                obtain ⟨ρ', h2, h3, h4⟩ := made hS slot hslot (([] : List Value).toArray ++ us.toArray ++ Builtin.zeroCells zv.cells (grownCap C.w m 0 el - m)) el (.row i.size 0 none ys) (grownCap C.w m 0 el) 0 rfl C.w.drew rfl rfl rfl rfl (fun C' g hw hρ hok' => by
                  refine ⟨_, el, by rw [hρ, hw]; exact heap_alloc_new C.w.drew _, by rw [hρ, hgs]; simp, by rw [hρ, hyl]; exact Nat.mul_le_mul_right _ hcap, hsz, ?_, hone, fun k hk => by cases hk⟩
                  rw [hρ]
                  refine Rvs_mono g _ _ _ _ (fun j y hj => ?_) hur
                  simp only [Nat.zero_add]
                  rw [Array.getElem?_append_left (by simp; exact (List.getElem?_eq_some_iff.1 hj).1)]
                  simpa using hj)
                refine ⟨_, _, hrun, rfl, h2, h3, ?_⟩
                simp only [Rv]
                exact ⟨_, _, rfl, hcap, .row i.size 0 none ys, 0, setObj_get_same _ _ _ hle, rfl, Nat.le_refl _, fun _ => .inl (by simp [h4])⟩
              split at h
              · split at h
                · rename_i hc2
                  simp only [Option.some.injEq, Prod.mk.injEq] at h
                  simp only [Rv] at hy
                  obtain ⟨A, hA⟩ := hy
                  exact fresh A hA hc2.1 hc2.2 h.1.symm h.2.symm
                · cases h
              · split at h
                · rename_i hc2
                  simp only [Option.some.injEq, Prod.mk.injEq] at h
                  rw [Rv_v] at hy
                  exact fresh none hy hc2.1 hc2.2 h.1.symm h.2.symm
                · cases h
              · rename_i q ep sz off len
                split at h
                · rename_i sz' e' fr xs hq
                  split at h
                  · rename_i hc2
                    obtain ⟨c1, c2, c3, c4, c5, c6⟩ := hc2
                    simp only [Option.some.injEq, Prod.mk.injEq] at h
                    obtain ⟨rfl, rfl⟩ := h
                    subst c1 c2 c3
                    simp only [Rv] at hy
                    obtain ⟨a0, c, rfl, hlc, ob, e0, k1, k2, k3, k4⟩ := hy
                    rw [hq] at k1; cases k1
                    simp only [AObj.ep?, Option.some.injEq] at k2
                    subst k2
                    obtain ⟨cs, t0, hh, hs1, hs2, hs3, hrs, hone2, _⟩ := hS.obj q _ hq
                    have hxl : xs.length = off * i.size + len * i.size := by rw [← c4, Nat.add_mul]
                    have hone3 : (xs.drop (off * i.size) ++ ys).all AVal.one = true := by
                      rw [List.all_eq_true] at *
                      intro b hb
                      rcases List.mem_append.1 hb with hb | hb
                      · exact hone2 b (List.mem_of_mem_drop hb)
                      · exact hone b hb
                    have hnl : (xs.drop (off * i.size) ++ ys).length = (len + m) * i.size := by
                      simp only [List.length_append, List.length_drop, hyl]
                      rw [Nat.add_mul]; omega
                    by_cases hroom : len + m ≤ c
                    · -- there is room
                      have hk : a0 = ⟨(C.ρ q).b, (C.ρ q).off + off * i.size, none⟩ ∧ off + c ≤ (C.ρ q).cap := by
                        rcases k4 rfl with hk | ⟨_, hk⟩
                        · exact hk
                        · omega
                      obtain ⟨rfl, hcap⟩ := hk
                      have hcapsz : off * i.size + c * i.size ≤ (C.ρ q).cap * i.size := by rw [← Nat.add_mul]; exact Nat.mul_le_mul_right _ hcap
                      have hlm : len * i.size + m * i.size ≤ c * i.size := by rw [← Nat.add_mul]; exact Nat.mul_le_mul_right _ hroom
                      have hrun := run_append_in (P := P) (ty := ty) ht hi C.w (C.ρ q).b ((C.ρ q).off + off * i.size) len c cs t0 hh ad m c' us hul' hus hu1 hroom (by rw [hul']; omega)
                      have hK : (C.ρ q).off + off * i.size + len * i.size = (C.ρ q).off + xs.length := by omega
                      rw [hK] at hrun
                      have hlt1 : (cs.toList.take ((C.ρ q).off + xs.length)).length = (C.ρ q).off + xs.length := by simp; omega
                      obtain ⟨ρ', h2, h3, h4⟩ := turned hS q (.row i.size e' fr xs) (.row i.size (e' + 1) (fr.map fun _ => 0) (xs.drop (off * i.size) ++ ys)) e' (e' + 1) hq rfl rfl
                        (cs.toList.take ((C.ρ q).off + xs.length) ++ us ++ cs.toList.drop ((C.ρ q).off + xs.length + us.length)).toArray ⟨(C.ρ q).b, (C.ρ q).off + off * i.size, (C.ρ q).cap - off⟩ rfl (.inr (Nat.lt_succ_self _)) ⟨cs, t0, hh⟩
                        (fun j hj => by
                          obtain ⟨s1, e1, k1, x1, hx1, hx2⟩ := (hS.okRow _ j hj q _ e' hq rfl rfl).resolve_right (fun ⟨_, _, hx⟩ => by cases hx)
                          cases hx1
                          refine ⟨⟨_, _, 0, _, rfl, ?_⟩, fun old t1 hold => ?_⟩
                          · rw [hnl, Nat.add_mul]; simp only; omega
                          · simp only at hold
                            rw [hh] at hold; cases hold
                            simp only [List.getElem?_toArray]
                            rw [List.append_assoc, List.getElem?_append_left (by rw [hlt1]; exact hx2), List.getElem?_take, if_pos hx2, Array.getElem?_toList])
                        (fun C' g hw hρ hok' => by
                          refine ⟨_, t0, by rw [hρ, hw]; exact setRow_heap _ _ _ _ _ _ hh, ?_, ?_, hsz, ?_, hone3, fun k hk => by cases fr <;> simp at hk; subst hk; exact ⟨Nat.zero_le _, fun j hj => by omega⟩⟩
                          · rw [hρ]
                            simp only [List.size_toArray, List.length_append, hlt1, List.length_drop, Array.length_toList, hul']
                            rw [Nat.sub_mul]; omega
                          · rw [hρ, hnl]
                            simp only
                            refine Nat.mul_le_mul_right _ (by omega)
                          · rw [hρ]
                            refine Rvs_mk fun j b hb => ?_
                            simp only [Nat.zero_add, List.getElem?_toArray]
                            rw [List.getElem?_append] at hb
                            split at hb
                            · rename_i hj
                              rw [List.getElem?_drop] at hb
                              obtain ⟨p, hp1, hp2⟩ := Rvs_get hrs (off * i.size + j) b hb
                              refine ⟨p, ?_, Rv_mono g _ _ hp2⟩
                              have hjl : off * i.size + j < xs.length := (List.getElem?_eq_some_iff.1 hb).1
                              rw [List.append_assoc, List.getElem?_append_left (by rw [hlt1]; omega), List.getElem?_take, if_pos (by omega), Array.getElem?_toList]
                              simp only [Nat.zero_add] at hp1
                              rw [Nat.add_assoc]; exact hp1
                            · rename_i hj
                              obtain ⟨p, hp1, hp2⟩ := Rvs_get hur _ b hb
                              refine ⟨p, ?_, Rv_mono g _ _ hp2⟩
                              simp only [Nat.zero_add, List.length_drop] at hp1 hj
                              have hjl := (List.getElem?_eq_some_iff.1 hp1).1
                              rw [List.append_assoc, List.getElem?_append_right (by rw [hlt1]; omega), hlt1, List.getElem?_append_left (by omega)]
                              rw [← hp1]
                              congr 1
                              omega)
                      refine ⟨_, _, hrun, ?_, h2, h3, ?_⟩
                      · rw [applyEff_one, setObj_lt hq]
                      · simp only [Rv]
                        refine ⟨_, _, rfl, hroom, .row i.size (e' + 1) (fr.map fun _ => 0) (xs.drop (off * i.size) ++ ys), e' + 1, ?_, rfl, Nat.le_refl _, fun _ => .inl ?_⟩
                        · rw [List.getElem?_set, if_pos rfl, if_pos (List.getElem?_eq_some_iff.1 hq).1]
                        · rw [h4]
                          refine ⟨by simp, ?_⟩
                          simp only; omega
                    · -- it moves
                      obtain ⟨os, hol, hor, hos⟩ : ∃ os : List Value, os.length = len * i.size ∧ Rvs C (xs.drop (off * i.size)) (fun j y => os[j]? = some y) 0 ∧ ∀ j y, os[j]? = some y → C.w.cell? (a0.add j) = some y := by
                        rcases k4 rfl with ⟨rfl, _⟩ | ⟨hl0, _⟩
                        · have hd : Rvs C (xs.drop (off * i.size)) (fun j y => C.w.cell? (Addr.add ⟨(C.ρ q).b, (C.ρ q).off + off * i.size, none⟩ j) = some y) 0 := by
                            refine Rvs_mono (Grows.refl C) _ _ _ _ (fun j y hy => ?_) (Rvs_drop (row_cells hS hq) (off * i.size))
                            simp only [addr_add] at hy ⊢
                            rw [Nat.add_assoc]; exact hy
                          obtain ⟨os, h5, h6, h7⟩ := Rvs_list hd
                          exact ⟨os, by rw [h5]; simp; omega, h6, fun j y hj => by simpa using h7 j y hj⟩
                        · refine ⟨[], by simp [hl0], ?_, by simp⟩
                          have : xs.drop (off * i.size) = [] := by rw [List.drop_eq_nil_iff]; rw [hl0] at hxl; omega
                          rw [this]; simp [Rvs]
                      have hrun := run_append_grow (P := P) C.w t ty el i zv ht hi hzv a0 len c os hol hos ad m c' us hul' hus (by omega) (by omega) (growslice_fits (by omega) c5)
                      have hgs := grown_size C.w (len + m) c el zv.cells os us 0 i.size hzs (by rw [hol, hul', Nat.add_mul])
                      have hcap := grownCap_ge C.w (len + m) c el
                      obtain ⟨ρ', h2, h3, h4⟩ := moved hS q (.row i.size e' fr xs) (.row i.size (e' + 1) (fr.map fun _ => 0) (xs.drop (off * i.size) ++ ys)) e' (e' + 1) hq rfl rfl (Nat.lt_succ_self _)
                        (os.toArray ++ us.toArray ++ Builtin.zeroCells zv.cells (grownCap C.w (len + m) c el - (len + m))) el (grownCap C.w (len + m) c el) C.w.drew rfl rfl rfl rfl
                        (fun C' g hw hρ hok' => by
                          refine ⟨_, el, by rw [hρ, hw]; exact heap_alloc_new C.w.drew _, by rw [hρ, hgs]; simp, by rw [hρ, hnl]; exact Nat.mul_le_mul_right _ hcap, hsz, ?_, hone3, fun k hk => by cases fr <;> simp at hk; subst hk; exact ⟨Nat.zero_le _, fun j hj => by omega⟩⟩
                          rw [hρ]
                          have hdl : (xs.drop (off * i.size)).length = os.length := by rw [hol]; simp; omega
                          refine Rvs_append (Rvs_mono g _ _ _ _ (fun j y hj => ?_) hor) (Rvs_mono g _ _ _ _ (fun j y hj => ?_) hur)
                          · have hjl := (List.getElem?_eq_some_iff.1 hj).1
                            simp only [Nat.zero_add]
                            rw [Array.getElem?_append_left (by simp; omega), Array.getElem?_append_left (by simpa using hjl)]
                            simpa using hj
                          · have hjl := (List.getElem?_eq_some_iff.1 hj).1
                            simp only [Nat.zero_add]
                            rw [Array.getElem?_append_left (by simp; omega), Array.getElem?_append_right (by simp; omega)]
                            simp only [List.size_toArray, hdl, Nat.add_sub_cancel_left]
                            simpa using hj)
                      refine ⟨_, _, hrun, ?_, h2, h3, ?_⟩
                      · rw [applyEff_one, setObj_lt hq]
                      · simp only [Rv]
                        refine ⟨_, _, rfl, hcap, .row i.size (e' + 1) (fr.map fun _ => 0) (xs.drop (off * i.size) ++ ys), e' + 1, ?_, rfl, Nat.le_refl _, fun _ => .inl ?_⟩
                        · rw [List.getElem?_set, if_pos rfl, if_pos (List.getElem?_eq_some_iff.1 hq).1]
                        · rw [h4]
                          refine ⟨by simp, ?_⟩
                          simp only; omega
                  · cases h
                · cases h
              · cases h
            · cases h
        · cases h
      · cases h
    · cases h
  · cases h

/-! ## behind what is in use of a row; zero values behind nothing -/
/-- Of a row that is not frozen less may be known. -/
theorem lessRow (hS : St C) {o sz e : Nat} {xs : List AVal} (hx : C.S[o]? = some (.row sz e none xs)) (k : Nat) : St ⟨C.ρ, C.S.set o (.row sz e none (xs.take k)), C.ok, C.w⟩ ∧ Ext C ⟨C.ρ, C.S.set o (.row sz e none (xs.take k)), C.ok, C.w⟩ := by
  have hlen : o < C.S.length := (List.getElem?_eq_some_iff.1 hx).1
  have hset : (C.S.set o (.row sz e none (xs.take k)))[o]? = some (.row sz e none (xs.take k)) := by rw [List.getElem?_set]; simp [hlen]
  have hsetO : ∀ q, q ≠ o → (C.S.set o (.row sz e none (xs.take k)))[q]? = C.S[q]? := fun q hq => by rw [List.getElem?_set]; simp [Ne.symm hq]
  have key : ∀ (q : Nat) (y : AObj) (e1 : Nat), (C.S.set o (.row sz e none (xs.take k)))[q]? = some y → y.ep? = some e1 → ∃ y', C.S[q]? = some y' ∧ y'.ep? = some e1 := by
    intro q y e1 hy h1
    by_cases hq : q = o
    · subst hq
      rw [hset] at hy
      cases hy
      exact ⟨_, hx, h1⟩
    · exact ⟨y, (hsetO q hq).symm.trans hy, h1⟩
  have g : Grows C ⟨C.ρ, C.S.set o (.row sz e none (xs.take k)), C.ok, C.w⟩ := by
    refine ⟨Look.Le.refl _, fun q y e1 hy hye => ?_⟩
    by_cases hq : q = o
    · subst hq
      rw [hx] at hy; cases hy
      exact ⟨_, e1, hset, hye, .inl ⟨rfl, rfl⟩⟩
    · exact ⟨y, e1, (hsetO q hq).trans hy, hye, .inl ⟨rfl, rfl⟩⟩
  refine ⟨⟨fun q y hy => ?_, fun q q' y y' e1 e2 hy hy' h1 h2 hb => ?_, hS.okIn, fun b j hb q y e1 hy h1 hbo => ?_⟩, ⟨g, rfl, rfl, rfl, Nat.le_refl _, fun _ _ h => h, fun _ _ _ => rfl, fun b j h => .inl h, fun q y e1 hy h1 => ?_⟩⟩
  · by_cases hq : q = o
    · subst hq
      simp only [hset, Option.some.injEq] at hy
      subst hy
      obtain ⟨cs, t, h1, h2, h3, h4, h5, h6, h7⟩ := hS.obj q _ hx
      refine ⟨cs, t, h1, h2, Nat.le_trans (by simp; omega) h3, h4, Rvs_mono g _ _ _ _ (fun _ _ h => h) (Rvs_take h5 k), ?_, fun k hk => by cases hk⟩
      rw [List.all_eq_true] at *
      exact fun b hb => h6 b (List.mem_of_mem_take hb)
    · simp only [hsetO q hq] at hy
      exact (hS.obj q y hy).keep g (fun _ _ h => h) rfl fun _ _ => rfl
  · obtain ⟨z, k1, k2⟩ := key q y e1 hy h1
    obtain ⟨z', k3, k4⟩ := key q' y' e2 hy' h2
    exact hS.inj q q' z z' e1 e2 k1 k3 k2 k4 hb
  · by_cases hq : q = o
    · subst hq
      rcases hS.okRow b j hb q _ e hx rfl hbo with ⟨_, _, _, _, h, _⟩ | ⟨_, _, h⟩ <;> cases h
    · simp only [hsetO q hq] at hy
      exact hS.okRow b j hb q y e1 hy h1 hbo
  · obtain ⟨z, k1, k2⟩ := key q y e1 hy h1
    exact .inr ⟨q, z, e1, k1, k2, rfl⟩
theorem appendS_ok {t ty : TypeId} {y z : AVal} {u v : Value} (hS : St C) (hslot : slot = C.S.length ∨ C.S[slot]? = some .free) (h : appendS P C.S slot t y z = some (x, e)) (hy : Rv C y u) (hz : Rv C z v) :
    ∃ r C', (Builtin.append_ #[t, t] ty #[u, v]).run P C.w = .ok r C'.w ∧ C'.S = applyEff C.S e ∧ St C' ∧ Ext C C' ∧ Rv C' x r := by
  unfold appendS at h
  split at h
  · rename_i o ep sz off len
    split at h
    · rename_i sz' e0 xs hx
      split at h
      · cases h
      split at h
      · rename_i r q y' ha
        split at h
        · rename_i hq
          simp only [Option.some.injEq, Prod.mk.injEq] at h
          obtain ⟨rfl, rfl⟩ := h
          subst hq
          obtain ⟨h1, h2⟩ := lessRow hS hx ((off + len) * sz)
          have hlen : q < C.S.length := (List.getElem?_eq_some_iff.1 hx).1
          have hslot' : slot = (C.S.set q (.row sz' e0 none (xs.take ((off + len) * sz)))).length ∨ (C.S.set q (.row sz' e0 none (xs.take ((off + len) * sz))))[slot]? = some .free := by
            rcases hslot with h3 | h3
            · exact .inl (by simpa using h3)
            · right
              have hne : q ≠ slot := fun h4 => by subst h4; rw [hx] at h3; cases h3
              rw [List.getElem?_set, if_neg hne]
              exact h3
          obtain ⟨r', C', k1, k2, k3, k4, k5⟩ := append_ok (P := P) (ty := ty) h1 hslot' ha (Rv_mono h2.grows _ _ hy) (Rv_mono h2.grows _ _ hz)
          refine ⟨r', C', k1, ?_, k3, h2.trans k4, k5⟩
          rw [k2, applyEff_one, applyEff_one, setObj_lt hx]
          unfold setObj
          simp [hlen]
        · cases h
      · cases h
    · cases h
  · cases h
theorem appendZ_ok {t tn ty : TypeId} {y z : AVal} {u v : Value} (hS : St C) (hslot : slot = C.S.length ∨ C.S[slot]? = some .free) (h : appendZ P slot t tn y z = some (x, e)) (hy : Rv C y u) (hz : Rv C z v) :
    ∃ r C', (Builtin.append_ #[t, tn] ty #[u, v]).run P C.w = .ok r C'.w ∧ C'.S = applyEff C.S e ∧ St C' ∧ Ext C C' ∧ Rv C' x r := by
  unfold appendZ at h
  split at h
  · rename_i el kn ht htn
    split at h
    · rename_i i zs hi hzs
      split at h
      · rename_i kq n
        split at h
        · rename_i hc
          obtain ⟨h0, h1, h2, h3, h4, h5⟩ := hc
          simp only [Option.some.injEq, Prod.mk.injEq] at h
          obtain ⟨rfl, rfl⟩ := h
          rw [Rv_v] at hy hz
          subst hy hz
          obtain ⟨i', zv, hi', hzv, rfl⟩ := zeroA_some hzs
          rw [hi, Option.some.injEq] at hi'
          subst hi'
          obtain ⟨m, rfl⟩ : ∃ m : Nat, n = (m : Int) := ⟨n.toNat, by omega⟩
          have hzc : zv.cells.size = i.size := by simpa using h4
          have h1' : m * i.bytes ≤ 140737488355328 := by
            have := h1
            rw [← Int.natCast_mul] at this
            omega
          have hrun : (Builtin.append_ #[t, tn] ty #[.slice none 0 0, .int kq m]).run P C.w =
              .ok (.slice (some ⟨C.w.heap.size, 0, none⟩) m (grownCap C.w m 0 el)) (C.w.drew.alloc (.cells (Builtin.zeroCells zv.cells m ++ Builtin.zeroCells zv.cells (grownCap C.w m 0 el - m)) el)) := by
            have := Lib.run_append_grow_zeros (P := P) C.w t tn ty el i zv kq kn ht htn hi hzv none 0 0 [] (by simp [Builtin.firstCells]) m (by omega) h3 (by omega) (by omega) (by omega) (by rw [Nat.zero_add]; exact growslice_fits (by omega) h1')
            simpa using this
          have hcap := grownCap_ge C.w m 0 el
          have hle : slot ≤ C.S.length := by
            rcases hslot with rfl | h
            · exact Nat.le_refl _
            · exact Nat.le_of_lt (List.getElem?_eq_some_iff.1 h).1
          have hfl : (List.replicate m (zv.cells.toList.map AVal.v)).flatten.length = m * i.size := by rw [length_flat]; simp [hzc]
          obtain ⟨ρ', k2, k3, k4⟩ := made hS slot hslot (Builtin.zeroCells zv.cells m ++ Builtin.zeroCells zv.cells (grownCap C.w m 0 el - m)) el (.row i.size 0 none (List.replicate m (zv.cells.toList.map AVal.v)).flatten) (grownCap C.w m 0 el) 0 rfl C.w.drew rfl rfl rfl rfl (fun C' g hw hρ hok' => by
            refine ⟨_, el, by rw [hρ, hw]; exact heap_alloc_new C.w.drew _, ?_, ?_, h3, ?_, all_flat h5 m, fun k hk => by cases hk⟩
            · rw [hρ]
              simp only [Array.size_append, size_zeroCells, hzc, Nat.zero_add]
              rw [← Nat.add_mul]
              exact Nat.le_of_eq (by congr 1; omega)
            · rw [hρ, hfl]
              exact Nat.mul_le_mul_right _ hcap
            · rw [hρ]
              refine Rvs_mono g _ _ _ _ (fun j y hj => ?_) (made_rel C zv m (by omega))
              simp only [Nat.zero_add]
              rw [Array.getElem?_append_left (by
                have := (Array.getElem?_eq_some_iff.1 hj).1
                simp only [Array.size_map, Array.size_range] at this
                rw [size_zeroCells]; exact this)]
              exact hj)
          refine ⟨_, _, hrun, rfl, k2, k3, ?_⟩
          simp only [Rv, Int.toNat_natCast]
          exact ⟨_, _, rfl, hcap, _, 0, setObj_get_same _ _ _ hle, rfl, Nat.le_refl _, fun _ => .inl (by simp [k4])⟩
        · cases h
      · cases h
    · cases h
  · cases h

end Go.Proofs.YtkkgimhbliocoaaGreat.Vm
/- Freezing; slices in a slice. -/
namespace Go.Proofs.YtkkgimhbliocoaaGreat.Vm
open Go Go.RowKit
set_option linter.unusedVariables false
set_option linter.unusedSimpArgs false
set_option linter.unnecessarySimpa false

/-! ## freezing -/
/-- An object is said to be frozen, as far as it says so: nothing else turns. -/
theorem freezeO {C : Ctx} (hS : St C) {o : Nat} {x x' : AObj} {ep : Nat} (hx : C.S[o]? = some x) (he : x.ep? = some ep) (he' : x'.ep? = some ep) (D : Nat → Prop) (hD : ∀ j, D j ∨ C.ok (C.ρ o).b j → Fzn x' (C.ρ o).off j)
    (hobj : ∀ C' : Ctx, Grows C C' → C'.ρ = C.ρ → C'.w = C.w → (∀ j, D j ∨ C.ok (C.ρ o).b j → C'.ok (C.ρ o).b j) → Robj C' o x') :
    ∃ ok', (∀ b j, C.ok b j → ok' b j) ∧ St ⟨C.ρ, C.S.set o x', ok', C.w⟩ ∧ Ext C ⟨C.ρ, C.S.set o x', ok', C.w⟩ := by
  have hlen : o < C.S.length := (List.getElem?_eq_some_iff.1 hx).1
  have hset : (C.S.set o x')[o]? = some x' := by rw [List.getElem?_set]; simp [hlen]
  have hsetO : ∀ q, q ≠ o → (C.S.set o x')[q]? = C.S[q]? := fun q hq => by rw [List.getElem?_set]; simp [Ne.symm hq]
  let ok' : Nat → Nat → Prop := fun b j => C.ok b j ∨ (b = (C.ρ o).b ∧ D j)
  have hok : ∀ b j, C.ok b j → ok' b j := fun b j h => .inl h
  have hlt := (hS.obj o _ hx).lt he
  have g : Grows C ⟨C.ρ, C.S.set o x', ok', C.w⟩ := by
    refine ⟨⟨fun a y ⟨h1, h2⟩ => ⟨hok _ _ h1, h2⟩, fun b es ⟨h1, h2⟩ => ⟨hok _ _ h1, h2⟩⟩, fun q y e1 hy hye => ?_⟩
    by_cases hq : q = o
    · subst hq
      rw [hx] at hy; cases hy
      rw [he] at hye; cases hye
      exact ⟨_, ep, hset, he', .inl ⟨rfl, rfl⟩⟩
    · exact ⟨y, e1, (hsetO q hq).trans hy, hye, .inl ⟨rfl, rfl⟩⟩
  refine ⟨ok', hok, ⟨fun q y hy => ?_, fun q q' y y' e1 e2 hy hy' h1 h2 hb => ?_, fun b j hb => ?_, fun b j hb q y e1 hy h1 hbo => ?_⟩, ⟨g, rfl, rfl, rfl, Nat.le_refl _, hok, fun _ _ _ => rfl, fun b j hb => ?_, fun q y e1 hy h1 => ?_⟩⟩
  · by_cases hq : q = o
    · subst hq
      simp only [hset] at hy
      cases hy
      exact hobj _ g rfl rfl fun j hj => hj.elim (fun h => .inr ⟨rfl, h⟩) .inl
    · simp only [hsetO q hq] at hy
      exact (hS.obj q y hy).keep g hok rfl fun _ _ => rfl
  · have key : ∀ (q : Nat) (y : AObj) (e1 : Nat), (C.S.set o x')[q]? = some y → y.ep? = some e1 → ∃ (y' : AObj) (e' : Nat), C.S[q]? = some y' ∧ y'.ep? = some e' := by
      intro q y e1 hy h1
      by_cases hq : q = o
      · subst hq; exact ⟨_, ep, hx, he⟩
      · exact ⟨y, e1, (hsetO q hq).symm.trans hy, h1⟩
    obtain ⟨z, f1, k1, k2⟩ := key q y e1 hy h1
    obtain ⟨z', f2, k3, k4⟩ := key q' y' e2 hy' h2
    exact hS.inj q q' z z' f1 f2 k1 k3 k2 k4 hb
  · rcases hb with hb | ⟨rfl, _⟩
    · exact hS.okIn b j hb
    · exact hlt
  · by_cases hq : q = o
    · subst hq
      simp only [hset] at hy
      cases hy
      simp only at hbo
      subst hbo
      exact hD j (hb.elim .inr fun h => .inl h.2)
    · simp only [hsetO q hq] at hy
      rcases hb with hb | ⟨rfl, hb1⟩
      · exact hS.okRow b j hb q y e1 hy h1 hbo
      · exact absurd (hS.inj q o y _ e1 ep hy hx h1 he hbo) hq
  · rcases hb with hb | ⟨rfl, _⟩
    · exact .inl hb
    · exact .inr (.inr ⟨o, _, ep, hx, he, rfl⟩)
  · by_cases hq : q = o
    · subst hq; exact .inr ⟨q, _, ep, hx, he, rfl⟩
    · simp only [hsetO q hq] at hy
      exact .inr ⟨q, y, e1, hy, h1, rfl⟩
theorem freeze1 {C : Ctx} (hS : St C) {o sz ep : Nat} {fz : Option Nat} {xs : List AVal} (hx : C.S[o]? = some (.row sz ep fz xs)) :
    ∃ ok', (∀ b j, C.ok b j → ok' b j) ∧ St ⟨C.ρ, C.S.set o (.row sz ep (some xs.length) xs), ok', C.w⟩ ∧ Ext C ⟨C.ρ, C.S.set o (.row sz ep (some xs.length) xs), ok', C.w⟩ := by
  refine freezeO hS hx rfl rfl (fun j => (C.ρ o).off ≤ j ∧ j < (C.ρ o).off + xs.length) (fun j hj => ?_) (fun C' g hρ hw hok => ?_)
  · rcases hj with hj | hj
    · exact .inl ⟨_, _, _, _, rfl, hj.2⟩
    · rcases hS.okRow _ j hj o _ ep hx rfl rfl with ⟨s1, e2, k, xs', hx', hj⟩ | ⟨_, _, h⟩
      · cases hx'
        exact .inl ⟨_, _, _, _, rfl, hj⟩
      · cases h
  · obtain ⟨cs, t, h1, h2, h3, h4, h5, h6, h7⟩ := hS.obj o _ hx
    refine ⟨cs, t, by rw [hρ, hw]; exact h1, by rw [hρ]; exact h2, by rw [hρ]; exact h3, h4, by rw [hρ]; exact Rvs_mono g _ _ _ _ (fun _ _ h => h) h5, h6, fun k hk => ?_⟩
    cases hk
    refine ⟨Nat.le_refl _, fun j hj => ?_⟩
    rw [hρ]
    exact hok _ (.inl ⟨Nat.le_add_right _ _, Nat.add_lt_add_left hj _⟩)
theorem freezeB {C : Ctx} (hS : St C) {o : Nat} {xs : List AVal} (hx : C.S[o]? = some (.box xs)) :
    ∃ ok', (∀ b j, C.ok b j → ok' b j) ∧ St ⟨C.ρ, C.S.set o (.row 1 0 (some xs.length) xs), ok', C.w⟩ ∧ Ext C ⟨C.ρ, C.S.set o (.row 1 0 (some xs.length) xs), ok', C.w⟩ := by
  refine freezeO hS hx rfl rfl (fun j => j < (C.ρ o).off + xs.length) (fun j hj => ?_) (fun C' g hρ hw hok => ?_)
  · rcases hj with hj | hj
    · exact .inl ⟨_, _, _, _, rfl, hj⟩
    · rcases hS.okRow _ j hj o _ 0 hx rfl rfl with ⟨_, _, _, _, h, _⟩ | ⟨_, _, h⟩ <;> cases h
  · obtain ⟨cs, t, h1, h2, ⟨h3, h3'⟩, h4, h5⟩ := hS.obj o _ hx
    refine ⟨cs, t, by rw [hρ, hw]; exact h1, by rw [hρ, h3, h3', h2]; omega, by rw [hρ, h3']; omega, by omega, ?_, h5, fun k hk => ?_⟩
    · rw [hρ, h3]
      exact Rvs_mono g _ _ _ _ (fun i y h => by rw [Nat.zero_add]; exact h) h4
    · cases hk
      refine ⟨Nat.le_refl _, fun j hj => ?_⟩
      rw [hρ]
      exact hok _ (.inl (Nat.add_lt_add_left hj _))
theorem freezeM {C : Ctx} (hS : St C) {o : Nat} {fz : Bool} {ks : List Int} {vs : List AVal} (hx : C.S[o]? = some (.mapo fz ks vs)) :
    ∃ ok', (∀ b j, C.ok b j → ok' b j) ∧ St ⟨C.ρ, C.S.set o (.mapo true ks vs), ok', C.w⟩ ∧ Ext C ⟨C.ρ, C.S.set o (.mapo true ks vs), ok', C.w⟩ := by
  refine freezeO hS hx rfl rfl (fun j => True) (fun j hj => .inr ⟨_, _, rfl⟩) (fun C' g hρ hw hok => ?_)
  obtain ⟨es, c, h1, h2, h3, h4, h5⟩ := hS.obj o _ hx
  exact ⟨es, c, by rw [hρ, hw]; exact h1, h2, h3, Rvs_mono g _ _ _ _ (fun _ _ h => h) h4, ⟨fun _ => by rw [hρ]; exact hok _ (.inl trivial), h5.2⟩⟩

/-- What marking leaves: the same places, the same world; objects below lo are as they were. -/
structure Marked (lo : Nat) (C C' : Ctx) : Prop where
  st : St C'
  ext : Ext C C'
  ρ : C'.ρ = C.ρ
  w : C'.w = C.w
  ok : ∀ b j, C.ok b j → C'.ok b j
  len : C'.S.length = C.S.length
  keep : ∀ q, q < lo → C'.S[q]? = C.S[q]?
theorem Marked.refl {lo : Nat} {C : Ctx} (h : St C) : Marked lo C C := ⟨h, Ext.refl C, rfl, rfl, fun _ _ h => h, rfl, fun _ _ => rfl⟩
theorem Marked.trans {lo : Nat} {A B C : Ctx} (h : Marked lo A B) (k : Marked lo B C) : Marked lo A C :=
  ⟨k.st, h.ext.trans k.ext, k.ρ.trans h.ρ, k.w.trans h.w, fun b j hb => k.ok b j (h.ok b j hb), k.len.trans h.len, fun q hq => (k.keep q hq).trans (h.keep q hq)⟩
theorem mark_ok (lo : Nat) : ∀ (n : Nat) (x : AVal) (C : Ctx), St C → ∃ C', Marked lo C C' ∧ C'.S = mark lo n C.S x := by
  have fold : ∀ n, (∀ (x : AVal) (C : Ctx), St C → ∃ C', Marked lo C C' ∧ C'.S = mark lo n C.S x) →
      ∀ (xs : List AVal) (C : Ctx), St C → ∃ C', Marked lo C C' ∧ C'.S = xs.foldl (mark lo n) C.S := by
    intro n ih xs
    induction xs with
    | nil => intro C hS; exact ⟨C, Marked.refl hS, rfl⟩
    | cons x xs ihx =>
      intro C hS
      obtain ⟨C1, h1, h2⟩ := ih x C hS
      obtain ⟨C2, k1, k2⟩ := ihx C1 h1.st
      exact ⟨C2, h1.trans k1, by rw [k2, h2]; rfl⟩
  intro n
  induction n with
  | zero => intro x C hS; exact ⟨C, Marked.refl hS, by simp [mark]⟩
  | succ n ih =>
    intro x C hS
    cases x with
    | agg xs => simpa only [mark] using fold n ih xs C hS
    | tup xs => simpa only [mark] using fold n ih xs C hS
    | fn f xs => simpa only [mark] using fold n ih xs C hS
    | row o ep sz off len =>
      simp only [mark]
      split
      · rename_i s e fz xs hx
        split
        · rename_i hlo
          obtain ⟨ok', h0, h1, h2⟩ := freeze1 hS hx
          obtain ⟨C2, k1, k2⟩ := fold n ih xs _ h1
          refine ⟨C2, Marked.trans ⟨h1, h2, rfl, rfl, h0, by simp, fun q hq => ?_⟩ k1, k2⟩
          simp only
          rw [List.getElem?_set, if_neg (by omega)]
        · exact ⟨C, Marked.refl hS, rfl⟩
      · exact ⟨C, Marked.refl hS, rfl⟩
    | ptr o ep off =>
      simp only [mark]
      split
      · rename_i s e fz xs hx
        split
        · rename_i hlo
          obtain ⟨ok', h0, h1, h2⟩ := freeze1 hS hx
          obtain ⟨C2, k1, k2⟩ := fold n ih xs _ h1
          refine ⟨C2, Marked.trans ⟨h1, h2, rfl, rfl, h0, by simp, fun q hq => ?_⟩ k1, k2⟩
          simp only
          rw [List.getElem?_set, if_neg (by omega)]
        · exact ⟨C, Marked.refl hS, rfl⟩
      · rename_i xs hx
        split
        · rename_i hlo
          obtain ⟨ok', h0, h1, h2⟩ := freezeB hS hx
          obtain ⟨C2, k1, k2⟩ := fold n ih xs _ h1
          refine ⟨C2, Marked.trans ⟨h1, h2, rfl, rfl, h0, by simp, fun q hq => ?_⟩ k1, k2⟩
          simp only
          rw [List.getElem?_set, if_neg (by omega)]
        · exact ⟨C, Marked.refl hS, rfl⟩
      · exact ⟨C, Marked.refl hS, rfl⟩
    | mp o =>
      simp only [mark]
      split
      · rename_i fz ks xs hx
        split
        · rename_i hlo
          obtain ⟨ok', h0, h1, h2⟩ := freezeM hS hx
          obtain ⟨C2, k1, k2⟩ := fold n ih xs _ h1
          refine ⟨C2, Marked.trans ⟨h1, h2, rfl, rfl, h0, by simp, fun q hq => ?_⟩ k1, k2⟩
          simp only
          rw [List.getElem?_set, if_neg (by omega)]
        · exact ⟨C, Marked.refl hS, rfl⟩
      · exact ⟨C, Marked.refl hS, rfl⟩
    | _ => exact ⟨C, Marked.refl hS, by simp [mark]⟩
theorem marks_ok (lo n : Nat) : ∀ (xs : List AVal) (C : Ctx), St C → ∃ C', Marked lo C C' ∧ C'.S = xs.foldl (mark lo n) C.S
  | [], C, hS => ⟨C, Marked.refl hS, rfl⟩
  | x :: xs, C, hS => by
    obtain ⟨C1, h1, h2⟩ := mark_ok lo n x C hS
    obtain ⟨C2, k1, k2⟩ := marks_ok lo n xs C1 h1.st
    exact ⟨C2, h1.trans k1, by rw [k2, h2]; rfl⟩

theorem peek_ok {C : Ctx} (hS : St C) : ∀ (n : Nat) (x : AVal) (p : PVal) (u : Value), peek C.S n x = some p → Rv C x u → Rp (sees C.ok C.w) p u := by
  have list : ∀ n, (∀ (x : AVal) (p : PVal) (u : Value), peek C.S n x = some p → Rv C x u → Rp (sees C.ok C.w) p u) →
      ∀ (xs : List AVal) (ps : List PVal) (f f' : Nat → Value → Prop) (i : Nat), mapO (peek C.S n) xs = some ps → (∀ j y, j < i + xs.length → f j y → f' j y) → Rvs C xs f i → Rps (sees C.ok C.w) ps f' i := by
    intro n ih xs
    induction xs with
    | nil => intro ps f f' i h _ _; simp only [mapO, Option.some.injEq] at h; subst h; simp [Rps]
    | cons x xs ihx =>
      intro ps f f' i h hf hr
      simp only [mapO] at h
      split at h
      · rename_i p qs h1 h2
        simp only [Option.some.injEq] at h
        subst h
        simp only [Rvs] at hr
        simp only [Rps]
        obtain ⟨⟨y, hy, hry⟩, hr2⟩ := hr
        exact ⟨⟨y, hf _ _ (by simp) hy, ih _ _ _ h1 hry⟩, ihx _ f f' (i + 1) h2 (fun j y hj => hf j y (by simp at hj ⊢; omega)) hr2⟩
      · cases h
  intro n
  induction n with
  | zero => intro x p u h; simp [peek] at h
  | succ n ih =>
    intro x p u h hr
    cases x with
    | v y => simp only [peek, Option.some.injEq] at h; subst h; simpa [Rp, Rv] using hr
    | agg xs =>
      simp only [peek, Option.map_eq_some_iff] at h
      obtain ⟨ps, h1, rfl⟩ := h
      simp only [Rv] at hr
      obtain ⟨cs, h2, h3, h4⟩ := hr
      simp only [Rp]
      exact ⟨cs, h2, by rw [h3, (mapO_get h1).1], list n ih xs ps _ _ 0 h1 (fun _ _ _ h => h) h4⟩
    | tup xs =>
      simp only [peek, Option.map_eq_some_iff] at h
      obtain ⟨ps, h1, rfl⟩ := h
      simp only [Rv] at hr
      obtain ⟨cs, h2, h3, h4⟩ := hr
      simp only [Rp]
      exact ⟨cs, h2, by rw [h3, (mapO_get h1).1], list n ih xs ps _ _ 0 h1 (fun _ _ _ h => h) h4⟩
    | list k xs => simp only [peek, Option.some.injEq] at h; subst h; simpa [Rp, Rv] using hr
    | clip => simp only [peek, Option.some.injEq] at h; subst h; simpa [Rp, Rv] using hr
    | fn f xs =>
      simp only [peek, Option.map_eq_some_iff] at h
      obtain ⟨ps, h1, rfl⟩ := h
      simp only [Rv] at hr
      obtain ⟨cs, h2, h3, h4⟩ := hr
      simp only [Rp]
      exact ⟨cs, h2, by rw [h3, (mapO_get h1).1], list n ih xs ps _ _ 0 h1 (fun _ _ _ h => h) h4⟩
    | row o ep sz off len =>
      simp only [peek] at h
      split at h
      · rename_i s e k xs hx
        split at h
        · rename_i hc
          obtain ⟨rfl, rfl, hk⟩ := hc
          simp only [Option.map_eq_some_iff] at h
          obtain ⟨ps, h1, rfl⟩ := h
          simp only [Rv] at hr
          obtain ⟨ad, c, rfl, hlc, ob, e0, k1, k2, k3, k4⟩ := hr
          rw [hx] at k1; cases k1
          simp only [AObj.ep?, Option.some.injEq] at k2
          subst k2
          obtain ⟨hkl, hko⟩ : k ≤ xs.length ∧ ∀ j, j < k → C.ok (C.ρ o).b ((C.ρ o).off + j) := by
            obtain ⟨cs, t, _, _, _, _, _, _, h7⟩ := hS.obj o _ hx
            exact h7 k rfl
          simp only [Rp]
          refine ⟨_, _, rfl, hlc, ?_⟩
          rcases k4 rfl with ⟨rfl, _⟩ | ⟨rfl, _⟩
          · refine list n ih _ ps _ _ 0 h1 (fun j y hj hy => ?_) (Rvs_take (Rvs_drop (row_cells hS hx) (off * s)) ((off + len - off) * s))
            refine ⟨_, rfl, ?_, ?_⟩
            · simp only [addr_add]
              have hj' : j < len * s := by
                simp only [cutA, List.length_take, List.length_drop, Nat.zero_add] at hj
                rw [show off + len - off = len by omega] at hj
                omega
              rw [Nat.add_mul] at hk
              have := hko (off * s + j) (by omega)
              rw [← Nat.add_assoc] at this
              exact this
            · simp only [addr_add] at hy ⊢
              rw [Nat.add_assoc]; exact hy
          · have hcut : cutA xs s off (off + 0) = [] := by simp [cutA]
            rw [hcut] at h1
            simp only [mapO, Option.some.injEq] at h1
            subst h1
            simp [Rps]
        · cases h
      · cases h
    | ptr o ep off =>
      simp only [peek] at h
      split at h
      · rename_i s e k xs hx
        split at h
        · rename_i hc
          obtain ⟨rfl, hk⟩ := hc
          simp only [Option.map_eq_some_iff] at h
          obtain ⟨ps, h1, rfl⟩ := h
          simp only [Rv] at hr
          obtain ⟨ad, rfl, ob, e0, k1, k2, k3, k4⟩ := hr
          rw [hx] at k1; cases k1
          simp only [AObj.ep?, Option.some.injEq] at k2
          subst k2
          obtain ⟨hkl, hko⟩ : k ≤ xs.length ∧ ∀ j, j < k → C.ok (C.ρ o).b ((C.ρ o).off + j) := by
            obtain ⟨cs, t, _, _, _, _, _, _, h7⟩ := hS.obj o _ hx
            exact h7 k rfl
          simp only [Rp]
          rw [k4 rfl]
          refine ⟨_, rfl, list n ih _ ps _ _ 0 h1 (fun j y hj hy => ⟨?_, ?_⟩) (Rvs_drop (row_cells hS hx) off)⟩
          · simp only [addr_add]
            simp only [List.length_drop, Nat.zero_add] at hj
            have := hko (off + j) (by omega)
            rw [← Nat.add_assoc] at this
            exact this
          · simp only [addr_add] at hy ⊢
            rw [Nat.add_assoc]; exact hy
        · cases h
      · cases h
    | mp o =>
      simp only [peek] at h
      split at h
      · rename_i ks vs hx
        simp only [Option.map_eq_some_iff] at h
        obtain ⟨ps, h1, rfl⟩ := h
        simp only [Rv] at hr
        obtain ⟨r, rfl, ob, e0, k1, k2, k3, k4⟩ := hr
        rw [hx] at k1; cases k1
        simp only [AObj.ep?, Option.some.injEq] at k2
        subst k2
        rw [k4 rfl]
        obtain ⟨es, c, h2, h3, h4, h5, h6⟩ := hS.obj o _ hx
        simp only [Rp]
        exact ⟨_, es, rfl, ⟨h6.1 rfl, c, h2⟩, h3, by rw [h4, (mapO_get h1).1], list n ih vs ps _ _ 0 h1 (fun _ _ _ h => h) h5⟩
      · cases h
    | eptr xs => simp only [peek, Option.some.injEq] at h; subst h; simpa [Rp, Rv] using hr
    | fmap ks vs => simp only [peek, Option.some.injEq] at h; subst h; simpa [Rp, Rv] using hr
    | yld o => simp [peek] at h
    | junk => simp only [peek, Option.some.injEq] at h; subst h; simp [Rp]
theorem peeks_ok {C : Ctx} (hS : St C) {n : Nat} : ∀ (xs : List AVal) (ps : List PVal) (f : Nat → Value → Prop) (i : Nat), mapO (peek C.S n) xs = some ps → Rvs C xs f i → Rps (sees C.ok C.w) ps f i
  | [], ps, f, i, h, _ => by simp only [mapO, Option.some.injEq] at h; subst h; simp [Rps]
  | x :: xs, ps, f, i, h, hr => by
    simp only [mapO] at h
    split at h
    · rename_i p qs h1 h2
      simp only [Option.some.injEq] at h
      subst h
      simp only [Rvs] at hr
      simp only [Rps]
      obtain ⟨⟨y, hy, hry⟩, hr2⟩ := hr
      exact ⟨⟨y, hy, peek_ok hS n _ _ _ h1 hry⟩, peeks_ok hS xs qs f (i + 1) h2 hr2⟩
    · cases h

/-! ## slices in a slice -/
section
variable {P : Program} {o : Oper} {a : Act} {C : Ctx} {T : List AVal} {slot : Nat} {x : AVal} {e : Eff}
theorem applyEff_append : ∀ (e e' : Eff) (S : List AObj), applyEff S (e ++ e') = applyEff (applyEff S e) e'
  | [], e', S => rfl
  | (q, y) :: e, e', S => applyEff_append e e' _
theorem frzE_ok : ∀ (xs : List AVal) (C : Ctx), St C → ∃ C', St C' ∧ Ext C C' ∧ C'.w = C.w ∧ C'.S = applyEff C.S (frzE C.S xs) ∧ C'.S.length = C.S.length ∧ ∀ q : Nat, C.S[q]? = some .free → C'.S[q]? = some .free
  | [], C, hS => ⟨C, hS, Ext.refl C, rfl, rfl, rfl, fun _ h => h⟩
  | x :: xs, C, hS => by
    have skip : frzE C.S (x :: xs) = frzE C.S xs → ∃ C', St C' ∧ Ext C C' ∧ C'.w = C.w ∧ C'.S = applyEff C.S (frzE C.S (x :: xs)) ∧ C'.S.length = C.S.length ∧ ∀ q : Nat, C.S[q]? = some .free → C'.S[q]? = some .free := fun h => by
      rw [h]
      exact frzE_ok xs C hS
    cases x with
    | row o ep sz off len =>
      cases hx : C.S[o]? with
      | none => exact skip (by simp only [frzE, hx])
      | some y =>
        cases y with
        | row s e fz cs =>
          obtain ⟨ok', h0, h1, h2⟩ := freeze1 hS hx
          obtain ⟨C2, k1, k2, k3, k4, k5, k6⟩ := frzE_ok xs ⟨C.ρ, C.S.set o (.row s e (some cs.length) cs), ok', C.w⟩ h1
          have hl : o < C.S.length := (List.getElem?_eq_some_iff.1 hx).1
          refine ⟨C2, k1, h2.trans k2, k3, ?_, by rw [k5]; simp, fun q hq => k6 q ?_⟩
          · simp only [frzE, hx, applyEff, setObj, if_pos hl]
            exact k4
          · simp only
            rw [List.getElem?_set]
            by_cases hqo : o = q
            · subst hqo
              rw [hx] at hq
              cases hq
            · rw [if_neg hqo]
              exact hq
        | _ => exact skip (by simp only [frzE, hx])
    | _ => exact skip (by simp only [frzE])
theorem frz1_ok (hS : St C) (x : AVal) (u : Value) (y : AVal) (hy : frz1 C.S x = some y) (h : Rv C x u) : Rv C y u := by
  unfold frz1 at hy
  split at hy
  · rename_i o ep sz off len
    rw [Option.map_eq_some_iff] at hy
    obtain ⟨p, hp, rfl⟩ := hy
    exact (Rv_up _ _).2 (peek_ok hS deep _ p u hp h)
  · cases hy
    exact h
theorem frz1s_ok (hS : St C) : ∀ (xs ys : List AVal) (f : Nat → Value → Prop) (i : Nat), mapO (frz1 C.S) xs = some ys → Rvs C xs f i → Rvs C ys f i
  | [], ys, f, i, h, _ => by simp only [mapO, Option.some.injEq] at h; subst h; simp [Rvs]
  | x :: xs, ys, f, i, h, hr => by
    simp only [mapO] at h
    split at h
    · rename_i p qs h1 h2
      simp only [Option.some.injEq] at h
      subst h
      simp only [Rvs] at hr ⊢
      obtain ⟨⟨y, hy, hry⟩, hr2⟩ := hr
      exact ⟨⟨y, hy, frz1_ok hS _ _ _ h1 hry⟩, frz1s_ok hS xs qs f (i + 1) h2 hr2⟩
    · cases h
theorem frzO_ok (hS : St C) (x : AVal) (u : Value) (h : Rv C x u) : Rv C ((frzO C.S x).getD x) u := by
  cases hy : frzO C.S x with
  | none => exact h
  | some y =>
    simp only [Option.getD_some]
    unfold frzO at hy
    split at hy
    · rename_i xs
      rw [Option.map_eq_some_iff] at hy
      obtain ⟨ys, h1, rfl⟩ := hy
      simp only [Rv] at h ⊢
      obtain ⟨cs, k1, k2, k3⟩ := h
      exact ⟨cs, k1, by rw [k2, (mapO_get h1).1], frz1s_ok hS _ _ _ _ h1 k3⟩
    · exact frz1_ok hS x u y hy h
theorem frz_map {S : List AObj} : ∀ {L vs : List (Nat × AVal)}, mapO (fun (p : Nat × AVal) => (frzO S p.2).map fun z => (p.1, z)) L = some vs → vs = L.map fun p => (p.1, (frzO S p.2).getD p.2)
  | [], vs, h => by simp only [mapO, Option.some.injEq] at h; exact h.symm
  | p :: L, vs, h => by
    simp only [mapO] at h
    cases h1 : frzO S p.2 with
    | none => rw [h1] at h; cases h
    | some z =>
      rw [h1] at h
      cases h2 : mapO (fun (p : Nat × AVal) => (frzO S p.2).map fun z => (p.1, z)) L with
      | none => rw [h2] at h; cases h
      | some ws =>
        rw [h2] at h
        simp only [Option.map_some, Option.some.injEq] at h
        subst h
        rw [frz_map h2, List.map_cons, h1]
        rfl
theorem op_buildSlice {t : TypeId} {n : Nat} {parts : Array (Nat × Operand)} (hS : St C) (hT : RT C T a.tmps) (hslot : slot = C.S.length ∨ C.S[slot]? = some .free) (ho : o.op = .buildSlice t n parts)
    (h : evalOp P T C.S slot o = some (x, e)) : OpOk P o a C x (applyEff C.S e) := by
  simp only [evalOp, ho] at h
  unfold buildSliceA at h
  cases hb : ((parts.toList.map fun p => (p.1, opd T p.2)).any fun p => hasRow p.2) with
  | false =>
    rw [hb, cond_false] at h
    exact op_buildSlice0 (g := fun y => y) hS (fun y => opd_rel hT y) hslot ho h
  | true =>
    rw [hb, cond_true] at h
    generalize hrs : ((parts.toList.map fun p => (p.1, opd T p.2)).flatMap fun p => p.2.cells) = rs at *
    cases ht : rs.all (thereB C.S) with
    | false => rw [ht] at h; cases h
    | true =>
      rw [ht, cond_true] at h
      obtain ⟨C1, k1, k2, k3, k4, k5, k6⟩ := frzE_ok rs C hS
      rw [← k4] at h
      split at h
      · rename_i vs hvs
        rw [Option.map_eq_some_iff] at h
        obtain ⟨⟨r1, r2⟩, h1, h2⟩ := h
        rw [Prod.mk.injEq] at h2
        obtain ⟨rfl, rfl⟩ := h2
        have hT1 : RT C1 T a.tmps := RT.mono k2.grows hT
        rw [frz_map hvs, List.map_map] at h1
        obtain ⟨nx, u, C2, m1, m2, m3, m4, m5, m6⟩ := op_buildSlice0 (C := C1) (g := fun y => (frzO C1.S y).getD y) k1 (fun y => frzO_ok k1 _ _ (opd_rel hT1 y)) (hslot.elim (fun h => .inl (by rw [h, k5])) fun h => .inr (k6 _ h)) ho h1
        refine ⟨nx, u, C2, by rw [← k3]; exact m1, m2, ?_, m4, k2.trans m5, m6⟩
        rw [m3, applyEff_append, ← k4]
      · cases h
end
end Go.Proofs.YtkkgimhbliocoaaGreat.Vm
