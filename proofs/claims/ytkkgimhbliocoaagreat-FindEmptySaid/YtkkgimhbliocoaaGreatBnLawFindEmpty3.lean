/- Texts put together: VmMap, VmOps6. What is proved stands at the head of each part. -/
import Derived.Test.YtkkgimhbliocoaaGreatBnLawFindEmpty2
import Derived.MapKept
/- Maps whose keys are numbers: each operation of the abstract machine is the model's. -/
namespace Go.Proofs.YtkkgimhbliocoaaGreat.Vm
open Go Go.RowKit
set_option linter.unusedVariables false
set_option linter.unusedSimpArgs false
set_option linter.unnecessarySimpa false

variable {P : Program} {o : Oper} {a : Act} {C : Ctx} {T : List AVal} {slot : Nat} {x : AVal} {e : Eff}

/-- A map's entries, as a list. -/
def EntsL (C : Ctx) : List Int → List AVal → List MapEntry → Prop
  | [], [], [] => True
  | k :: ks, v :: vs, e :: es => (e.key = .int .i64 k ∧ Rv C v e.val) ∧ EntsL C ks vs es
  | _, _, _ => False
theorem entsL_of {C : Ctx} : ∀ (ks : List Int) (vs : List AVal) (L : List MapEntry), L.length = ks.length → L.length = vs.length → (∀ (j : Nat) (k : Int), ks[j]? = some k → ∃ e, L[j]? = some e ∧ e.key = .int .i64 k) →
    (∀ (j : Nat) (v : AVal), vs[j]? = some v → ∃ e, L[j]? = some e ∧ Rv C v e.val) → EntsL C ks vs L
  | [], [], [], _, _, _, _ => trivial
  | k :: ks, v :: vs, e :: es, h1, h2, h3, h4 => by
    obtain ⟨e1, k1, k2⟩ := h3 0 k rfl
    obtain ⟨e2, k3, k4⟩ := h4 0 v rfl
    simp only [List.getElem?_cons_zero, Option.some.injEq] at k1 k3
    subst k1 k3
    exact ⟨⟨k2, k4⟩, entsL_of ks vs es (by simpa using h1) (by simpa using h2) (fun j k hj => by simpa using h3 (j + 1) k (by simpa using hj)) (fun j v hj => by simpa using h4 (j + 1) v (by simpa using hj))⟩
  | [], _ :: _, [], _, h2, _, _ => by simp at h2
  | _, [], _ :: _, _, h2, _, _ => by simp at h2
  | [], _, _ :: _, h1, _, _, _ => by simp at h1
  | _ :: _, _, [], h1, _, _, _ => by simp at h1
theorem entsL_len {C : Ctx} : ∀ {ks : List Int} {vs : List AVal} {L : List MapEntry}, EntsL C ks vs L → L.length = ks.length ∧ L.length = vs.length
  | [], [], [], _ => ⟨rfl, rfl⟩
  | k :: ks, v :: vs, e :: es, h => by
    obtain ⟨h1, h2⟩ := entsL_len h.2
    exact ⟨by simp [h1], by simp [h2]⟩
theorem entsL_key {C : Ctx} : ∀ {ks : List Int} {vs : List AVal} {L : List MapEntry}, EntsL C ks vs L → ∀ (j : Nat) (k : Int), ks[j]? = some k → ∃ e, L[j]? = some e ∧ e.key = .int .i64 k
  | [], [], [], _, j, k, hj => by simp at hj
  | k0 :: ks, v :: vs, e :: es, h, 0, k, hj => by
    simp only [List.getElem?_cons_zero, Option.some.injEq] at hj
    subst hj
    exact ⟨e, rfl, h.1.1⟩
  | k0 :: ks, v :: vs, e :: es, h, j + 1, k, hj => by
    obtain ⟨e', h1, h2⟩ := entsL_key h.2 j k (by simpa using hj)
    exact ⟨e', by simpa using h1, h2⟩
theorem entsL_val {C : Ctx} : ∀ {ks : List Int} {vs : List AVal} {L : List MapEntry}, EntsL C ks vs L → ∀ (j : Nat) (v : AVal), vs[j]? = some v → ∃ e, L[j]? = some e ∧ Rv C v e.val
  | [], [], [], _, j, k, hj => by simp at hj
  | k0 :: ks, v :: vs, e :: es, h, 0, k, hj => by
    simp only [List.getElem?_cons_zero, Option.some.injEq] at hj
    subst hj
    exact ⟨e, rfl, h.1.2⟩
  | k0 :: ks, v :: vs, e :: es, h, j + 1, k, hj => by
    obtain ⟨e', h1, h2⟩ := entsL_val h.2 j k (by simpa using hj)
    exact ⟨e', by simpa using h1, h2⟩
theorem ents_to {C : Ctx} {es : Array MapEntry} {ks : List Int} {vs : List AVal} (h1 : EntK es ks) (h2 : es.size = vs.length) (h3 : Rvs C vs (fun i y => EntV es i y) 0) : EntsL C ks vs es.toList := by
  refine entsL_of ks vs es.toList (by simpa using h1.1) (by simpa using h2) (fun j k hj => ?_) (fun j v hj => ?_)
  · obtain ⟨e, k1, k2⟩ := h1.2 j k hj
    exact ⟨e, by simpa using k1, k2⟩
  · obtain ⟨y, ⟨e, k1, rfl⟩, k2⟩ := Rvs_get h3 j v hj
    exact ⟨e, by simpa using k1, k2⟩
theorem ents_from {C : Ctx} {L : List MapEntry} {ks : List Int} {vs : List AVal} (h : EntsL C ks vs L) : EntK L.toArray ks ∧ L.toArray.size = vs.length ∧ Rvs C vs (fun i y => EntV L.toArray i y) 0 := by
  obtain ⟨h1, h2⟩ := entsL_len h
  refine ⟨⟨by simpa using h1, fun i k hk => ?_⟩, by simpa using h2, Rvs_mk fun j v hv => ?_⟩
  · obtain ⟨e, k1, k2⟩ := entsL_key h i k hk
    exact ⟨e, by simpa using k1, k2⟩
  · obtain ⟨e, k1, k2⟩ := entsL_val h j v hv
    exact ⟨e.val, ⟨e, by simpa using k1, rfl⟩, k2⟩
theorem find_rel {C : Ctx} {ik : IntKind} {n : Int} : ∀ {ks : List Int} {vs : List AVal} {L : List MapEntry} (i : Nat), EntsL C ks vs L →
    match getK n ks vs with
    | some v => ∃ (j : Nat) (e : MapEntry), Instr.findNow (.int ik) (.int .i64 n) L i = some (some (i + j, e.val)) ∧ Rv C v e.val
    | none => Instr.findNow (.int ik) (.int .i64 n) L i = some none
  | [], [], [], i, _ => rfl
  | k :: ks, v :: vs, e :: es, i, h => by
    have ih := find_rel (ik := ik) (n := n) (i + 1) h.2
    have hs : Instr.sameNow (.int ik) (.int .i64 n) e.key = some (n == k) := by
      rw [h.1.1]
      simp [Instr.sameNow]
    cases hb : n == k with
    | true =>
      rw [hb] at hs
      simp only [getK, hb, cond_true]
      exact ⟨0, e, by simp only [Instr.findNow, hs, Nat.add_zero], h.1.2⟩
    | false =>
      rw [hb] at hs
      simp only [getK, hb, cond_false, Instr.findNow, hs]
      split
      · rename_i w hw
        rw [hw] at ih
        obtain ⟨j, e', k1, k2⟩ := ih
        exact ⟨j + 1, e', by rw [k1]; congr 3; omega, k2⟩
      · rename_i hw
        rw [hw] at ih
        exact ih
theorem upd_rel {C : Ctx} {ik : IntKind} {n : Int} {y : AVal} {u : Value} {born : Nat} (hu : Rv C y u) : ∀ {ks : List Int} {vs : List AVal} {L : List MapEntry} (i : Nat), EntsL C ks vs L →
    (∃ (j : Nat) (e : MapEntry), Instr.findNow (.int ik) (.int .i64 n) L i = some (some (i + j, e.val)) ∧ L[j]? = some e ∧ e.key = .int .i64 n ∧ EntsL C (setKs n ks) (setVs n y ks vs) (L.set j { e with key := .int .i64 n, val := u })) ∨
    (Instr.findNow (.int ik) (.int .i64 n) L i = some none ∧ EntsL C (setKs n ks) (setVs n y ks vs) (L ++ [{ key := .int .i64 n, val := u, born := born }]))
  | [], [], [], i, _ => .inr ⟨rfl, ⟨rfl, hu⟩, trivial⟩
  | k :: ks, v :: vs, e :: es, i, h => by
    have ih := upd_rel (ik := ik) (n := n) (born := born) hu (i + 1) h.2
    have hs : Instr.sameNow (.int ik) (.int .i64 n) e.key = some (n == k) := by
      rw [h.1.1]
      simp [Instr.sameNow]
    cases hb : n == k with
    | true =>
      rw [hb] at hs
      have hk : n = k := by simpa using hb
      refine .inl ⟨0, e, by simp only [Instr.findNow, hs, Nat.add_zero], rfl, by rw [h.1.1, hk], ?_⟩
      simp only [setKs, setVs, hb, cond_true, List.set_cons_zero]
      exact ⟨⟨by rw [hk], hu⟩, h.2⟩
    | false =>
      rw [hb] at hs
      simp only [setKs, setVs, hb, cond_false, Instr.findNow, hs]
      rcases ih with ⟨j, e', k1, k2, k3, k4⟩ | ⟨k1, k2⟩
      · refine .inl ⟨j + 1, e', by rw [k1]; congr 3; omega, by simpa using k2, k3, ?_⟩
        simp only [List.set_cons_succ]
        exact ⟨h.1, k4⟩
      · exact .inr ⟨k1, h.1, k2⟩
theorem mapT_some {t : TypeId} {z : AVal} (h : mapT P t = some z) : ∃ kt et i zv, P.underlying t = some (.map kt et) ∧ P.underlying kt = some (.int .i64) ∧ P.info? et = some i ∧ i.zero = some zv ∧ z = constA zv := by
  unfold mapT at h
  split at h
  · rename_i kt et ht
    split at h
    · rename_i hk
      unfold zeroV at h
      simp only [Option.bind_eq_some_iff, Option.map_eq_some_iff] at h
      obtain ⟨i, hi, zv, hz, rfl⟩ := h
      exact ⟨kt, et, i, zv, ht, hk, hi, hz, rfl⟩
    · cases h
  · cases h
theorem run_und {t : TypeId} {d : TypeDesc} (h : P.underlying t = some d) (w : World) : (underlying t).run P w = .ok d w := by
  simp [underlying, h]
/-- What a map holds. -/
theorem mapA_ok {m : AVal} {u : Value} {kv : List Int × List AVal} (hS : St C) (h : mapA C.S m = some kv) (hr : Rv C m u) :
    (u = .map none ∧ kv = ([], [])) ∨ ∃ r es c, u = .map (some r) ∧ C.w.heap[r]? = some (.map es c) ∧ EntsL C kv.1 kv.2 es.toList := by
  unfold mapA at h
  split at h
  · rename_i q
    split at h
    · rename_i fz ks vs hq
      simp only [Option.some.injEq] at h
      subst h
      simp only [Rv] at hr
      obtain ⟨r, rfl, ob, e0, k1, k2, k3, k4⟩ := hr
      rw [hq] at k1; cases k1
      simp only [AObj.ep?, Option.some.injEq] at k2
      subst k2
      obtain ⟨es, c, h1, h2, h3, h4, _⟩ := hS.obj q _ hq
      exact .inr ⟨r, es, c, rfl, by rw [k4 rfl]; exact h1, ents_to h2 h3 h4⟩
    · cases h
  · rename_i ks vs
    simp only [Option.some.injEq] at h
    subst h
    simp only [Rv] at hr
    obtain ⟨r, es, rfl, ⟨_, c, h1⟩, h2, h3, h4⟩ := hr
    exact .inr ⟨r, es, c, rfl, h1, ents_to h2 (by simpa using h3) ((Rvs_up vs _ 0).2 h4)⟩
  · simp only [Option.some.injEq] at h
    subst h
    simp only [Rv] at hr
    exact .inl ⟨hr, rfl⟩
  · cases h
theorem op_lookup {t : TypeId} {m k : Operand} {ok : Bool} (hS : St C) (hT : RT C T a.tmps) (ho : o.op = .lookup t m k ok)
    (h : evalOp P T C.S slot o = some (x, e)) : OpOk P o a C x (applyEff C.S e) := by
  simp only [evalOp, ho] at h
  split at h
  · rename_i z n kv hz hk hm
    simp only [Option.some.injEq, Prod.mk.injEq] at h
    obtain ⟨rfl, rfl⟩ := h
    obtain ⟨kt, et, i, zv, ht, hkt, hi, hzv, rfl⟩ := mapT_some hz
    have hkr := opd_rel hT k
    rw [hk] at hkr
    simp only [Rv] at hkr
    have hck : ∀ b, (Instr.checkKey b 10000 kt (.int .i64 n)).run P C.w = .ok () C.w := fun b => MapKept.run_checkKey (d := .int .i64) (k := .int .i64 n) hkt rfl b 9999
    have hzr : (zeroValue et).run P C.w = .ok zv C.w := run_zero hi hzv C.w
    have hzc := constA_rel C zv
    have fin : ∀ (L : List MapEntry), EntsL C kv.1 kv.2 L → ∃ r : Option (Nat × Value), Instr.findNow (.int .i64) (.int .i64 n) L 0 = some r ∧ (match r with
        | some (_, v) => ∃ v', getK n kv.1 kv.2 = some v' ∧ Rv C v' v
        | none => getK n kv.1 kv.2 = none) := by
      intro L hL
      have := find_rel (ik := .i64) (n := n) 0 hL
      split at this
      · rename_i v' hv
        obtain ⟨j, e, h1, h2⟩ := this
        exact ⟨_, h1, v', hv, h2⟩
      · rename_i hv
        exact ⟨_, this, hv⟩
    have out : ∀ (L : List MapEntry) (r : Option (Nat × Value)), (match r with
        | some (_, v) => ∃ v', getK n kv.1 kv.2 = some v' ∧ Rv C v' v
        | none => getK n kv.1 kv.2 = none) → Rv C (lookA (constA zv) n ok kv) (if ok then .tuple (match r with | some (_, v) => #[v, .bool true] | none => #[zv, .bool false]) else (match r with | some (_, v) => v | none => zv)) := by
      intro L r hr
      have two : ∀ (p : AVal) (v : Value) (b : Bool), Rv C p v → Rv C (.tup [p, .v (.bool b)]) (.tuple #[v, .bool b]) := fun p v b h => by
        simp only [Rv]
        exact ⟨_, rfl, rfl, ⟨_, rfl, h⟩, ⟨_, rfl, rfl⟩, trivial⟩
      unfold lookA
      cases r with
      | some q =>
        obtain ⟨v', h1, h2⟩ := hr
        rw [h1]
        cases ok
        · exact h2
        · exact two _ _ _ h2
      | none =>
        have hr : getK n kv.1 kv.2 = none := hr
        rw [hr]
        cases ok
        · exact hzc
        · exact two _ _ _ hzc
    rcases mapA_ok hS hm (opd_rel hT m) with ⟨hu, hkv⟩ | ⟨r, es, c, hu, hh, hL⟩
    · obtain ⟨q, h1, h2⟩ := fin [] (by rw [hkv]; trivial)
      have h3 := out [] q h2
      refine OpOk.of_run hS rfl (s := Instr.lookup t (a.eval m) (a.eval k) ok) (by simp [execOp, ho]) ?_ h3
      have hf := MapKept.run_findKey (P := P) (w := C.w) (kt := kt) hkt h1
      simp only [Instr.lookup, Sem.run_bind, run_und ht, Result.andThen_ok, hu, hkr, Sem.run_pure]
      rw [hck, Result.andThen_ok, hf, Result.andThen_ok]
      cases q with
      | some q => cases ok <;> simp
      | none => cases ok <;> simp [hzr]
    · obtain ⟨q, h1, h2⟩ := fin es.toList hL
      have h3 := out es.toList q h2
      refine OpOk.of_run hS rfl (s := Instr.lookup t (a.eval m) (a.eval k) ok) (by simp [execOp, ho]) ?_ h3
      have hf := MapKept.run_findKey (P := P) (w := C.w) (kt := kt) hkt h1
      simp only [Instr.lookup, Sem.run_bind, run_und ht, Result.andThen_ok, hu, hkr, MapKept.run_getObj_map hh, Sem.run_pure]
      rw [hck, Result.andThen_ok, hf, Result.andThen_ok]
      cases q with
      | some q => cases ok <;> simp
      | none => cases ok <;> simp [hzr]
  · cases h
theorem op_makeMap {t : TypeId} {r : Option Operand} (hS : St C) (hT : RT C T a.tmps) (hslot : slot = C.S.length ∨ C.S[slot]? = some .free) (ho : o.op = .makeMap t r)
    (h : evalOp P T C.S slot o = some (x, e)) : OpOk P o a C x (applyEff C.S e) := by
  simp only [evalOp, ho] at h
  split at h
  · rename_i z hz
    split at h
    · rename_i hres
      simp only [Option.some.injEq, Prod.mk.injEq] at h
      obtain ⟨rfl, rfl⟩ := h
      obtain ⟨kt, et, i, zv, ht, hkt, hi, hzv, rfl⟩ := mapT_some hz
      have hle : slot ≤ C.S.length := by
        rcases hslot with rfl | h
        · exact Nat.le_refl _
        · exact Nat.le_of_lt (List.getElem?_eq_some_iff.1 h).1
      obtain ⟨ρ', h2, h3, h4⟩ := madeO hS slot hslot (.map #[] 0) (.mapo false [] []) 0 0 rfl C.w rfl rfl rfl rfl (fun C' g hw hρ hok' => by
        refine ⟨#[], 0, ?_, ⟨rfl, fun i k hk => by simp at hk⟩, rfl, by simp [Rvs], (fun h => by cases h), rfl, fun i e he => by simp at he⟩
        rw [hρ, hw]; exact heap_alloc_new C.w _)
      have hrun : (Instr.makeMap t (r.map a.eval)).run P C.w = .ok (.map (some C.w.heap.size)) (C.w.alloc (.map #[] 0)) := by
        unfold reserveA at hres
        split at hres
        · rfl
        · rename_i y
          split at hres
          · rename_i kd v hv
            have hy := opd_rel hT y
            rw [hv] at hy
            simp only [Rv] at hy
            simp [Instr.makeMap, hy, run_und ht, asInt]
            rfl
          · cases hres
      refine ⟨.value (.map (some C.w.heap.size)), _, ⟨ρ', setObj C.S slot (.mapo false [] []), C.ok, C.w.alloc (.map #[] 0)⟩, ?_, rfl, rfl, h2, h3, ?_⟩
      · simp [execOp, ho, hrun]
      · simp only [Rv]
        refine ⟨_, rfl, .mapo false [] [], 0, setObj_get_same _ _ _ hle, rfl, Nat.le_refl _, fun _ => ?_⟩
        simp [h4]
    · cases h
  · cases h
theorem born_set {es : Array MapEntry} {c j : Nat} {en en' : MapEntry} (h : BornOk es c) (hj : es.toList[j]? = some en) (hb : en'.born = en.born) : BornOk (es.toList.set j en').toArray c := by
  refine ⟨by simpa using h.1, fun i e he => ?_⟩
  have he' : (es.toList.set j en')[i]? = some e := by simpa using he
  rw [List.getElem?_set] at he'
  split at he'
  · rename_i hji
    subst hji
    split at he'
    · simp only [Option.some.injEq] at he'
      subst he'
      rw [hb]
      exact h.2 j en (by simpa using hj)
    · cases he'
  · exact h.2 i e (by simpa using he')
theorem born_push {es : Array MapEntry} {c : Nat} {en : MapEntry} (h : BornOk es c) (hb : en.born = c) : BornOk (es.toList ++ [en]).toArray (c + 1) := by
  refine ⟨by simp [h.1], fun i e he => ?_⟩
  have he' : (es.toList ++ [en])[i]? = some e := by simpa using he
  rcases Nat.lt_or_ge i es.toList.length with hi | hi
  · rw [List.getElem?_append_left hi] at he'
    exact h.2 i e (by simpa using he')
  · rw [List.getElem?_append_right hi] at he'
    have h0 : i - es.toList.length = 0 := by
      rcases Nat.eq_zero_or_pos (i - es.toList.length) with h0 | h0
      · exact h0
      · rw [List.getElem?_eq_none (by show [en].length ≤ _; simp only [List.length_cons, List.length_nil]; omega)] at he'; cases he'
    rw [h0] at he'
    simp only [List.getElem?_cons_zero, Option.some.injEq] at he'
    subst he'
    rw [hb, h.1]
    simp at hi h0
    omega
theorem update_ok {t : TypeId} {m k y : AVal} {um uk uy : Value} (hS : St C) (h : updateA P C.S t m k y = some e) (hm : Rv C m um) (hk : Rv C k uk) (hy : Rv C y uy) :
    ∃ C', (Instr.mapUpdate t um uk uy).run P C.w = .ok () C'.w ∧ C'.S = applyEff C.S e ∧ St C' ∧ Ext C C' := by
  unfold updateA at h
  split at h
  · rename_i z q n hz
    split at h
    · rename_i ks vs hq
      simp only [Option.some.injEq] at h
      subst h
      obtain ⟨kt, et, i, zv, ht, hkt, hi, hzv, rfl⟩ := mapT_some hz
      simp only [Rv] at hm hk
      subst hk
      obtain ⟨r, rfl, ob, e0, k1, k2, k3, k4⟩ := hm
      rw [hq] at k1; cases k1
      simp only [AObj.ep?, Option.some.injEq] at k2
      subst k2
      rw [k4 rfl]
      obtain ⟨es, c, h1, h2, h3, h4, _, hbc, hbe⟩ := hS.obj q _ hq
      have hL := ents_to h2 h3 h4
      have hck : ∀ b, (Instr.checkKey b 10000 kt (.int .i64 n)).run P C.w = .ok () C.w := fun b => MapKept.run_checkKey (d := .int .i64) (k := .int .i64 n) hkt rfl b 9999
      rcases upd_rel (ik := .i64) (n := n) (born := c) hy 0 hL with ⟨j, en, f1, f2, f3, f4⟩ | ⟨f1, f2⟩
      · rw [Nat.zero_add] at f1
        have hf := MapKept.run_findKey (P := P) (w := C.w) (kt := kt) hkt f1
        have hes : es[j]? = some en := by simpa using f2
        obtain ⟨g1, g2, g3⟩ := ents_from f4
        obtain ⟨s1, s2⟩ := turnedM hS q ks (setKs n ks) vs (setVs n y ks vs) hq (es.toList.set j { en with key := .int .i64 n, val := uy }).toArray c { C.w with heap := C.w.heap.setIfInBounds (C.ρ q).b (.map (es.toList.set j { en with key := .int .i64 n, val := uy }).toArray c) } rfl rfl rfl rfl (born_set ⟨hbc, hbe⟩ f2 rfl) g1 g2 (fun C' g => Rvs_mono g _ _ _ _ (fun _ _ h => h) g3)
        refine ⟨_, ?_, ?_, s1, s2⟩
        · have hmod : es.modify j (fun e => { e with key := .int .i64 n, val := uy }) = (es.toList.set j { en with key := .int .i64 n, val := uy }).toArray := by
            apply Array.ext_getElem?
            intro p
            have e2 : (es.toList.set j { en with key := .int .i64 n, val := uy }).toArray[p]? = (es.toList.set j { en with key := .int .i64 n, val := uy })[p]? := by simp
            rw [e2, Array.getElem?_modify, List.getElem?_set]
            by_cases hp : j = p
            · subst hp
              rw [if_pos rfl, if_pos rfl, hes, if_pos (List.getElem?_eq_some_iff.1 f2).1]
              rfl
            · rw [if_neg hp, if_neg hp, Array.getElem?_toList]
          have hkey : ((es[j]?).map (·.key)).getD (.int .i64 n) = .int .i64 n := by rw [hes]; exact f3
          have hst : (Instr.keyThatStays (.int .i64 n) (.int .i64 n)).run P C.w = .ok (.int .i64 n) C.w := by simp [Instr.keyThatStays, Instr.sameBits]
          simp only [Instr.mapUpdate, Sem.run_bind, run_und ht, Result.andThen_ok, MapKept.run_getObj_map h1]
          rw [hck, Result.andThen_ok, hf, Result.andThen_ok]
          simp only [Sem.run_bind, hkey]
          rw [hst, Result.andThen_ok, MapKept.run_setObj_map _ h1, hmod]
        · rw [applyEff_one, setObj_lt hq]
      · have hf := MapKept.run_findKey (P := P) (w := C.w) (kt := kt) hkt f1
        obtain ⟨g1, g2, g3⟩ := ents_from f2
        obtain ⟨s1, s2⟩ := turnedM hS q ks (setKs n ks) vs (setVs n y ks vs) hq (es.toList ++ [({ key := .int .i64 n, val := uy, born := c } : MapEntry)]).toArray (c + 1) { C.w with heap := C.w.heap.setIfInBounds (C.ρ q).b (.map (es.toList ++ [({ key := .int .i64 n, val := uy, born := c } : MapEntry)]).toArray (c + 1)) } rfl rfl rfl rfl (born_push ⟨hbc, hbe⟩ rfl) g1 g2 (fun C' g => Rvs_mono g _ _ _ _ (fun _ _ h => h) g3)
        refine ⟨_, ?_, ?_, s1, s2⟩
        · have hpush : es.push { key := .int .i64 n, val := uy, born := c } = (es.toList ++ [({ key := .int .i64 n, val := uy, born := c } : MapEntry)]).toArray := by
            apply Array.ext'
            simp
          simp only [Instr.mapUpdate, Sem.run_bind, run_und ht, Result.andThen_ok, MapKept.run_getObj_map h1]
          rw [hck, Result.andThen_ok, hf, Result.andThen_ok]
          rw [MapKept.run_setObj_map _ h1, hpush]
        · rw [applyEff_one, setObj_lt hq]
    · cases h
  · cases h
theorem op_mapUpdate {t : TypeId} {m k y : Operand} (hS : St C) (hT : RT C T a.tmps) (ho : o.op = .mapUpdate t m k y ∨ o.op = .insert t m k y)
    (h : evalOp P T C.S slot o = some (x, e)) : OpOk P o a C x (applyEff C.S e) := by
  have h' : (updateA P C.S t (opd T m) (opd T k) (opd T y)).map (fun e => ((.v undef, e) : AVal × Eff)) = some (x, e) := by
    rcases ho with ho | ho <;> simpa only [evalOp, ho] using h
  simp only [Option.map_eq_some_iff, Prod.mk.injEq] at h'
  obtain ⟨e', h1, rfl, rfl⟩ := h'
  obtain ⟨C', k1, k2, k3, k4⟩ := update_ok hS h1 (opd_rel hT m) (opd_rel hT k) (opd_rel hT y)
  refine ⟨.skip, undef, C', ?_, rfl, k2, k3, k4, by simp [Rv]⟩
  rcases ho with ho | ho <;> simp [execOp, ho, k1]
end Go.Proofs.YtkkgimhbliocoaaGreat.Vm
/- Each operation of the abstract machine is the model's: builtins, and all operations together. -/
namespace Go.Proofs.YtkkgimhbliocoaaGreat.Vm
open Go Go.RowKit
set_option linter.unusedVariables false
set_option linter.unusedSimpArgs false
set_option linter.unnecessarySimpa false

variable {P : Program} {o : Oper} {a : Act} {C : Ctx} {T : List AVal} {slot : Nat} {x : AVal} {e : Eff}

theorem args_two {args : Array Operand} {s y : AVal} (h : args.toList.map (opd T) = [s, y]) : ∃ p q, args = #[p, q] ∧ opd T p = s ∧ opd T q = y := by
  obtain ⟨l⟩ := args
  match l, h with
  | [p, q], h => simp only [List.map_cons, List.map_nil, List.cons.injEq, and_true] at h; exact ⟨p, q, rfl, h.1, h.2⟩
theorem args_one {args : Array Operand} {s : AVal} (h : args.toList.map (opd T) = [s]) : ∃ p, args = #[p] ∧ opd T p = s := by
  obtain ⟨l⟩ := args
  match l, h with
  | [p], h => simp only [List.map_cons, List.map_nil, List.cons.injEq, and_true] at h; exact ⟨p, rfl, h⟩
theorem vals_eq (hT : RT C T a.tmps) {args : Array Operand} {us : List Value} (h : mapO toV1 (args.toList.map (opd T)) = some us) : args.map a.eval = us.toArray := by
  apply Array.ext'
  apply List.ext_getElem?
  intro j
  simp only [Array.toList_map, List.getElem?_map]
  obtain ⟨hl, hg⟩ := mapO_get h
  simp only [List.length_map, Array.length_toList] at hl
  rcases Nat.lt_or_ge j args.size with hj | hj
  · obtain ⟨y, hy1, hy2⟩ := hg j (opd T args[j]) (by simp [hj])
    rw [hy2]
    simp only [Array.getElem?_toList, Array.getElem?_eq_getElem hj, Option.map_some, Option.some.injEq]
    exact toV1_rel hy1 (opd_rel hT args[j])
  · rw [List.getElem?_eq_none (by simpa using hj), List.getElem?_eq_none (by omega)]; rfl
theorem op_builtin {b : Builtin} {args : Array Operand} {ts : Array TypeId} (hS : St C) (hT : RT C T a.tmps) (hslot : slot = C.S.length ∨ C.S[slot]? = some .free) (ho : o.op = .call { callee := .builtin b, args, argTypes := ts })
    (h : evalOp P T C.S slot o = some (x, e)) : OpOk P o a C x (applyEff C.S e) := by
  simp only [evalOp, ho] at h
  have hx := exec_builtin (a := a) ho
  have plain : ∀ {s : Sem Value} {u : Value}, builtin b ts o.type (args.map fun | .const _ => true | _ => false) (args.map a.eval) = (do pure (.value (← s))) → s.run P C.w = .ok u C.w → Rv C x u → e = [] → OpOk P o a C x (applyEff C.S e) :=
    fun h1 h2 h3 h4 => OpOk.of_run hS h4 (hx.trans h1) h2 h3
  unfold evalBuiltin at h
  split at h
  · rename_i y hargs
    obtain ⟨p, rfl, rfl⟩ := args_one hargs
    have hr := opd_rel hT p
    split at h
    · rename_i el n hu hn
      split at h
      · rename_i hts
        simp only [Option.some.injEq, Prod.mk.injEq] at h
        obtain ⟨rfl, rfl⟩ := h
        obtain ⟨A, c, hv⟩ := len_rel hn hr
        obtain ⟨tl⟩ := ts
        obtain ⟨t, rfl⟩ : ∃ t, tl = [t] := by
          match tl, hts with
          | [t], _ => exact ⟨t, rfl⟩
        change P.underlying t = some (.slice el) at hu
        refine plain (s := Builtin.len_ #[t] o.type #[a.eval p]) (u := .int .i64 n) (by simp [builtin]) ?_ (by simp [Rv]) rfl
        simp [Builtin.len_, hv, run_underlying hu, goInt]
      · cases h
    · split at h
      · rename_i u hq
        obtain ⟨r, hr1, rfl, rfl⟩ := map_effV h
        rw [hq, Rv_v] at hr
        exact plain (s := Builtin.len_ ts o.type #[a.eval p]) (by simp [builtin]) (by rw [hr]; exact pureOf_run P _ _ hr1 _) (by simp [Rv]) rfl
      · cases h
  · rename_i s y hargs
    obtain ⟨p, q, rfl, rfl, rfl⟩ := args_two hargs
    split at h
    · rename_i hts
      obtain ⟨tl⟩ := ts
      have hts' : ∃ t, tl = [t, t] := by
        simp only at hts
        exact ⟨_, hts⟩
      obtain ⟨t, rfl⟩ := hts'
      have key : ∃ r C', (Builtin.append_ #[t, t] o.type #[a.eval p, a.eval q]).run P C.w = .ok r C'.w ∧ C'.S = applyEff C.S e ∧ St C' ∧ Ext C C' ∧ Rv C' x r := by
        split at h
        · rename_i r hr
          simp only [Option.some.injEq] at h
          subst h
          change appendA P C.S slot t (opd T p) (opd T q) = some (x, e) at hr
          exact append_ok (ty := o.type) hS hslot hr (opd_rel hT p) (opd_rel hT q)
        · change appendS P C.S slot t (opd T p) (opd T q) = some (x, e) at h
          exact appendS_ok (ty := o.type) hS hslot h (opd_rel hT p) (opd_rel hT q)
      obtain ⟨r, C', h1, h2, h3, h4, h5⟩ := key
      refine ⟨.value r, r, C', ?_, rfl, h2, h3, h4, h5⟩
      rw [hx]
      have : (#[p, q] : Array Operand).map a.eval = #[a.eval p, a.eval q] := by simp
      simp only [builtin, this, Sem.run_bind, h1, Result.andThen_ok, Sem.run_pure]
    · split at h
      · rename_i hts
        obtain ⟨tl⟩ := ts
        have hts' : ∃ t tn, tl = [t, tn] := by
          simp only at hts
          exact ⟨_, _, hts⟩
        obtain ⟨t, tn, rfl⟩ := hts'
        change appendZ P slot t tn (opd T p) (opd T q) = some (x, e) at h
        obtain ⟨r, C', h1, h2, h3, h4, h5⟩ := appendZ_ok (ty := o.type) hS hslot h (opd_rel hT p) (opd_rel hT q)
        refine ⟨.value r, r, C', ?_, rfl, h2, h3, h4, h5⟩
        rw [hx]
        have : (#[p, q] : Array Operand).map a.eval = #[a.eval p, a.eval q] := by simp
        simp only [builtin, this, Sem.run_bind, h1, Result.andThen_ok, Sem.run_pure]
      · cases h
  · rename_i u hargs
    obtain ⟨p, rfl, hp⟩ := args_one hargs
    have hr := opd_rel hT p
    rw [hp, Rv_v] at hr
    obtain ⟨r, hr1, rfl, rfl⟩ := map_effV h
    exact plain (s := Builtin.cap_ ts o.type #[a.eval p]) (by simp [builtin]) (by rw [hr]; exact pureOf_run P _ _ hr1 _) (by simp [Rv]) rfl
  · simp only [Option.bind_eq_some_iff] at h
    obtain ⟨us, h1, h2⟩ := h
    obtain ⟨r, hr1, rfl, rfl⟩ := map_effV h2
    exact plain (s := Builtin.min_ ts o.type (args.map a.eval)) (by simp [builtin]) (by rw [vals_eq hT h1]; exact pureOf_run P _ _ hr1 _) (by simp [Rv]) rfl
  · simp only [Option.bind_eq_some_iff] at h
    obtain ⟨us, h1, h2⟩ := h
    obtain ⟨r, hr1, rfl, rfl⟩ := map_effV h2
    exact plain (s := Builtin.max_ ts o.type (args.map a.eval)) (by simp [builtin]) (by rw [vals_eq hT h1]; exact pureOf_run P _ _ hr1 _) (by simp [Rv]) rfl
  · cases h

/-- Any operation that is no call of code. -/
theorem evalOp_ok (hS : St C) (hT : RT C T a.tmps) (hslot : slot = C.S.length ∨ C.S[slot]? = some .free) (h : evalOp P T C.S slot o = some (x, e)) : OpOk P o a C x (applyEff C.S e) := by
  cases ho : o.op with
  | move y => exact op_move hS hT (.inl ho) h
  | assign y => exact op_move hS hT (.inr ho) h
  | pick c y z => exact op_pick hS hT ho h
  | alloc t => exact op_alloc hS hslot ho h
  | box t y => exact op_box hS hT hslot ho h
  | build t ps => exact op_build hS hT ho h
  | buildSlice t n ps => exact op_buildSlice hS hT hslot ho h
  | load t y => exact op_load hS hT ho h
  | store t y z => exact op_store hS hT ho h
  | nilCheck y => exact op_nilCheck hS hT ho h
  | binOp op t y z ty => exact op_bin hS hT ho h
  | unOp op t y => exact op_un hS hT ho h
  | convert s d y => exact op_convert hS hT ho h
  | makeFunc f first caps => exact op_makeFunc hS hT ho h
  | makeSlice t l c => exact op_makeSlice hS hT hslot ho h
  | slice t y lo hi mx => exact op_slice hS hT ho h
  | fieldAddr s y f => exact op_fieldAddr hS hT ho h
  | field t y f => exact op_field hS hT ho h
  | indexAddr t y i => exact op_indexAddr hS hT ho h
  | index t y i => exact op_index hS hT ho h
  | extract y k => exact op_extract hS hT ho h
  | makeMap t r => exact op_makeMap hS hT hslot ho h
  | lookup t m k ok => exact op_lookup hS hT ho h
  | mapUpdate t m k y => exact op_mapUpdate hS hT (.inl ho) h
  | insert t m k y => exact op_mapUpdate hS hT (.inr ho) h
  | call c =>
    obtain ⟨cal, args, ts⟩ := c
    cases cal with
    | builtin b => exact op_builtin hS hT hslot ho h
    | value f => simp [evalOp, ho] at h
    | invoke r m => simp [evalOp, ho] at h
  | _ => simp [evalOp, ho] at h

/-! ## what is hidden is not missed -/
/-- The first store is the second one, but for objects that are hidden. -/
def Less (S S' : List AObj) : Prop := ∀ (q : Nat) (x : AObj), S[q]? = some x → x = .hidden ∨ S'[q]? = some x
theorem Less.get {S S' : List AObj} (h : Less S S') {q : Nat} {x : AObj} (hx : S[q]? = some x) (hn : x ≠ .hidden) : S'[q]? = some x := (h q x hx).resolve_left hn
theorem Less.refl (S : List AObj) : Less S S := fun q x h => .inr h
theorem loadA_less {S S' : List AObj} (h : Less S S') {t : TypeId} {y : AVal} {r : AVal} (hr : loadA P S t y = some r) : loadA P S' t y = some r := by
  unfold loadA at hr ⊢
  split at hr
  · rename_i q ep off
    split at hr
    · rename_i xs hq; rw [h.get hq (by simp)]; exact hr
    · rename_i sz e fr xs hq; rw [h.get hq (by simp)]; exact hr
    · cases hr
  · exact hr
  · cases hr
theorem storeA_less {S S' : List AObj} (h : Less S S') {t : TypeId} {y z : AVal} {r : Eff} (hr : storeA P S t y z = some r) : storeA P S' t y z = some r := by
  unfold storeA at hr ⊢
  split at hr
  · rename_i q ep off
    split at hr
    · rename_i hc
      simp only [hc, if_true]
      split at hr
      · rename_i xs hq; rw [h.get hq (by simp)]; exact hr
      · rename_i sz e fr xs hq; rw [h.get hq (by simp)]; exact hr
      · cases hr
    · cases hr
  · cases hr
theorem elemsA_less {S S' : List AObj} (h : Less S S') {sz : Nat} {y : AVal} {r : Nat × List AVal} (hr : elemsA S sz y = some r) : elemsA S' sz y = some r := by
  unfold elemsA at hr ⊢
  split at hr
  · exact hr
  · exact hr
  · exact hr
  · rename_i q ep sz' off len
    split at hr
    · rename_i s e fr xs hq; rw [h.get hq (by simp)]; exact hr
    · cases hr
  · cases hr
theorem appendA_less {S S' : List AObj} (h : Less S S') {t : TypeId} {y z : AVal} {r : AVal × Eff} (hr : appendA P S slot t y z = some r) : appendA P S' slot t y z = some r := by
  unfold appendA at hr ⊢
  split at hr
  · split at hr
    · split at hr
      · rename_i hc
        simp only [hc, and_self, if_true]
        split at hr
        · rename_i m ys hel
          rw [elemsA_less h hel]
          simp only
          split at hr
          · rename_i hm; rw [if_pos hm]; exact hr
          · rename_i hm
            rw [if_neg hm]
            split at hr
            · rename_i hone
              rw [if_pos hone]
              split at hr
              · exact hr
              · exact hr
              · rename_i q ep sz off len
                split at hr
                · rename_i s e fr xs hq; rw [h.get hq (by simp)]; exact hr
                · cases hr
              · cases hr
            · cases hr
        · cases hr
      · cases hr
    · cases hr
  · cases hr
def lenX : AVal → Nat
  | .list n _ => n
  | .row _ _ _ _ len => len
  | _ => 0
theorem elemsA_lenX {S : List AObj} {sz : Nat} {y : AVal} {r : Nat × List AVal} (h : elemsA S sz y = some r) : r.1 = lenX y := by
  unfold elemsA at h
  split at h
  · split at h
    · simp only [Option.some.injEq] at h; subst h; rfl
    · cases h
  · simp only [Option.some.injEq] at h; subst h; rfl
  · simp only [Option.some.injEq] at h; subst h; rfl
  · split at h
    · split at h
      · simp only [Option.some.injEq] at h; subst h; rfl
      · cases h
    · cases h
  · cases h
/-- What is put behind a row: the row ends where it does, or nothing is put. -/
theorem appendA_row {S : List AObj} {t : TypeId} {o ep sz off len : Nat} {z : AVal} {r : AVal × Eff} (h : appendA P S slot t (.row o ep sz off len) z = some r) :
    (lenX z = 0 ∧ r.2 = []) ∨ (lenX z ≠ 0 ∧ ∃ sz' e fz xs, S[o]? = some (.row sz' e fz xs) ∧ (off + len) * sz = xs.length) := by
  unfold appendA at h
  split at h
  · split at h
    · split at h
      · split at h
        · rename_i m ys hel
          have hm := elemsA_lenX hel
          simp only at hm
          split at h
          · rename_i h0
            simp only [Option.some.injEq] at h
            subst h
            exact .inl ⟨hm ▸ h0, rfl⟩
          · rename_i h0
            split at h
            · simp only at h
              split at h
              · rename_i hq
                split at h
                · rename_i hc
                  exact .inr ⟨hm ▸ h0, _, _, _, _, hq, hc.2.2.2.1⟩
                · cases h
              · cases h
            · cases h
        · cases h
      · cases h
    · cases h
  · cases h
theorem appendS_none {S S' : List AObj} (hL : Less S S') {t : TypeId} {y z : AVal} {r r2 : AVal × Eff} (h : appendS P S slot t y z = some r) (h2 : appendA P S' slot t y z = some r2) : False := by
  unfold appendS at h
  split at h
  · rename_i o ep sz off len
    split at h
    · rename_i sz' e xs hx
      split at h
      · cases h
      · rename_i hne
        split at h
        · rename_i r' q y' ha
          rcases appendA_row ha with ⟨_, h3⟩ | ⟨h3, _⟩
          · cases h3
          · rcases appendA_row h2 with ⟨h4, _⟩ | ⟨_, _, _, _, _, h5, h6⟩
            · exact h3 h4
            · rw [hL.get hx (by simp)] at h5
              cases h5
              exact hne h6
        · cases h
    · cases h
  · cases h
theorem appendS_less {S S' : List AObj} (hL : Less S S') {t : TypeId} {y z : AVal} {r : AVal × Eff} (h : appendS P S slot t y z = some r) : appendS P S' slot t y z = some r := by
  unfold appendS at h ⊢
  split at h
  · rename_i o ep sz off len
    split at h
    · rename_i sz' e xs hx
      simp only [hL.get hx (by simp)]
      split at h
      · cases h
      · rename_i hne
        rw [if_neg hne]
        split at h
        · rename_i r' q y' ha
          have hL2 : Less (S.set o (.row sz' e none (xs.take ((off + len) * sz)))) (S'.set o (.row sz' e none (xs.take ((off + len) * sz)))) := by
            intro q x hq
            rw [List.getElem?_set] at hq
            split at hq
            · rename_i h1
              subst h1
              split at hq
              · simp only [Option.some.injEq] at hq
                subst hq
                right
                rw [List.getElem?_set, if_pos rfl, if_pos (List.getElem?_eq_some_iff.1 (hL.get hx (by simp))).1]
              · cases hq
            · rename_i h1
              rcases hL q x hq with h2 | h2
              · exact .inl h2
              · right
                rw [List.getElem?_set, if_neg h1]
                exact h2
          rw [appendA_less hL2 ha]
          exact h
        · cases h
    · cases h
  · cases h
theorem peek_less {S S' : List AObj} (h : Less S S') : ∀ (n : Nat) (y : AVal) (r : PVal), peek S n y = some r → peek S' n y = some r := by
  have mapO_less : ∀ {n : Nat}, (∀ (y : AVal) (r : PVal), peek S n y = some r → peek S' n y = some r) → ∀ (xs : List AVal) (ys : List PVal), mapO (peek S n) xs = some ys → mapO (peek S' n) xs = some ys := by
    intro n ih xs
    induction xs with
    | nil => intro ys hy; simpa [mapO] using hy
    | cons x xs ihx =>
      intro ys hy
      simp only [mapO] at hy ⊢
      split at hy
      · rename_i y zs h1 h2
        rw [ih _ _ h1, ihx _ h2]; exact hy
      · cases hy
  intro n
  induction n with
  | zero => intro y r hr; simp [peek] at hr
  | succ n ih =>
    intro y r hr
    cases y with
    | agg xs =>
      simp only [peek, Option.map_eq_some_iff] at hr ⊢
      obtain ⟨ys, h1, h2⟩ := hr
      exact ⟨ys, mapO_less ih _ _ h1, h2⟩
    | tup xs =>
      simp only [peek, Option.map_eq_some_iff] at hr ⊢
      obtain ⟨ys, h1, h2⟩ := hr
      exact ⟨ys, mapO_less ih _ _ h1, h2⟩
    | fn f xs =>
      simp only [peek, Option.map_eq_some_iff] at hr ⊢
      obtain ⟨ys, h1, h2⟩ := hr
      exact ⟨ys, mapO_less ih _ _ h1, h2⟩
    | row q ep sz off len =>
      simp only [peek] at hr ⊢
      split at hr
      · rename_i s e k xs hq
        rw [h.get hq (by simp)]
        simp only
        split at hr
        · rename_i hc
          rw [if_pos hc]
          simp only [Option.map_eq_some_iff] at hr ⊢
          obtain ⟨ys, h1, h2⟩ := hr
          exact ⟨ys, mapO_less ih _ _ h1, h2⟩
        · cases hr
      · cases hr
    | ptr q ep off =>
      simp only [peek] at hr ⊢
      split at hr
      · rename_i s e k xs hq
        rw [h.get hq (by simp)]
        simp only
        split at hr
        · rename_i hc
          rw [if_pos hc]
          simp only [Option.map_eq_some_iff] at hr ⊢
          obtain ⟨ys, h1, h2⟩ := hr
          exact ⟨ys, mapO_less ih _ _ h1, h2⟩
        · cases hr
      · cases hr
    | mp q =>
      simp only [peek] at hr ⊢
      split at hr
      · rename_i ks vs hq
        rw [h.get hq (by simp)]
        simp only [Option.map_eq_some_iff] at hr ⊢
        obtain ⟨ys, h1, h2⟩ := hr
        exact ⟨ys, mapO_less ih _ _ h1, h2⟩
      · cases hr
    | _ => simpa [peek] using hr
theorem mapA_less {S S' : List AObj} (h : Less S S') {m : AVal} {kv : List Int × List AVal} (hr : mapA S m = some kv) : mapA S' m = some kv := by
  unfold mapA at hr ⊢
  split at hr
  · rename_i q
    split at hr
    · rename_i fz ks vs hq
      rw [h.get hq (by simp)]
      exact hr
    · cases hr
  · exact hr
  · exact hr
  · cases hr
theorem updateA_less {S S' : List AObj} (h : Less S S') {t : TypeId} {m k y : AVal} {r : Eff} (hr : updateA P S t m k y = some r) : updateA P S' t m k y = some r := by
  unfold updateA at hr ⊢
  split at hr
  · rename_i z q n hz
    split at hr
    · rename_i ks vs hq
      rw [h.get hq (by simp)]
      exact hr
    · cases hr
  · cases hr

theorem less_set {S S' : List AObj} (h : Less S S') (o : Nat) (y : AObj) (ho : o < S'.length) : Less (S.set o y) (S'.set o y) := by
  intro q x hq
  rw [List.getElem?_set] at hq
  split at hq
  · rename_i h1
    subst h1
    split at hq
    · simp only [Option.some.injEq] at hq
      subst hq
      right
      rw [List.getElem?_set, if_pos rfl, if_pos ho]
    · cases hq
  · rename_i h1
    rcases h q x hq with h2 | h2
    · exact .inl h2
    · right
      rw [List.getElem?_set, if_neg h1]
      exact h2
theorem there_set {S : List AObj} {o s e : Nat} {fz : Option Nat} {cs : List AVal} {x : AVal} (h : thereB S x = true) : thereB (S.set o (.row s e fz cs)) x = true := by
  cases x with
  | row q ep sz off len =>
    have hq : ∃ s2 e2 f2 c2, S[q]? = some (.row s2 e2 f2 c2) := by
      unfold thereB at h
      simp only at h
      split at h
      · rename_i s2 e2 f2 c2 hx
        exact ⟨s2, e2, f2, c2, hx⟩
      · cases h
    obtain ⟨s2, e2, f2, c2, hx⟩ := hq
    have hlen := (List.getElem?_eq_some_iff.1 hx).1
    have : ∃ s3 e3 f3 c3, (S.set o (.row s e fz cs))[q]? = some (.row s3 e3 f3 c3) := by
      rw [List.getElem?_set]
      by_cases h1 : o = q
      · subst h1
        rw [if_pos rfl, if_pos hlen]
        exact ⟨_, _, _, _, rfl⟩
      · rw [if_neg h1]
        exact ⟨_, _, _, _, hx⟩
    obtain ⟨s3, e3, f3, c3, h3⟩ := this
    unfold thereB
    simp only [h3]
  | _ => rfl
theorem frzE_less : ∀ (rs : List AVal) (S S' : List AObj), Less S S' → rs.all (thereB S) = true → rs.all (thereB S') = true ∧ frzE S' rs = frzE S rs ∧ Less (applyEff S (frzE S rs)) (applyEff S' (frzE S rs))
  | [], S, S', h, _ => ⟨rfl, rfl, h⟩
  | x :: rs, S, S', h, ha => by
    rw [List.all_cons, Bool.and_eq_true] at ha
    cases x with
    | row o ep sz off len =>
      have h1 := ha.1
      unfold thereB at h1
      simp only at h1
      split at h1
      · rename_i s e fz cs hx
        have hx' := h.get hx (by simp)
        have hlen := (List.getElem?_eq_some_iff.1 hx).1
        have hlen' := (List.getElem?_eq_some_iff.1 hx').1
        have h2 : rs.all (thereB (S.set o (.row s e (some cs.length) cs))) = true := List.all_eq_true.2 fun y hy => there_set (List.all_eq_true.1 ha.2 y hy)
        obtain ⟨k1, k2, k3⟩ := frzE_less rs _ _ (less_set h o (.row s e (some cs.length) cs) hlen') h2
        have k0 := (frzE_less rs S S' h ha.2).1
        refine ⟨by rw [List.all_cons, k0, Bool.and_true]; unfold thereB; simp only [hx'], ?_, ?_⟩
        · simp only [frzE, hx, hx', k2]
        · simp only [frzE, hx, applyEff, setObj, if_pos hlen, if_pos hlen']
          exact k3
      · cases h1
    | _ =>
      obtain ⟨k1, k2, k3⟩ := frzE_less rs S S' h ha.2
      exact ⟨by rw [List.all_cons, k1]; rfl, by simp only [frzE, k2], by simp only [frzE]; exact k3⟩
theorem mapO_imp {α β : Type} {f g : α → Option β} (h : ∀ x y, f x = some y → g x = some y) : ∀ {xs : List α} {ys : List β}, mapO f xs = some ys → mapO g xs = some ys
  | [], ys, hy => by simpa [mapO] using hy
  | x :: xs, ys, hy => by
    simp only [mapO] at hy ⊢
    cases h1 : f x with
    | none => rw [h1] at hy; cases hy
    | some z =>
      rw [h1] at hy
      cases h2 : mapO f xs with
      | none => rw [h2] at hy; cases hy
      | some zs =>
        rw [h2] at hy
        rw [h x z h1, mapO_imp h h2]
        exact hy
theorem buildSliceA_less {S S' : List AObj} (h : Less S S') {t : TypeId} {n : Nat} {L : List (Nat × AVal)} {r : AVal × Eff} (hr : buildSliceA P S slot t n L = some r) : buildSliceA P S' slot t n L = some r := by
  unfold buildSliceA at hr ⊢
  cases hb : (L.any fun p => hasRow p.2) with
  | false => rw [hb] at hr; exact hr
  | true =>
    rw [hb, cond_true] at hr
    rw [cond_true]
    cases ht : (L.flatMap fun p => p.2.cells).all (thereB S) with
    | false => rw [ht] at hr; cases hr
    | true =>
      rw [ht, cond_true] at hr
      obtain ⟨k1, k2, k3⟩ := frzE_less (L.flatMap fun p => p.2.cells) S S' h ht
      rw [k1, cond_true, k2]
      split at hr
      · rename_i vs hvs
        have : mapO (fun (p : Nat × AVal) => (frzO (applyEff S' (frzE S (L.flatMap fun p => p.2.cells))) p.2).map fun z => (p.1, z)) L = some vs := mapO_imp (fun p y hp => by
          rw [Option.map_eq_some_iff] at hp ⊢
          obtain ⟨z, h1, h2⟩ := hp
          refine ⟨z, ?_, h2⟩
          have one : ∀ x y, frz1 (applyEff S (frzE S (L.flatMap fun p => p.2.cells))) x = some y → frz1 (applyEff S' (frzE S (L.flatMap fun p => p.2.cells))) x = some y := fun x y h1 => by
            unfold frz1 at h1 ⊢
            split at h1
            · rw [Option.map_eq_some_iff] at h1 ⊢
              obtain ⟨w, h3, h4⟩ := h1
              exact ⟨w, peek_less k3 _ _ _ h3, h4⟩
            · exact h1
          unfold frzO at h1 ⊢
          split at h1
          · rw [Option.map_eq_some_iff] at h1 ⊢
            obtain ⟨ws, h3, h4⟩ := h1
            exact ⟨ws, mapO_imp (fun x y hx => one x y hx) h3, h4⟩
          · exact one _ _ h1) hvs
        rw [this]
        exact hr
      · cases hr
theorem evalOp_less {S S' : List AObj} (h : Less S S') {r : AVal × Eff} (hr : evalOp P T S slot o = some r) : evalOp P T S' slot o = some r := by
  cases ho : o.op with
  | load t y =>
    simp only [evalOp, ho, Option.map_eq_some_iff] at hr ⊢
    obtain ⟨z, h1, h2⟩ := hr
    exact ⟨z, loadA_less h h1, h2⟩
  | store t y z =>
    simp only [evalOp, ho, Option.map_eq_some_iff] at hr ⊢
    obtain ⟨w, h1, h2⟩ := hr
    exact ⟨w, storeA_less h h1, h2⟩
  | call c =>
    obtain ⟨cal, args, ts⟩ := c
    cases cal with
    | builtin b =>
      simp only [evalOp, ho] at hr ⊢
      unfold evalBuiltin at hr ⊢
      split at hr
      · exact hr
      · rename_i s y hargs
        split at hr
        · rename_i hts
          rw [if_pos hts]
          split at hr
          · rename_i r' hr'
            rw [appendA_less h hr']
            exact hr
          · rename_i hr'
            cases hr2 : appendA P S' slot (ts.getD 0 0) s y with
            | none => exact appendS_less h hr
            | some r2 =>
              exact (appendS_none h hr hr2).elim
        · rename_i hts
          rw [if_neg hts]
          exact hr
      · exact hr
      · exact hr
      · exact hr
      · cases hr
    | value f => simp [evalOp, ho] at hr
    | invoke r m => simp [evalOp, ho] at hr
  | buildSlice t n ps =>
    simp only [evalOp, ho] at hr ⊢
    exact buildSliceA_less h hr
  | lookup t m k ok =>
    simp only [evalOp, ho] at hr ⊢
    split at hr
    · rename_i z n kv hz hk hm
      simp only [hz, hk, mapA_less h hm]
      exact hr
    · cases hr
  | mapUpdate t m k y =>
    simp only [evalOp, ho, Option.map_eq_some_iff] at hr ⊢
    obtain ⟨w, h1, h2⟩ := hr
    exact ⟨w, updateA_less h h1, h2⟩
  | insert t m k y =>
    simp only [evalOp, ho, Option.map_eq_some_iff] at hr ⊢
    obtain ⟨w, h1, h2⟩ := hr
    exact ⟨w, updateA_less h h1, h2⟩
  | makeFunc f first caps => cases f <;> first | (simpa only [evalOp, ho] using hr) | simp [evalOp, ho] at hr
  | _ => simpa only [evalOp, ho] using hr
end Go.Proofs.YtkkgimhbliocoaaGreat.Vm
