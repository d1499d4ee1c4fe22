/- Each operation of the abstract machine is the model's: builtins, and all operations together. -/
import Derived.Test.YtmopbegmdegooaaVmOps5
namespace Go.Proofs.Ytmopbegmdegooaa.Vm
open Go Go.RowKit
set_option linter.unusedVariables false
set_option linter.unusedSimpArgs false
set_option linter.unnecessarySimpa false

variable {P : Program} {o : Oper} {a : Act} {C : Ctx} {T : List AVal} {slot : Nat} {x : AVal} {e : Eff}

theorem args_two {args : Array Operand} {s y : AVal} (h : args.toList.map (opd T) = [s, y]) : ∃ p q, args = #[p, q] ∧ opd T p = s ∧ opd T q = y := by
  obtain ⟨l⟩ := args
  match l, h with
  | [p, q], h => simp only [List.map_cons, List.map_nil, List.cons.injEq, and_true] at h; exact ⟨p, q, rfl, h.1, h.2⟩
theorem args_one {args : Array Operand} {s : AVal} (h : args.toList.map (opd T) = [s]) : ∃ p, args = #[p] ∧ opd T p = s := by
  obtain ⟨l⟩ := args
  match l, h with
  | [p], h => simp only [List.map_cons, List.map_nil, List.cons.injEq, and_true] at h; exact ⟨p, rfl, h⟩
theorem vals_eq (hT : RT C T a.tmps) {args : Array Operand} {us : List Value} (h : mapO toV1 (args.toList.map (opd T)) = some us) : args.map a.eval = us.toArray := by
  apply Array.ext'
  apply List.ext_getElem?
  intro j
  simp only [Array.toList_map, List.getElem?_map]
  obtain ⟨hl, hg⟩ := mapO_get h
  simp only [List.length_map, Array.length_toList] at hl
  rcases Nat.lt_or_ge j args.size with hj | hj
  · obtain ⟨y, hy1, hy2⟩ := hg j (opd T args[j]) (by simp [hj])
    rw [hy2]
    simp only [Array.getElem?_toList, Array.getElem?_eq_getElem hj, Option.map_some, Option.some.injEq]
    exact toV1_rel hy1 (opd_rel hT args[j])
  · rw [List.getElem?_eq_none (by simpa using hj), List.getElem?_eq_none (by omega)]; rfl
theorem op_builtin {b : Builtin} {args : Array Operand} {ts : Array TypeId} (hS : St C) (hT : RT C T a.tmps) (hslot : slot = C.S.length ∨ C.S[slot]? = some .free) (ho : o.op = .call { callee := .builtin b, args, argTypes := ts })
    (h : evalOp P T C.S slot o = some (x, e)) : OpOk P o a C x (applyEff C.S e) := by
  simp only [evalOp, ho] at h
  have hx := exec_builtin (a := a) ho
  have plain : ∀ {s : Sem Value} {u : Value}, builtin b ts o.type (args.map fun | .const _ => true | _ => false) (args.map a.eval) = (do pure (.value (← s))) → s.run P C.w = .ok u C.w → Rv C x u → e = [] → OpOk P o a C x (applyEff C.S e) :=
    fun h1 h2 h3 h4 => OpOk.of_run hS h4 (hx.trans h1) h2 h3
  unfold evalBuiltin at h
  split at h
  · rename_i y hargs
    obtain ⟨p, rfl, rfl⟩ := args_one hargs
    have hr := opd_rel hT p
    split at h
    · rename_i el n hu hn
      split at h
      · rename_i hts
        simp only [Option.some.injEq, Prod.mk.injEq] at h
        obtain ⟨rfl, rfl⟩ := h
        obtain ⟨A, c, hv⟩ := len_rel hn hr
        obtain ⟨tl⟩ := ts
        obtain ⟨t, rfl⟩ : ∃ t, tl = [t] := by
          match tl, hts with
          | [t], _ => exact ⟨t, rfl⟩
        change P.underlying t = some (.slice el) at hu
        refine plain (s := Builtin.len_ #[t] o.type #[a.eval p]) (u := .int .i64 n) (by simp [builtin]) ?_ (by simp [Rv]) rfl
        simp [Builtin.len_, hv, run_underlying hu, goInt]
      · cases h
    · split at h
      · rename_i u hq
        obtain ⟨r, hr1, rfl, rfl⟩ := map_effV h
        rw [hq, Rv_v] at hr
        exact plain (s := Builtin.len_ ts o.type #[a.eval p]) (by simp [builtin]) (by rw [hr]; exact pureOf_run P _ _ hr1 _) (by simp [Rv]) rfl
      · cases h
  · rename_i s y hargs
    obtain ⟨p, q, rfl, rfl, rfl⟩ := args_two hargs
    split at h
    · rename_i hts
      obtain ⟨tl⟩ := ts
      have hts' : ∃ t, tl = [t, t] := by
        simp only at hts
        exact ⟨_, hts⟩
      obtain ⟨t, rfl⟩ := hts'
      change appendA P C.S slot t (opd T p) (opd T q) = some (x, e) at h
      obtain ⟨r, C', h1, h2, h3, h4, h5⟩ := append_ok (ty := o.type) hS hslot h (opd_rel hT p) (opd_rel hT q)
      refine ⟨.value r, r, C', ?_, rfl, h2, h3, h4, h5⟩
      rw [hx]
      have : (#[p, q] : Array Operand).map a.eval = #[a.eval p, a.eval q] := by simp
      simp only [builtin, this, Sem.run_bind, h1, Result.andThen_ok, Sem.run_pure]
    · cases h
  · simp only [Option.bind_eq_some_iff] at h
    obtain ⟨us, h1, h2⟩ := h
    obtain ⟨r, hr1, rfl, rfl⟩ := map_effV h2
    exact plain (s := Builtin.min_ ts o.type (args.map a.eval)) (by simp [builtin]) (by rw [vals_eq hT h1]; exact pureOf_run P _ _ hr1 _) (by simp [Rv]) rfl
  · simp only [Option.bind_eq_some_iff] at h
    obtain ⟨us, h1, h2⟩ := h
    obtain ⟨r, hr1, rfl, rfl⟩ := map_effV h2
    exact plain (s := Builtin.max_ ts o.type (args.map a.eval)) (by simp [builtin]) (by rw [vals_eq hT h1]; exact pureOf_run P _ _ hr1 _) (by simp [Rv]) rfl
  · cases h

/-- Any operation that is no call of code. -/
theorem evalOp_ok (hS : St C) (hT : RT C T a.tmps) (hslot : slot = C.S.length ∨ C.S[slot]? = some .free) (h : evalOp P T C.S slot o = some (x, e)) : OpOk P o a C x (applyEff C.S e) := by
  cases ho : o.op with
  | move y => exact op_move hS hT (.inl ho) h
  | assign y => exact op_move hS hT (.inr ho) h
  | pick c y z => exact op_pick hS hT ho h
  | alloc t => exact op_alloc hS hslot ho h
  | box t y => exact op_box hS hT hslot ho h
  | build t ps => exact op_build hS hT ho h
  | buildSlice t n ps => exact op_buildSlice hS hT hslot ho h
  | load t y => exact op_load hS hT ho h
  | store t y z => exact op_store hS hT ho h
  | nilCheck y => exact op_nilCheck hS hT ho h
  | binOp op t y z ty => exact op_bin hS hT ho h
  | unOp op t y => exact op_un hS hT ho h
  | convert s d y => exact op_convert hS hT ho h
  | makeFunc f first caps => exact op_makeFunc hS hT ho h
  | makeSlice t l c => exact op_makeSlice hS hT hslot ho h
  | slice t y lo hi mx => exact op_slice hS hT ho h
  | fieldAddr s y f => exact op_fieldAddr hS hT ho h
  | field t y f => exact op_field hS hT ho h
  | indexAddr t y i => exact op_indexAddr hS hT ho h
  | index t y i => exact op_index hS hT ho h
  | extract y k => exact op_extract hS hT ho h
  | call c =>
    obtain ⟨cal, args, ts⟩ := c
    cases cal with
    | builtin b => exact op_builtin hS hT hslot ho h
    | value f => simp [evalOp, ho] at h
    | invoke r m => simp [evalOp, ho] at h
  | _ => simp [evalOp, ho] at h

/-! ## what is hidden is not missed -/
/-- The first store is the second one, but for objects that are hidden. -/
def Less (S S' : List AObj) : Prop := ∀ (q : Nat) (x : AObj), S[q]? = some x → x = .hidden ∨ S'[q]? = some x
theorem Less.get {S S' : List AObj} (h : Less S S') {q : Nat} {x : AObj} (hx : S[q]? = some x) (hn : x ≠ .hidden) : S'[q]? = some x := (h q x hx).resolve_left hn
theorem Less.refl (S : List AObj) : Less S S := fun q x h => .inr h
theorem loadA_less {S S' : List AObj} (h : Less S S') {t : TypeId} {y : AVal} {r : AVal} (hr : loadA P S t y = some r) : loadA P S' t y = some r := by
  unfold loadA at hr ⊢
  split at hr
  · rename_i q ep off
    split at hr
    · rename_i xs hq; rw [h.get hq (by simp)]; exact hr
    · rename_i sz e fr xs hq; rw [h.get hq (by simp)]; exact hr
    · cases hr
  · exact hr
  · cases hr
theorem storeA_less {S S' : List AObj} (h : Less S S') {t : TypeId} {y z : AVal} {r : Eff} (hr : storeA P S t y z = some r) : storeA P S' t y z = some r := by
  unfold storeA at hr ⊢
  split at hr
  · rename_i q ep off
    split at hr
    · rename_i hc
      simp only [hc, if_true]
      split at hr
      · rename_i xs hq; rw [h.get hq (by simp)]; exact hr
      · rename_i sz e fr xs hq; rw [h.get hq (by simp)]; exact hr
      · cases hr
    · cases hr
  · cases hr
theorem elemsA_less {S S' : List AObj} (h : Less S S') {sz : Nat} {y : AVal} {r : Nat × List AVal} (hr : elemsA S sz y = some r) : elemsA S' sz y = some r := by
  unfold elemsA at hr ⊢
  split at hr
  · exact hr
  · exact hr
  · exact hr
  · rename_i q ep sz' off len
    split at hr
    · rename_i s e fr xs hq; rw [h.get hq (by simp)]; exact hr
    · cases hr
  · cases hr
theorem appendA_less {S S' : List AObj} (h : Less S S') {t : TypeId} {y z : AVal} {r : AVal × Eff} (hr : appendA P S slot t y z = some r) : appendA P S' slot t y z = some r := by
  unfold appendA at hr ⊢
  split at hr
  · split at hr
    · split at hr
      · rename_i hc
        simp only [hc, and_self, if_true]
        split at hr
        · rename_i m ys hel
          rw [elemsA_less h hel]
          simp only
          split at hr
          · rename_i hm; rw [if_pos hm]; exact hr
          · rename_i hm
            rw [if_neg hm]
            split at hr
            · rename_i hone
              rw [if_pos hone]
              split at hr
              · exact hr
              · exact hr
              · rename_i q ep sz off len
                split at hr
                · rename_i s e fr xs hq; rw [h.get hq (by simp)]; exact hr
                · cases hr
              · cases hr
            · cases hr
        · cases hr
      · cases hr
    · cases hr
  · cases hr
theorem evalOp_less {S S' : List AObj} (h : Less S S') {r : AVal × Eff} (hr : evalOp P T S slot o = some r) : evalOp P T S' slot o = some r := by
  cases ho : o.op with
  | load t y =>
    simp only [evalOp, ho, Option.map_eq_some_iff] at hr ⊢
    obtain ⟨z, h1, h2⟩ := hr
    exact ⟨z, loadA_less h h1, h2⟩
  | store t y z =>
    simp only [evalOp, ho, Option.map_eq_some_iff] at hr ⊢
    obtain ⟨w, h1, h2⟩ := hr
    exact ⟨w, storeA_less h h1, h2⟩
  | call c =>
    obtain ⟨cal, args, ts⟩ := c
    cases cal with
    | builtin b =>
      simp only [evalOp, ho] at hr ⊢
      unfold evalBuiltin at hr ⊢
      split at hr
      · exact hr
      · rename_i s y hargs
        split at hr
        · rename_i hts
          rw [if_pos hts]
          exact appendA_less h hr
        · cases hr
      · exact hr
      · exact hr
      · cases hr
    | value f => simp [evalOp, ho] at hr
    | invoke r m => simp [evalOp, ho] at hr
  | makeFunc f first caps => cases f <;> first | (simpa only [evalOp, ho] using hr) | simp [evalOp, ho] at hr
  | _ => simpa only [evalOp, ho] using hr
theorem peek_less {S S' : List AObj} (h : Less S S') : ∀ (n : Nat) (y : AVal) (r : PVal), peek S n y = some r → peek S' n y = some r := by
  have mapO_less : ∀ {n : Nat}, (∀ (y : AVal) (r : PVal), peek S n y = some r → peek S' n y = some r) → ∀ (xs : List AVal) (ys : List PVal), mapO (peek S n) xs = some ys → mapO (peek S' n) xs = some ys := by
    intro n ih xs
    induction xs with
    | nil => intro ys hy; simpa [mapO] using hy
    | cons x xs ihx =>
      intro ys hy
      simp only [mapO] at hy ⊢
      split at hy
      · rename_i y zs h1 h2
        rw [ih _ _ h1, ihx _ h2]; exact hy
      · cases hy
  intro n
  induction n with
  | zero => intro y r hr; simp [peek] at hr
  | succ n ih =>
    intro y r hr
    cases y with
    | agg xs =>
      simp only [peek, Option.map_eq_some_iff] at hr ⊢
      obtain ⟨ys, h1, h2⟩ := hr
      exact ⟨ys, mapO_less ih _ _ h1, h2⟩
    | tup xs =>
      simp only [peek, Option.map_eq_some_iff] at hr ⊢
      obtain ⟨ys, h1, h2⟩ := hr
      exact ⟨ys, mapO_less ih _ _ h1, h2⟩
    | fn f xs =>
      simp only [peek, Option.map_eq_some_iff] at hr ⊢
      obtain ⟨ys, h1, h2⟩ := hr
      exact ⟨ys, mapO_less ih _ _ h1, h2⟩
    | row q ep sz off len =>
      simp only [peek] at hr ⊢
      split at hr
      · rename_i s e k xs hq
        rw [h.get hq (by simp)]
        simp only
        split at hr
        · rename_i hc
          rw [if_pos hc]
          simp only [Option.map_eq_some_iff] at hr ⊢
          obtain ⟨ys, h1, h2⟩ := hr
          exact ⟨ys, mapO_less ih _ _ h1, h2⟩
        · cases hr
      · cases hr
    | _ => simpa [peek] using hr

end Go.Proofs.Ytmopbegmdegooaa.Vm
