/- Regions that draw their order: whatever the order, the abstract machine's temporaries and objects come out. -/
import Derived.Test.YtmopbegmdegooaaVmCode
namespace Go.Proofs.Ytmopbegmdegooaa.Vm
open Go Go.RowKit
set_option linter.unusedVariables false
set_option linter.unusedSimpArgs false
set_option linter.unnecessarySimpa false

/-! ## cells turned by some of a list of doers -/
def sets {α : Type} (X : List α) (e : List (Nat × α)) : List α := e.foldl (fun X p => X.set p.1 p.2) X
def run {α : Type} (E : Nat → List (Nat × α)) (l : List Nat) (X : List α) : List α := l.foldl (fun X i => sets X (E i)) X
def touch {α : Type} (E : Nat → List (Nat × α)) (q i : Nat) : Bool := (E i).any (·.1 == q)
theorem sets_length {α : Type} : ∀ (e : List (Nat × α)) (X : List α), (sets X e).length = X.length
  | [], X => rfl
  | p :: e, X => by simp only [sets, List.foldl_cons]; exact (sets_length e _).trans (by simp)
theorem sets_other {α : Type} {q : Nat} : ∀ (e : List (Nat × α)) (X : List α), e.any (·.1 == q) = false → (sets X e)[q]? = X[q]?
  | [], X, _ => rfl
  | p :: e, X, h => by
    simp only [List.any_cons, Bool.or_eq_false_iff, beq_eq_false_iff_ne] at h
    simp only [sets, List.foldl_cons]
    exact (sets_other e _ h.2).trans (by rw [List.getElem?_set, if_neg h.1])
theorem sets_congr {α : Type} {q : Nat} : ∀ (e : List (Nat × α)) (X Y : List α), X.length = Y.length → X[q]? = Y[q]? → (sets X e)[q]? = (sets Y e)[q]?
  | [], X, Y, _, h => h
  | p :: e, X, Y, hl, h => by
    simp only [sets, List.foldl_cons]
    exact sets_congr e _ _ (by simp [hl]) (by simp [List.getElem?_set, hl, h])
theorem run_length {α : Type} (E : Nat → List (Nat × α)) : ∀ (l : List Nat) (X : List α), (run E l X).length = X.length
  | [], X => rfl
  | i :: l, X => by simp only [run, List.foldl_cons]; exact (run_length E l _).trans (sets_length _ _)
theorem run_filter {α : Type} (E : Nat → List (Nat × α)) {q : Nat} : ∀ (l : List Nat) (X Y : List α), X.length = Y.length → X[q]? = Y[q]? → (run E l X)[q]? = (run E (l.filter (touch E q)) Y)[q]?
  | [], X, Y, _, h => h
  | i :: l, X, Y, hl, h => by
    cases ht : touch E q i with
    | true =>
      rw [List.filter_cons_of_pos (by simpa using ht)]
      simp only [run, List.foldl_cons]
      exact run_filter E l _ _ (by simp [sets_length, hl]) (sets_congr _ _ _ hl h)
    | false =>
      rw [List.filter_cons_of_neg (by simp [ht])]
      simp only [run, List.foldl_cons]
      exact run_filter E l _ _ (by simp [sets_length, hl]) ((sets_other _ _ ht).trans h)
theorem run_congr {α : Type} (E : Nat → List (Nat × α)) {q : Nat} {l l' : List Nat} (X : List α) (h : l.filter (touch E q) = l'.filter (touch E q)) : (run E l X)[q]? = (run E l' X)[q]? := by
  rw [run_filter E l X X rfl rfl, h, ← run_filter E l' X X rfl rfl]
theorem run_append {α : Type} (E : Nat → List (Nat × α)) (l l' : List Nat) (X : List α) : run E (l ++ l') X = run E l' (run E l X) := by simp [run, List.foldl_append]

/-! ## who is listed -/
/-- Which doers are listed, in the order of the text. -/
def idx (n : Nat) (L : Nat → Bool) : List Nat := (List.range n).filter L
theorem range_lt {i n : Nat} (h : i ≤ n) : List.range i = (List.range n).filter fun j => decide (j < i) := by
  induction n with
  | zero => obtain rfl : i = 0 := by omega
            rfl
  | succ n ih =>
    rw [List.range_succ, List.filter_append]
    by_cases hi : i = n + 1
    · subst hi
      rw [List.range_succ]
      congr 1
      · rw [List.filter_eq_self.2]
        intro a ha
        have := List.mem_range.1 ha
        simp; omega
      · simp
    · rw [← ih (by omega), List.filter_cons_of_neg (by simp; omega)]
      simp
/-- An order, given by who goes ahead of whom; L: a set that holds who goes ahead of its members. -/
structure Ahead (n : Nat) (pr : Nat → Nat → Bool) (L : Nat → Bool) (i : Nat) : Prop where
  lt : i < n
  less : ∀ j k, j < n → pr j k = true → k < j
  closed : ∀ j k, j < n → L j = true → pr j k = true → L k = true
  new : L i = false
  ready : ∀ k, pr i k = true → L k = true
variable {n i : Nat} {pr : Nat → Nat → Bool} {L : Nat → Bool} {α : Type} {E : Nat → List (Nat × α)}
/-- All others that turn q are ordered with i. -/
def Alone (n : Nat) (pr : Nat → Nat → Bool) (E : Nat → List (Nat × α)) (i q : Nat) : Prop := ∀ j, j < n → j ≠ i → touch E q j = true → pr i j = true ∨ pr j i = true
theorem Ahead.filter (h : Ahead n pr L i) {q : Nat} (hq : Alone n pr E i q) : (idx n L).filter (touch E q) = (List.range i).filter (touch E q) := by
  rw [range_lt (Nat.le_of_lt h.lt), idx, List.filter_filter, List.filter_filter]
  refine List.filter_congr fun j hj => ?_
  have hjn := List.mem_range.1 hj
  cases ht : touch E q j with
  | false => rfl
  | true =>
    simp only [Bool.true_and]
    by_cases hji : j = i
    · subst hji; simp [h.new]
    · rcases hq j hjn hji ht with h1 | h1
      · rw [h.ready j h1, decide_eq_true (h.less i j h.lt h1)]
      · have := h.less j i hjn h1
        rw [decide_eq_false (by omega)]
        cases hl : L j with
        | false => rfl
        | true => have := h.closed j i hjn hl h1; rw [h.new] at this; cases this
theorem Ahead.get (h : Ahead n pr L i) {q : Nat} (hq : Alone n pr E i q) (X : List α) : (run E (idx n L) X)[q]? = (run E (List.range i) X)[q]? := run_congr E X (h.filter hq)
def put1 (L : Nat → Bool) (i : Nat) : Nat → Bool := fun j => L j || j == i
theorem Ahead.put (h : Ahead n pr L i) (hq : ∀ q, touch E q i = true → Alone n pr E i q) (X : List α) : run E (idx n (put1 L i)) X = sets (run E (idx n L) X) (E i) := by
  apply List.ext_getElem?
  intro q
  cases ht : touch E q i with
  | false =>
    rw [sets_other _ _ ht]
    refine run_congr E X ?_
    rw [idx, idx, List.filter_filter, List.filter_filter]
    refine List.filter_congr fun j hj => ?_
    by_cases hji : j = i
    · subst hji; simp [ht]
    · have hb : (j == i) = false := by simpa using hji
      simp only [put1, hb, Bool.or_false]
  | true =>
    have hq' := hq q ht
    have h1 : (idx n (put1 L i)).filter (touch E q) = (List.range (i + 1)).filter (touch E q) := by
      rw [range_lt (n := n) (i := i + 1) (by have := h.lt; omega), idx, List.filter_filter, List.filter_filter]
      refine List.filter_congr fun j hj => ?_
      have hjn := List.mem_range.1 hj
      cases htj : touch E q j with
      | false => rfl
      | true =>
        simp only [Bool.true_and, put1]
        by_cases hji : j = i
        · subst hji; simp
        · rcases hq' j hjn hji htj with h1 | h1
          · have := h.less i j h.lt h1
            rw [h.ready j h1, decide_eq_true (by omega)]; rfl
          · have := h.less j i hjn h1
            rw [decide_eq_false (by omega)]
            cases hl : L j with
            | false => simp [hji]
            | true => have := h.closed j i hjn hl h1; rw [h.new] at this; cases this
    rw [run_congr E X h1, List.range_succ, run_append]
    exact sets_congr _ _ _ (by simp [run_length]) (h.get hq' X).symm
theorem idx_put (h : L i = false) : ∀ n, (idx n (put1 L i)).length = (idx n L).length + if i < n then 1 else 0
  | 0 => by simp [idx]
  | n + 1 => by
    have ih := idx_put h n
    simp only [idx] at ih ⊢
    rw [List.range_succ, List.filter_append, List.filter_append, List.length_append, List.length_append, ih]
    by_cases hin : i = n
    · subst hin
      rw [List.filter_cons_of_pos (by simp [put1]), List.filter_cons_of_neg (by simp [h])]
      simp
    · have : put1 L i n = L n := by simp [put1]; exact fun h => (hin h.symm).elim
      have hiff : (i < n + 1) = (i < n) := by simp; omega
      cases hl : L n
      · rw [List.filter_cons_of_neg (by simp [this, hl]), List.filter_cons_of_neg (by simp [hl])]
        simp [hiff]
      · rw [List.filter_cons_of_pos (by simp [this, hl]), List.filter_cons_of_pos (by simp [hl])]
        simp only [hiff, List.filter_nil, List.length_cons, List.length_nil]
        omega
theorem idx_full (h : n ≤ (idx n L).length) : ∀ i, i < n → L i = true := by
  intro i hi
  have h1 : (idx n L).length ≤ n := by
    have := List.length_filter_le L (List.range n)
    simpa [idx] using this
  have h2 : (List.range n).filter L = List.range n := by
    have hs : List.Sublist ((List.range n).filter L) (List.range n) := List.filter_sublist
    refine hs.eq_of_length ?_
    simp only [idx] at h h1
    simp; omega
  have := List.filter_eq_self.1 h2 i (by simpa using hi)
  exact this
theorem idx_all (h : ∀ i, i < n → L i = true) : idx n L = List.range n := List.filter_eq_self.2 fun i hi => h i (List.mem_range.1 hi)

/-! ## the same operands -/
theorem mapO_congr {α β : Type} {f g : α → Option β} : ∀ {xs : List α}, (∀ x ∈ xs, f x = g x) → mapO f xs = mapO g xs
  | [], _ => rfl
  | x :: xs, h => by simp only [mapO, h x (by simp), mapO_congr (xs := xs) fun y hy => h y (by simp [hy])]
theorem evalOp_congr {P : Program} {T T' : List AVal} {S : List AObj} {slot : Nat} {o : Oper} (h : ∀ x ∈ o.op.operands, opd T x = opd T' x) : evalOp P T S slot o = evalOp P T' S slot o := by
  have pairs : ∀ ps : Array (Nat × Operand), (∀ x ∈ ps.map (·.2), opd T x = opd T' x) → (ps.toList.map fun p => (p.1, opd T p.2)) = (ps.toList.map fun p => (p.1, opd T' p.2)) := fun ps hp =>
    List.map_congr_left fun p hm => by
      have := hp p.2 (Array.mem_map.2 ⟨p, by simpa using hm, rfl⟩)
      simp only [this]
  have lst : ∀ ps : Array Operand, (∀ x ∈ ps, opd T x = opd T' x) → ps.toList.map (opd T) = ps.toList.map (opd T') := fun ps hp => List.map_congr_left fun p hm => hp p (by simpa using hm)
  obtain ⟨dst, op, type, pos, after, guard⟩ := o
  cases op <;> simp only [Op.operands] at h <;> simp only [evalOp]
  case build t ps => rw [pairs ps fun x hx => h x (by simpa using hx)]
  case buildSlice t n ps => rw [pairs ps fun x hx => h x (by simpa using hx)]
  case makeFunc fn first captured =>
    cases fn <;> simp only
    rw [lst captured fun x hx => h x (by simp [hx])]
  case call c =>
    obtain ⟨callee, args, ts⟩ := c
    cases callee <;> simp only
    rw [lst args fun x hx => h x (by simp [Call.operands, hx])]
  case slice t x lo hi mx => cases lo <;> cases hi <;> cases mx <;> simp_all
  all_goals (first | rfl | (simp_all; done))
theorem reads_spec {ops : Array Oper} {o : Oper} {T T' : List AVal} (h : ∀ t ∈ opReads ops o, T[t]? = T'[t]?) : (∀ x ∈ o.op.operands, opd T x = opd T' x) ∧ wantedA ops T o = wantedA ops T' o := by
  constructor
  · intro x hx
    cases x with
    | tmp t =>
      have := h t (List.mem_append_left _ (List.mem_filterMap.2 ⟨.tmp t, by simpa using hx, rfl⟩))
      simp only [opd, List.getD, this]
    | _ => rfl
  · unfold wantedA
    cases hg : o.guard with
    | none => rfl
    | some gw =>
      obtain ⟨g, want⟩ := gw
      cases hd : (ops[g]?).bind (·.dst) with
      | none => simp only [hd]
      | some d =>
        have := h d (List.mem_append_right _ (by simp [hg, hd]))
        simp only [hd, this]
theorem drawOp_congr {c : Cfg} {ev : Ev} {lo : Nat} {T T' : List AVal} {S : List AObj} {slot : Nat} {o : Oper} (h : ∀ x ∈ o.op.operands, opd T x = opd T' x) : drawOp c ev lo T S slot o = drawOp c ev lo T' S slot o := by
  unfold drawOp
  rw [evalOp_congr h]
  cases hc : isCall o with
  | none => rfl
  | some fx =>
    obtain ⟨f, xs⟩ := fx
    obtain ⟨args, ts, ho, rfl⟩ := isCall_some hc
    have h1 : opd T f = opd T' f := h f (by simp [ho, Op.operands, Call.operands])
    have h2 : args.toList.map (opd T) = args.toList.map (opd T') := List.map_congr_left fun p hm => h p (by simp [ho, Op.operands, Call.operands]; exact .inr (by simpa using hm))
    simp only [h1, h2]
theorem drawOp_ok {c : Cfg} {ev : Ev} (hc : CfgOk c) (he : EvOk c ev) {lo slot : Nat} {o : Oper} {a : Act} {C : Ctx} {T : List AVal} {Sh : List AObj} {x : AVal} {e : Eff} {K : Act → World → Prop} {Q : Exit → Act → World → Prop}
    (hS : St C) (hT : RT C T a.tmps) (hslot : C.S[slot]? = some .free) (hL : Less Sh C.S) (h : drawOp c ev lo T Sh slot o = some (x, e)) (hK : After C x (applyEff C.S e) fun u w => K (a.put o.dst u) w) :
    o.wp c.P a C.w K Q := by
  unfold drawOp at h
  split at h
  · rename_i f xs hcall
    obtain ⟨args, ts, ho, rfl⟩ := isCall_some hcall
    split at h
    · rename_i g caps hf
      simp only [Option.map_eq_some_iff, Prod.mk.injEq] at h
      obtain ⟨r, h0, rfl, rfl⟩ := h
      obtain ⟨h1, h2⟩ := peekCall_ok hc he h0
      have hrf := opd_rel hT f
      rw [hf] at hrf
      simp only [Rv] at hrf
      obtain ⟨cs, hv, hcs, hcr⟩ := hrf
      obtain ⟨k1, k2⟩ := args_rel hT args hcs hcr
      unfold Oper.wp
      rw [exec_call ho hv h1, Oper.upon_enter]
      refine (h2 C _ hL hS k1 k2).mono ?_
      rintro e w' ⟨v, C', rfl, rfl, h5, h6, h7, h8⟩
      exact hK v C' h5 h6 h7 h8
    · cases h
  · split at h
    · rename_i x' e' hev
      split at h
      · rename_i hlo
        simp only [Option.some.injEq, Prod.mk.injEq] at h
        obtain ⟨rfl, rfl⟩ := h
        obtain ⟨nx, u, C', h1, h2, h3, h4, h5, h6⟩ := evalOp_ok hS hT (.inr hslot) (evalOp_less hL hev)
        unfold Oper.wp
        rw [h1]
        have hk := hK u C' h3 h4 h5 h6
        cases nx <;> simp only [nextVal, Option.some.injEq, reduceCtorEq] at h2
        · subst h2; exact hk
        · subst h2; exact hk
      · cases h
    · cases h
end Go.Proofs.Ytmopbegmdegooaa.Vm
