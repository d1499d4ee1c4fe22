/- Regions that draw their order, on: the walk. -/
import Derived.Test.YtmopbegmdegooaaVmDraw
namespace Go.Proofs.Ytmopbegmdegooaa.Vm
open Go Go.RowKit
set_option linter.unusedVariables false
set_option linter.unusedSimpArgs false
set_option linter.unnecessarySimpa false

/-! ## who goes ahead -/
theorem mem_insN {l : List Nat} {x k : Nat} (h : k ∈ insN l x) : k = x ∨ k ∈ l := by
  unfold insN at h
  split at h
  · exact .inr h
  · simpa using h
theorem mem_insNs {k : Nat} : ∀ {xs l : List Nat}, k ∈ xs.foldl insN l → k ∈ l ∨ k ∈ xs
  | [], l, h => .inl h
  | x :: xs, l, h => by
    rcases mem_insNs (xs := xs) h with h | h
    · rcases mem_insN h with h | h
      · exact .inr (by simp [h])
      · exact .inl h
    · exact .inr (by simp [h])
theorem mem_predsOf {acc : List (List Nat)} {o : Oper} {k : Nat} (h : k ∈ predsOf acc o) : ∃ e ∈ o.after, Region.binds .any e = true ∧ (k = e.on ∨ k ∈ acc.getD e.on []) := by
  unfold predsOf at h
  have : ∀ (es : List Edge) (l : List Nat), k ∈ es.foldl (fun l e => if Region.binds .any e then (acc.getD e.on []).foldl insN (insN l e.on) else l) l → k ∈ l ∨ ∃ e ∈ es, Region.binds .any e = true ∧ (k = e.on ∨ k ∈ acc.getD e.on []) := by
    intro es
    induction es with
    | nil => intro l h; exact .inl h
    | cons e es ih =>
      intro l h
      rcases ih _ h with h | ⟨e', he', h'⟩
      · dsimp only at h
        split at h
        · rename_i hb
          rcases mem_insNs h with h | h
          · rcases mem_insN h with h | h
            · exact .inr ⟨e, by simp, hb, .inl h⟩
            · exact .inl h
          · exact .inr ⟨e, by simp, hb, .inr h⟩
        · exact .inl h
      · exact .inr ⟨e', by simp [he'], h'⟩
  rcases this _ _ h with h | ⟨e, he, h⟩
  · simp at h
  · exact ⟨e, by simpa using he, h⟩
theorem predsAll_take : ∀ (rest : List Oper) (acc : List (List Nat)), (predsAll rest acc).take acc.length = acc
  | [], acc => by simp [predsAll]
  | o :: rest, acc => by
    simp only [predsAll]
    have := predsAll_take rest (acc ++ [predsOf acc o])
    have h2 := congrArg (List.take acc.length) this
    rw [List.take_take] at h2
    simpa using h2
theorem predsAll_get : ∀ (rest : List Oper) (acc : List (List Nat)) (k : Nat) (o : Oper), rest[k]? = some o →
    (predsAll rest acc).getD (acc.length + k) [] = predsOf ((predsAll rest acc).take (acc.length + k)) o
  | [], acc, k, o, h => by simp at h
  | o' :: rest, acc, 0, o, h => by
    simp only [List.getElem?_cons_zero, Option.some.injEq] at h
    subst h
    simp only [predsAll, Nat.add_zero]
    have h1 := predsAll_take rest (acc ++ [predsOf acc o'])
    have h2 : (predsAll rest (acc ++ [predsOf acc o'])).take acc.length = acc := by
      have h2 := congrArg (List.take acc.length) h1
      rw [List.take_take] at h2
      simpa using h2
    rw [h2]
    have h3 : ((predsAll rest (acc ++ [predsOf acc o'])).take (acc ++ [predsOf acc o']).length)[acc.length]? = some (predsOf acc o') := by rw [h1]; simp
    rw [List.getElem?_take] at h3
    simp only [List.length_append, List.length_cons, List.length_nil] at h3
    rw [if_pos (by omega)] at h3
    simp [List.getD, h3]
  | o' :: rest, acc, k + 1, o, h => by
    simp only [predsAll]
    have := predsAll_get rest (acc ++ [predsOf acc o']) k o (by simpa using h)
    simp only [List.length_append, List.length_cons, List.length_nil] at this
    rwa [show acc.length + (0 + 1) + k = acc.length + (k + 1) by omega] at this
def prB (pr : List (List Nat)) (j k : Nat) : Bool := (pr.getD j []).contains k
theorem prB_spec {ops : Array Oper} {j k : Nat} (hj : j < ops.size) (h : prB (predsAll ops.toList []) j k = true) :
    ∃ e ∈ ops[j].after, Region.binds .any e = true ∧ (k = e.on ∨ (e.on < j ∧ prB (predsAll ops.toList []) e.on k = true)) := by
  have h0 := predsAll_get ops.toList [] j ops[j] (by simp)
  simp only [List.length_nil, Nat.zero_add] at h0
  unfold prB at h ⊢
  rw [h0] at h
  obtain ⟨e, he, hb, hk⟩ := mem_predsOf (by simpa using h)
  refine ⟨e, he, hb, ?_⟩
  rcases hk with hk | hk
  · exact .inl hk
  · right
    by_cases hlt : e.on < j
    · refine ⟨hlt, ?_⟩
      rw [List.getD_eq_getElem?_getD, List.getElem?_take, if_pos hlt, ← List.getD_eq_getElem?_getD] at hk
      simpa using hk
    · rw [List.getD_eq_getElem?_getD, List.getElem?_take, if_neg hlt] at hk
      simp at hk
theorem ahead_spec {ops : Array Oper} (h : aheadOk ops = true) {j : Nat} (hj : j < ops.size) {e : Edge} (he : e ∈ ops[j].after) (hb : Region.binds .any e = true) : e.on < j := by
  unfold aheadOk at h
  have := List.all_eq_true.1 h j (List.mem_range.2 hj)
  simp only [Array.getElem?_eq_getElem hj, Array.all_eq_true_iff_forall_mem] at this
  have := this e he
  simpa [hb] using this
theorem prB_less {ops : Array Oper} (h : aheadOk ops = true) : ∀ (j k : Nat), j < ops.size → prB (predsAll ops.toList []) j k = true → k < j := by
  intro j
  induction j using Nat.strongRecOn with
  | ind j ih =>
    intro k hj hk
    obtain ⟨e, he, hb, hk⟩ := prB_spec hj hk
    have := ahead_spec h hj he hb
    rcases hk with rfl | ⟨_, hk⟩
    · exact this
    · have := ih e.on this k (by omega) hk
      omega
theorem apart_spec {ops : Array Oper} {pr : List (List Nat)} (h : apartT ops pr = true) {i j d : Nat} (hi : i < ops.size) (hj : j < ops.size) (hij : i ≠ j) (hd : ops[i].dst = some d) (h2 : d ∈ opReads ops ops[j] ∨ ops[j].dst = some d) : prB pr i j = true ∨ prB pr j i = true := by
  unfold apartT at h
  have := List.all_eq_true.1 (List.all_eq_true.1 h i (List.mem_range.2 hi)) j (List.mem_range.2 hj)
  simp only [Array.getElem?_eq_getElem hi, Array.getElem?_eq_getElem hj, hd] at this
  unfold prB
  cases h1 : (pr.getD i []).contains j with
  | true => exact .inl rfl
  | false =>
    cases h3 : (pr.getD j []).contains i with
    | true => exact .inr rfl
    | false =>
      exfalso
      rw [h1, h3] at this
      have hb : (i == j) = false := by simpa using hij
      rw [hb] at this
      simp only [Bool.false_or, Bool.and_eq_true, Bool.not_eq_true', bne_iff_ne, ne_eq] at this
      rcases h2 with h2 | h2
      · have h4 := this.1
        rw [List.contains_iff_mem.2 h2] at h4
        cases h4
      · exact this.2 h2

/-! ## the look in the text's order -/
def dstE (ops : Array Oper) (D : Nat → AVal × Eff) (i : Nat) : List (Nat × AVal) := match (ops[i]?).bind (·.dst) with | some d => [(d, (D i).1)] | none => []
def effE (D : Nat → AVal × Eff) (i : Nat) : Eff := (D i).2
theorem putT_sets {ops : Array Oper} {D : Nat → AVal × Eff} {i : Nat} {o : Oper} (ho : ops[i]? = some o) (T : List AVal) : putT T o.dst (D i).1 = sets T (dstE ops D i) := by
  unfold dstE
  rw [ho]
  cases hd : o.dst <;> simp [putT, sets, hd]
theorem applyEff_sets : ∀ (e : Eff) (S : List AObj), (∀ p ∈ e, p.1 < S.length) → applyEff S e = sets S e
  | [], S, _ => rfl
  | (q, x) :: e, S, h => by
    have h1 : q < S.length := h (q, x) (by simp)
    simp only [applyEff, setObj, if_pos h1]
    exact applyEff_sets e _ fun p hp => by simpa using h p (by simp [hp])
theorem run_ext {α : Type} {E E' : Nat → List (Nat × α)} : ∀ {l : List Nat} (X : List α), (∀ k ∈ l, E k = E' k) → run E l X = run E' l X
  | [], X, _ => rfl
  | i :: l, X, h => by
    simp only [run, List.foldl_cons, h i (by simp)]
    exact run_ext _ fun k hk => h k (by simp [hk])
def unordU (ops : Array Oper) (pr W : List (List Nat)) (i : Nat) : List Nat := (unordered pr ops.size i).flatMap fun j => W.getD j []
def fits (ops : Array Oper) (pr W : List (List Nat)) (n0 i : Nat) (e : Eff) : Bool :=
  e.all fun p => (W.getD i []).contains p.1 && !(unordU ops pr W i).contains p.1 && (p.1 < n0 || p.1 == n0 + i || ((pr.getD i []).any fun j => p.1 == n0 + j))
def Good (c : Cfg) (ev : Ev) (lo : Nat) (ops : Array Oper) (pr W : List (List Nat)) (n0 : Nat) (D : Nat → AVal × Eff) (i : Nat) (T : List AVal) (S : List AObj) : Prop :=
  ∃ o, ops[i]? = some o ∧ ((wantedA ops T o = some true ∧ drawOp c ev lo T (hideAll (unordU ops pr W i) S) (n0 + i) o = some (D i) ∧ fits ops pr W n0 i (D i).2 = true) ∨
    (wantedA ops T o = some false ∧ D i = (.v undef, [])))
theorem fits_lt {ops : Array Oper} {W : List (List Nat)} {n0 i : Nat} {e : Eff} (ha : aheadOk ops = true) (hi : i < ops.size) (h : fits ops (predsAll ops.toList []) W n0 i e = true) : ∀ p ∈ e, p.1 < n0 + ops.size := by
  intro p hp
  have := List.all_eq_true.1 h p hp
  simp only [Bool.and_eq_true, Bool.or_eq_true, decide_eq_true_eq, beq_iff_eq, List.any_eq_true] at this
  rcases this.2 with (h1 | h1) | ⟨j, h1, h2⟩
  · omega
  · omega
  · have := prB_less ha i j hi (by unfold prB; simpa using h1)
    omega
theorem pass2_trace {c : Cfg} {ev : Ev} {lo : Nat} {ops : Array Oper} {W : List (List Nat)} {n0 : Nat} (ha : aheadOk ops = true) : ∀ (rest : List Oper) (i : Nat) (T : List AVal) (S : List AObj) (T' : List AVal) (S' : List AObj),
    ops.toList.drop i = rest → S.length = n0 + ops.size → pass2 c ev lo ops (predsAll ops.toList []) W n0 i rest T S = some (T', S') →
    ∃ D : Nat → AVal × Eff, (∀ j, i ≤ j → j < ops.size → Good c ev lo ops (predsAll ops.toList []) W n0 D j (run (dstE ops D) (List.range' i (j - i)) T) (run (effE D) (List.range' i (j - i)) S)) ∧
      T' = run (dstE ops D) (List.range' i (ops.size - i)) T ∧ S' = run (effE D) (List.range' i (ops.size - i)) S := by
  intro rest
  induction rest with
  | nil =>
    intro i T S T' S' hd hl h
    simp only [pass2, Option.some.injEq, Prod.mk.injEq] at h
    obtain ⟨rfl, rfl⟩ := h
    have : ops.size ≤ i := by simpa using hd
    refine ⟨fun _ => (.junk, []), fun j h1 h2 => by omega, ?_, ?_⟩ <;> rw [show ops.size - i = 0 by omega] <;> rfl
  | cons o rest ih =>
    intro i T S T' S' hd hl h
    have hi : i < ops.size := by
      rcases Nat.lt_or_ge i ops.size with h1 | h1
      · exact h1
      · rw [List.drop_eq_nil_of_le (by simpa using h1)] at hd; cases hd
    rw [List.drop_eq_getElem_cons (by simpa using hi)] at hd
    obtain ⟨ho, hrest⟩ := List.cons.inj hd
    have ho' : ops[i]? = some o := by rw [Array.getElem?_eq_getElem hi]; simpa using ho
    -- what the first doer and the others make
    have key : ∀ (d : AVal × Eff), (∀ p ∈ d.2, p.1 < n0 + ops.size) → ((wantedA ops T o = some true ∧ drawOp c ev lo T (hideAll (unordU ops (predsAll ops.toList []) W i) S) (n0 + i) o = some d ∧ fits ops (predsAll ops.toList []) W n0 i d.2 = true) ∨ (wantedA ops T o = some false ∧ d = (.v undef, []))) →
        pass2 c ev lo ops (predsAll ops.toList []) W n0 (i + 1) rest (putT T o.dst d.1) (applyEff S d.2) = some (T', S') →
        ∃ D : Nat → AVal × Eff, (∀ j, i ≤ j → j < ops.size → Good c ev lo ops (predsAll ops.toList []) W n0 D j (run (dstE ops D) (List.range' i (j - i)) T) (run (effE D) (List.range' i (j - i)) S)) ∧
          T' = run (dstE ops D) (List.range' i (ops.size - i)) T ∧ S' = run (effE D) (List.range' i (ops.size - i)) S := by
      intro d hd2 hg h
      have hS1 : applyEff S d.2 = sets S d.2 := applyEff_sets _ _ fun p hp => by rw [hl]; exact hd2 p hp
      obtain ⟨D', h1, h2, h3⟩ := ih (i + 1) _ _ T' S' hrest (by rw [hS1, sets_length, hl]) h
      let D : Nat → AVal × Eff := fun j => if j = i then d else D' j
      have hDi : D i = d := by simp [D]
      have eT : ∀ k X, i + 1 ≤ k → run (dstE ops D') (List.range' (i + 1) (k - (i + 1))) X = run (dstE ops D) (List.range' (i + 1) (k - (i + 1))) X := fun k X hk =>
        run_ext X fun m hm => by
          have := List.mem_range'_1.1 hm
          have hne : m ≠ i := by omega
          simp [dstE, D, hne]
      have eS : ∀ k X, i + 1 ≤ k → run (effE D') (List.range' (i + 1) (k - (i + 1))) X = run (effE D) (List.range' (i + 1) (k - (i + 1))) X := fun k X hk =>
        run_ext X fun m hm => by
          have := List.mem_range'_1.1 hm
          have hne : m ≠ i := by omega
          simp [effE, D, hne]
      have sT : ∀ k, i + 1 ≤ k → run (dstE ops D) (List.range' i (k - i)) T = run (dstE ops D) (List.range' (i + 1) (k - (i + 1))) (putT T o.dst d.1) := fun k hk => by
        rw [show k - i = (k - (i + 1)) + 1 by omega, List.range'_succ, ← hDi, putT_sets ho']
        rfl
      have sS : ∀ k, i + 1 ≤ k → run (effE D) (List.range' i (k - i)) S = run (effE D) (List.range' (i + 1) (k - (i + 1))) (applyEff S d.2) := fun k hk => by
        rw [show k - i = (k - (i + 1)) + 1 by omega, List.range'_succ, hS1, ← hDi]
        rfl
      refine ⟨D, fun j hij hj => ?_, ?_, ?_⟩
      · by_cases hji : j = i
        · subst hji
          rw [Nat.sub_self]
          refine ⟨o, ho', ?_⟩
          rw [hDi]
          exact hg
        · have hk : i + 1 ≤ j := by omega
          obtain ⟨o2, ho2, hg2⟩ := h1 j hk hj
          refine ⟨o2, ho2, ?_⟩
          rw [sT j hk, sS j hk, ← eT j _ hk, ← eS j _ hk]
          have : D j = D' j := by simp [D, hji]
          rw [this]
          exact hg2
      · rw [sT _ (by omega), ← eT _ _ (by omega)]; exact h2
      · rw [sS _ (by omega), ← eS _ _ (by omega)]; exact h3
    simp only [pass2] at h
    split at h
    · rename_i hw
      split at h
      · rename_i x e hx
        split at h
        · rename_i hf
          have hf' : fits ops (predsAll ops.toList []) W n0 i e = true := hf
          exact key (x, e) (fits_lt ha hi hf') (.inl ⟨hw, hx, hf'⟩) h
        · cases h
      · cases h
    · rename_i hw
      exact key (.v undef, []) (by simp) (.inr ⟨hw, rfl⟩) h
    · cases h
end Go.Proofs.Ytmopbegmdegooaa.Vm
