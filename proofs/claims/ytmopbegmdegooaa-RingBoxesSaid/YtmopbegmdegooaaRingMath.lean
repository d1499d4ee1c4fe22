/- Rings: their areas, and where points lie to them: plain numbers, no program in sight. -/
import Derived.Test.YtmopbegmdegooaaSegMath
import Derived.Test.YtmopbegmdegooaaRing
import Derived.Test.YtmopbegmdegooaaRay
namespace Go.Proofs.Ytmopbegmdegooaa
open M
set_option linter.unusedVariables false
set_option linter.unusedSimpArgs false
def cross (x : SegP) : Int := x.1.1 * x.2.2 - x.1.2 * x.2.1
/-- A path's segments. -/
def pathS : List P2 → List SegP
  | [] => []
  | [_] => []
  | p :: q :: l => (p, q) :: pathS (q :: l)
/-- A ring's segments. -/
def ringS : List P2 → List SegP
  | [] => []
  | p :: l => pathS (p :: l ++ [p])
def sumC (xs : List SegP) : Int := (xs.map cross).sum
theorem sumC_append (xs ys : List SegP) : sumC (xs ++ ys) = sumC xs + sumC ys := by simp [sumC]
theorem sumC_cons (x : SegP) (ys : List SegP) : sumC (x :: ys) = cross x + sumC ys := by simp [sumC]
theorem pathS_length : ∀ l : List P2, (pathS l).length = l.length - 1
  | [] => rfl
  | [_] => rfl
  | p :: q :: l => by simp [pathS, pathS_length (q :: l)]
theorem pathS_get : ∀ (l : List P2) (k : Nat) (h : k + 1 < l.length), (pathS l)[k]? = some (l[k], l[k + 1])
  | [], k, h => by simp at h
  | [_], k, h => by simp at h
  | p :: q :: l, 0, h => rfl
  | p :: q :: l, k + 1, h => by
    simp only [pathS, List.getElem?_cons_succ]
    rw [pathS_get (q :: l) k (by simpa using h)]
    rfl
theorem pathS_append : ∀ (xs : List P2) (m : P2) (ys : List P2), pathS (xs ++ m :: ys) = pathS (xs ++ [m]) ++ pathS (m :: ys)
  | [], m, ys => by simp [pathS]
  | [x], m, ys => by simp [pathS]
  | x :: y :: xs, m, ys => by
    have := pathS_append (y :: xs) m ys
    simp only [List.cons_append, pathS] at this ⊢
    rw [this]
theorem segs_eq (ps : List P2) : upto (segAt ps) ps.length = ringS ps := by
  match ps with
  | [] => rfl
  | p :: l =>
    apply List.ext_getElem?
    intro k
    by_cases hk : k < (p :: l).length
    · have h1 : (upto (segAt (p :: l)) (p :: l).length)[k]? = some (segAt (p :: l) k) := by
        unfold upto
        rw [List.getElem?_map, List.getElem?_range hk]
        rfl
      have h2 := pathS_get (p :: l ++ [p]) k (by simpa using hk)
      rw [h1]
      show _ = (pathS (p :: l ++ [p]))[k]?
      rw [h2]
      congr 1
      unfold segAt
      rw [List.getElem?_eq_getElem hk]
      simp only [Option.getD_some]
      refine Prod.ext ?_ ?_
      · simp only [List.getElem_append_left hk]
      · simp only
        by_cases h : k + 1 < (p :: l).length
        · rw [Nat.mod_eq_of_lt h, List.getElem?_eq_getElem h, List.getElem_append_left h]
          rfl
        · have e : k + 1 = (p :: l).length := by omega
          rw [List.getElem_append_right (by omega)]
          simp [e]
    · rw [List.getElem?_eq_none (by simp [upto]; simpa using hk), List.getElem?_eq_none]
      show (pathS (p :: l ++ [p])).length ≤ k
      rw [pathS_length]
      simp at hk ⊢
      omega
theorem pathS_mem : ∀ (l : List P2) (x : SegP), x ∈ pathS l → x.1 ∈ l ∧ x.2 ∈ l
  | [], x, h => by simp [pathS] at h
  | [_], x, h => by simp [pathS] at h
  | p :: q :: l, x, h => by
    simp only [pathS, List.mem_cons] at h
    rcases h with rfl | h
    · simp
    · have := pathS_mem (q :: l) x h
      exact ⟨List.mem_cons_of_mem _ this.1, List.mem_cons_of_mem _ this.2⟩
theorem ringS_mem {ps : List P2} {x : SegP} (h : x ∈ ringS ps) : x.1 ∈ ps ∧ x.2 ∈ ps := by
  match ps, h with
  | [], h => simp [ringS] at h
  | p :: l, h =>
    have := pathS_mem _ x h
    simp only [List.mem_append, List.mem_singleton] at this
    have e : ∀ y, (y ∈ p :: l ∨ y = p) → y ∈ p :: l := fun y hy => hy.elim id fun h => by simp [h]
    exact ⟨e _ this.1, e _ this.2⟩
theorem pathS_map (f : P2 → P2) : ∀ l : List P2, pathS (l.map f) = (pathS l).map fun x => (f x.1, f x.2)
  | [] => rfl
  | [_] => rfl
  | p :: q :: l => by
    have := pathS_map f (q :: l)
    simp only [List.map_cons, pathS] at this ⊢
    rw [this]
theorem ringS_map (f : P2 → P2) (l : List P2) : ringS (l.map f) = (ringS l).map fun x => (f x.1, f x.2) := by
  match l with
  | [] => rfl
  | p :: l =>
    show pathS (f p :: l.map f ++ [f p]) = _
    have := pathS_map f (p :: l ++ [p])
    simpa [ringS] using this
theorem ringS_rot (xs ys : List P2) : (ringS (xs ++ ys)).Perm (ringS (ys ++ xs)) := by
  match xs, ys with
  | [], ys => simp
  | xs, [] => simp
  | x :: xs, y :: ys =>
    have e1 : ringS (x :: xs ++ y :: ys) = pathS (x :: xs ++ [y]) ++ pathS (y :: ys ++ [x]) := by
      show pathS (x :: (xs ++ y :: ys) ++ [x]) = _
      have := pathS_append (x :: xs) y (ys ++ [x])
      simpa using this
    have e2 : ringS (y :: ys ++ x :: xs) = pathS (y :: ys ++ [x]) ++ pathS (x :: xs ++ [y]) := by
      show pathS (y :: (ys ++ x :: xs) ++ [y]) = _
      have := pathS_append (y :: ys) x (xs ++ [y])
      simpa using this
    rw [e1, e2]
    exact List.perm_append_comm
theorem pathS_reverse : ∀ l : List P2, pathS l.reverse = ((pathS l).map fun x => (x.2, x.1)).reverse
  | [] => rfl
  | [_] => rfl
  | p :: q :: l => by
    have h1 := pathS_reverse (q :: l)
    have h2 := pathS_append l.reverse q [p]
    simp only [List.reverse_cons, List.append_assoc, List.cons_append, List.nil_append] at h1 h2 ⊢
    rw [h2, h1]
    simp [pathS]
theorem ringS_turned (p : P2) (l : List P2) : ringS (p :: l.reverse) = ((ringS (p :: l)).map fun x => (x.2, x.1)).reverse := by
  have := pathS_reverse (p :: l ++ [p])
  simp only [List.reverse_append, List.reverse_cons, List.reverse_nil, List.nil_append, List.cons_append] at this
  show pathS (p :: l.reverse ++ [p]) = ((pathS (p :: l ++ [p])).map _).reverse
  simpa using this
theorem cross_flip (x : SegP) : cross (x.2, x.1) = - cross x := by unfold cross; simp only; grind
theorem sumC_flip (xs : List SegP) : sumC (xs.map fun x => (x.2, x.1)).reverse = - sumC xs := by
  induction xs with
  | nil => rfl
  | cons x xs ih =>
    simp only [List.map_cons, List.reverse_cons, sumC_append, ih, sumC_cons, cross_flip]
    have : sumC [] = 0 := rfl
    omega
theorem sumC_perm {xs ys : List SegP} (h : xs.Perm ys) : sumC xs = sumC ys := by
  induction h with
  | nil => rfl
  | cons x _ ih => simp only [sumC_cons, ih]
  | swap x y l => simp only [sumC_cons]; omega
  | trans _ _ h1 h2 => exact h1.trans h2
def lastP : P2 → List P2 → P2
  | p, [] => p
  | _, q :: l => lastP q l
theorem lastP_snoc (q : P2) : ∀ (p : P2) (l : List P2), lastP p (l ++ [q]) = q
  | p, [] => rfl
  | p, x :: l => lastP_snoc q x l
/-- A step of all points adds what falls out round a ring. -/
theorem sumC_path (u v : Int) : ∀ (p : P2) (l : List P2), sumC (pathS ((p :: l).map fun x => (x.1 + u, x.2 + v))) = sumC (pathS (p :: l)) + u * ((lastP p l).2 - p.2) - v * ((lastP p l).1 - p.1)
  | p, [] => by simp [pathS, sumC, lastP]
  | p, q :: l => by
    have := sumC_path u v q l
    simp only [List.map_cons, pathS, sumC_cons, lastP] at this ⊢
    rw [this]
    unfold cross
    simp only
    grind
theorem sumC_move (u v : Int) (ps : List P2) : sumC (ringS (ps.map fun x => (x.1 + u, x.2 + v))) = sumC (ringS ps) := by
  match ps with
  | [] => rfl
  | p :: l =>
    have := sumC_path u v p (l ++ [p])
    rw [lastP_snoc, Int.sub_self, Int.sub_self, Int.mul_zero, Int.mul_zero, Int.add_zero, Int.sub_zero] at this
    rw [show ringS (p :: l) = pathS (p :: (l ++ [p])) from rfl, ← this]
    simp [ringS]
theorem ringS_two (p q : P2) : sumC (ringS [p, q]) = 0 := by
  simp only [ringS, List.cons_append, List.nil_append, pathS, sumC, List.map_cons, List.map_nil, List.sum_cons, List.sum_nil, cross]
  grind
theorem ringS_one (p : P2) : sumC (ringS [p]) = 0 := by
  simp only [ringS, List.cons_append, List.nil_append, pathS, sumC, List.map_cons, List.map_nil, List.sum_cons, List.sum_nil, cross]
  grind
theorem ringS_short {ps : List P2} (h : ps.length < 3) : sumC (ringS ps) = 0 := by
  match ps, h with
  | [], _ => rfl
  | [p], _ => exact ringS_one p
  | [p, q], _ => exact ringS_two p q
/-- A ring cut in two. -/
theorem ringS_cut (xs : List P2) (a : P2) (ys : List P2) (b : P2) (zs : List P2) :
    sumC (ringS (a :: ys ++ [b])) + sumC (ringS (b :: zs ++ (xs ++ [a]))) = sumC (ringS (xs ++ a :: ys ++ b :: zs)) := by
  have e1 : sumC (ringS (a :: ys ++ [b])) = sumC (pathS (a :: ys ++ [b])) + cross (b, a) := by
    have := pathS_append (a :: ys) b [a]
    show sumC (pathS (a :: (ys ++ [b]) ++ [a])) = _
    simp only [List.cons_append, List.append_assoc, List.nil_append] at this ⊢
    rw [this, sumC_append]
    simp [pathS, sumC]
  have e2 : sumC (ringS (b :: zs ++ (xs ++ [a]))) = sumC (pathS (b :: zs ++ (xs ++ [a]))) + cross (a, b) := by
    have := pathS_append (b :: zs ++ xs) a [b]
    show sumC (pathS (b :: (zs ++ (xs ++ [a])) ++ [b])) = _
    simp only [List.cons_append, List.append_assoc, List.nil_append] at this ⊢
    rw [this, sumC_append]
    simp [pathS, sumC]
  have e4 : (ringS (xs ++ a :: ys ++ b :: zs)).Perm (ringS ((a :: ys ++ b :: zs) ++ xs)) := by
    have := ringS_rot xs (a :: ys ++ b :: zs)
    simpa using this
  have e5 : sumC (ringS ((a :: ys ++ b :: zs) ++ xs)) = sumC (pathS (a :: ys ++ [b])) + sumC (pathS (b :: zs ++ (xs ++ [a]))) := by
    have := pathS_append (a :: ys) b (zs ++ xs ++ [a])
    show sumC (pathS (a :: (ys ++ b :: zs ++ xs) ++ [a])) = _
    simp only [List.cons_append, List.append_assoc, List.nil_append] at this ⊢
    rw [this, sumC_append]
  have e6 : cross (b, a) = - cross (a, b) := cross_flip (a, b)
  rw [e1, e2, sumC_perm e4, e5]
  omega
/-! ## where a point lies -/
def rayN (p : P2) (xs : List SegP) : Nat := xs.countP fun x => ray x.1 x.2 p
def onAny (p : P2) (xs : List SegP) : Bool := xs.any fun x => M.on x.1 x.2 p
def insideS (xs : List SegP) (p : P2) : Int := if onAny p xs then 0 else if rayN p xs % 2 = 0 then -1 else 1
theorem insideS_perm {xs ys : List SegP} (h : xs.Perm ys) (p : P2) : insideS xs p = insideS ys p := by
  unfold insideS onAny rayN
  rw [h.any_eq, h.countP_eq]
theorem insideS_map {f : SegP → SegP} {p q : P2} {xs : List SegP} (h : ∀ x ∈ xs, M.on (f x).1 (f x).2 q = M.on x.1 x.2 p ∧ ray (f x).1 (f x).2 q = ray x.1 x.2 p) : insideS (xs.map f) q = insideS xs p := by
  have key : ∀ ys : List SegP, (∀ x ∈ ys, M.on (f x).1 (f x).2 q = M.on x.1 x.2 p ∧ ray (f x).1 (f x).2 q = ray x.1 x.2 p) → onAny q (ys.map f) = onAny p ys ∧ rayN q (ys.map f) = rayN p ys := by
    intro ys
    induction ys with
    | nil => intro _; exact ⟨rfl, rfl⟩
    | cons y ys ih =>
      intro h
      obtain ⟨h1, h2⟩ := ih fun x hx => h x (by simp [hx])
      unfold onAny rayN at *
      simp only [List.map_cons, List.any_cons, List.countP_cons, (h y (by simp)).1, (h y (by simp)).2, h1, h2, and_self]
  obtain ⟨h1, h2⟩ := key xs h
  unfold insideS
  rw [h1, h2]
theorem on_flip (a b p : P2) : M.on a b p = M.on b a p := by
  unfold M.on onR turnR
  generalize nearP a = a
  generalize nearP b = b
  generalize nearP p = p
  have h : area a b p = - area b a p := by unfold area; grind
  have h2 : (sgn (area a b p) == 0) = (sgn (area b a p) == 0) := by
    rw [h]
    unfold sgn
    by_cases h1 : area b a p < 0
    · rw [if_neg (by omega), if_pos (by omega), if_pos h1]; rfl
    · by_cases h3 : 0 < area b a p
      · rw [if_pos (by omega), if_neg h1, if_pos h3]; rfl
      · rw [if_neg (by omega), if_neg (by omega), if_neg h1, if_neg h3]
  rw [h2]
  have e1 : min a.1 b.1 = min b.1 a.1 := by omega
  have e2 : max a.1 b.1 = max b.1 a.1 := by omega
  have e3 : min a.2 b.2 = min b.2 a.2 := by omega
  have e4 : max a.2 b.2 = max b.2 a.2 := by omega
  rw [e1, e2, e3, e4]
theorem ray_flip (a b p : P2) : ray a b p = ray b a p := by
  unfold ray rayR
  generalize nearP a = a
  generalize nearP b = b
  generalize nearP p = p
  by_cases h1 : a.2 > b.2
  · rw [decide_eq_true h1, decide_eq_false (p := b.2 > a.2) (by omega)]
    rfl
  · by_cases h2 : b.2 > a.2
    · rw [decide_eq_false h1, decide_eq_true (p := b.2 > a.2) (by omega)]
      rfl
    · have e : a.2 = b.2 := by omega
      rw [decide_eq_false h1, decide_eq_false h2]
      simp only [cond_false, e]
      by_cases h3 : b.2 > p.2
      · rw [decide_eq_false (p := b.2 ≤ p.2) (by omega)]
        simp
      · rw [decide_eq_false h3]
        simp
theorem on_move {a b p : P2} {u v : Int} (ha : inG a ∧ inG (a.1 + u, a.2 + v)) (hb : inG b ∧ inG (b.1 + u, b.2 + v)) (hp : inG p ∧ inG (p.1 + u, p.2 + v)) : M.on (a.1 + u, a.2 + v) (b.1 + u, b.2 + v) (p.1 + u, p.2 + v) = M.on a b p := by
  rw [Bool.eq_iff_iff, on_iff ha.2 hb.2 hp.2, on_iff ha.1 hb.1 hp.1]
  have e : area (a.1 + u, a.2 + v) (b.1 + u, b.2 + v) (p.1 + u, p.2 + v) = area a b p := by unfold area; grind
  rw [e]
  simp only
  omega
theorem ray_move {a b p : P2} {u v : Int} (ha : inG a ∧ inG (a.1 + u, a.2 + v)) (hb : inG b ∧ inG (b.1 + u, b.2 + v)) (hp : inG p ∧ inG (p.1 + u, p.2 + v)) : ray (a.1 + u, a.2 + v) (b.1 + u, b.2 + v) (p.1 + u, p.2 + v) = ray a b p := by
  unfold ray
  rw [nearP_id ha.1, nearP_id ha.2, nearP_id hb.1, nearP_id hb.2, nearP_id hp.1, nearP_id hp.2]
  have e1 : area (a.1 + u, a.2 + v) (b.1 + u, b.2 + v) (p.1 + u, p.2 + v) = area a b p := by unfold area; grind
  have e2 : area (b.1 + u, b.2 + v) (a.1 + u, a.2 + v) (p.1 + u, p.2 + v) = area b a p := by unfold area; grind
  unfold rayR turnR
  rw [e1, e2]
  simp only
  have c1 : decide (a.2 + v > b.2 + v) = decide (a.2 > b.2) := by congr 1; apply propext; omega
  have c2 : decide (a.2 + v > p.2 + v) = decide (a.2 > p.2) := by congr 1; apply propext; omega
  have c3 : decide (b.2 + v > p.2 + v) = decide (b.2 > p.2) := by congr 1; apply propext; omega
  have c4 : decide (b.2 + v ≤ p.2 + v) = decide (b.2 ≤ p.2) := by congr 1; apply propext; omega
  have c5 : decide (a.2 + v ≤ p.2 + v) = decide (a.2 ≤ p.2) := by congr 1; apply propext; omega
  rw [c1, c2, c3, c4, c5]
/-- A ring moved, and the point with it. -/
theorem inside_move {ps : List P2} {p : P2} {u v : Int} (h : ∀ x ∈ ps, inG x ∧ inG (x.1 + u, x.2 + v)) (hp : inG p ∧ inG (p.1 + u, p.2 + v)) :
    insideS (ringS (ps.map fun x => (x.1 + u, x.2 + v))) (p.1 + u, p.2 + v) = insideS (ringS ps) p := by
  rw [ringS_map]
  refine insideS_map fun x hx => ?_
  have hm := ringS_mem hx
  exact ⟨on_move (h _ hm.1) (h _ hm.2) hp, ray_move (h _ hm.1) (h _ hm.2) hp⟩
theorem inside_rot (xs ys : List P2) (p : P2) : insideS (ringS (xs ++ ys)) p = insideS (ringS (ys ++ xs)) p := insideS_perm (ringS_rot xs ys) p
theorem inside_turned (q : P2) (l : List P2) (p : P2) : insideS (ringS (q :: l.reverse)) p = insideS (ringS (q :: l)) p := by
  rw [ringS_turned, insideS_perm (List.reverse_perm _)]
  exact insideS_map fun x _ => ⟨on_flip _ _ _, ray_flip _ _ _⟩
end Go.Proofs.Ytmopbegmdegooaa
