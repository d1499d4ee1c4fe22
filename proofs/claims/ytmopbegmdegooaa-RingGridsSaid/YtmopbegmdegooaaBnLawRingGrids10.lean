/- Texts put together: GridMath. What is proved stands at the head of each part. -/
import Derived.Test.YtmopbegmdegooaaBnLine9
/- Segments and the points of a grid that are on both: plain numbers, no program in sight. -/
namespace Go.Proofs.Ytmopbegmdegooaa
open M
set_option linter.unusedVariables false
set_option linter.unusedSimpArgs false
def btw (a b x : Int) : Prop := min a b ≤ x ∧ x ≤ max a b
theorem sq_pos {u : Int} (h : u ≠ 0) : 0 < u * u := by
  rcases Int.lt_or_gt_of_ne h with h | h
  · exact Int.mul_pos_of_neg_of_neg h h
  · exact Int.mul_pos h h
theorem sq_nonneg (u : Int) : 0 ≤ u * u := by
  rcases Int.le_total 0 u with h | h
  · exact Int.mul_nonneg h h
  · exact Int.mul_nonneg_of_nonpos_of_nonpos h h
theorem btw_iff {a b x : Int} : btw a b x ↔ 0 ≤ (x - a) * (b - x) := by
  unfold btw
  constructor
  · intro h
    rcases Int.le_total a b with hab | hab
    · exact Int.mul_nonneg (by omega) (by omega)
    · exact Int.mul_nonneg_of_nonpos_of_nonpos (by omega) (by omega)
  · intro h
    have h1 : ¬ (0 < x - a ∧ b - x < 0) := fun ⟨p, q⟩ => by
      have := Int.mul_neg_of_pos_of_neg p q
      omega
    have h2 : ¬ (x - a < 0 ∧ 0 < b - x) := fun ⟨p, q⟩ => by
      have := Int.mul_neg_of_neg_of_pos p q
      omega
    omega
theorem prod_sign {u1 u2 s t s' t' : Int} (h : u1 ≠ 0) (h1 : u1 * s = u2 * t) (h2 : u1 * s' = u2 * t') (h3 : 0 ≤ t * t') : 0 ≤ s * s' := by
  have e : (u1 * u1) * (s * s') = (u2 * u2) * (t * t') := by grind
  have r : 0 ≤ (u1 * u1) * (s * s') := by rw [e]; exact Int.mul_nonneg (sq_nonneg u2) h3
  exact Int.nonneg_of_mul_nonneg_right r (sq_pos h)
theorem zero_of {u x : Int} (hu : u ≠ 0) (h : u * x = 0) : x = 0 := by
  rcases Int.mul_eq_zero.1 h with h' | h'
  · exact absurd h' hu
  · exact h'
def sgm (a b x : P2) : Prop := area a b x = 0 ∧ btw a.1 b.1 x.1 ∧ btw a.2 b.2 x.2
def onLn (u o x : P2) : Prop := u.1 * (x.2 - o.2) = u.2 * (x.1 - o.1)
theorem line_on {u o a b x : P2} (hu : u.1 ≠ 0) (ha : onLn u o a) (hb : onLn u o b) (hx : onLn u o x) (h : btw a.1 b.1 x.1) : sgm a b x := by
  unfold onLn at ha hb hx
  refine ⟨?_, h, ?_⟩
  · refine zero_of hu ?_
    unfold area
    grind
  · rw [btw_iff] at h ⊢
    exact prod_sign (u2 := u.2) (s := x.2 - a.2) (s' := b.2 - x.2) (t := x.1 - a.1) (t' := b.1 - x.1) hu (by grind) (by grind) h
theorem min_mem (x y : Int) : min x y = x ∨ min x y = y := by omega
theorem line_ends {u o a b c d : P2} (hu : u.1 ≠ 0) (ha : onLn u o a) (hb : onLn u o b) (hc : onLn u o c) (hd : onLn u o d)
    (h : max (min a.1 b.1) (min c.1 d.1) ≤ min (max a.1 b.1) (max c.1 d.1)) :
    ∃ e ∈ [a, b, c, d], ∃ f ∈ [a, b, c, d], e.1 = max (min a.1 b.1) (min c.1 d.1) ∧ f.1 = min (max a.1 b.1) (max c.1 d.1) ∧ (sgm a b e ∧ sgm c d e) ∧ (sgm a b f ∧ sgm c d f) := by
  have hm : ∀ x ∈ [a, b, c, d], onLn u o x := by
    intro x hx
    simp only [List.mem_cons, List.not_mem_nil, or_false] at hx
    rcases hx with rfl | rfl | rfl | rfl <;> assumption
  have he : ∃ e ∈ [a, b, c, d], e.1 = max (min a.1 b.1) (min c.1 d.1) := by
    have : max (min a.1 b.1) (min c.1 d.1) = a.1 ∨ max (min a.1 b.1) (min c.1 d.1) = b.1 ∨ max (min a.1 b.1) (min c.1 d.1) = c.1 ∨ max (min a.1 b.1) (min c.1 d.1) = d.1 := by omega
    rcases this with h | h | h | h
    · exact ⟨a, by simp, h.symm⟩
    · exact ⟨b, by simp, h.symm⟩
    · exact ⟨c, by simp, h.symm⟩
    · exact ⟨d, by simp, h.symm⟩
  have hf : ∃ e ∈ [a, b, c, d], e.1 = min (max a.1 b.1) (max c.1 d.1) := by
    have : min (max a.1 b.1) (max c.1 d.1) = a.1 ∨ min (max a.1 b.1) (max c.1 d.1) = b.1 ∨ min (max a.1 b.1) (max c.1 d.1) = c.1 ∨ min (max a.1 b.1) (max c.1 d.1) = d.1 := by omega
    rcases this with h | h | h | h
    · exact ⟨a, by simp, h.symm⟩
    · exact ⟨b, by simp, h.symm⟩
    · exact ⟨c, by simp, h.symm⟩
    · exact ⟨d, by simp, h.symm⟩
  obtain ⟨e, he, h1⟩ := he
  obtain ⟨f, hf, h2⟩ := hf
  exact ⟨e, he, f, hf, h1, h2, ⟨line_on hu ha hb (hm e he) (by unfold btw; omega), line_on hu hc hd (hm e he) (by unfold btw; omega)⟩, line_on hu ha hb (hm f hf) (by unfold btw; omega), line_on hu hc hd (hm f hf) (by unfold btw; omega)⟩
def sw (p : P2) : P2 := (p.2, p.1)
theorem sgm_sw {a b x : P2} : sgm (sw a) (sw b) (sw x) ↔ sgm a b x := by
  unfold sgm area sw
  simp only
  constructor
  · rintro ⟨h1, h2, h3⟩
    exact ⟨by omega, h3, h2⟩
  · rintro ⟨h1, h2, h3⟩
    exact ⟨by omega, h3, h2⟩
theorem sw_sw (p : P2) : sw (sw p) = p := rfl
/-- All on one line, with a point of both: an end is on both; with two points of both: two ends. -/
theorem common_ends {u o a b c d : P2} (hu : u.1 ≠ 0 ∨ u.2 ≠ 0) (ha : onLn u o a) (hb : onLn u o b) (hc : onLn u o c) (hd : onLn u o d) {p q : P2}
    (hp : sgm a b p ∧ sgm c d p) (hq : sgm a b q ∧ sgm c d q) : ∃ e ∈ [a, b, c, d], ∃ f ∈ [a, b, c, d], (sgm a b e ∧ sgm c d e) ∧ (sgm a b f ∧ sgm c d f) ∧ (onLn u o p → onLn u o q → p ≠ q → e ≠ f) := by
  have key : ∀ {u o a b c d : P2} (hu : u.1 ≠ 0) (ha : onLn u o a) (hb : onLn u o b) (hc : onLn u o c) (hd : onLn u o d) {p q : P2} (hp : sgm a b p ∧ sgm c d p) (hq : sgm a b q ∧ sgm c d q),
      ∃ e ∈ [a, b, c, d], ∃ f ∈ [a, b, c, d], (sgm a b e ∧ sgm c d e) ∧ (sgm a b f ∧ sgm c d f) ∧ (onLn u o p → onLn u o q → p ≠ q → e ≠ f) := by
    intro u o a b c d hu ha hb hc hd p q hp hq
    have p1 := hp.1.2.1
    have p2 := hp.2.2.1
    have q1 := hq.1.2.1
    have q2 := hq.2.2.1
    unfold btw at p1 p2 q1 q2
    obtain ⟨e, he, f, hf, h1, h2, h3, h4⟩ := line_ends hu ha hb hc hd (by omega)
    refine ⟨e, he, f, hf, h3, h4, fun lp lq hne hef => ?_⟩
    subst hef
    have h5 : p.1 = q.1 := by omega
    apply hne
    have h6 : u.1 * (p.2 - q.2) = 0 := by unfold onLn at lp lq; grind
    have h7 := zero_of hu h6
    exact Prod.ext h5 (by omega)
  rcases hu with hu | hu
  · exact key hu ha hb hc hd hp hq
  · have l : ∀ {x : P2}, onLn u o x → onLn (sw u) (sw o) (sw x) := fun h => Eq.symm h
    obtain ⟨e, he, f, hf, h1, h2, h3⟩ := key (u := sw u) (o := sw o) (a := sw a) (b := sw b) (c := sw c) (d := sw d) (p := sw p) (q := sw q) hu (l ha) (l hb) (l hc) (l hd) ⟨sgm_sw.2 hp.1, sgm_sw.2 hp.2⟩ ⟨sgm_sw.2 hq.1, sgm_sw.2 hq.2⟩
    have m : ∀ {x : P2}, x ∈ [sw a, sw b, sw c, sw d] → sw x ∈ [a, b, c, d] := by
      intro x hx
      simp only [List.mem_cons, List.not_mem_nil, or_false] at hx ⊢
      rcases hx with rfl | rfl | rfl | rfl <;> simp [sw_sw]
    exact ⟨sw e, m he, sw f, m hf, ⟨sgm_sw.1 h1.1, sgm_sw.1 h1.2⟩, ⟨sgm_sw.1 h2.1, sgm_sw.1 h2.2⟩, fun lp lq hne hef => h3 (l lp) (l lq) (fun h => hne (by have := congrArg sw h; exact this)) (by have := congrArg sw hef; exact this)⟩
theorem sgm_eq {a p : P2} (h : sgm a a p) : p = a := by
  obtain ⟨_, h1, h2⟩ := h
  unfold btw at h1 h2
  exact Prod.ext (by omega) (by omega)
/-- Two points of a segment: its ends are on their line. -/
theorem ends_on {a b p q : P2} (hp : sgm a b p) (hq : sgm a b q) (hne : p ≠ q) : onLn (q.1 - p.1, q.2 - p.2) p a ∧ onLn (q.1 - p.1, q.2 - p.2) p b := by
  have hab : b.1 - a.1 ≠ 0 ∨ b.2 - a.2 ≠ 0 := by
    by_cases h1 : b.1 - a.1 = 0
    · refine .inr fun h2 => hne ?_
      obtain rfl : b = a := Prod.ext (by omega) (by omega)
      rw [sgm_eq hp, sgm_eq hq]
    · exact .inl h1
  have e1 := hp.1
  have e2 := hq.1
  unfold area at e1 e2
  unfold onLn
  simp only
  rcases hab with h | h
  · constructor
    · have : (b.1 - a.1) * ((q.1 - p.1) * (a.2 - p.2) - (q.2 - p.2) * (a.1 - p.1)) = 0 := by grind
      have := zero_of h this
      omega
    · have : (b.1 - a.1) * ((q.1 - p.1) * (b.2 - p.2) - (q.2 - p.2) * (b.1 - p.1)) = 0 := by grind
      have := zero_of h this
      omega
  · constructor
    · have : (b.2 - a.2) * ((q.1 - p.1) * (a.2 - p.2) - (q.2 - p.2) * (a.1 - p.1)) = 0 := by grind
      have := zero_of h this
      omega
    · have : (b.2 - a.2) * ((q.1 - p.1) * (b.2 - p.2) - (q.2 - p.2) * (b.1 - p.1)) = 0 := by grind
      have := zero_of h this
      omega
theorem two_common {a b c d p q : P2} (hp : sgm a b p ∧ sgm c d p) (hq : sgm a b q ∧ sgm c d q) (hne : p ≠ q) : ∃ e ∈ [a, b, c, d], ∃ f ∈ [a, b, c, d], e ≠ f ∧ (sgm a b e ∧ sgm c d e) ∧ (sgm a b f ∧ sgm c d f) := by
  have h1 := ends_on hp.1 hq.1 hne
  have h2 := ends_on hp.2 hq.2 hne
  have hu : (q.1 - p.1, q.2 - p.2).1 ≠ 0 ∨ (q.1 - p.1, q.2 - p.2).2 ≠ 0 := by
    by_cases h : q.1 - p.1 = 0
    · exact .inr fun h' => hne (Prod.ext (by simp only at h'; omega) (by simp only at h'; omega))
    · exact .inl h
  obtain ⟨e, he, f, hf, h3, h4, h5⟩ := common_ends hu h1.1 h1.2 h2.1 h2.2 hp hq
  refine ⟨e, he, f, hf, h5 ?_ ?_ hne, h3, h4⟩
  · unfold onLn; simp
  · unfold onLn; simp only; exact Int.mul_comm _ _
/-- One point of both, and no end of one on the other: they cross. -/
theorem one_common {a b c d p : P2} (hp : sgm a b p ∧ sgm c d p) (hno : ∀ e ∈ [a, b, c, d], ¬ (sgm a b e ∧ sgm c d e)) : area a b c * area a b d < 0 := by
  have hne : ∀ e ∈ [a, b, c, d], p ≠ e := fun e he h => hno e he (h ▸ hp)
  have hab : b.1 - a.1 ≠ 0 ∨ b.2 - a.2 ≠ 0 := by
    by_cases h1 : b.1 - a.1 = 0
    · refine .inr fun h2 => hne a (by simp) ?_
      obtain rfl : b = a := Prod.ext (by omega) (by omega)
      exact sgm_eq hp.1
    · exact .inl h1
  have e1 := hp.1.1
  have e2 := hp.2.1
  have b1 := btw_iff.1 hp.2.2.1
  have b2 := btw_iff.1 hp.2.2.2
  have eC : area a b c = (b.1 - a.1) * (c.2 - p.2) - (b.2 - a.2) * (c.1 - p.1) := by unfold area at e1 ⊢; grind
  have eD : area a b d = (b.1 - a.1) * (d.2 - p.2) - (b.2 - a.2) * (d.1 - p.1) := by unfold area at e1 ⊢; grind
  have eZ : (c.1 - p.1) * (d.2 - p.2) = (c.2 - p.2) * (d.1 - p.1) := by unfold area at e2; grind
  have k1 : (c.1 - p.1) * area a b d = (d.1 - p.1) * area a b c := by rw [eC, eD]; grind
  have k2 : (c.2 - p.2) * area a b d = (d.2 - p.2) * area a b c := by rw [eC, eD]; grind
  have hc : c.1 - p.1 ≠ 0 ∨ c.2 - p.2 ≠ 0 := by
    by_cases h1 : c.1 - p.1 = 0
    · exact .inr fun h2 => hne c (by simp) (Prod.ext (by omega) (by omega))
    · exact .inl h1
  have hd : d.1 - p.1 ≠ 0 ∨ d.2 - p.2 ≠ 0 := by
    by_cases h1 : d.1 - p.1 = 0
    · exact .inr fun h2 => hne d (by simp) (Prod.ext (by omega) (by omega))
    · exact .inl h1
  have hz : ¬ (area a b c = 0 ∧ area a b d = 0) := by
    rintro ⟨z1, z2⟩
    have l : ∀ {x : P2}, area a b x = 0 → onLn (b.1 - a.1, b.2 - a.2) a x := by
      intro x hx
      unfold onLn
      unfold area at hx
      simp only
      omega
    obtain ⟨e, he, _, _, h3, _⟩ := common_ends (u := (b.1 - a.1, b.2 - a.2)) (o := a) hab (l (by unfold area; simp)) (l (by unfold area; grind)) (l z1) (l z2) hp hp
    exact hno e he h3
  have hz1 : area a b c ≠ 0 := fun h => hz ⟨h, by
    rw [h, Int.mul_zero] at k1 k2
    rcases hc with hc | hc
    · exact zero_of hc k1
    · exact zero_of hc k2⟩
  have hz2 : area a b d ≠ 0 := fun h => hz ⟨by
    rw [h, Int.mul_zero] at k1 k2
    rcases hd with hd | hd
    · exact zero_of hd k1.symm
    · exact zero_of hd k2.symm, h⟩
  have hle : area a b c * area a b d ≤ 0 := by
    generalize area a b c = C at *
    generalize area a b d = D at *
    rcases hc with hc | hc
    · have e : ((c.1 - p.1) * (c.1 - p.1)) * (-(C * D)) = (p.1 - c.1) * (d.1 - p.1) * (C * C) := by grind
      have r : 0 ≤ ((c.1 - p.1) * (c.1 - p.1)) * (-(C * D)) := by rw [e]; exact Int.mul_nonneg b1 (sq_nonneg C)
      have := Int.nonneg_of_mul_nonneg_right r (sq_pos hc)
      omega
    · have e : ((c.2 - p.2) * (c.2 - p.2)) * (-(C * D)) = (p.2 - c.2) * (d.2 - p.2) * (C * C) := by grind
      have r : 0 ≤ ((c.2 - p.2) * (c.2 - p.2)) * (-(C * D)) := by rw [e]; exact Int.mul_nonneg b2 (sq_nonneg C)
      have := Int.nonneg_of_mul_nonneg_right r (sq_pos hc)
      omega
  have : area a b c * area a b d ≠ 0 := fun h => by
    rcases Int.mul_eq_zero.1 h with h | h
    · exact hz1 h
    · exact hz2 h
  omega
/-! ## how many -/
def isB (a b c d p : P2) : Bool := M.on a b p && M.on c d p
def atEg (a b c d p : P2) : Bool := (eqB p a || eqB p b) && (eqB p c || eqB p d)
def gStep (a b c d : P2) (s : Int × Int) (p : P2) : Int × Int := if M.on a b p && M.on c d p then (s.1 + 1, if (eqB p a || eqB p b) && (eqB p c || eqB p d) then s.2 + 1 else s.2) else s
theorem gFold {a b c d : P2} : ∀ (L : List P2) (s : Int × Int), L.foldl (gStep a b c d) s = (s.1 + L.countP (isB a b c d), s.2 + L.countP (fun p => isB a b c d p && atEg a b c d p))
  | [], s => by simp
  | p :: L, s => by
    rw [List.foldl_cons, gFold L]
    unfold gStep
    cases h1 : isB a b c d p with
    | false =>
      have h1' := h1
      unfold isB at h1'
      simp [h1', h1, List.countP_cons]
    | true =>
      have h1' := h1
      unfold isB at h1'
      cases h2 : atEg a b c d p with
      | false =>
        have h2' := h2
        unfold atEg at h2'
        simp [h1', h1, h2, h2', List.countP_cons]
        omega
      | true =>
        have h2' := h2
        unfold atEg at h2'
        simp [h1', h1, h2, h2', List.countP_cons]
        omega
theorem count_none {f : P2 → Bool} {L : List P2} (h : ∀ x ∈ L, f x = false) : L.countP f = 0 := by
  rw [List.countP_eq_zero]
  intro x hx
  simp [h x hx]
theorem count_le {f : P2 → Bool} : ∀ {L : List P2}, L.Nodup → (∀ x ∈ L, ∀ y ∈ L, f x = true → f y = true → x = y) → L.countP f ≤ 1
  | [], _, _ => by simp
  | p :: L, hn, h => by
    rw [List.countP_cons]
    rw [List.nodup_cons] at hn
    split
    · rename_i hp
      rw [count_none (L := L) fun x hx => ?_]
      · omega
      · cases hfx : f x with
        | false => rfl
        | true => exact absurd (h p (by simp) x (by simp [hx]) hp hfx ▸ hx) hn.1
    · have := count_le hn.2 fun x hx y hy => h x (by simp [hx]) y (by simp [hy])
      omega
theorem count_one {f : P2 → Bool} {L : List P2} {e : P2} (he : e ∈ L) (hf : f e = true) : 1 ≤ L.countP f := by
  have := List.countP_pos_iff.2 ⟨e, he, hf⟩
  omega
theorem count_two {f : P2 → Bool} : ∀ {L : List P2} {e g : P2}, e ∈ L → g ∈ L → e ≠ g → f e = true → f g = true → 2 ≤ L.countP f
  | [], e, _, he, _, _, _, _ => by cases he
  | p :: L, e, g, he, hg, hne, h1, h2 => by
    rw [List.countP_cons]
    rcases List.mem_cons.1 he with rfl | he'
    · rcases List.mem_cons.1 hg with rfl | hg'
      · exact absurd rfl hne
      · rw [if_pos h1]
        have := count_one hg' h2
        omega
    · rcases List.mem_cons.1 hg with rfl | hg'
      · rw [if_pos h2]
        have := count_one he' h1
        omega
      · have := count_two he' hg' hne h1 h2
        omega
/-- What is known of the ends that were looked at. -/
structure EndsInv (a b c d : P2) (s : Int × Int × List P2) (done : List P2) : Prop where
  len : s.1 = s.2.2.length
  both : s.2.1 = s.2.2.countP (atEg a b c d)
  seen : ∀ e ∈ s.2.2, isB a b c d e = true ∧ e ∈ done
  nodup : s.2.2.Nodup
  all : ∀ e ∈ done, isB a b c d e = true → e ∈ s.2.2
theorem endsStep_inv {a b c d p : P2} {s : Int × Int × List P2} {done : List P2} (h : EndsInv a b c d s done) : EndsInv a b c d (endsStep a b c d p s) (done ++ [p]) := by
  have hany : s.2.2.any (eqB · p) = true ↔ p ∈ s.2.2 := by
    rw [List.any_eq_true]
    constructor
    · rintro ⟨x, hx, he⟩
      rw [eqB_iff] at he
      exact he ▸ hx
    · exact fun hp => ⟨p, hp, eqB_iff.2 rfl⟩
  unfold endsStep
  split
  · rename_i hc
    refine ⟨h.len, h.both, fun e he => ⟨(h.seen e he).1, by simp [(h.seen e he).2]⟩, h.nodup, fun e he hb => ?_⟩
    rcases List.mem_append.1 he with he | he
    · exact h.all e he hb
    · rw [List.mem_singleton] at he
      subst he
      unfold isB at hb
      rw [Bool.and_eq_true] at hb
      rw [hb.1, hb.2] at hc
      simp only [Bool.not_true, Bool.or_false] at hc
      exact hany.1 hc
  · rename_i hc
    simp only [Bool.or_eq_true, not_or, Bool.not_eq_true', Bool.not_eq_false] at hc
    obtain ⟨⟨h1, h2⟩, h3⟩ := hc
    have hnp : p ∉ s.2.2 := fun hp => h1 (hany.2 hp)
    have hb : isB a b c d p = true := by unfold isB; rw [h2, h3]; rfl
    refine ⟨?_, ?_, ?_, ?_, ?_⟩
    · simp [h.len]
    · simp only [List.countP_append, List.countP_singleton]
      rw [h.both]
      unfold atEg
      split <;> simp_all
    · intro e he
      rcases List.mem_append.1 he with he | he
      · exact ⟨(h.seen e he).1, by simp [(h.seen e he).2]⟩
      · rw [List.mem_singleton] at he
        subst he
        exact ⟨hb, by simp⟩
    · simp only
      rw [List.nodup_append]
      exact ⟨h.nodup, by simp, fun x hx y hy => by
        rw [List.mem_singleton] at hy
        subst hy
        exact fun he => hnp (he ▸ hx)⟩
    · intro e he hb
      rcases List.mem_append.1 he with he | he
      · simp [h.all e he hb]
      · simp only [List.mem_append]
        exact .inr he
theorem endsF_inv {a b c d : P2} : ∀ (ps : List P2) (s : Int × Int × List P2) (done : List P2), EndsInv a b c d s done → EndsInv a b c d (endsF a b c d ps s) (done ++ ps)
  | [], s, done, h => by simpa [endsF] using h
  | p :: ps, s, done, h => by
    have := endsF_inv ps _ _ (endsStep_inv (p := p) h)
    simpa [endsF] using this
theorem turn_neg {a b c d : P2} (ha : inG a) (hb : inG b) (hc : inG c) (hd : inG d) (h : area a b c * area a b d < 0) : turn a b c * turn a b d < 0 := by
  unfold turn turnR
  rw [nearP_id ha, nearP_id hb, nearP_id hc, nearP_id hd]
  unfold sgn
  generalize area a b c = C at *
  generalize area a b d = D at *
  by_cases h1 : C < 0
  · by_cases h2 : D < 0
    · have := Int.mul_pos_of_neg_of_neg h1 h2
      omega
    · by_cases h3 : 0 < D
      · rw [if_pos h1, if_neg h2, if_pos h3]; decide
      · have : D = 0 := by omega
        subst this
        simp at h
  · by_cases h1' : 0 < C
    · by_cases h2 : D < 0
      · rw [if_neg h1, if_pos h1', if_pos h2]; decide
      · have := Int.mul_nonneg (a := C) (b := D) (by omega) (by omega)
        omega
    · have : C = 0 := by omega
      subst this
      simp at h
theorem isB_iff {a b c d p : P2} (ha : inG a) (hb : inG b) (hc : inG c) (hd : inG d) (hp : inG p) : isB a b c d p = true ↔ sgm a b p ∧ sgm c d p := by
  unfold isB sgm btw
  rw [Bool.and_eq_true, on_iff ha hb hp, on_iff hc hd hp]
  constructor
  · rintro ⟨⟨h1, h2, h3, h4, h5⟩, h6, h7, h8, h9, h10⟩
    exact ⟨⟨h1, ⟨h2, h3⟩, h4, h5⟩, h6, ⟨h7, h8⟩, h9, h10⟩
  · rintro ⟨⟨h1, ⟨h2, h3⟩, h4, h5⟩, h6, ⟨h7, h8⟩, h9, h10⟩
    exact ⟨⟨h1, h2, h3, h4, h5⟩, h6, h7, h8, h9, h10⟩
/-- Of two segments: how they stand tells how many of a set of points, in which their ends are, are on both, and how many of these are ends of both. -/
theorem grid_told {a b c d : P2} {L : List P2} (hn : L.Nodup) (hL : ∀ p ∈ L, inG p) (ha : a ∈ L) (hb : b ∈ L) (hc : c ∈ L) (hd : d ∈ L) {n e : Int} (hne : L.foldl (gStep a b c d) (0, 0) = (n, e)) :
    (relate a b c d = 0 ∧ n = 0) ∨ (relate a b c d = 1 ∧ n = 1 ∧ e = 1) ∨ (relate a b c d = 2 ∧ n = 1 ∧ e = 0) ∨ (relate a b c d = 3 ∧ n ≤ 1 ∧ e = 0) ∨ (relate a b c d = 4 ∧ 2 ≤ n) := by
  have ga := hL a ha
  have gb := hL b hb
  have gc := hL c hc
  have gd := hL d hd
  rw [gFold] at hne
  simp only [Prod.mk.injEq, Int.zero_add] at hne
  obtain ⟨rfl, rfl⟩ := hne
  have inv : EndsInv a b c d (endsR a b c d) [a, b, c, d] := by
    have := endsF_inv (a := a) (b := b) (c := c) (d := d) [a, b, c, d] (0, 0, []) [] ⟨rfl, rfl, by simp, by simp, by simp⟩
    unfold endsR
    rw [nearP_id ga, nearP_id gb, nearP_id gc, nearP_id gd]
    simpa using this
  have hm : ∀ x ∈ [a, b, c, d], x ∈ L := by
    intro x hx
    simp only [List.mem_cons, List.not_mem_nil, or_false] at hx
    rcases hx with rfl | rfl | rfl | rfl <;> assumption
  have iff : ∀ x ∈ L, (isB a b c d x = true ↔ sgm a b x ∧ sgm c d x) := fun x hx => isB_iff ga gb gc gd (hL x hx)
  have two : ∀ x ∈ L, ∀ y ∈ L, isB a b c d x = true → isB a b c d y = true → x ≠ y → ∃ e ∈ (endsR a b c d).2.2, ∃ f ∈ (endsR a b c d).2.2, e ≠ f := by
    intro x hx y hy h1 h2 hne
    obtain ⟨e, he, f, hf, hef, h3, h4⟩ := two_common ((iff x hx).1 h1) ((iff y hy).1 h2) hne
    exact ⟨e, inv.all e he ((iff e (hm e he)).2 h3), f, inv.all f hf ((iff f (hm f hf)).2 h4), hef⟩
  have sub : ∀ x ∈ L, isB a b c d x = true → atEg a b c d x = true → x ∈ (endsR a b c d).2.2 := by
    intro x hx h1 h2
    refine inv.all x ?_ h1
    unfold atEg at h2
    rw [Bool.and_eq_true, Bool.or_eq_true, eqB_iff, eqB_iff] at h2
    rcases h2.1 with rfl | rfl <;> simp
  have one : (endsR a b c d).2.2 = [] → (∃ x ∈ L, isB a b c d x = true) → turn a b c * turn a b d < 0 ∧ turn c d a * turn c d b < 0 := by
    rintro hE ⟨x, hx, h1⟩
    have hs := (iff x hx).1 h1
    have hno : ∀ e ∈ [a, b, c, d], ¬ (sgm a b e ∧ sgm c d e) := fun e he h => by
      have := inv.all e he ((iff e (hm e he)).2 h)
      rw [hE] at this
      cases this
    exact ⟨turn_neg ga gb gc gd (one_common hs hno), turn_neg gc gd ga gb (one_common (a := c) (b := d) (c := a) (d := b) ⟨hs.2, hs.1⟩ fun e he h => hno e (by simp only [List.mem_cons, List.not_mem_nil, or_false] at he; rcases he with rfl | rfl | rfl | rfl <;> simp) ⟨h.2, h.1⟩)⟩
  have e1 := inv.len
  have e2 := inv.both
  have e3 := inv.seen
  have e4 := inv.nodup
  unfold relate
  generalize endsR a b c d = s at *
  obtain ⟨on, both, qs⟩ := s
  simp only at e1 e2 e3 e4 two sub one ⊢
  match qs, e1, e2, e3, e4, two, sub, one with
  | [], e1, e2, e3, e4, two, sub, one =>
    simp only [List.length_nil, List.countP_nil] at e1 e2
    subst e1 e2
    rw [if_neg (by omega), if_neg (by omega), if_neg (by omega)]
    have c2 : L.countP (fun p => isB a b c d p && atEg a b c d p) = 0 := count_none fun x hx => by
      cases h1 : isB a b c d x with
      | false => rfl
      | true => cases h2 : atEg a b c d x with
        | false => rfl
        | true => have := sub x hx h1 h2; cases this
    have c1 : L.countP (isB a b c d) ≤ 1 := count_le hn fun x hx y hy h1 h2 => by
      by_cases hxy : x = y
      · exact hxy
      · obtain ⟨e, he, _⟩ := two x hx y hy h1 h2 hxy
        cases he
    split
    · refine .inr (.inr (.inr (.inl ⟨rfl, by omega, by omega⟩)))
    · rename_i hcr
      refine .inl ⟨rfl, ?_⟩
      rw [count_none (f := isB a b c d) fun x hx => ?_]
      · rfl
      · cases h1 : isB a b c d x with
        | false => rfl
        | true => exact absurd (one rfl ⟨x, hx, h1⟩) hcr
  | [q], e1, e2, e3, e4, two, sub, one =>
    simp only [List.length_singleton, List.countP_singleton] at e1 e2
    subst e1
    rw [if_neg (by omega)]
    obtain ⟨hq1, hq2⟩ := e3 q (by simp)
    have hqL := hm q hq2
    have c1 : L.countP (isB a b c d) ≤ 1 := count_le hn fun x hx y hy h1 h2 => by
      by_cases hxy : x = y
      · exact hxy
      · obtain ⟨e, he, f, hf, hef⟩ := two x hx y hy h1 h2 hxy
        rw [List.mem_singleton] at he hf
        exact absurd (he.trans hf.symm) hef
    have c1' := count_one hqL hq1
    have c2 : L.countP (fun p => isB a b c d p && atEg a b c d p) ≤ 1 := count_le hn fun x hx y hy h1 h2 => by
      rw [Bool.and_eq_true] at h1 h2
      have hx' := sub x hx h1.1 h1.2
      have hy' := sub y hy h2.1 h2.2
      rw [List.mem_singleton] at hx' hy'
      rw [hx', hy']
    cases hE : atEg a b c d q with
    | true =>
      rw [if_pos hE] at e2
      have c2' := count_one (f := fun p => isB a b c d p && atEg a b c d p) hqL (by simp only [hq1, hE, Bool.and_self])
      rw [if_pos (by omega)]
      exact .inr (.inl ⟨rfl, by omega, by omega⟩)
    | false =>
      rw [if_neg (by simp [hE])] at e2
      have c2' : L.countP (fun p => isB a b c d p && atEg a b c d p) = 0 := count_none fun x hx => by
        cases h1 : isB a b c d x with
        | false => rfl
        | true => cases h2 : atEg a b c d x with
          | false => rfl
          | true =>
            have := sub x hx h1 h2
            rw [List.mem_singleton] at this
            rw [this, hE] at h2
            cases h2
      rw [if_neg (by omega), if_pos (by omega)]
      exact .inr (.inr (.inl ⟨rfl, by omega, by omega⟩))
  | q :: q' :: qs, e1, e2, e3, e4, two, sub, one =>
    simp only [List.length_cons] at e1
    rw [if_pos (by omega)]
    obtain ⟨hq1, hq2⟩ := e3 q (by simp)
    obtain ⟨hr1, hr2⟩ := e3 q' (by simp)
    have hqr : q ≠ q' := fun h => by
      subst h
      simp at e4
    have := count_two (hm q hq2) (hm q' hr2) hqr hq1 hr1
    exact .inr (.inr (.inr (.inr ⟨rfl, by omega⟩)))
end Go.Proofs.Ytmopbegmdegooaa
