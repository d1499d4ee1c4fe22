/- How two segments stand does not change under maps that keep what is on what: plain numbers. -/
import Derived.Test.YtmopbegmdegooaaRel
namespace Go.Proofs.Ytmopbegmdegooaa
open M
set_option linter.unusedVariables false
set_option linter.unusedSimpArgs false
def inG (p : P2) : Prop := (-1048576 ≤ p.1 ∧ p.1 ≤ 1048576) ∧ (-1048576 ≤ p.2 ∧ p.2 ≤ 1048576)
theorem nearP_id {p : P2} (h : inG p) : nearP p = p := by
  obtain ⟨x, y⟩ := p
  simp only [nearP, near1_id h.1, near1_id h.2]
theorem on_iff {a b p : P2} (ha : inG a) (hb : inG b) (hp : inG p) : M.on a b p = true ↔ area a b p = 0 ∧ min a.1 b.1 ≤ p.1 ∧ p.1 ≤ max a.1 b.1 ∧ min a.2 b.2 ≤ p.2 ∧ p.2 ≤ max a.2 b.2 := by
  unfold M.on onR turnR
  rw [nearP_id ha, nearP_id hb, nearP_id hp]
  have hs : (sgn (area a b p) == 0) = decide (area a b p = 0) := by
    unfold sgn
    split
    · rw [decide_eq_false (by omega)]; rfl
    · split
      · rw [decide_eq_false (by omega)]; rfl
      · rw [decide_eq_true (by omega)]; rfl
  rw [hs]
  simp only [Bool.and_eq_true, decide_eq_true_eq, and_assoc]
/-- A map that keeps, of four points, which are the same, what is on what, and which way one turns, up to one sign. -/
structure Keeps (f : P2 → P2) (s : Int) (L : List P2) : Prop where
  sign : s = 1 ∨ s = -1
  inj : ∀ x ∈ L, ∀ y ∈ L, eqB (f x) (f y) = eqB x y
  on : ∀ x ∈ L, ∀ y ∈ L, ∀ z ∈ L, M.on (f x) (f y) (f z) = M.on x y z
  turn : ∀ x ∈ L, ∀ y ∈ L, ∀ z ∈ L, turn (f x) (f y) (f z) = s * turn x y z
theorem any_keeps {f : P2 → P2} {s : Int} {L : List P2} (h : Keeps f s L) {p : P2} (hp : p ∈ L) : ∀ {qs : List P2}, (∀ q ∈ qs, q ∈ L) → (qs.map f).any (eqB · (f p)) = qs.any (eqB · p)
  | [], _ => rfl
  | q :: qs, hq => by
    simp only [List.map_cons, List.any_cons, h.inj q (hq q (by simp)) p hp, any_keeps h hp (qs := qs) fun x hx => hq x (by simp [hx])]
theorem endsStep_keeps {f : P2 → P2} {s : Int} {a b c d p : P2} (h : Keeps f s [a, b, c, d]) (hp : p ∈ [a, b, c, d]) {on both : Int} {qs : List P2} (hq : ∀ q ∈ qs, q ∈ [a, b, c, d]) :
    endsStep (f a) (f b) (f c) (f d) (f p) (on, both, qs.map f) = ((endsStep a b c d p (on, both, qs)).1, (endsStep a b c d p (on, both, qs)).2.1, (endsStep a b c d p (on, both, qs)).2.2.map f) ∧
      ∀ q ∈ (endsStep a b c d p (on, both, qs)).2.2, q ∈ [a, b, c, d] := by
  have ha : a ∈ [a, b, c, d] := by simp
  have hb : b ∈ [a, b, c, d] := by simp
  have hc : c ∈ [a, b, c, d] := by simp
  have hd : d ∈ [a, b, c, d] := by simp
  unfold endsStep
  simp only [any_keeps h hp hq, h.on a ha b hb p hp, h.on c hc d hd p hp, h.inj p hp a ha, h.inj p hp b hb, h.inj p hp c hc, h.inj p hp d hd]
  split
  · exact ⟨rfl, hq⟩
  · refine ⟨by simp, fun q hq' => ?_⟩
    simp only [List.mem_append, List.mem_singleton] at hq'
    rcases hq' with hq' | rfl
    · exact hq q hq'
    · exact hp
theorem endsF_keeps {f : P2 → P2} {s : Int} {a b c d : P2} (h : Keeps f s [a, b, c, d]) : ∀ (ps : List P2) (on both : Int) (qs : List P2), (∀ p ∈ ps, p ∈ [a, b, c, d]) → (∀ q ∈ qs, q ∈ [a, b, c, d]) →
    endsF (f a) (f b) (f c) (f d) (ps.map f) (on, both, qs.map f) = ((endsF a b c d ps (on, both, qs)).1, (endsF a b c d ps (on, both, qs)).2.1, (endsF a b c d ps (on, both, qs)).2.2.map f)
  | [], on, both, qs, _, _ => rfl
  | p :: ps, on, both, qs, hp, hq => by
    obtain ⟨h1, h2⟩ := endsStep_keeps h (hp p (by simp)) (on := on) (both := both) hq
    simp only [List.map_cons, endsF]
    rw [h1, endsF_keeps h ps _ _ _ (fun x hx => hp x (by simp [hx])) h2]
theorem relate_keeps {f : P2 → P2} {s : Int} {a b c d : P2} (h : Keeps f s [a, b, c, d]) (hin : ∀ x ∈ [a, b, c, d], inG x ∧ inG (f x)) : relate (f a) (f b) (f c) (f d) = relate a b c d := by
  have ha : a ∈ [a, b, c, d] := by simp
  have hb : b ∈ [a, b, c, d] := by simp
  have hc : c ∈ [a, b, c, d] := by simp
  have hd : d ∈ [a, b, c, d] := by simp
  have he := endsF_keeps h [a, b, c, d] 0 0 [] (fun p hp => hp) (by simp)
  have e : endsR (f a) (f b) (f c) (f d) = ((endsR a b c d).1, (endsR a b c d).2.1, (endsR a b c d).2.2.map f) := by
    unfold endsR
    rw [nearP_id (hin a ha).1, nearP_id (hin b hb).1, nearP_id (hin c hc).1, nearP_id (hin d hd).1, nearP_id (hin a ha).2, nearP_id (hin b hb).2, nearP_id (hin c hc).2, nearP_id (hin d hd).2]
    exact he
  have hs : ∀ x y : Int, (s * x) * (s * y) = x * y := by
    intro x y
    rcases h.sign with rfl | rfl
    · simp
    · simp [Int.neg_mul, Int.mul_neg]
  unfold relate
  rw [e, h.turn a ha b hb c hc, h.turn a ha b hb d hd, h.turn c hc d hd a ha, h.turn c hc d hd b hb, hs, hs]
theorem sgn_mul {s x : Int} (hs : s = 1 ∨ s = -1) : sgn (s * x) = s * sgn x := by
  unfold sgn
  rcases hs with rfl | rfl
  · simp
  · split <;> split <;> (try split) <;> omega
theorem keeps_of {f : P2 → P2} {s : Int} {L : List P2} (hs : s = 1 ∨ s = -1) (hin : ∀ x ∈ L, inG x ∧ inG (f x)) (hinj : ∀ x y, f x = f y → x = y) (harea : ∀ x y z, area (f x) (f y) (f z) = s * area x y z)
    (hbox : ∀ x y z : P2, (min (f x).1 (f y).1 ≤ (f z).1 ∧ (f z).1 ≤ max (f x).1 (f y).1 ∧ min (f x).2 (f y).2 ≤ (f z).2 ∧ (f z).2 ≤ max (f x).2 (f y).2) ↔ (min x.1 y.1 ≤ z.1 ∧ z.1 ≤ max x.1 y.1 ∧ min x.2 y.2 ≤ z.2 ∧ z.2 ≤ max x.2 y.2)) : Keeps f s L where
  sign := hs
  inj := fun x hx y hy => by
    rw [Bool.eq_iff_iff, eqB_iff, eqB_iff]
    exact ⟨hinj x y, fun h => by rw [h]⟩
  on := fun x hx y hy z hz => by
    rw [Bool.eq_iff_iff, on_iff (hin x hx).2 (hin y hy).2 (hin z hz).2, on_iff (hin x hx).1 (hin y hy).1 (hin z hz).1, harea, hbox]
    refine and_congr_left fun _ => ?_
    rcases hs with rfl | rfl <;> omega
  turn := fun x hx y hy z hz => by
    unfold turn turnR
    rw [nearP_id (hin x hx).1, nearP_id (hin y hy).1, nearP_id (hin z hz).1, nearP_id (hin x hx).2, nearP_id (hin y hy).2, nearP_id (hin z hz).2, harea]
    exact sgn_mul hs
theorem relate_move {a b c d : P2} {u v : Int} (hin : ∀ x ∈ [a, b, c, d], inG x ∧ inG (x.1 + u, x.2 + v)) : relate (a.1 + u, a.2 + v) (b.1 + u, b.2 + v) (c.1 + u, c.2 + v) (d.1 + u, d.2 + v) = relate a b c d := by
  refine relate_keeps (f := fun x => (x.1 + u, x.2 + v)) (s := 1) (keeps_of (.inl rfl) hin (fun x y h => ?_) (fun x y z => ?_) fun x y z => ?_) hin
  · obtain ⟨x1, x2⟩ := x
    obtain ⟨y1, y2⟩ := y
    simp only [Prod.mk.injEq] at h ⊢
    omega
  · simp only [area, Int.one_mul]
    rw [show y.1 + u - (x.1 + u) = y.1 - x.1 by omega, show z.2 + v - (x.2 + v) = z.2 - x.2 by omega, show y.2 + v - (x.2 + v) = y.2 - x.2 by omega, show z.1 + u - (x.1 + u) = z.1 - x.1 by omega]
  · simp only; omega
theorem relate_swap {a b c d : P2} (hin : ∀ x ∈ [a, b, c, d], inG x) : relate (a.2, a.1) (b.2, b.1) (c.2, c.1) (d.2, d.1) = relate a b c d := by
  have hin' : ∀ x ∈ [a, b, c, d], inG x ∧ inG (x.2, x.1) := fun x hx => ⟨hin x hx, (hin x hx).2, (hin x hx).1⟩
  refine relate_keeps (f := fun x => (x.2, x.1)) (s := -1) (keeps_of (.inr rfl) hin' (fun x y h => ?_) (fun x y z => ?_) fun x y z => ?_) hin'
  · obtain ⟨x1, x2⟩ := x
    obtain ⟨y1, y2⟩ := y
    simp only [Prod.mk.injEq] at h ⊢
    omega
  · simp only [area]; omega
  · simp only; omega
theorem relate_turn {a b c d : P2} (hin : ∀ x ∈ [a, b, c, d], inG x) : relate (0 - a.2, a.1) (0 - b.2, b.1) (0 - c.2, c.1) (0 - d.2, d.1) = relate a b c d := by
  have hin' : ∀ x ∈ [a, b, c, d], inG x ∧ inG (0 - x.2, x.1) := fun x hx => by
    obtain ⟨⟨h1, h2⟩, h3, h4⟩ := hin x hx
    exact ⟨⟨⟨h1, h2⟩, h3, h4⟩, ⟨by simp only; omega, by simp only; omega⟩, h1, h2⟩
  refine relate_keeps (f := fun x => (0 - x.2, x.1)) (s := 1) (keeps_of (.inl rfl) hin' (fun x y h => ?_) (fun x y z => ?_) fun x y z => ?_) hin'
  · obtain ⟨x1, x2⟩ := x
    obtain ⟨y1, y2⟩ := y
    simp only [Prod.mk.injEq] at h ⊢
    omega
  · simp only [area, Int.one_mul]
    rw [show 0 - y.2 - (0 - x.2) = -(y.2 - x.2) by omega, show 0 - z.2 - (0 - x.2) = -(z.2 - x.2) by omega, Int.neg_mul, Int.mul_neg]
    omega
  · simp only; omega
end Go.Proofs.Ytmopbegmdegooaa
