/- Segments on one line: how they stand is how their places do. Plain numbers. -/
import Derived.Test.YtmopbegmdegooaaSegMath
namespace Go.Proofs.Ytmopbegmdegooaa
open Go M
set_option linter.unusedVariables false
set_option linter.unusedSimpArgs false
theorem keeps_line {f : P2 → P2} {L : List P2} (hin : ∀ x ∈ L, inG x ∧ inG (f x)) (hinj : ∀ x ∈ L, ∀ y ∈ L, f x = f y → x = y) (h0 : ∀ x ∈ L, ∀ y ∈ L, ∀ z ∈ L, area x y z = 0 ∧ area (f x) (f y) (f z) = 0)
    (hbox : ∀ x ∈ L, ∀ y ∈ L, ∀ z ∈ L, (min (f x).1 (f y).1 ≤ (f z).1 ∧ (f z).1 ≤ max (f x).1 (f y).1 ∧ min (f x).2 (f y).2 ≤ (f z).2 ∧ (f z).2 ≤ max (f x).2 (f y).2) ↔ (min x.1 y.1 ≤ z.1 ∧ z.1 ≤ max x.1 y.1 ∧ min x.2 y.2 ≤ z.2 ∧ z.2 ≤ max x.2 y.2)) : Keeps f 1 L where
  sign := .inl rfl
  inj := fun x hx y hy => by
    rw [Bool.eq_iff_iff, eqB_iff, eqB_iff]
    exact ⟨hinj x hx y hy, fun h => by rw [h]⟩
  on := fun x hx y hy z hz => by
    rw [Bool.eq_iff_iff, on_iff (hin x hx).2 (hin y hy).2 (hin z hz).2, on_iff (hin x hx).1 (hin y hy).1 (hin z hz).1, hbox x hx y hy z hz, (h0 x hx y hy z hz).1, (h0 x hx y hy z hz).2]
  turn := fun x hx y hy z hz => by
    unfold turn turnR
    rw [nearP_id (hin x hx).1, nearP_id (hin y hy).1, nearP_id (hin z hz).1, nearP_id (hin x hx).2, nearP_id (hin y hy).2, nearP_id (hin z hz).2, (h0 x hx y hy z hz).1, (h0 x hx y hy z hz).2]
    rfl
theorem mul_between {a b c x : Int} (hx : x ≠ 0) : (min (a * x) (b * x) ≤ c * x ∧ c * x ≤ max (a * x) (b * x)) ↔ (min a b ≤ c ∧ c ≤ max a b) := by
  rcases Int.lt_or_gt_of_ne hx with h | h
  · have key : ∀ u v : Int, u * x ≤ v * x ↔ v ≤ u := fun u v => by
      have := Int.mul_le_mul_right (a := -x) (b := v) (c := u) (by omega)
      rw [Int.mul_neg, Int.mul_neg] at this
      omega
    have k1 := key a c; have k2 := key b c; have k3 := key c a; have k4 := key c b
    omega
  · have key : ∀ u v : Int, u * x ≤ v * x ↔ u ≤ v := fun u v => Int.mul_le_mul_right h
    have k1 := key a c; have k2 := key b c; have k3 := key c a; have k4 := key c b
    omega
theorem area_line (x y a b c : Int) : area (a * x, a * y) (b * x, b * y) (c * x, c * y) = 0 := by
  simp only [area]
  rw [← Int.sub_mul, ← Int.sub_mul, ← Int.sub_mul, ← Int.sub_mul]
  have : (b - a) * x * ((c - a) * y) = (b - a) * y * ((c - a) * x) := by
    rw [Int.mul_assoc, Int.mul_assoc]
    congr 1
    rw [Int.mul_left_comm, Int.mul_left_comm y]
    congr 1
    exact Int.mul_comm x y
  omega
def pt1 (t : Int) : P2 := (t, 0)
theorem relate_line {x y t0 t1 t2 t3 : Int} (hxy : x ≠ 0 ∨ y ≠ 0) (hx : -50 < x ∧ x < 50) (hy : -50 < y ∧ y < 50) (ht : ∀ t ∈ [t0, t1, t2, t3], 0 ≤ t ∧ t ≤ 15) :
    relate (t0 * x, t0 * y) (t1 * x, t1 * y) (t2 * x, t2 * y) (t3 * x, t3 * y) = relate (pt1 t0) (pt1 t1) (pt1 t2) (pt1 t3) := by
  have hin : ∀ p ∈ [pt1 t0, pt1 t1, pt1 t2, pt1 t3], ∃ t, p = pt1 t ∧ 0 ≤ t ∧ t ≤ 15 := by
    intro p hp
    simp only [List.mem_cons, List.not_mem_nil, or_false] at hp ht
    rcases hp with rfl | rfl | rfl | rfl
    · exact ⟨t0, rfl, ht t0 (by simp)⟩
    · exact ⟨t1, rfl, ht t1 (by simp)⟩
    · exact ⟨t2, rfl, ht t2 (by simp)⟩
    · exact ⟨t3, rfl, ht t3 (by simp)⟩
  have hG : ∀ p ∈ [pt1 t0, pt1 t1, pt1 t2, pt1 t3], inG p ∧ inG (p.1 * x, p.1 * y) := by
    intro p hp
    obtain ⟨t, rfl, h1, h2⟩ := hin p hp
    have m1 := mul_bound (a := t) (b := x) (A := 15) (B := 50) (by omega) (by omega) (by omega) (by omega)
    have m2 := mul_bound (a := t) (b := y) (A := 15) (B := 50) (by omega) (by omega) (by omega) (by omega)
    exact ⟨⟨by simp only [pt1]; omega, by simp only [pt1]; omega⟩, ⟨by simp only [pt1]; omega, by simp only [pt1]; omega⟩⟩
  suffices hk : Keeps (fun p => (p.1 * x, p.1 * y)) 1 [pt1 t0, pt1 t1, pt1 t2, pt1 t3] by
    exact relate_keeps (f := fun p => (p.1 * x, p.1 * y)) (s := 1) (a := pt1 t0) (b := pt1 t1) (c := pt1 t2) (d := pt1 t3) hk hG
  refine keeps_line hG (fun p hp q hq h => ?_) (fun p hp q hq r hr => ?_) fun p hp q hq r hr => ?_
  · obtain ⟨t, rfl, _⟩ := hin p hp
    obtain ⟨u, rfl, _⟩ := hin q hq
    simp only [pt1, Prod.mk.injEq] at h ⊢
    refine ⟨?_, trivial⟩
    rcases hxy with h0 | h0
    · exact Int.eq_of_mul_eq_mul_right h0 h.1
    · exact Int.eq_of_mul_eq_mul_right h0 h.2
  · obtain ⟨t, rfl, _⟩ := hin p hp
    obtain ⟨u, rfl, _⟩ := hin q hq
    obtain ⟨v, rfl, _⟩ := hin r hr
    exact ⟨by simp [area, pt1], area_line x y t u v⟩
  · obtain ⟨t, rfl, _⟩ := hin p hp
    obtain ⟨u, rfl, _⟩ := hin q hq
    obtain ⟨v, rfl, _⟩ := hin r hr
    simp only [pt1]
    by_cases h1 : x = 0
    · subst h1
      have h2 : y ≠ 0 := by rcases hxy with h | h <;> simp_all
      have := mul_between (a := t) (b := u) (c := v) h2
      simp only [Int.mul_zero]
      omega
    · have k1 := mul_between (a := t) (b := u) (c := v) h1
      by_cases h2 : y = 0
      · subst h2
        simp only [Int.mul_zero]
        omega
      · have k2 := mul_between (a := t) (b := u) (c := v) h2
        omega
end Go.Proofs.Ytmopbegmdegooaa
