/- Segments on one line, the end: what the law expects of four places hangs on their order alone. -/
import Derived.Test.YtmopbegmdegooaaLinesMath2
namespace Go.Proofs.Ytmopbegmdegooaa
open Go M
set_option linter.unusedVariables false
set_option linter.unusedSimpArgs false
/-- The lesser and the greater of two, in any order that is the same. -/
theorem min_same {f : Int → Int} {a b : Int} (h : f a < f b ↔ a < b) (h2 : f a = f b ↔ a = b) : min (f a) (f b) = f (min a b) := by
  rcases Int.lt_trichotomy a b with k | k | k
  · rw [show min a b = a by omega]; omega
  · subst k; simp
  · rw [show min a b = b by omega]; omega
theorem max_same {f : Int → Int} {a b : Int} (h : f a < f b ↔ a < b) (h2 : f a = f b ↔ a = b) : max (f a) (f b) = f (max a b) := by
  rcases Int.lt_trichotomy a b with k | k | k
  · rw [show max a b = b by omega]; omega
  · subst k; simp
  · rw [show max a b = a by omega]; omega
theorem min_mem {a b : Int} {L : List Int} (ha : a ∈ L) (hb : b ∈ L) : min a b ∈ L := by
  rcases Int.le_total a b with h | h
  · rw [Int.min_eq_left h]; exact ha
  · rw [Int.min_eq_right h]; exact hb
theorem max_mem {a b : Int} {L : List Int} (ha : a ∈ L) (hb : b ∈ L) : max a b ∈ L := by
  rcases Int.le_total a b with h | h
  · rw [Int.max_eq_right h]; exact hb
  · rw [Int.max_eq_left h]; exact ha
theorem lineWant_same {f : Int → Int} {t0 t1 t2 t3 : Int} (h : ∀ u ∈ [t0, t1, t2, t3], ∀ v ∈ [t0, t1, t2, t3], (f u < f v ↔ u < v) ∧ (f u = f v ↔ u = v)) : lineWant (f t0) (f t1) (f t2) (f t3) = lineWant t0 t1 t2 t3 := by
  have m0 : t0 ∈ [t0, t1, t2, t3] := by simp
  have m1 : t1 ∈ [t0, t1, t2, t3] := by simp
  have m2 : t2 ∈ [t0, t1, t2, t3] := by simp
  have m3 : t3 ∈ [t0, t1, t2, t3] := by simp
  have n01 := min_mem m0 m1
  have n23 := min_mem m2 m3
  have x01 := max_mem m0 m1
  have x23 := max_mem m2 m3
  have lo := max_mem n01 n23
  have hi := min_mem x01 x23
  unfold lineWant
  rw [min_same (h t0 m0 t1 m1).1 (h t0 m0 t1 m1).2, min_same (h t2 m2 t3 m3).1 (h t2 m2 t3 m3).2, max_same (h t0 m0 t1 m1).1 (h t0 m0 t1 m1).2, max_same (h t2 m2 t3 m3).1 (h t2 m2 t3 m3).2,
    max_same (h _ n01 _ n23).1 (h _ n01 _ n23).2, min_same (h _ x01 _ x23).1 (h _ x01 _ x23).2]
  simp only [(h _ hi _ lo).1, (h _ lo _ hi).1, (h _ lo _ m0).2, (h _ lo _ m1).2, (h _ lo _ m2).2, (h _ lo _ m3).2]
theorem line_told {x y t0 t1 t2 t3 : Int} (hxy : x ≠ 0 ∨ y ≠ 0) (hx : -50 < x ∧ x < 50) (hy : -50 < y ∧ y < 50) (ht : ∀ t ∈ [t0, t1, t2, t3], 0 ≤ t ∧ t ≤ 15) :
    relate (t0 * x, t0 * y) (t1 * x, t1 * y) (t2 * x, t2 * y) (t3 * x, t3 * y) = lineWant t0 t1 t2 t3 := by
  rw [relate_line hxy hx hy ht, ← relate_rank ht, line_small (rk_bound (by simp)) (rk_bound (by simp)) (rk_bound (by simp)) (rk_bound (by simp))]
  exact lineWant_same (f := rk t0 t1 t2 t3) fun u hu v hv => rk_iff hu hv
end Go.Proofs.Ytmopbegmdegooaa
