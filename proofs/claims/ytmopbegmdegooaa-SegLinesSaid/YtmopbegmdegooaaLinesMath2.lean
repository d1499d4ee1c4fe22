/- Segments on one line, on: only the order of the four places counts; so 256 cases are all. -/
import Derived.Test.YtmopbegmdegooaaLinesMath
namespace Go.Proofs.Ytmopbegmdegooaa
open Go M
set_option linter.unusedVariables false
set_option linter.unusedSimpArgs false
def lessI (a u : Int) : Int := if a < u then 1 else 0
def rk (t0 t1 t2 t3 t : Int) : Int := lessI t0 t + lessI t1 t + lessI t2 t + lessI t3 t
theorem lessI_mono {a u v : Int} (h : u ≤ v) : lessI a u ≤ lessI a v := by unfold lessI; split <;> split <;> omega
theorem lessI_bound (a u : Int) : 0 ≤ lessI a u ∧ lessI a u ≤ 1 := by unfold lessI; split <;> omega
theorem lessI_self {u v : Int} (h : u < v) : lessI u u = 0 ∧ lessI u v = 1 := by unfold lessI; rw [if_neg (by omega), if_pos h]; exact ⟨rfl, rfl⟩
theorem rk_lt {t0 t1 t2 t3 u v : Int} (hu : u ∈ [t0, t1, t2, t3]) (h : u < v) : rk t0 t1 t2 t3 u < rk t0 t1 t2 t3 v := by
  have h0 := lessI_mono (a := t0) (Int.le_of_lt h)
  have h1 := lessI_mono (a := t1) (Int.le_of_lt h)
  have h2 := lessI_mono (a := t2) (Int.le_of_lt h)
  have h3 := lessI_mono (a := t3) (Int.le_of_lt h)
  have hs := lessI_self h
  unfold rk
  simp only [List.mem_cons, List.not_mem_nil, or_false] at hu
  rcases hu with rfl | rfl | rfl | rfl <;> omega
theorem rk_iff {t0 t1 t2 t3 u v : Int} (hu : u ∈ [t0, t1, t2, t3]) (hv : v ∈ [t0, t1, t2, t3]) : (rk t0 t1 t2 t3 u < rk t0 t1 t2 t3 v ↔ u < v) ∧ (rk t0 t1 t2 t3 u = rk t0 t1 t2 t3 v ↔ u = v) := by
  rcases Int.lt_trichotomy u v with h | h | h
  · have := rk_lt hu h; omega
  · subst h; omega
  · have := rk_lt hv h; omega
theorem rk_bound {t0 t1 t2 t3 u : Int} (hu : u ∈ [t0, t1, t2, t3]) : 0 ≤ rk t0 t1 t2 t3 u ∧ rk t0 t1 t2 t3 u ≤ 3 := by
  have h0 := lessI_bound t0 u
  have h1 := lessI_bound t1 u
  have h2 := lessI_bound t2 u
  have h3 := lessI_bound t3 u
  have hs : lessI u u = 0 := by unfold lessI; rw [if_neg (by omega)]
  unfold rk
  simp only [List.mem_cons, List.not_mem_nil, or_false] at hu
  rcases hu with rfl | rfl | rfl | rfl <;> omega
theorem relate_rank {t0 t1 t2 t3 : Int} (ht : ∀ t ∈ [t0, t1, t2, t3], 0 ≤ t ∧ t ≤ 15) :
    relate (pt1 (rk t0 t1 t2 t3 t0)) (pt1 (rk t0 t1 t2 t3 t1)) (pt1 (rk t0 t1 t2 t3 t2)) (pt1 (rk t0 t1 t2 t3 t3)) = relate (pt1 t0) (pt1 t1) (pt1 t2) (pt1 t3) := by
  have hin : ∀ p ∈ [pt1 t0, pt1 t1, pt1 t2, pt1 t3], ∃ t, p = pt1 t ∧ t ∈ [t0, t1, t2, t3] := by
    intro p hp
    simp only [List.mem_cons, List.not_mem_nil, or_false] at hp
    rcases hp with rfl | rfl | rfl | rfl
    · exact ⟨t0, rfl, by simp⟩
    · exact ⟨t1, rfl, by simp⟩
    · exact ⟨t2, rfl, by simp⟩
    · exact ⟨t3, rfl, by simp⟩
  have hG : ∀ p ∈ [pt1 t0, pt1 t1, pt1 t2, pt1 t3], inG p ∧ inG (pt1 (rk t0 t1 t2 t3 p.1)) := by
    intro p hp
    obtain ⟨t, rfl, hm⟩ := hin p hp
    have h1 := ht t hm
    have h2 := rk_bound hm
    exact ⟨⟨by simp only [pt1]; omega, by simp only [pt1]; omega⟩, ⟨by simp only [pt1]; omega, by simp only [pt1]; omega⟩⟩
  suffices hk : Keeps (fun p => pt1 (rk t0 t1 t2 t3 p.1)) 1 [pt1 t0, pt1 t1, pt1 t2, pt1 t3] by
    exact relate_keeps (f := fun p => pt1 (rk t0 t1 t2 t3 p.1)) (s := 1) (a := pt1 t0) (b := pt1 t1) (c := pt1 t2) (d := pt1 t3) hk hG
  refine keeps_line hG (fun p hp q hq h => ?_) (fun p hp q hq r hr => ?_) fun p hp q hq r hr => ?_
  · obtain ⟨t, rfl, h1⟩ := hin p hp
    obtain ⟨u, rfl, h2⟩ := hin q hq
    have := rk_iff h1 h2
    simp only [pt1, Prod.mk.injEq, and_true] at h ⊢
    omega
  · obtain ⟨t, rfl, _⟩ := hin p hp
    obtain ⟨u, rfl, _⟩ := hin q hq
    obtain ⟨v, rfl, _⟩ := hin r hr
    exact ⟨by simp [area, pt1], by simp [area, pt1]⟩
  · obtain ⟨t, rfl, h1⟩ := hin p hp
    obtain ⟨u, rfl, h2⟩ := hin q hq
    obtain ⟨v, rfl, h3⟩ := hin r hr
    have k1 := rk_iff h1 h3
    have k2 := rk_iff h2 h3
    simp only [pt1]
    omega
/-- What the law expects of four places. -/
def lineWant (t0 t1 t2 t3 : Int) : Int :=
  if min (max t0 t1) (max t2 t3) < max (min t0 t1) (min t2 t3) then 0
  else if max (min t0 t1) (min t2 t3) < min (max t0 t1) (max t2 t3) then 4
  else if (max (min t0 t1) (min t2 t3) = t0 ∨ max (min t0 t1) (min t2 t3) = t1) ∧ (max (min t0 t1) (min t2 t3) = t2 ∨ max (min t0 t1) (min t2 t3) = t3) then 1 else 2
def four : List Int := [0, 1, 2, 3]
theorem line_all : (four.all fun a => four.all fun b => four.all fun c => four.all fun d => relate (pt1 a) (pt1 b) (pt1 c) (pt1 d) == lineWant a b c d) = true := by kernel_rfl
theorem four_mem {a : Int} (h : 0 ≤ a ∧ a ≤ 3) : a ∈ four := by
  have : a = 0 ∨ a = 1 ∨ a = 2 ∨ a = 3 := by omega
  rcases this with rfl | rfl | rfl | rfl <;> simp [four]
theorem line_small {a b c d : Int} (ha : 0 ≤ a ∧ a ≤ 3) (hb : 0 ≤ b ∧ b ≤ 3) (hc : 0 ≤ c ∧ c ≤ 3) (hd : 0 ≤ d ∧ d ≤ 3) : relate (pt1 a) (pt1 b) (pt1 c) (pt1 d) = lineWant a b c d := by
  have h1 := List.all_eq_true.1 line_all a (four_mem ha)
  have h2 := List.all_eq_true.1 h1 b (four_mem hb)
  have h3 := List.all_eq_true.1 h2 c (four_mem hc)
  have h4 := List.all_eq_true.1 h3 d (four_mem hd)
  simpa using h4
end Go.Proofs.Ytmopbegmdegooaa
