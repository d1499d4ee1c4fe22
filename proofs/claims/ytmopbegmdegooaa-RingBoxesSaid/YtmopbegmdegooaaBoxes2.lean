/- The law RingBoxes: true whatever the input. -/
import Derived.Test.YtmopbegmdegooaaBoxesB
import Derived.Test.YtmopbegmdegooaaShifts3
namespace Go.Proofs.Ytmopbegmdegooaa
open Go Vm M
set_option linter.unusedVariables false
set_option linter.unusedSimpArgs false
def whereI (q : P2) (a b c d : Int) : Int :=
  bif decide (q.1 > a) && decide (q.1 < c) && decide (q.2 > b) && decide (q.2 < d) then 1
  else bif decide (q.1 < a) || decide (q.1 > c) || decide (q.2 < b) || decide (q.2 > d) then -1 else 0
theorem bx27_where (q : P2) (a b c d : Int) : bx27 q a b c d = (iA (whereI q a b c d), [.box (cellsP q)]) := by
  unfold bx27 whereI
  cases decide (q.1 > a) <;> cases decide (q.1 < c) <;> cases decide (q.2 > b) <;> cases decide (q.2 < d) <;> cases decide (q.1 < a) <;> cases decide (q.1 > c) <;> cases decide (q.2 < b) <;> cases decide (q.2 > d) <;> rfl
theorem where_c27 (q : P2) (a b c d : Int) : callA (cfB R4) (evalF (cfB R4) 10) 0 27 [iA a, iA b, iA c, iA d, .ptr 0 0 0] [.box (cellsP q)] = some (iA (whereI q a b c d), [.box (cellsP q)]) :=
  callA_m1 (p := iP (whereI q a b c d)) rfl rfl ((bx27_eq q a b c d).trans (congrArg some (bx27_where q a b c d))) rfl
/-- Numbers of a small box. -/
def sm (x : Int) : Prop := 0 ≤ x ∧ x ≤ 1000
theorem sm_inG {x y : Int} (hx : sm x) (hy : sm y) : inG (x, y) := by
  unfold sm at hx hy
  exact ⟨⟨by simp only; omega, by simp only; omega⟩, by simp only; omega, by simp only; omega⟩
theorem mul_pos_iff {u v : Int} (hu : 0 < u) : 0 < u * v ↔ 0 < v := by
  constructor
  · intro h
    rcases Int.lt_trichotomy v 0 with h1 | h1 | h1
    · have := Int.mul_neg_of_pos_of_neg hu h1; omega
    · subst h1; simp at h
    · exact h1
  · exact fun h => Int.mul_pos hu h
theorem mul_zero_iff {u v : Int} (hu : 0 < u) : u * v = 0 ↔ v = 0 := by
  rw [Int.mul_eq_zero]
  omega
theorem bx_on1 {a b c d x y : Int} (ha : sm a) (hb : sm b) (hc : sm c) (hd : sm d) (hx : sm x) (hy : sm y) (hac : a < c) (hbd : b < d) : M.on (a, b) (c, b) (x, y) = decide (y = b ∧ a ≤ x ∧ x ≤ c) := by
  have e : area (a, b) (c, b) (x, y) = (c - a) * (y - b) := by unfold area; simp
  have i := mul_zero_iff (u := c - a) (v := y - b) (by omega)
  rw [Bool.eq_iff_iff, on_iff (sm_inG ha hb) (sm_inG hc hb) (sm_inG hx hy), e, i, decide_eq_true_eq]
  simp only
  omega
theorem bx_on3 {a b c d x y : Int} (ha : sm a) (hb : sm b) (hc : sm c) (hd : sm d) (hx : sm x) (hy : sm y) (hac : a < c) (hbd : b < d) : M.on (c, d) (a, d) (x, y) = decide (y = d ∧ a ≤ x ∧ x ≤ c) := by
  have e : area (c, d) (a, d) (x, y) = -((c - a) * (y - d)) := by unfold area; simp only [Int.sub_self, Int.zero_mul, Int.sub_zero]; rw [← Int.neg_mul]; congr 1; omega
  have i := mul_zero_iff (u := c - a) (v := y - d) (by omega)
  rw [Bool.eq_iff_iff, on_iff (sm_inG hc hd) (sm_inG ha hd) (sm_inG hx hy), e, decide_eq_true_eq, Int.neg_eq_zero, i]
  simp only
  omega
theorem bx_on2 {a b c d x y : Int} (ha : sm a) (hb : sm b) (hc : sm c) (hd : sm d) (hx : sm x) (hy : sm y) (hac : a < c) (hbd : b < d) : M.on (c, b) (c, d) (x, y) = decide (x = c ∧ b ≤ y ∧ y ≤ d) := by
  have e : area (c, b) (c, d) (x, y) = -((d - b) * (x - c)) := by unfold area; simp
  have i := mul_zero_iff (u := d - b) (v := x - c) (by omega)
  rw [Bool.eq_iff_iff, on_iff (sm_inG hc hb) (sm_inG hc hd) (sm_inG hx hy), e, decide_eq_true_eq, Int.neg_eq_zero, i]
  simp only
  omega
theorem bx_on4 {a b c d x y : Int} (ha : sm a) (hb : sm b) (hc : sm c) (hd : sm d) (hx : sm x) (hy : sm y) (hac : a < c) (hbd : b < d) : M.on (a, d) (a, b) (x, y) = decide (x = a ∧ b ≤ y ∧ y ≤ d) := by
  have e : area (a, d) (a, b) (x, y) = (d - b) * (x - a) := by unfold area; simp only [Int.sub_self, Int.zero_mul, Int.zero_sub]; rw [← Int.neg_mul]; congr 1; omega
  have i := mul_zero_iff (u := d - b) (v := x - a) (by omega)
  rw [Bool.eq_iff_iff, on_iff (sm_inG ha hd) (sm_inG ha hb) (sm_inG hx hy), e, decide_eq_true_eq, i]
  simp only
  omega
theorem sgn_pos {z : Int} : sgn z > 0 ↔ 0 < z := by
  unfold sgn
  split
  · omega
  · split <;> omega
theorem bx_ray1 {a b c d x y : Int} (ha : sm a) (hb : sm b) (hc : sm c) (hd : sm d) (hx : sm x) (hy : sm y) (hac : a < c) (hbd : b < d) : ray (a, b) (c, b) (x, y) = false := by
  unfold ray rayR
  rw [nearP_id (sm_inG ha hb), nearP_id (sm_inG hc hb), nearP_id (sm_inG hx hy)]
  simp only [gt_iff_lt, Int.lt_irrefl, decide_false, cond_false]
  by_cases h : y < b
  · rw [decide_eq_false (p := b ≤ y) (by omega)]; simp
  · rw [decide_eq_false h]; simp
theorem bx_ray3 {a b c d x y : Int} (ha : sm a) (hb : sm b) (hc : sm c) (hd : sm d) (hx : sm x) (hy : sm y) (hac : a < c) (hbd : b < d) : ray (c, d) (a, d) (x, y) = false := by
  unfold ray rayR
  rw [nearP_id (sm_inG hc hd), nearP_id (sm_inG ha hd), nearP_id (sm_inG hx hy)]
  simp only [gt_iff_lt, Int.lt_irrefl, decide_false, cond_false]
  by_cases h : y < d
  · rw [decide_eq_false (p := d ≤ y) (by omega)]; simp
  · rw [decide_eq_false h]; simp
theorem bx_up {a b c d x y : Int} (ha : sm a) (hb : sm b) (hc : sm c) (hd : sm d) (hx : sm x) (hy : sm y) (hac : a < c) (hbd : b < d) {z : Int} (hz : sm z) : (decide (turnR (z, b) (z, d) (x, y) > 0)) = decide (x < z) := by
  have e : area (z, b) (z, d) (x, y) = (d - b) * (z - x) := by unfold area; simp only [Int.sub_self, Int.zero_mul, Int.zero_sub]; rw [← Int.mul_neg]; congr 1; omega
  have i := mul_pos_iff (u := d - b) (v := z - x) (by omega)
  unfold turnR
  rw [e]
  congr 1
  apply propext
  rw [sgn_pos, i]
  omega
theorem bx_ray2 {a b c d x y : Int} (ha : sm a) (hb : sm b) (hc : sm c) (hd : sm d) (hx : sm x) (hy : sm y) (hac : a < c) (hbd : b < d) : ray (c, b) (c, d) (x, y) = decide (b ≤ y ∧ y < d ∧ x < c) := by
  unfold ray rayR
  rw [nearP_id (sm_inG hc hb), nearP_id (sm_inG hc hd), nearP_id (sm_inG hx hy)]
  simp only
  rw [decide_eq_false (p := b > d) (by omega), cond_false, bx_up ha hb hc hd hx hy hac hbd hc]
  rw [Bool.eq_iff_iff]
  simp only [Bool.and_eq_true, decide_eq_true_eq]
  omega
theorem bx_ray4 {a b c d x y : Int} (ha : sm a) (hb : sm b) (hc : sm c) (hd : sm d) (hx : sm x) (hy : sm y) (hac : a < c) (hbd : b < d) : ray (a, d) (a, b) (x, y) = decide (b ≤ y ∧ y < d ∧ x < a) := by
  unfold ray rayR
  rw [nearP_id (sm_inG ha hd), nearP_id (sm_inG ha hb), nearP_id (sm_inG hx hy)]
  simp only
  rw [decide_eq_true (p := d > b) (by omega), cond_true, bx_up ha hb hc hd hx hy hac hbd ha]
  rw [Bool.eq_iff_iff]
  simp only [Bool.and_eq_true, decide_eq_true_eq]
  omega
theorem bx_inside {a b c d x y : Int} (ha : sm a) (hb : sm b) (hc : sm c) (hd : sm d) (hx : sm x) (hy : sm y) (hac : a < c) (hbd : b < d) : insideP [(a, b), (c, b), (c, d), (a, d)] (x, y) = whereI (x, y) a b c d := by
  rw [insideP_eq]
  have e : ringS [(a, b), (c, b), (c, d), (a, d)] = [((a, b), (c, b)), ((c, b), (c, d)), ((c, d), (a, d)), ((a, d), (a, b))] := rfl
  rw [e]
  unfold insideS onAny rayN whereI
  simp only [List.any_cons, List.any_nil, List.countP_cons, List.countP_nil]
  rw [bx_on1 ha hb hc hd hx hy hac hbd, bx_on2 ha hb hc hd hx hy hac hbd, bx_on3 ha hb hc hd hx hy hac hbd, bx_on4 ha hb hc hd hx hy hac hbd,
    bx_ray1 ha hb hc hd hx hy hac hbd, bx_ray2 ha hb hc hd hx hy hac hbd, bx_ray3 ha hb hc hd hx hy hac hbd, bx_ray4 ha hb hc hd hx hy hac hbd]
  by_cases h1 : x > a ∧ x < c ∧ y > b ∧ y < d
  · rw [decide_eq_false (p := y = b ∧ a ≤ x ∧ x ≤ c) (by omega), decide_eq_false (p := x = c ∧ b ≤ y ∧ y ≤ d) (by omega), decide_eq_false (p := y = d ∧ a ≤ x ∧ x ≤ c) (by omega), decide_eq_false (p := x = a ∧ b ≤ y ∧ y ≤ d) (by omega),
      decide_eq_true (p := b ≤ y ∧ y < d ∧ x < c) (by omega), decide_eq_false (p := b ≤ y ∧ y < d ∧ x < a) (by omega), decide_eq_true h1.1, decide_eq_true h1.2.1, decide_eq_true h1.2.2.1, decide_eq_true h1.2.2.2]
    rfl
  · have n1 : (decide (x > a) && decide (x < c) && decide (y > b) && decide (y < d)) = false := by
      rw [Bool.eq_false_iff]
      simp only [ne_eq, Bool.and_eq_true, decide_eq_true_eq]
      omega
    rw [n1]
    by_cases h2 : x < a ∨ x > c ∨ y < b ∨ y > d
    · have n2 : (decide (x < a) || decide (x > c) || decide (y < b) || decide (y > d)) = true := by
        simp only [Bool.or_eq_true, decide_eq_true_eq]
        omega
      rw [n2, decide_eq_false (p := y = b ∧ a ≤ x ∧ x ≤ c) (by omega), decide_eq_false (p := x = c ∧ b ≤ y ∧ y ≤ d) (by omega), decide_eq_false (p := y = d ∧ a ≤ x ∧ x ≤ c) (by omega), decide_eq_false (p := x = a ∧ b ≤ y ∧ y ≤ d) (by omega)]
      by_cases h3 : b ≤ y ∧ y < d ∧ x < a
      · rw [decide_eq_true h3, decide_eq_true (p := b ≤ y ∧ y < d ∧ x < c) (by omega)]
        rfl
      · rw [decide_eq_false h3, decide_eq_false (p := b ≤ y ∧ y < d ∧ x < c) (by omega)]
        rfl
    · have n2 : (decide (x < a) || decide (x > c) || decide (y < b) || decide (y > d)) = false := by
        rw [Bool.eq_false_iff]
        simp only [ne_eq, Bool.or_eq_true, decide_eq_true_eq]
        omega
      have n3 : (decide (y = b ∧ a ≤ x ∧ x ≤ c) || (decide (x = c ∧ b ≤ y ∧ y ≤ d) || (decide (y = d ∧ a ≤ x ∧ x ≤ c) || (decide (x = a ∧ b ≤ y ∧ y ≤ d) || false)))) = true := by
        simp only [Bool.or_eq_true, decide_eq_true_eq]
        omega
      rw [n2, n3]
      rfl
theorem and511_bound (f : Int) : 0 ≤ and511 f ∧ and511 f ≤ 511 := by
  unfold and511
  have h : (BitVec.ofInt IntKind.i64.bits f &&& BitVec.ofInt IntKind.i64.bits 511).toNat ≤ 511 := by
    rw [BitVec.toNat_and]
    exact Nat.le_trans Nat.and_le_right (by decide)
  rw [IntWalk.i64_in _ (by omega)]
  omega
theorem bxW_bound (w : Int) : 3 ≤ bxW w ∧ bxW w ≤ 258 := by
  have := and255_bound w
  unfold bxW
  rw [IntWalk.i64_in _ (by omega)]
  omega
theorem ringBoxes_calls (w h : Int) (p : P2) : CallsP Try.prog 9 [iP w, iP h, ptP p] (bP true) := by
  have hc := bxAll_calls w h _ _ p (where_c27 (bxQ p) 0 0 (bxW w) (bxW h)) (where_c27 (bxQ p) 1 1 (IntKind.i64.wrap (bxW w - 1)) (IntKind.i64.wrap (bxW h - 1)))
  have bw := bxW_bound w
  have bh := bxW_bound h
  have q1 := and511_bound p.1
  have q2 := and511_bound p.2
  have ww : IntKind.i64.wrap (bxW w - 1) = bxW w - 1 := IntWalk.i64_in _ (by omega)
  have wh : IntKind.i64.wrap (bxW h - 1) = bxW h - 1 := IntWalk.i64_in _ (by omega)
  have inO : ∀ x y : Int, sm x → sm y → insideP (bxO w h) (x, y) = whereI (x, y) 0 0 (bxW w) (bxW h) := fun x y hx hy =>
    bx_inside ⟨by omega, by omega⟩ ⟨by omega, by omega⟩ ⟨by omega, by omega⟩ ⟨by omega, by omega⟩ hx hy (by omega) (by omega)
  have inI : ∀ x y : Int, sm x → sm y → insideP (bxI w h) (x, y) = whereI (x, y) 1 1 (bxW w - 1) (bxW h - 1) := fun x y hx hy => by
    unfold bxI
    rw [ww, wh]
    exact bx_inside ⟨by omega, by omega⟩ ⟨by omega, by omega⟩ ⟨by omega, by omega⟩ ⟨by omega, by omega⟩ hx hy (by omega) (by omega)
  have area : areaP (bxO w h) = IntKind.i64.wrap (IntKind.i64.wrap (2 * bxW w) * bxW h) := by
    have m := mul_bound (a := bxW w) (b := bxW h) (A := 258) (B := 258) (by omega) (by omega) (by omega) (by omega)
    have e2 : 2 * bxW w * bxW h = bxW w * bxW h + bxW w * bxW h := by rw [Int.mul_assoc]; omega
    rw [IntWalk.i64_in (2 * bxW w) (by omega), IntWalk.i64_in _ (by omega), areaP_eq (fun q hq => ?_) (by simp [bxO]), e2]
    · show sumC [((0, 0), (bxW w, 0)), ((bxW w, 0), (bxW w, bxW h)), ((bxW w, bxW h), (0, bxW h)), ((0, bxW h), (0, 0))] = _
      simp only [sumC, List.map_cons, List.map_nil, List.sum_cons, List.sum_nil, cross]
      rw [Int.mul_comm (bxW h) 0]
      simp
    · unfold bxO at hq
      simp only [List.mem_cons, List.not_mem_nil, or_false] at hq
      rcases hq with rfl | rfl | rfl | rfl <;> exact ⟨⟨by simp only; omega, by simp only; omega⟩, by simp only; omega, by simp only; omega⟩
  have gOI : bxG (bxO w h) (bxI w h) = true := by
    unfold bxG bxI badP
    rw [ww, wh]
    simp only [List.any_cons, List.any_nil]
    rw [inO 1 1 ⟨by omega, by omega⟩ ⟨by omega, by omega⟩, inO (bxW w - 1) 1 ⟨by omega, by omega⟩ ⟨by omega, by omega⟩, inO (bxW w - 1) (bxW h - 1) ⟨by omega, by omega⟩ ⟨by omega, by omega⟩, inO 1 (bxW h - 1) ⟨by omega, by omega⟩ ⟨by omega, by omega⟩]
    have wI : ∀ x y : Int, 0 < x → x < bxW w → 0 < y → y < bxW h → whereI (x, y) 0 0 (bxW w) (bxW h) = 1 := by
      intro x y h1 h2 h3 h4
      unfold whereI
      simp only
      rw [decide_eq_true h1, decide_eq_true h2, decide_eq_true h3, decide_eq_true h4]
      rfl
    rw [wI 1 1 (by omega) (by omega) (by omega) (by omega), wI (bxW w - 1) 1 (by omega) (by omega) (by omega) (by omega), wI (bxW w - 1) (bxW h - 1) (by omega) (by omega) (by omega) (by omega), wI 1 (bxW h - 1) (by omega) (by omega) (by omega) (by omega)]
    rfl
  have gIO : bxG (bxI w h) (bxO w h) = false := by
    have e : badP (bxI w h) (0, 0) = true := by
      unfold badP
      rw [inI 0 0 ⟨by omega, by omega⟩ ⟨by omega, by omega⟩]
      rfl
    unfold bxG
    rw [show bxO w h = (0, 0) :: (bxO w h).tail from rfl, List.any_cons, e]
    simp
  have gOO : bxG (bxO w h) (bxO w h) = false := by
    have e : badP (bxO w h) (0, 0) = true := by
      unfold badP
      rw [inO 0 0 ⟨by omega, by omega⟩ ⟨by omega, by omega⟩]
      unfold whereI
      simp only
      rw [decide_eq_false (p := (0 : Int) > 0) (by omega), decide_eq_false (p := (0 : Int) > bxW w) (by omega), decide_eq_false (p := (0 : Int) > bxW h) (by omega)]
      rfl
    unfold bxG
    rw [List.any_eq_true.2 ⟨(0, 0), by simp [bxO], e⟩]
    simp
  have e : bxAll w h (whereI (bxQ p) 0 0 (bxW w) (bxW h)) (whereI (bxQ p) 1 1 (IntKind.i64.wrap (bxW w - 1)) (IntKind.i64.wrap (bxW h - 1))) p = bP true := by
    unfold bxAll
    rw [area, gOI, gIO, gOO, ww, wh]
    unfold bxQ
    rw [inO _ _ ⟨by omega, by omega⟩ ⟨by omega, by omega⟩, inI _ _ ⟨by omega, by omega⟩ ⟨by omega, by omega⟩]
    simp [bP]
  rw [e] at hc
  exact hc
end Go.Proofs.Ytmopbegmdegooaa
