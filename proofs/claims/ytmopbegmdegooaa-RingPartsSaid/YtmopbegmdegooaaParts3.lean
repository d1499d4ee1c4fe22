/- The law RingParts: true whatever the input. -/
import Derived.Test.YtmopbegmdegooaaParts2
namespace Go.Proofs.Ytmopbegmdegooaa
open Go Vm M
set_option linter.unusedVariables false
set_option linter.unusedSimpArgs false
theorem sumC_bound : ∀ xs : List SegP, (∀ x ∈ xs, small x.1 ∧ small x.2) → -(800000000 * (xs.length : Int)) ≤ sumC xs ∧ sumC xs ≤ 800000000 * (xs.length : Int) := by
  intro xs
  induction xs with
  | nil => intro _; simp [sumC]
  | cons x xs ih =>
    intro h
    have hx := h x (by simp)
    have hc := cross_bound hx.1 hx.2
    have := ih fun y hy => h y (by simp [hy])
    have hl : ((x :: xs).length : Int) = (xs.length : Int) + 1 := by simp
    rw [sumC_cons, hl]
    omega
theorem ringS_same (xs : List P2) (a : P2) (zs : List P2) : sumC (ringS [a]) + sumC (ringS (a :: zs ++ (xs ++ [a]))) = sumC (ringS (xs ++ a :: zs)) := by
  have e2 : sumC (ringS (a :: zs ++ (xs ++ [a]))) = sumC (pathS (a :: zs ++ (xs ++ [a]))) + cross (a, a) := by
    have := pathS_append (a :: zs ++ xs) a [a]
    show sumC (pathS (a :: (zs ++ (xs ++ [a])) ++ [a])) = _
    simp only [List.cons_append, List.append_assoc, List.nil_append] at this ⊢
    rw [this, sumC_append]
    simp [pathS, sumC]
  have e4 : (ringS (xs ++ a :: zs)).Perm (ringS ((a :: zs) ++ xs)) := ringS_rot xs (a :: zs)
  have e5 : ringS ((a :: zs) ++ xs) = pathS (a :: zs ++ (xs ++ [a])) := by
    show pathS (a :: (zs ++ xs) ++ [a]) = _
    simp
  have e6 : cross (a, a) = 0 := by unfold cross; simp only; rw [Int.mul_comm]; omega
  rw [ringS_one, e2, sumC_perm e4, e5, e6]
  omega
/-- Both parts together. -/
theorem parts_sum {al : List P2} {a b n : Nat} (hn : al.length = n) (hab : a ≤ b) (hb : b < n) : sumC (ringS ((al.drop a).take (b + 1 - a))) + sumC (ringS (al.drop b ++ al.take (a + 1))) = sumC (ringS al) := by
  subst hn
  have d1 : al.drop a = al[a] :: al.drop (a + 1) := List.drop_eq_getElem_cons (by omega)
  have d2 : al.drop b = al[b] :: al.drop (b + 1) := List.drop_eq_getElem_cons (by omega)
  have t1 : al.take (a + 1) = al.take a ++ [al[a]] := by rw [List.take_add_one, List.getElem?_eq_getElem (by omega)]; rfl
  by_cases h : a = b
  · subst h
    have e1 : (al.drop a).take (a + 1 - a) = [al[a]] := by
      rw [d1, show a + 1 - a = 1 by omega]
      rfl
    have := ringS_same (al.take a) al[a] (al.drop (a + 1))
    rw [e1, t1, d1]
    rw [show al.take a ++ al[a] :: al.drop (a + 1) = al by rw [← d1, List.take_append_drop]] at this
    exact this
  · have e0 : al.drop (a + 1) = (al.drop (a + 1)).take (b - a - 1) ++ al[b] :: al.drop (b + 1) := by
      rw [← d2]
      have := List.take_append_drop (b - a - 1) (al.drop (a + 1))
      rw [List.drop_drop, show a + 1 + (b - a - 1) = b by omega] at this
      exact this.symm
    generalize hys : (al.drop (a + 1)).take (b - a - 1) = ys at e0
    have hyl : ys.length = b - a - 1 := by rw [← hys]; simp; omega
    have e1 : (al.drop a).take (b + 1 - a) = al[a] :: ys ++ [al[b]] := by
      rw [d1, e0]
      have : al[a] :: (ys ++ al[b] :: al.drop (b + 1)) = (al[a] :: ys ++ [al[b]]) ++ al.drop (b + 1) := by simp
      rw [this, List.take_left' (by simp; omega)]
    have e2 : al = al.take a ++ al[a] :: ys ++ al[b] :: al.drop (b + 1) := by
      have h1 := List.take_append_drop a al
      rw [d1, e0] at h1
      simpa using h1.symm
    have := ringS_cut (al.take a) al[a] ys al[b] (al.drop (b + 1))
    rw [e1, t1, d2]
    rw [← e2] at this
    exact this
theorem rp_wrap (k : Nat) (hk : k < 100) : (IntKind.i64.wrap ((k : Int) + 1)).toNat = k + 1 := by
  rw [IntWalk.i64_in _ (by omega)]
  omega
theorem rp_x1 {al : List P2} {a b n : Nat} (hn : al.length = n) (hab : a ≤ b) (hb : b < n) (h60 : n ≤ 60) : (List.drop (0 * 2) ([] : List AVal) ++ cutA (flatP al) 2 (0 + (a : Int).toNat) (0 + (a : Int).toNat + ((IntKind.i64.wrap ((b : Int) + 1)).toNat - (a : Int).toNat))) = flatP ((al.drop a).take (b + 1 - a)) := by
  rw [rp_wrap b (by omega), Int.toNat_natCast, cutA_flat]
  simp only [Nat.zero_add]
  rw [show a + (b + 1 - a) - a = b + 1 - a by omega]
  rfl
theorem rp_x2 {al : List P2} {a b n : Nat} (hn : al.length = n) (hab : a ≤ b) (hb : b < n) (h60 : n ≤ 60) : (List.drop (0 * 2) ([] : List AVal) ++ cutA (flatP al) 2 (0 + (b : Int).toNat) (0 + (b : Int).toNat + (n - (b : Int).toNat))) = flatP (al.drop b) := by
  rw [Int.toNat_natCast, cutA_flat]
  simp only [Nat.zero_add]
  rw [show b + (n - b) - b = n - b by omega, List.take_of_length_le (by simp; omega)]
  rfl
theorem rp_x3 {al : List P2} {a b n : Nat} (hn : al.length = n) (hab : a ≤ b) (hb : b < n) (h60 : n ≤ 60) : (List.drop (0 * 2) (List.drop (0 * 2) ([] : List AVal) ++ cutA (flatP al) 2 (0 + (b : Int).toNat) (0 + (b : Int).toNat + (n - (b : Int).toNat))) ++ cutA (flatP al) 2 (0 + 0) (0 + 0 + ((IntKind.i64.wrap ((a : Int) + 1)).toNat - 0))) = flatP (al.drop b ++ al.take (a + 1)) := by
  rw [rp_x2 hn hab hb h60, rp_wrap a (by omega), cutA_flat, flatP_append, show 0 + 0 + (a + 1 - 0) - (0 + 0) = a + 1 by omega]
  rfl
theorem ringParts_calls (ps : List P2) (av bv : Int) : CallsP Try.prog 7 [slP ps, iP av, iP bv] (bP true) := by
  by_cases h3 : ps.length < 3
  · exact rpShort_calls ps av bv (decide_eq_true (by omega))
  · by_cases h60 : ps.length > 60
    · exact rpLong_calls ps av bv (decide_eq_true (by omega)) (decide_eq_false (by omega))
    · have hl0 := rp_loop0 ps av bv (by omega) (by omega)
      generalize hal : rsA ps ps.length = al at hl0
      have hla : al.length = ps.length := by rw [← hal]; exact rsA_length (Nat.le_refl _)
      have sA : ∀ q ∈ al, small q := by
        intro q hq
        rw [← hal] at hq
        unfold rsA at hq
        rw [List.mem_map] at hq
        obtain ⟨r, _, rfl⟩ := hq
        have h1 : -100 < (rsP1 r).1 ∧ (rsP1 r).1 < 100 := tmod_bound r.1 100 (by omega)
        have h2 : -100 < (rsP1 r).2 ∧ (rsP1 r).2 < 100 := tmod_bound r.2 100 (by omega)
        exact ⟨⟨by omega, by omega⟩, by omega, by omega⟩
      have rem : ∀ v : Int, ∃ k : Nat, k < ps.length ∧ (and255 v).tmod (ps.length : Int) = (k : Int) := by
        intro v
        have hv := and255_bound v
        have hm := Int.emod_lt_of_pos (and255 v) (b := (ps.length : Int)) (by omega)
        have hm0 := Int.emod_nonneg (and255 v) (b := (ps.length : Int)) (by omega)
        refine ⟨(and255 v % (ps.length : Int)).toNat, by omega, ?_⟩
        rw [Int.tmod_eq_emod_of_nonneg (by omega)]
        omega
      obtain ⟨a, ha, ea⟩ := rem av
      obtain ⟨b, hb, eb⟩ := rem bv
      have r1 : binA Try.prog BinOp.rem 3 (Operand.tmp 43) (Operand.tmp 45) (iA (and255 av)) (iA (ps.length : Int)) = some (iA (a : Int)) := by rw [binA_rem _ _ _ _ (by omega), ea]
      have r2 : binA Try.prog BinOp.rem 3 (Operand.tmp 48) (Operand.tmp 50) (iA (and255 bv)) (iA (ps.length : Int)) = some (iA (b : Int)) := by rw [binA_rem _ _ _ _ (by omega), eb]
      have cA : ∀ (l : List P2) (xs : List AVal) (S S' : List AObj) (o e len : Nat) (fz : Option Nat), l.length ≤ 200 → xs = flatP l → len = l.length → S[o]? = some (.row 2 e fz xs) → S.set o (.row 2 e (some xs.length) xs) = S' → callA (cf R3) (evalF (cf R3) 61) 0 23 [.row o e 2 0 len] S = some (iA (areaP l), S') :=
        fun l xs S S' o e len fz hl hx hlen hS hS' => callA_rowE (c := cf R3) (ev := evalF (cf R3) 61) (F := 23) (r := iP (areaP l)) (g := gSb fun ps => iP (areaP ps)) rfl rfl rfl hx hlen hS hS' (gSb_slP _ (by omega))
      have sum : ∀ a b : Nat, a ≤ b → b < ps.length → IntKind.i64.wrap (areaP ((al.drop a).take (b + 1 - a)) + areaP (al.drop b ++ al.take (a + 1))) = areaP al := by
        intro a b hab hb
        have l1 : ((al.drop a).take (b + 1 - a)).length ≤ 1000 := by simp; omega
        have l2 : (al.drop b ++ al.take (a + 1)).length ≤ 1000 := by simp; omega
        rw [areaP_eq (fun q hq => sA q (List.mem_of_mem_drop (List.mem_of_mem_take hq))) l1, areaP_eq (fun q hq => by
          rw [List.mem_append] at hq
          exact sA q (hq.elim List.mem_of_mem_drop List.mem_of_mem_take)) l2, areaP_eq sA (by omega), parts_sum hla hab hb]
        have hB := sumC_bound (ringS al) fun x hx => ⟨sA _ (ringS_mem hx).1, sA _ (ringS_mem hx).2⟩
        rw [ringS_length] at hB
        exact IntWalk.i64_in _ (by omega)
      have ones : ∀ l h : Nat, Ones (cutA (flatP al) 2 l h) := fun l h => by rw [cutA_flat]; exact flatP_one _
      have fin : ∀ (a b : Nat) (hab : a ≤ b) (hb : b < ps.length) , True := fun _ _ _ _ => trivial
      by_cases hab : a ≤ b
      · have w1 := rp_wrap b (by omega)
        have w2 := rp_wrap a (by omega)
        have x1 := rp_x1 hla hab hb (by omega)
        have x2 := rp_x2 hla hab hb (by omega)
        have x3 := rp_x3 hla hab hb (by omega)
        have h := rpAllE_calls ps al av bv a b ps.length (areaP ((al.drop a).take (b + 1 - a))) (areaP (al.drop b ++ al.take (a + 1))) (areaP al) ps.length (decide_eq_false (by omega)) (decide_eq_false (by omega)) (decide_eq_false (by omega)) hl0 r1 r2
          (by rw [w1, IntWalk.i64_in _ (by omega)]; exact boundsA_both (a := a) (b := b + 1) (by omega) (by omega)) ⟨rfl, by omega, by omega⟩ (ones _ _) (by omega) (by rw [flatP_length]; omega)
          (boundsA_lo (by omega)) ⟨rfl, by omega, by omega⟩ (ones _ _) (by omega) (by rw [flatP_length]; omega)
          (by rw [w2, IntWalk.i64_in _ (by omega)]; exact boundsA_hi (b := a + 1) (by omega)) ⟨by rw [x2, flatP_length]; simp; omega, by omega, by omega⟩ (ones _ _) (by omega) (by rw [flatP_length]; omega)
          (cA _ _ _ _ 0 1 _ none (by simp; omega) x1 (by simp; omega) rfl rfl) (cA _ _ _ _ 28 2 _ none (by simp; omega) x3 (by simp; omega) rfl rfl) (cA al _ _ _ 15 0 _ none (by omega) rfl hla.symm rfl rfl)
        have e : rpAllE ps al av bv a b ps.length (areaP ((al.drop a).take (b + 1 - a))) (areaP (al.drop b ++ al.take (a + 1))) (areaP al) ps.length = bP true := by
          unfold rpAllE
          rw [sum a b hab hb]
          simp [bP]
        rw [e] at h
        exact h
      · have hba : b ≤ a := by omega
        have w1 := rp_wrap a (by omega)
        have w2 := rp_wrap b (by omega)
        have x1 := rp_x1 hla hba ha (by omega)
        have x2 := rp_x2 hla hba ha (by omega)
        have x3 := rp_x3 hla hba ha (by omega)
        have h := rpAllF_calls ps al av bv a b ps.length (areaP ((al.drop b).take (a + 1 - b))) (areaP (al.drop a ++ al.take (b + 1))) (areaP al) ps.length (decide_eq_true (by omega)) (decide_eq_false (by omega)) (decide_eq_false (by omega)) hl0 r1 r2
          (by rw [w1, IntWalk.i64_in _ (by omega)]; exact boundsA_both (a := b) (b := a + 1) (by omega) (by omega)) ⟨rfl, by omega, by omega⟩ (ones _ _) (by omega) (by rw [flatP_length]; omega)
          (boundsA_lo (by omega)) ⟨rfl, by omega, by omega⟩ (ones _ _) (by omega) (by rw [flatP_length]; omega)
          (by rw [w2, IntWalk.i64_in _ (by omega)]; exact boundsA_hi (b := b + 1) (by omega)) ⟨by rw [x2, flatP_length]; simp; omega, by omega, by omega⟩ (ones _ _) (by omega) (by rw [flatP_length]; omega)
          (cA _ _ _ _ 0 1 _ none (by simp; omega) x1 (by simp; omega) rfl rfl) (cA _ _ _ _ 28 2 _ none (by simp; omega) x3 (by simp; omega) rfl rfl) (cA al _ _ _ 15 0 _ none (by omega) rfl hla.symm rfl rfl)
        have e : rpAllF ps al av bv a b ps.length (areaP ((al.drop b).take (a + 1 - b))) (areaP (al.drop a ++ al.take (b + 1))) (areaP al) ps.length = bP true := by
          unfold rpAllF
          rw [sum b a hba ha]
          simp [bP]
        rw [e] at h
        exact h
end Go.Proofs.Ytmopbegmdegooaa
