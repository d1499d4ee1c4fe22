/- A ring's two functions, as functions of values. -/
import Derived.Test.YtmopbegmdegooaaRing2
namespace Go.Proofs.Ytmopbegmdegooaa
open Go Vm M
set_option linter.unusedVariables false
set_option linter.unusedSimpArgs false
theorem flatPP_get : ∀ (ps : List P2) (j : Nat), j < ps.length → (flatPP ps)[j * 2]? = some (.v (.int .i64 (ps[j]?.getD (0, 0)).1)) ∧ (flatPP ps)[j * 2 + 1]? = some (.v (.int .i64 (ps[j]?.getD (0, 0)).2))
  | [], j, h => by simp at h
  | p :: ps, 0, h => ⟨rfl, rfl⟩
  | p :: ps, j + 1, h => by
    have := flatPP_get ps j (by simpa using h)
    rw [show (j + 1) * 2 = j * 2 + 1 + 1 by omega]
    simpa [flatPP] using this
theorem holds_of {ok : Nat → Nat → Prop} {w : World} {ps : List P2} {v : Value} (hin : ∀ b j, ok b j → b < w.heap.size) (h : Rp (sees ok w) (slP ps) v) : HoldsP w.heap.size w v ps := by
  simp only [slP, Rp] at h
  obtain ⟨A, c, rfl, hc, hr⟩ := h
  refine ⟨A, c, rfl, ?_⟩
  by_cases hps : ps = []
  · exact .inl hps
  · have hl : 0 < ps.length := List.length_pos_iff.2 hps
    have g : ∀ j, j < ps.length → ∃ a, A = some a ∧ sees ok w (a.add (j * 2)) (.int .i64 (ps[j]?.getD (0, 0)).1) ∧ sees ok w (a.add (j * 2 + 1)) (.int .i64 (ps[j]?.getD (0, 0)).2) := by
      intro j hj
      have e := flatPP_get ps j hj
      obtain ⟨y, ⟨a, ha, hy⟩, h1⟩ := Rps_get hr (j * 2) _ e.1
      obtain ⟨z, ⟨a', ha', hz⟩, h2⟩ := Rps_get hr (j * 2 + 1) _ e.2
      simp only [Rp] at h1 h2
      rw [ha, Option.some.injEq] at ha'
      subst ha' h1 h2
      rw [Nat.zero_add] at hy hz
      exact ⟨a, ha, hy, hz⟩
    obtain ⟨a, rfl, h0, _⟩ := g 0 hl
    have h0' : sees ok w a (.int .i64 (ps[0]?.getD (0, 0)).1) := by simpa [Addr.add] using h0
    have hsp : a.spot = none := by
      have := h0'.2
      unfold World.cell? at this
      cases hs : a.spot with
      | none => rfl
      | some s =>
        rw [hs] at this
        split at this
        · simp at this
        · cases this
    obtain ⟨b, off, sp⟩ := a
    simp only at hsp
    subst hsp
    refine .inr ⟨b, off, rfl, hin _ _ h0'.1, fun j hj => ?_⟩
    obtain ⟨a, ha, h1, h2⟩ := g j hj
    rw [Option.some.injEq] at ha
    subst ha
    rw [Addr.add_lit] at h1 h2
    exact ⟨h1.2, by rw [Nat.add_assoc]; exact h2.2⟩
theorem vs_one {vs : Array Value} (h : vs.size = 1) {L : Addr → Value → Prop} {x : PVal} (hr : Rps L [x] (fun i y => vs[i]? = some y) 0) : ∃ v, vs = #[v] ∧ Rp L x v := by
  simp only [Rps] at hr
  obtain ⟨⟨v, hv, h1⟩, _⟩ := hr
  refine ⟨v, ?_, h1⟩
  apply Array.ext
  · simpa using h
  · intro i h2 h3
    have : i = 0 := by simp at h3; omega
    subst this
    rw [Array.getElem?_eq_getElem h2] at hv
    simpa using hv
theorem vs_two {vs : Array Value} (h : vs.size = 2) {L : Addr → Value → Prop} {x y : PVal} (hr : Rps L [x, y] (fun i y => vs[i]? = some y) 0) : ∃ v u, vs = #[v, u] ∧ Rp L x v ∧ Rp L y u := by
  simp only [Rps] at hr
  obtain ⟨⟨v, hv, h1⟩, ⟨u, hu, h2⟩, _⟩ := hr
  refine ⟨v, u, ?_, h1, h2⟩
  apply Array.ext
  · simpa using h
  · intro i h3 h4
    have : i = 0 ∨ i = 1 := by simp at h4; omega
    rcases this with rfl | rfl
    · rw [Array.getElem?_eq_getElem h3] at hv; simpa using hv
    · rw [Nat.zero_add, Array.getElem?_eq_getElem h3] at hu; simpa using hu
theorem callsP_int {F : FuncId} {ps : List PVal} {r : Int} (h : ∀ ok w vs, (∀ b j, ok b j → b < w.heap.size) → vs.size = ps.length → Rps (sees ok w) ps (fun i y => vs[i]? = some y) 0 → Calls Try.prog F vs w fun e w' => e = .returned (.int .i64 r) ∧ RowKit.Below w.heap.size w w') : CallsP Try.prog F ps (iP r) :=
  fun ok w vs h1 h2 h3 => (h ok w vs h1 h2 h3).mono fun e w' ⟨he, hb⟩ => ⟨_, ok, he, hb, fun _ _ h => h, fun _ _ h => .inl h, fun b j h => Nat.lt_of_lt_of_le (h1 b j h) hb.size, by simp [iP, Rp]⟩
def areaP (ps : List P2) : Int := if ps.length < 3 then 0 else segSum (upto (segAt ps) ps.length)
def insideP (ps : List P2) (p : P2) : Int := insideS (upto (segAt ps) ps.length) p
theorem area_calls (ps : List P2) (hl : ps.length < 4611686018427387904) : CallsP Try.prog 23 [slP ps] (iP (areaP ps)) := by
  unfold areaP
  by_cases h3 : ps.length < 3
  · rw [if_pos h3]
    exact callP_ok (cf_ok N8) (k := 0) (hs := []) (f := 23) (ps := [slP ps]) (bs := [true]) (ls := []) (out := none) (r := iP 0) (ob := [decide ((ps.length : Int) < 3) = true]) (by kernel_rfl) (allOb_cons (decide_eq_true (by omega)) allOb_nil)
  · rw [if_neg h3]
    refine callsP_int fun ok w vs h1 h2 hr => ?_
    obtain ⟨v, rfl, hv⟩ := vs_one h2 hr
    exact callsIn_wide.1 (area2_in 8 (Nat.le_refl _) v ps hl (by omega) w (holds_of h1 hv))
theorem inside_calls (ps : List P2) (p : P2) (hl : ps.length < 4611686018427387904) : CallsP Try.prog 22 [slP ps, ptP p] (iP (insideP ps p)) := by
  refine callsP_int fun ok w vs h1 h2 hr => ?_
  obtain ⟨v, u, rfl, hv, hu⟩ := vs_two h2 hr
  rw [rp_pt hu]
  exact callsIn_wide.1 (inside_in 8 (Nat.le_refl _) v ps hl p w (holds_of h1 hv))
/-- Of slices that are not too long. -/
def gSb (f : List P2 → PVal) : List PVal → Option PVal
  | [x] => match unSl x with
    | some ps => if ps.length < 4611686018427387904 then some (f ps) else none
    | none => none
  | _ => none
theorem gSb_spec {P : Program} {F : FuncId} {f : List P2 → PVal} (h : ∀ ps : List P2, ps.length < 4611686018427387904 → CallsP P F [slP ps] (f ps)) : ∀ ps r, gSb f ps = some r → CallsP P F ps r := by
  intro ps r hg
  unfold gSb at hg
  split at hg
  · split at hg
    · rename_i qs hq
      split at hg
      · rename_i hl
        simp only [Option.some.injEq] at hg
        subst hg
        exact callsP_weak (h qs hl) ⟨unSl_wk hq, trivial⟩
      · cases hg
    · cases hg
  · cases hg
theorem gSb_slP (f : List P2 → PVal) {ps : List P2} (h : ps.length < 4611686018427387904) : gSb f [slP ps] = some (f ps) := by simp [gSb, unSl_slP, h]
def gSPb (f : List P2 → P2 → PVal) : List PVal → Option PVal
  | [x, y] => match unSl x, unPt y with
    | some ps, some p => if ps.length < 4611686018427387904 then some (f ps p) else none
    | _, _ => none
  | _ => none
theorem gSPb_spec {P : Program} {F : FuncId} {f : List P2 → P2 → PVal} (h : ∀ (ps : List P2) p, ps.length < 4611686018427387904 → CallsP P F [slP ps, ptP p] (f ps p)) : ∀ ps r, gSPb f ps = some r → CallsP P F ps r := by
  intro ps r hg
  unfold gSPb at hg
  split at hg
  · split at hg
    · rename_i qs p hq hp
      split at hg
      · rename_i hl
        simp only [Option.some.injEq] at hg
        subst hg
        rw [unPt_some hp]
        exact callsP_weak (h qs p hl) ⟨unSl_wk hq, Wk.refl _, trivial⟩
      · cases hg
    · cases hg
  · cases hg
theorem gSPb_slP (f : List P2 → P2 → PVal) {ps : List P2} (p : P2) (h : ps.length < 4611686018427387904) : gSPb f [slP ps, ptP p] = some (f ps p) := by simp [gSPb, unSl_slP, unPt, ptP, h]
noncomputable def R1 : Lib Try.prog := N10.add 23 (gSb fun ps => iP (areaP ps)) (Vm.enters_of named_prog Try.func23 (by kernel_rfl)) (gSb_spec fun ps h => area_calls ps h)
noncomputable def R2 : Lib Try.prog := R1.add 22 (gSPb fun ps p => iP (insideP ps p)) (Vm.enters_of named_prog Try.func22 (by kernel_rfl)) (gSPb_spec fun ps p h => inside_calls ps p h)
end Go.Proofs.Ytmopbegmdegooaa
