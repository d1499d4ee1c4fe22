/- TopoUnused: the row. Proved: whatever the input, the law answers true and leaves its arguments as they were. -/
import Derived.Test.YtkkgimhbliocoaaGreatBnLawTopoUnused6
import Derived.Test.YtkkgimhbliocoaaGreatRows
import Derived.ChangeSlices
import Derived.WalkKit
import Derived.ProofKit
import Derived.OpenShut
import Derived.ChangeOld
import Derived.SizedLaws
import Derived.Carry
import Derived.Lib.SmallJoins
import Derived.RowKit3
import Derived.WideLaws
import Derived.Laws.Rows
/- Arguments that are numbers and slices of numbers: what the form hands a law, as the abstract machine's values. -/
namespace Go.Proofs.YtkkgimhbliocoaaGreat
open Go Vm M Go.ChangeShapes Go.WideShapes Go.ChangeAt Go.RowKit
set_option linter.unusedVariables false
theorem own : ownKnob Tryz.prog.godebug = none := by kernel_rfl
theorem laidOut : laidOutB Tryz.prog = true := by kernel_rfl
theorem Rp_int (L : Look) (n : Int) : Rp L (iP n) (.int .i64 n) := by simp [iP, Rp]
theorem Rp_bool {L : Look} {b : Bool} {x : Value} (h : Rp L (bP b) x) : x = .bool b := by simpa [bP, Rp] using h
theorem Rps_cons {L : Look} {x : PVal} {xs : List PVal} {f : Nat → Value → Prop} {i : Nat} {y : Value} (hy : f i y) (hr : Rp L x y) (h : Rps L xs f (i + 1)) : Rps L (x :: xs) f i := by
  simp only [Rps]
  exact ⟨⟨y, hy, hr⟩, h⟩
theorem Rps_nil {L : Look} {f : Nat → Value → Prop} {i : Nat} : Rps L [] f i := by simp [Rps]
theorem cell_lt {w : World} {a : Addr} {v : Value} (h : w.cell? a = some v) : a.block < w.heap.size := by
  unfold World.cell? at h
  split at h
  · rename_i hb
    exact (Array.getElem?_eq_some_iff.1 hb).1
  · cases h
section
variable {H : Type} {enc : TypeId × Value → H} {W : World}
set_option maxRecDepth 100000 in
theorem open_slI {b0 : Nat} {v : Value} {d : DataW H} {pl : List MemPlace} (hval : Value.okWide Tryz.prog W .any b0 37 v) (h : DataW.Trod enc Tryz.prog W 0 (fun _ => true) true 37 v d pl) : ∃ l : List Int, Rp (sees (fun b _ => b < W.heap.size) W) (slI l) v := by
  obtain ⟨A, len, cap, rfl⟩ := okWide_slice Tryz.underlying37 hval
  obtain ⟨fuel, hf⟩ := h
  rcases open_ints Tryz.underlying37 Tryz.underlying3 (by kernel_rfl) hf with ⟨hcs, _⟩ | ⟨a, len', cap', zs, hcs, _, hl, _, hm, _, hall, _⟩
  · simp [Value.cells] at hcs
    obtain ⟨rfl, rfl, rfl⟩ := hcs
    refine ⟨[], ?_⟩
    simp only [slI, intP, List.map_nil, Rp, Rps]
    exact ⟨none, 0, rfl, Nat.le_refl _, trivial⟩
  · simp [Value.cells] at hcs
    obtain ⟨rfl, rfl, rfl⟩ := hcs
    simp only [if_true] at hm
    refine ⟨zs.take len, ?_⟩
    have hlen : (zs.take len).length = len := by rw [List.length_take]; omega
    simp only [slI, Rp, hlen]
    refine ⟨some a, cap, rfl, hl, Rps_mk fun j x hx => ?_⟩
    unfold intP at hx
    rw [List.getElem?_map, List.getElem?_take] at hx
    split at hx
    · rename_i hj
      rw [List.getElem?_eq_getElem (by omega)] at hx
      simp only [Option.map_some, Option.some.injEq] at hx
      subst hx
      have hc := hall j (by omega)
      have e : zs.getD j 0 = zs[j] := by rw [List.getD_eq_getElem?_getD, List.getElem?_eq_getElem (by omega)]; rfl
      rw [e] at hc
      refine ⟨_, ⟨a, rfl, ?_⟩, rfl⟩
      rw [Nat.zero_add]
      exact ⟨cell_lt hc, hc⟩
    · cases hx
end
/-- A call by values, of memory that lay there. -/
theorem callsS {f : FuncId} {ps : List PVal} {r : PVal} (h : CallsP Tryz.prog f ps r) {vs : Array Value} {w : World} (hs : vs.size = ps.length) (hr : Rps (sees (fun b _ => b < w.heap.size) w) ps (fun i y => vs[i]? = some y) 0) {u : Value} (hu : ∀ L x, Rp L r x → x = u) :
    Calls Tryz.prog f vs w fun e w' => e = .returned u ∧ Below w.heap.size w w' := by
  refine (h (fun b _ => b < w.heap.size) w vs (fun _ _ h => h) hs hr).mono ?_
  rintro e w' ⟨v, ok', rfl, hb, _, _, _, hv⟩
  exact ⟨by rw [hu _ _ hv], hb⟩
end Go.Proofs.YtkkgimhbliocoaaGreat
/- TopoUnused: the row. Proved: whatever the input, the law answers true and leaves its arguments as they were. -/
namespace Go.Proofs.YtkkgimhbliocoaaGreat
open Go Vm M Go.ChangeShapes Go.WideShapes Go.ChangeAt Go.RowKit
set_option linter.unusedVariables false
set_option maxRecDepth 100000 in
theorem topoUnused_lifted (os : Os) (started : os.Started) (H : Type) (enc : TypeId × Value → H) :
    ReturnsInHanded {} Tryz.checked os 11 .any (Rows.topoUnusedSpec.pre6 enc Tryz.prog Tryz.f11 Rows.topoUnusedRow.domain false) (Rows.topoUnusedSpec.post enc Tryz.prog Tryz.f11 false true false false) := by
  refine returnsInHanded_of_change_sized (C := Tryz.checked) own started (by kernel_rfl) Tryz.func11
    (ChangeSpec.witness6 (enc := enc) (C := Tryz.checked) false ⟨#[], #[.slice none 0 0], []⟩ 8 (by kernel_rfl) (by kernel_rfl) (by kernel_rfl) (by kernel_rfl)) ?_
  intro W base args ds gs before hval0 hW hcnd hsz0 _
  have hval : ∀ (j : Nat) t v, Tryz.f11.params[j]? = some t → args[j]? = some v → Value.okWide Tryz.prog W .any base t v := hval0
  have hW' := hW
  obtain ⟨p, q, hA0, hV, rfl, hfz, hnd⟩ := hW
  have hA : DataW.TrodAll enc Tryz.prog W 0 (fun _ => true) true Tryz.f11.params.toList args.toList ds p := hA0
  rw [Tryz.params11] at hA hval
  obtain ⟨v0, vs0, d0, ds0, p0, q0, hargs, rfl, rfl, h0, r0⟩ := trodAll_cons hA
  obtain ⟨rfl, rfl, rfl⟩ := trodAll_nil r0
  obtain rfl : args = #[v0] := by cases args; simp_all
  obtain ⟨rfl, rfl⟩ := trodVars_none hV
  have lt : ∀ {t : TypeId} {v : Value} {d : DataW H} {ps : List MemPlace}, DataW.Trod enc Tryz.prog W 0 (fun _ => true) true t v d ps → ∀ x ∈ ps, x.block < W.heap.size := fun h => by obtain ⟨m, hm⟩ := h; exact DataW.trod_lt m _ _ _ hm
  obtain ⟨a0, hr0⟩ := open_slI (hval 0 37 v0 rfl rfl) h0
  refine (callsS (topoUnused_calls a0) (w := W) (vs := #[v0]) rfl (Rps_cons rfl hr0 Rps_nil) (u := .bool true) (fun L x h => Rp_bool h)).mono fun e W' ⟨he, bel⟩ => ?_
  subst he
  exact ⟨_, rfl, _, _, _, [], _, [], hW', trodAll_mk1 (shut_bool Tryz.underlying4 _), (trodAll_cons_mk (Below.trod laidOut (by kernel_rfl) (of_decide_eq_true (by kernel_rfl)) h0 bel (lt h0)) trodAll_mk0), rfl, bel.frame _, fun h => by cases h⟩
theorem topoUnused_over : Rows.topoUnusedRow.holds Tryz.pinned (OpenSpec.ofChange Rows.topoUnusedSpec) :=
  OpenClaim.holds_of_wide 11 Tryz.f11 rfl rfl rfl rfl rfl rfl rfl ⟨rfl, rfl, rfl, rfl, rfl⟩ rfl rfl rfl rfl rfl (by kernel_rfl) Tryz.func11 (by kernel_rfl)
    (of_decide_eq_true (by kernel_rfl)) (by unfold Func.isWrapper; first | (rw [if_pos (by decide +kernel)]; kernel_rfl) | (rw [if_neg (by decide +kernel)]; exact ⟨rfl, rfl⟩))
    (fun os started H enc _ => topoUnused_lifted os started H enc)
theorem topoUnused_holds : Rows.TopoUnusedSaid := topoUnused_over
#print axioms topoUnused_holds
end Go.Proofs.YtkkgimhbliocoaaGreat
