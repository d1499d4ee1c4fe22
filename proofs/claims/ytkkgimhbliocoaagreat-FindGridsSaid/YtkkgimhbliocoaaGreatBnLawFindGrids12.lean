/- Texts put together: OpenI. What is proved stands at the head of each part. -/
import Derived.Test.YtkkgimhbliocoaaGreatBnLawFindGrids11
import Derived.Test.YtkkgimhbliocoaaGreatRows
import Derived.ChangeSlices
import Derived.ProofKit
import Derived.OpenShut
import Derived.ChangeOld
import Derived.SizedLaws
import Derived.Carry
import Derived.Lib.SmallJoins
import Derived.RowKit3
import Derived.WideLaws
import Derived.Laws.Rows
/- Arguments that are numbers and slices of numbers: what the form hands a law, as the abstract machine's values. -/
namespace Go.Proofs.YtkkgimhbliocoaaGreat
open Go Vm M Go.ChangeShapes Go.WideShapes Go.ChangeAt Go.RowKit
set_option linter.unusedVariables false
theorem own : ownKnob Tryz.prog.godebug = none := by kernel_rfl
theorem laidOut : laidOutB Tryz.prog = true := by kernel_rfl
theorem Rp_int (L : Look) (n : Int) : Rp L (iP n) (.int .i64 n) := by simp [iP, Rp]
theorem Rp_bool {L : Look} {b : Bool} {x : Value} (h : Rp L (bP b) x) : x = .bool b := by simpa [bP, Rp] using h
theorem Rps_cons {L : Look} {x : PVal} {xs : List PVal} {f : Nat → Value → Prop} {i : Nat} {y : Value} (hy : f i y) (hr : Rp L x y) (h : Rps L xs f (i + 1)) : Rps L (x :: xs) f i := by
  simp only [Rps]
  exact ⟨⟨y, hy, hr⟩, h⟩
theorem Rps_nil {L : Look} {f : Nat → Value → Prop} {i : Nat} : Rps L [] f i := by simp [Rps]
theorem cell_lt {w : World} {a : Addr} {v : Value} (h : w.cell? a = some v) : a.block < w.heap.size := by
  unfold World.cell? at h
  split at h
  · rename_i hb
    exact (Array.getElem?_eq_some_iff.1 hb).1
  · cases h
section
variable {H : Type} {enc : TypeId × Value → H} {W : World}
set_option maxRecDepth 100000 in
theorem open_slI {b0 : Nat} {v : Value} {d : DataW H} {pl : List MemPlace} (hval : Value.okWide Tryz.prog W .any b0 37 v) (h : DataW.Trod enc Tryz.prog W 0 (fun _ => true) true 37 v d pl) : ∃ l : List Int, Rp (sees (fun b _ => b < W.heap.size) W) (slI l) v := by
  obtain ⟨A, len, cap, rfl⟩ := okWide_slice Tryz.underlying37 hval
  obtain ⟨fuel, hf⟩ := h
  rcases open_ints Tryz.underlying37 Tryz.underlying3 (by kernel_rfl) hf with ⟨hcs, _⟩ | ⟨a, len', cap', zs, hcs, _, hl, _, hm, _, hall, _⟩
  · simp [Value.cells] at hcs
    obtain ⟨rfl, rfl, rfl⟩ := hcs
    refine ⟨[], ?_⟩
    simp only [slI, intP, List.map_nil, Rp, Rps]
    exact ⟨none, 0, rfl, Nat.le_refl _, trivial⟩
  · simp [Value.cells] at hcs
    obtain ⟨rfl, rfl, rfl⟩ := hcs
    simp only [if_true] at hm
    refine ⟨zs.take len, ?_⟩
    have hlen : (zs.take len).length = len := by rw [List.length_take]; omega
    simp only [slI, Rp, hlen]
    refine ⟨some a, cap, rfl, hl, Rps_mk fun j x hx => ?_⟩
    unfold intP at hx
    rw [List.getElem?_map, List.getElem?_take] at hx
    split at hx
    · rename_i hj
      rw [List.getElem?_eq_getElem (by omega)] at hx
      simp only [Option.map_some, Option.some.injEq] at hx
      subst hx
      have hc := hall j (by omega)
      have e : zs.getD j 0 = zs[j] := by rw [List.getD_eq_getElem?_getD, List.getElem?_eq_getElem (by omega)]; rfl
      rw [e] at hc
      refine ⟨_, ⟨a, rfl, ?_⟩, rfl⟩
      rw [Nat.zero_add]
      exact ⟨cell_lt hc, hc⟩
    · cases hx
end
/-- A call by values, of memory that lay there. -/
theorem callsS {f : FuncId} {ps : List PVal} {r : PVal} (h : CallsP Tryz.prog f ps r) {vs : Array Value} {w : World} (hs : vs.size = ps.length) (hr : Rps (sees (fun b _ => b < w.heap.size) w) ps (fun i y => vs[i]? = some y) 0) {u : Value} (hu : ∀ L x, Rp L r x → x = u) :
    Calls Tryz.prog f vs w fun e w' => e = .returned u ∧ Below w.heap.size w w' := by
  refine (h (fun b _ => b < w.heap.size) w vs (fun _ _ h => h) hs hr).mono ?_
  rintro e w' ⟨v, ok', rfl, hb, _, _, _, hv⟩
  exact ⟨by rw [hu _ _ hv], hb⟩
end Go.Proofs.YtkkgimhbliocoaaGreat
