/- Arguments that are points and numbers: what the form hands a law, as the abstract machine's values. -/
import Derived.Test.YtmopbegmdegooaaRow
import Derived.Test.YtmopbegmdegooaaRows
import Derived.WalkKit
import Derived.ProofKit
import Derived.OpenShut
import Derived.ChangeOld
import Derived.Below
import Derived.SizedLaws
import Derived.Carry
import Derived.Lib.SmallJoins
import Derived.RowKit3
import Derived.WideLaws
import Derived.Laws.Rows
namespace Go.Proofs.Ytmopbegmdegooaa
open Go Vm M Go.ChangeShapes Go.WideShapes Go.ChangeAt Go.RowKit
set_option linter.unusedVariables false
theorem own : ownKnob Try.prog.godebug = none := by kernel_rfl
theorem laidOut : laidOutB Try.prog = true := by kernel_rfl
def ptV (p : P2) : Value := .agg #[.int .i64 p.1, .int .i64 p.2]
section
variable {H : Type} {enc : TypeId × Value → H} {w : World} {base : Nat} {spare : Nat → Bool} {held : Bool}
theorem open_pt {r : Reach} {b0 : Nat} {v : Value} {d : DataW H} {ps : List MemPlace} (hval : Value.okWide Try.prog w r b0 23 v) (h : DataW.Trod enc Try.prog w base spare held 23 v d ps) : ∃ p : P2, v = ptV p := by
  obtain ⟨v0, v1, y0, y1, n, rfl, _, _, h0, h1⟩ := Go.Joins.open_agg2 Try.underlying23 (by kernel_rfl) (by kernel_rfl) hval h
  obtain ⟨x, hx, _, _⟩ := DataW.trod_int Try.underlying2 h0
  obtain ⟨y, hy, _, _⟩ := DataW.trod_int Try.underlying2 h1
  cases hx
  cases hy
  exact ⟨(x, y), rfl⟩
end
/-- A call by values, from no memory of the call's own. -/
theorem CallsP.calls {f : FuncId} {ps : List PVal} {r : PVal} (h : CallsP Try.prog f ps r) {vs : Array Value} {w : World} (hs : vs.size = ps.length) (hr : Rps (fun _ _ => False) ps (fun i y => vs[i]? = some y) 0) {u : Value} (hu : ∀ L x, Rp L r x → x = u) :
    Calls Try.prog f vs w fun e w' => e = .returned u ∧ Below w.heap.size w w' := by
  refine (h (fun _ _ => False) w vs (fun _ _ h => h.elim) hs (Rps_mono (fun _ _ h => h.elim) _ _ _ _ (fun _ _ h => h) hr)).mono ?_
  rintro e w' ⟨v, ok', rfl, hb, _, _, _, hv⟩
  exact ⟨by rw [hu _ _ hv], hb⟩
theorem Rp_pt (L : Addr → Value → Prop) (p : P2) : Rp L (ptP p) (ptV p) := by
  simp only [ptP, ptV, Rp]
  exact ⟨_, rfl, rfl, by simp [Rps, Rp]⟩
theorem Rp_int (L : Addr → Value → Prop) (n : Int) : Rp L (iP n) (.int .i64 n) := by simp [iP, Rp]
theorem Rp_bool {L : Addr → Value → Prop} {b : Bool} {x : Value} (h : Rp L (bP b) x) : x = .bool b := by simpa [bP, Rp] using h
theorem Rps_cons {L : Addr → Value → Prop} {x : PVal} {xs : List PVal} {f : Nat → Value → Prop} {i : Nat} {y : Value} (hy : f i y) (hr : Rp L x y) (h : Rps L xs f (i + 1)) : Rps L (x :: xs) f i := by
  simp only [Rps]
  exact ⟨⟨y, hy, hr⟩, h⟩
theorem Rps_nil {L : Addr → Value → Prop} {f : Nat → Value → Prop} {i : Nat} : Rps L [] f i := by simp [Rps]
end Go.Proofs.Ytmopbegmdegooaa
