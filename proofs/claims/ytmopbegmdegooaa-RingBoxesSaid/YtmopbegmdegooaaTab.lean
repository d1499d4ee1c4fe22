/- This program's table for the abstract machine: its functions' code; which temporaries are still of use behind each region. -/
import Derived.Test.YtmopbegmdegooaaVmLib
import Derived.Test.YtmopbegmdegooaaChecked
import Derived.KernelRfl
namespace Go.Proofs.Ytmopbegmdegooaa
open Go Vm
theorem named_prog : named Try.prog = true := by kernel_rfl
theorem mixed_prog : Try.prog.follows .mixedOrders = true := by kernel_rfl
noncomputable def cfgOf (lives : List (FuncId × List Nat)) (mode : FuncId → Nat) (L : Lib Try.prog) : Cfg :=
  { P := Try.prog, tab := tabOf Try.prog lives, mode := mode, givenP := L.given, givenS := fun _ => none }
theorem cfgOf_ok (lives : List (FuncId × List Nat)) (mode : FuncId → Nat) (L : Lib Try.prog) : CfgOk (cfgOf lives mode L) where
  mixed := mixed_prog
  tab := fun f a h => tabOf_ok named_prog h rfl
  givenP := L.ok
  givenS := fun f g h => by cases h
end Go.Proofs.Ytmopbegmdegooaa
