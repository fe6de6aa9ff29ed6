import Derived.Test.YtecjkkofoafhaaaFb
import Derived.Test.YtecjkkofoafhaaaF17
namespace Go.Proofs.Ytecjkkofoafhaaa.V
open Go.RowKit Go.Proofs.Try
set_option maxRecDepth 100000
set_option linter.unusedVariables false
theorem ok19 : FnOk prog 19 f19 := ⟨func19, by decide +kernel, by kernel_rfl⟩
noncomputable def m19 : Mach prog Inv gInv := mach inv_keep inv_mixed [(19, f19)] ⟨ok19, trivial⟩ [(17, con17)] ⟨⟨con17_ok, FnOk.callable ok17⟩, trivial⟩
/-! ### (domino/rtt.sample).adjusted -/
@[reducible] def r19 : List Ty := [(.int .i64)]
def ks19 : List Nat := [19]
noncomputable def F19 (a0 : (Int × (Int × Unit))) (a1 : Int) : Option (Int × Unit) :=
  obind (F17 a0.1) fun y2 =>
  let n3 : Int := (Go.IntKind.wrap Go.IntKind.i64 (y2.1 - a0.2.1))
  let b4 : Bool := (decide (n3 ≥ a1))
  bif b4 then
    some (n3, ())
  else
    obind (F17 a0.1) fun y5 =>
    some y5
noncomputable def con19 : Con := ⟨[(.pair (.int .i64) (.pair (.int .i64) .unit)), (.int .i64)], r19, fun x => F19 x.1 x.2.1⟩
theorem con19_ok : con19.Sound prog Inv 19 :=
  con_run (M := m19) inv_g (f := f19) rfl ks19 100000 (X := nowhere) (fun base S0 cs0 hfin => OSound.nowhere) (by intro x; kernel_rfl)

-- used [19]


end Go.Proofs.Ytecjkkofoafhaaa.V
