import Derived.Test.YtecjkkofoafhaaaFb
namespace Go.Proofs.Ytecjkkofoafhaaa.V
open Go.RowKit Go.Proofs.Try
set_option maxRecDepth 100000
set_option linter.unusedVariables false
theorem ok10 : FnOk prog 10 f10 := ⟨func10, by decide +kernel, by kernel_rfl⟩
noncomputable def m10 : Mach prog Inv gInv := mach inv_keep inv_mixed [(10, f10)] ⟨ok10, trivial⟩ [] trivial
/-! ### domino/dominoref11.New -/
@[reducible] def r10 : List Ty := [(.pair .bool (.pair (.int .i64) (.pair (.int .i64) (.pair (.int .i64) (.pair (.int .i64) .unit)))))]
def ks10 : List Nat := [10]
noncomputable def F10 : Option ((Bool × (Int × (Int × (Int × (Int × Unit))))) × Unit) :=
  some ((false, ((0 : Int), ((10 : Int), ((5 : Int), ((0 : Int), ()))))), ())
noncomputable def con10 : Con := ⟨[], r10, fun x => F10⟩
theorem con10_ok : con10.Sound prog Inv 10 :=
  con_run (M := m10) inv_g (f := f10) rfl ks10 100000 (X := nowhere) (fun base S0 cs0 hfin => OSound.nowhere) (by intro x; kernel_rfl)

-- used [10]


end Go.Proofs.Ytecjkkofoafhaaa.V
