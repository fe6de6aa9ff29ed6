import Derived.Test.YtecjkkofoafhaaaFb
namespace Go.Proofs.Ytecjkkofoafhaaa.V
open Go.RowKit Go.Proofs.Try
set_option maxRecDepth 100000
set_option linter.unusedVariables false
theorem ok9 : FnOk prog 9 f9 := ⟨func9, by decide +kernel, by kernel_rfl⟩
noncomputable def m9 : Mach prog Inv gInv := mach inv_keep inv_mixed [(9, f9)] ⟨ok9, trivial⟩ [] trivial
/-! ### domino/rtt.New -/
@[reducible] def r9 : List Ty := [(.pair .bool (.pair (.int .i64) (.pair (.int .i64) (.pair (.int .i64) (.pair (.int .i64) .unit)))))]
def ks9 : List Nat := [9]
noncomputable def F9 : Option ((Bool × (Int × (Int × (Int × (Int × Unit))))) × Unit) :=
  some ((false, ((0 : Int), ((10 : Int), ((5 : Int), ((0 : Int), ()))))), ())
noncomputable def con9 : Con := ⟨[], r9, fun x => F9⟩
theorem con9_ok : con9.Sound prog Inv 9 :=
  con_run (M := m9) inv_g (f := f9) rfl ks9 100000 (X := nowhere) (fun base S0 cs0 hfin => OSound.nowhere) (by intro x; kernel_rfl)

-- used [9]


end Go.Proofs.Ytecjkkofoafhaaa.V
