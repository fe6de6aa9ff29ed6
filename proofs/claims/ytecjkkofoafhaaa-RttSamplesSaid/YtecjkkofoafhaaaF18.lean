import Derived.Test.YtecjkkofoafhaaaFb
namespace Go.Proofs.Ytecjkkofoafhaaa.V
open Go.RowKit Go.Proofs.Try
set_option maxRecDepth 100000
set_option linter.unusedVariables false
theorem ok18 : FnOk prog 18 f18 := ⟨func18, by decide +kernel, by kernel_rfl⟩
noncomputable def m18 : Mach prog Inv gInv := mach inv_keep inv_mixed [(18, f18)] ⟨ok18, trivial⟩ [] trivial
/-! ### domino/dominoref11.bound -/
@[reducible] def r18 : List Ty := [(.int .i64)]
def ks18 : List Nat := [18]
noncomputable def F18 (a0 : Int) : Option (Int × Unit) :=
  let n1 : Int := (if ((0 : Int) > a0) then (0 : Int) else a0)
  let n2 : Int := (if ((1099511627776 : Int) < n1) then (1099511627776 : Int) else n1)
  some (n2, ())
noncomputable def con18 : Con := ⟨[(.int .i64)], r18, fun x => F18 x.1⟩
theorem con18_ok : con18.Sound prog Inv 18 :=
  con_run (M := m18) inv_g (f := f18) rfl ks18 100000 (X := nowhere) (fun base S0 cs0 hfin => OSound.nowhere) (by intro x; kernel_rfl)

-- used [18]


end Go.Proofs.Ytecjkkofoafhaaa.V
