import Derived.Test.YtecjkkofoafhaaaFb
namespace Go.Proofs.Ytecjkkofoafhaaa.V
open Go.RowKit Go.Proofs.Try
set_option maxRecDepth 100000
set_option linter.unusedVariables false
theorem ok17 : FnOk prog 17 f17 := ⟨func17, by decide +kernel, by kernel_rfl⟩
noncomputable def m17 : Mach prog Inv gInv := mach inv_keep inv_mixed [(17, f17)] ⟨ok17, trivial⟩ [] trivial
/-! ### (domino/rtt.ticks).bounded -/
@[reducible] def r17 : List Ty := [(.int .i64)]
def ks17 : List Nat := [17]
noncomputable def F17 (a0 : Int) : Option (Int × Unit) :=
  let n1 : Int := (if ((1099511627776 : Int) < a0) then (1099511627776 : Int) else a0)
  let n2 : Int := (if (n1 > (0 : Int)) then n1 else (0 : Int))
  some (n2, ())
noncomputable def con17 : Con := ⟨[(.int .i64)], r17, fun x => F17 x.1⟩
theorem con17_ok : con17.Sound prog Inv 17 :=
  con_run (M := m17) inv_g (f := f17) rfl ks17 100000 (X := nowhere) (fun base S0 cs0 hfin => OSound.nowhere) (by intro x; kernel_rfl)

-- used [17]


end Go.Proofs.Ytecjkkofoafhaaa.V
