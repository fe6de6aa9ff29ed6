import Derived.Test.YtecjkkofoafhaaaFb
namespace Go.Proofs.Ytecjkkofoafhaaa.V
open Go.RowKit Go.Proofs.Try
set_option maxRecDepth 100000
set_option linter.unusedVariables false
theorem ok14 : FnOk prog 14 f14 := ⟨func14, by decide +kernel, by kernel_rfl⟩
noncomputable def m14 : Mach prog Inv gInv := mach inv_keep inv_mixed [(14, f14)] ⟨ok14, trivial⟩ [] trivial
/-! ### domino/dominoref11.Threshold -/
@[reducible] def r14 : List Ty := [(.int .i64)]
def ks14 : List Nat := [14]
noncomputable def F14 (a0 : (Bool × (Int × (Int × (Int × (Int × Unit)))))) : Option (Int × Unit) :=
  let n1 : Int := (if (a0.2.1 > a0.2.2.1) then a0.2.1 else a0.2.2.1)
  let n2 : Int := (Go.IntKind.wrap Go.IntKind.i64 ((9 : Int) * n1))
  let n3 : Int := (Go.IntKind.wrap Go.IntKind.i64 (Int.tdiv n2 (8 : Int)))
  let n4 : Int := (if ((1 : Int) > n3) then (1 : Int) else n3)
  some (n4, ())
noncomputable def con14 : Con := ⟨[(.pair .bool (.pair (.int .i64) (.pair (.int .i64) (.pair (.int .i64) (.pair (.int .i64) .unit)))))], r14, fun x => F14 x.1⟩
theorem con14_ok : con14.Sound prog Inv 14 :=
  con_run (M := m14) inv_g (f := f14) rfl ks14 100000 (X := nowhere) (fun base S0 cs0 hfin => OSound.nowhere) (by intro x; kernel_rfl)

-- used [14]


end Go.Proofs.Ytecjkkofoafhaaa.V
