import Derived.Test.YtecjkkofoafhaaaFb
namespace Go.Proofs.Ytecjkkofoafhaaa.V
open Go.RowKit Go.Proofs.Try
set_option maxRecDepth 100000
set_option linter.unusedVariables false
theorem ok13 : FnOk prog 13 f13 := ⟨func13, by decide +kernel, by kernel_rfl⟩
noncomputable def m13 : Mach prog Inv gInv := mach inv_keep inv_mixed [(13, f13)] ⟨ok13, trivial⟩ [] trivial
/-! ### domino/rtt.Threshold -/
@[reducible] def r13 : List Ty := [(.int .i64)]
def ks13 : List Nat := [13]
noncomputable def F13 (a0 : (Bool × (Int × (Int × (Int × (Int × Unit)))))) : Option (Int × Unit) :=
  let n1 : Int := (if (a0.2.1 > a0.2.2.1) then a0.2.1 else a0.2.2.1)
  let n2 : Int := (Go.IntKind.wrap Go.IntKind.i64 (n1 * (8 : Int)))
  let n3 : Int := (Go.IntKind.wrap Go.IntKind.i64 (n2 + n1))
  let n4 : Int := (Int.fdiv n3 (8 : Int))
  let n5 : Int := (if (n4 > (1 : Int)) then n4 else (1 : Int))
  some (n5, ())
noncomputable def con13 : Con := ⟨[(.pair .bool (.pair (.int .i64) (.pair (.int .i64) (.pair (.int .i64) (.pair (.int .i64) .unit)))))], r13, fun x => F13 x.1⟩
theorem con13_ok : con13.Sound prog Inv 13 :=
  con_run (M := m13) inv_g (f := f13) rfl ks13 100000 (X := nowhere) (fun base S0 cs0 hfin => OSound.nowhere) (by intro x; kernel_rfl)

-- used [13]


end Go.Proofs.Ytecjkkofoafhaaa.V
