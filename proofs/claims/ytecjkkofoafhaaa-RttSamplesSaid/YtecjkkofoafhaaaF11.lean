import Derived.Test.YtecjkkofoafhaaaFb
import Derived.Test.YtecjkkofoafhaaaF17
namespace Go.Proofs.Ytecjkkofoafhaaa.V
open Go.RowKit Go.Proofs.Try
set_option maxRecDepth 100000
set_option linter.unusedVariables false
theorem ok11 : FnOk prog 11 f11 := ⟨func11, by decide +kernel, by kernel_rfl⟩
noncomputable def m11 : Mach prog Inv gInv := mach inv_keep inv_mixed [(11, f11)] ⟨ok11, trivial⟩ [(17, con17)] ⟨⟨con17_ok, FnOk.callable ok17⟩, trivial⟩
/-! ### domino/rtt.Pto -/
@[reducible] def r11 : List Ty := [(.int .i64)]
def ks11 : List Nat := [11]
noncomputable def F11 (a0 : (Bool × (Int × (Int × (Int × (Int × Unit)))))) (a1 : Int) (a2 : Int) : Option (Int × Unit) :=
  let n3 : Int := (Go.IntKind.wrap Go.IntKind.i64 (a0.2.2.2.1 * (4 : Int)))
  let n4 : Int := (if (n3 > (1 : Int)) then n3 else (1 : Int))
  let n5 : Int := (Go.IntKind.wrap Go.IntKind.i64 (a0.2.2.1 + n4))
  obind (F17 a1) fun y6 =>
  let n7 : Int := (Go.IntKind.wrap Go.IntKind.i64 (n5 + y6.1))
  let n8 : Int := (if ((10 : Int) < a2) then (10 : Int) else a2)
  let n9 : Int := (if (n8 > (0 : Int)) then n8 else (0 : Int))
  bif (decide ((0 : Int) ≤ n9)) then
    let n10 : Int := (Go.IntKind.wrap Go.IntKind.i64 (n7 * ((2 : Int) ^ (Min.min (Int.toNat n9) 64))))
    some (n10, ())
  else none
noncomputable def con11 : Con := ⟨[(.pair .bool (.pair (.int .i64) (.pair (.int .i64) (.pair (.int .i64) (.pair (.int .i64) .unit))))), (.int .i64), (.int .i64)], r11, fun x => F11 x.1 x.2.1 x.2.2.1⟩
theorem con11_ok : con11.Sound prog Inv 11 :=
  con_run (M := m11) inv_g (f := f11) rfl ks11 100000 (X := nowhere) (fun base S0 cs0 hfin => OSound.nowhere) (by intro x; kernel_rfl)

-- used [11]


end Go.Proofs.Ytecjkkofoafhaaa.V
