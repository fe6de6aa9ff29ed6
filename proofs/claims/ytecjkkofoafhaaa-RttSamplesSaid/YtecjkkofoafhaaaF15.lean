import Derived.Test.YtecjkkofoafhaaaFb
import Derived.Test.YtecjkkofoafhaaaF17
import Derived.Test.YtecjkkofoafhaaaF19
namespace Go.Proofs.Ytecjkkofoafhaaa.V
open Go.RowKit Go.Proofs.Try
set_option maxRecDepth 100000
set_option linter.unusedVariables false
theorem ok15 : FnOk prog 15 f15 := ⟨func15, by decide +kernel, by kernel_rfl⟩
noncomputable def m15 : Mach prog Inv gInv := mach inv_keep inv_mixed [(15, f15)] ⟨ok15, trivial⟩ [(17, con17), (19, con19)] ⟨⟨con17_ok, FnOk.callable ok17⟩, ⟨con19_ok, FnOk.callable ok19⟩, trivial⟩
/-! ### domino/rtt.Sample -/
@[reducible] def r15 : List Ty := [(.pair .bool (.pair (.int .i64) (.pair (.int .i64) (.pair (.int .i64) (.pair (.int .i64) .unit)))))]
def ks15 : List Nat := [15]
noncomputable def F15 (a0 : (Bool × (Int × (Int × (Int × (Int × Unit)))))) (a1 : Int) (a2 : Int) (a3 : Int) : Option ((Bool × (Int × (Int × (Int × (Int × Unit))))) × Unit) :=
  obind (F17 a2) fun y4 =>
  obind (F17 a3) fun y5 =>
  let n6 : Int := (if (y5.1 < y4.1) then y5.1 else y4.1)
  obind (F17 a1) fun y7 =>
  let b8 : Bool := (!a0.1)
  bif b8 then
    let n9 : Int := (Int.fdiv y7.1 (2 : Int))
    some ((true, (y7.1, (y7.1, (n9, y7)))), ())
  else
    let n10 : Int := (if (y7.1 < a0.2.2.2.2.1) then y7.1 else a0.2.2.2.2.1)
    obind (F19 (a1, (n6, ())) n10) fun y11 =>
    let n12 : Int := (Go.IntKind.wrap Go.IntKind.i64 (a0.2.2.1 - y11.1))
    let b13 : Bool := (decide (n12 < (0 : Int)))
    bif b13 then
      let n14 : Int := (Go.IntKind.wrap Go.IntKind.i64 ((0 : Int) - n12))
      let n27 : Int := (Go.IntKind.wrap Go.IntKind.i64 ((3 : Int) * a0.2.2.2.1))
      let n28 : Int := (Go.IntKind.wrap Go.IntKind.i64 (n27 + n14))
      let n29 : Int := (Int.fdiv n28 (4 : Int))
      let n30 : Int := (Go.IntKind.wrap Go.IntKind.i64 ((7 : Int) * a0.2.2.1))
      let n31 : Int := (Go.IntKind.wrap Go.IntKind.i64 (n30 + y11.1))
      let n32 : Int := (Int.fdiv n31 (8 : Int))
      some ((a0.1, (y7.1, (n32, (n29, (n10, ()))))), ())
    else
      let n21 : Int := (Go.IntKind.wrap Go.IntKind.i64 ((3 : Int) * a0.2.2.2.1))
      let n22 : Int := (Go.IntKind.wrap Go.IntKind.i64 (n21 + n12))
      let n23 : Int := (Int.fdiv n22 (4 : Int))
      let n24 : Int := (Go.IntKind.wrap Go.IntKind.i64 ((7 : Int) * a0.2.2.1))
      let n25 : Int := (Go.IntKind.wrap Go.IntKind.i64 (n24 + y11.1))
      let n26 : Int := (Int.fdiv n25 (8 : Int))
      some ((a0.1, (y7.1, (n26, (n23, (n10, ()))))), ())
noncomputable def con15 : Con := ⟨[(.pair .bool (.pair (.int .i64) (.pair (.int .i64) (.pair (.int .i64) (.pair (.int .i64) .unit))))), (.int .i64), (.int .i64), (.int .i64)], r15, fun x => F15 x.1 x.2.1 x.2.2.1 x.2.2.2.1⟩
theorem con15_ok : con15.Sound prog Inv 15 :=
  con_run (M := m15) inv_g (f := f15) rfl ks15 100000 (X := nowhere) (fun base S0 cs0 hfin => OSound.nowhere) (by intro x; kernel_rfl)

-- used [15]


end Go.Proofs.Ytecjkkofoafhaaa.V
