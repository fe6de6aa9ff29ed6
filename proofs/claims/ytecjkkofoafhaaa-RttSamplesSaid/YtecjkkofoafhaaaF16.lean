import Derived.Test.YtecjkkofoafhaaaFb
import Derived.Test.YtecjkkofoafhaaaF18
namespace Go.Proofs.Ytecjkkofoafhaaa.V
open Go.RowKit Go.Proofs.Try
set_option maxRecDepth 100000
set_option linter.unusedVariables false
theorem ok16 : FnOk prog 16 f16 := ⟨func16, by decide +kernel, by kernel_rfl⟩
noncomputable def m16 : Mach prog Inv gInv := mach inv_keep inv_mixed [(16, f16)] ⟨ok16, trivial⟩ [(18, con18)] ⟨⟨con18_ok, FnOk.callable ok18⟩, trivial⟩
/-! ### domino/dominoref11.Sample -/
@[reducible] def r16 : List Ty := [(.pair .bool (.pair (.int .i64) (.pair (.int .i64) (.pair (.int .i64) (.pair (.int .i64) .unit)))))]
def ks16 : List Nat := [16]
noncomputable def F16 (a0 : (Bool × (Int × (Int × (Int × (Int × Unit)))))) (a1 : Int) (a2 : Int) (a3 : Int) : Option ((Bool × (Int × (Int × (Int × (Int × Unit))))) × Unit) :=
  obind (F18 a1) fun y4 =>
  let b5 : Bool := (!a0.1)
  bif b5 then
    let n6 : Int := (Go.IntKind.wrap Go.IntKind.i64 (Int.tdiv y4.1 (2 : Int)))
    some ((true, (y4.1, (y4.1, (n6, y4)))), ())
  else
    let n7 : Int := (if (y4.1 < a0.2.2.2.2.1) then y4.1 else a0.2.2.2.2.1)
    obind (F18 a2) fun y8 =>
    obind (F18 a3) fun y9 =>
    let n10 : Int := (if (y9.1 < y8.1) then y9.1 else y8.1)
    let n11 : Int := (Go.IntKind.wrap Go.IntKind.i64 (y4.1 - n10))
    let b12 : Bool := (decide (n11 ≥ n7))
    bif b12 then
      let n13 : Int := (Go.IntKind.wrap Go.IntKind.i64 (y4.1 - n10))
      let n32 : Int := (Go.IntKind.wrap Go.IntKind.i64 (a0.2.2.1 - n13))
      let n33 : Int := (Go.IntKind.wrap Go.IntKind.i64 (n13 - a0.2.2.1))
      let n34 : Int := (if (n33 > n32) then n33 else n32)
      let n35 : Int := (Go.IntKind.wrap Go.IntKind.i64 ((7 : Int) * a0.2.2.1))
      let n36 : Int := (Go.IntKind.wrap Go.IntKind.i64 (n35 + n13))
      let n37 : Int := (Go.IntKind.wrap Go.IntKind.i64 (Int.tdiv n36 (8 : Int)))
      let n38 : Int := (Go.IntKind.wrap Go.IntKind.i64 ((3 : Int) * a0.2.2.2.1))
      let n39 : Int := (Go.IntKind.wrap Go.IntKind.i64 (n38 + n34))
      let n40 : Int := (Go.IntKind.wrap Go.IntKind.i64 (Int.tdiv n39 (4 : Int)))
      some ((true, (y4.1, (n37, (n40, (n7, ()))))), ())
    else
      let n23 : Int := (Go.IntKind.wrap Go.IntKind.i64 (a0.2.2.1 - y4.1))
      let n24 : Int := (Go.IntKind.wrap Go.IntKind.i64 (y4.1 - a0.2.2.1))
      let n25 : Int := (if (n24 > n23) then n24 else n23)
      let n26 : Int := (Go.IntKind.wrap Go.IntKind.i64 ((7 : Int) * a0.2.2.1))
      let n27 : Int := (Go.IntKind.wrap Go.IntKind.i64 (n26 + y4.1))
      let n28 : Int := (Go.IntKind.wrap Go.IntKind.i64 (Int.tdiv n27 (8 : Int)))
      let n29 : Int := (Go.IntKind.wrap Go.IntKind.i64 ((3 : Int) * a0.2.2.2.1))
      let n30 : Int := (Go.IntKind.wrap Go.IntKind.i64 (n29 + n25))
      let n31 : Int := (Go.IntKind.wrap Go.IntKind.i64 (Int.tdiv n30 (4 : Int)))
      some ((true, (y4.1, (n28, (n31, (n7, ()))))), ())
noncomputable def con16 : Con := ⟨[(.pair .bool (.pair (.int .i64) (.pair (.int .i64) (.pair (.int .i64) (.pair (.int .i64) .unit))))), (.int .i64), (.int .i64), (.int .i64)], r16, fun x => F16 x.1 x.2.1 x.2.2.1 x.2.2.2.1⟩
theorem con16_ok : con16.Sound prog Inv 16 :=
  con_run (M := m16) inv_g (f := f16) rfl ks16 100000 (X := nowhere) (fun base S0 cs0 hfin => OSound.nowhere) (by intro x; kernel_rfl)

-- used [16]


end Go.Proofs.Ytecjkkofoafhaaa.V
