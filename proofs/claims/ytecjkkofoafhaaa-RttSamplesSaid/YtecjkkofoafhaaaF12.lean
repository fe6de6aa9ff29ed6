import Derived.Test.YtecjkkofoafhaaaFb
import Derived.Test.YtecjkkofoafhaaaF18
namespace Go.Proofs.Ytecjkkofoafhaaa.V
open Go.RowKit Go.Proofs.Try
set_option maxRecDepth 100000
set_option linter.unusedVariables false
theorem ok12 : FnOk prog 12 f12 := ⟨func12, by decide +kernel, by kernel_rfl⟩
noncomputable def m12 : Mach prog Inv gInv := mach inv_keep inv_mixed [(12, f12)] ⟨ok12, trivial⟩ [(18, con18)] ⟨⟨con18_ok, FnOk.callable ok18⟩, trivial⟩
/-! ### domino/dominoref11.Pto -/
@[reducible] def r12 : List Ty := [(.int .i64)]
def ks12 : List Nat := [12]
/- 12[1, 1, 0, 1, 0] -/
@[reducible] noncomputable def pF12_0 : CPat := ⟨⟨12, [1, 1, 0, 1, 0], none, [.any, .any, .int .i64, .any, .any, .any, .any, .int .i64, .int .i64, .any, .any, .any, .any, .any, .any, .any, .any, .any, .any, .any, .any, .any, .any, .any, .any, .any, .any, .any]⟩, [], []⟩
@[reducible] noncomputable def uF12_0 (k : Int → Int → Int → Option (Int × Unit)) : denC pF12_0 → Option (Int × Unit) := fun x => k x.1.2.2.1 x.1.2.2.2.2.2.2.2.1 x.1.2.2.2.2.2.2.2.2.1
noncomputable def tF12_0 (k0 : Int → Int → Int → Option (Int × Unit)) (i13 : Int) (i14 : Int) (i15 : Int) : Option (Int × Unit) :=
  let n16 : Int := (if ((10 : Int) < i13) then (10 : Int) else i13)
  let b17 : Bool := (decide (i15 < n16))
  bif b17 then
    let n18 : Int := (Go.IntKind.wrap Go.IntKind.i64 (i14 * (2 : Int)))
    let n19 : Int := (Go.IntKind.wrap Go.IntKind.i64 (i15 + (1 : Int)))
    k0 i13 n18 n19
  else
    some (i14, ())
noncomputable def F12_0 : Nat → Int → Int → Int → Option (Int × Unit)
  | 0 => fun _ _ _ => none
  | m + 1 => tF12_0 (F12_0 m)
noncomputable def F12_0' (i13 : Int) (i14 : Int) (i15 : Int) : Option (Int × Unit) := F12_0 (Int.toNat ((if ((10 : Int) < i13) then (10 : Int) else i13) - i15) + 2) i13 i14 i15
theorem sF12_0 {base S0 cs0} (hfin : FinOk (finR r12) base S0 (Post r12 S0)) : ∀ m, JSound m12 base S0 cs0 (Post r12 S0) pF12_0 (uF12_0 (F12_0 m)) :=
  JSound.loop' hfin ks12 100000 uF12_0 (fun k0 => cut pF12_0 (uF12_0 k0) (nowhere)) (fun k0 h0 => OSound.cut (OSound.nowhere) h0) (F12_0) (by intro x; rfl) (by intro m x; kernel_rfl)
theorem sF12_0' {base S0 cs0} (hfin : FinOk (finR r12) base S0 (Post r12 S0)) : JSound m12 base S0 cs0 (Post r12 S0) pF12_0 (uF12_0 (F12_0')) := fun x r hx => sF12_0 hfin _ x r hx
noncomputable def xF12_0 : Cfg → Option (Option (Int × Unit)) := cut pF12_0 (uF12_0 (F12_0')) (nowhere)
theorem oF12_0 {base S0 cs0} (hfin : FinOk (finR r12) base S0 (Post r12 S0)) : OSound m12 base S0 cs0 (Post r12 S0) (xF12_0) := OSound.cut (OSound.nowhere) (sF12_0' hfin)

noncomputable def F12 (a0 : (Bool × (Int × (Int × (Int × (Int × Unit)))))) (a1 : Int) (a2 : Int) : Option (Int × Unit) :=
  let n3 : Int := (Go.IntKind.wrap Go.IntKind.i64 ((4 : Int) * a0.2.2.2.1))
  let n4 : Int := (if ((1 : Int) > n3) then (1 : Int) else n3)
  let n5 : Int := (Go.IntKind.wrap Go.IntKind.i64 (a0.2.2.1 + n4))
  obind (F18 a1) fun y6 =>
  let n7 : Int := (Go.IntKind.wrap Go.IntKind.i64 (n5 + y6.1))
  F12_0' a2 n7 (0 : Int)
noncomputable def con12 : Con := ⟨[(.pair .bool (.pair (.int .i64) (.pair (.int .i64) (.pair (.int .i64) (.pair (.int .i64) .unit))))), (.int .i64), (.int .i64)], r12, fun x => F12 x.1 x.2.1 x.2.2.1⟩
theorem con12_ok : con12.Sound prog Inv 12 :=
  con_run (M := m12) inv_g (f := f12) rfl ks12 100000 (X := xF12_0) (fun base S0 cs0 hfin => oF12_0 hfin) (by intro x; kernel_rfl)

-- used [12]


end Go.Proofs.Ytecjkkofoafhaaa.V
