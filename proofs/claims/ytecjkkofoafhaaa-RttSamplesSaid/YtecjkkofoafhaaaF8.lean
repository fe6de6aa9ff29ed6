import Derived.Test.YtecjkkofoafhaaaFb
import Derived.Test.YtecjkkofoafhaaaF9
import Derived.Test.YtecjkkofoafhaaaF11
import Derived.Test.YtecjkkofoafhaaaF13
import Derived.Test.YtecjkkofoafhaaaF15
namespace Go.Proofs.Ytecjkkofoafhaaa.V
open Go.RowKit Go.Proofs.Try
set_option maxRecDepth 100000
set_option linter.unusedVariables false
theorem ok8 : FnOk prog 8 f8 := ⟨func8, by decide +kernel, by kernel_rfl⟩
noncomputable def m8 : Mach prog Inv gInv := mach inv_keep inv_mixed [(8, f8)] ⟨ok8, trivial⟩ [(9, con9), (11, con11), (13, con13), (15, con15)] ⟨⟨con9_ok, FnOk.callable ok9⟩, ⟨con11_ok, FnOk.callable ok11⟩, ⟨con13_ok, FnOk.callable ok13⟩, ⟨con15_ok, FnOk.callable ok15⟩, trivial⟩
/-! ### domino/dominolaw11.shown -/
@[reducible] def r8 : List Ty := [.bool]
def ks8 : List Nat := [8]
noncomputable def F8 : Option (Bool × Unit) :=
  obind F9 fun y0 =>
  obind (F15 y0.1 (8 : Int) (0 : Int) (0 : Int)) fun y1 =>
  obind (F15 y1.1 (16 : Int) (0 : Int) (0 : Int)) fun y2 =>
  let b3 : Bool := (y2.1.2.2.1 == (9 : Int))
  bif b3 then
    let b4 : Bool := (y2.1.2.2.2.1 == (5 : Int))
    bif b4 then
      let b5 : Bool := (y2.1.2.2.2.2.1 == (8 : Int))
      bif b5 then
        let b6 : Bool := (y2.1.2.1 == (16 : Int))
        bif b6 then
          obind (F13 y2.1) fun y7 =>
          let b8 : Bool := (y7.1 == (18 : Int))
          bif b8 then
            obind (F11 y2.1 (1 : Int) (1 : Int)) fun y9 =>
            let b10 : Bool := (y9.1 == (60 : Int))
            some (b10, ())
          else
            some (false, ())
        else
          some (false, ())
      else
        some (false, ())
    else
      some (false, ())
  else
    some (false, ())
noncomputable def con8 : Con := ⟨[], r8, fun x => F8⟩
theorem con8_ok : con8.Sound prog Inv 8 :=
  con_run (M := m8) inv_g (f := f8) rfl ks8 100000 (X := nowhere) (fun base S0 cs0 hfin => OSound.nowhere) (by intro x; kernel_rfl)

-- used [8]


end Go.Proofs.Ytecjkkofoafhaaa.V
