import Derived.Test.YtecjkkofoafhaaaFb
import Derived.Test.YtecjkkofoafhaaaF8
import Derived.Test.YtecjkkofoafhaaaF9
import Derived.Test.YtecjkkofoafhaaaF11
import Derived.Test.YtecjkkofoafhaaaF15
namespace Go.Proofs.Ytecjkkofoafhaaa.V
open Go.RowKit Go.Proofs.Try
set_option maxRecDepth 100000
set_option linter.unusedVariables false
theorem ok6 : FnOk prog 6 f6 := ⟨func6, by decide +kernel, by kernel_rfl⟩
noncomputable def m6 : Mach prog Inv gInv := mach inv_keep inv_mixed [(6, f6)] ⟨ok6, trivial⟩ [(8, con8), (9, con9), (11, con11), (15, con15)] ⟨⟨con8_ok, FnOk.callable ok8⟩, ⟨con9_ok, FnOk.callable ok9⟩, ⟨con11_ok, FnOk.callable ok11⟩, ⟨con15_ok, FnOk.callable ok15⟩, trivial⟩
/-! ### domino/dominolaw11.RttPto -/
@[reducible] def r6 : List Ty := [.bool]
def ks6 : List Nat := [6]
/- 6[1, 1, 1, 1, 1, 1, 1, 0, 1, 1] -/
@[reducible] noncomputable def pF6_2 : CPat := ⟨⟨6, [1, 1, 1, 1, 1, 1, 1, 0, 1, 1], none, [.any, .int .u16, .any, .any, .any, .any, .any, .ptr 0 0, .any, .any, .any, .any, .any, .any, .any, .any, .any, .any, .any, .any, .any, .any, .any, .any, .any, .any, .any, .any, .any, .any, .any, .any, .any, .any, .any, .any, .any, .any, .any, .any, .any, .any, .any, .any, .any, .any, .any, .any, .any, .any, .any, .any, .any, .any, .any, .any, .any, .any, .any, .any, .any, .any, .any, .any, .any, .any, .any, .any, .any, .any, .any, .any, .any, .any, .any, .any, .any, .any, .any, .any, .any, .any, .any, .any, .any, .any, .any, .any]⟩, [], [.dat (.pair .bool (.pair (.int .i64) (.pair (.int .i64) (.pair (.int .i64) (.pair (.int .i64) .unit)))))]⟩
@[reducible] noncomputable def uF6_2 (k : Int → (Bool × (Int × (Int × (Int × (Int × Unit))))) → Option (Bool × Unit)) : denC pF6_2 → Option (Bool × Unit) := fun x => k x.1.2.1 x.2.2.1
noncomputable def F6_2 (i67 : Int) (d68 : (Bool × (Int × (Int × (Int × (Int × Unit)))))) : Option (Bool × Unit) :=
  let n69 : Int := (Go.IntKind.wrap Go.IntKind.i64 i67)
  let n70 : Int := (Go.IntKind.wrap Go.IntKind.i64 (n69 + (1 : Int)))
  obind (F11 d68 n70 (0 : Int)) fun y71 =>
  let n72 : Int := (Go.IntKind.wrap Go.IntKind.i64 i67)
  obind (F11 d68 n72 (0 : Int)) fun y73 =>
  let n74 : Int := (Go.IntKind.wrap Go.IntKind.i64 (y73.1 + (1 : Int)))
  let b75 : Bool := (y71.1 == n74)
  bif b75 then
    obind (F11 d68 (0 : Int) (0 : Int)) fun y76 =>
    let b77 : Bool := (decide (y76.1 > d68.2.2.1))
    some (b77, ())
  else
    some (false, ())
theorem sF6_2 {base S0 cs0} (hfin : FinOk (finR r6) base S0 (Post r6 S0)) : JSound m6 base S0 cs0 (Post r6 S0) pF6_2 (uF6_2 (F6_2)) :=
  JSound.join hfin (OSound.nowhere) ks6 100000 (by intro x; kernel_rfl)
noncomputable def xF6_2 : Cfg → Option (Option (Bool × Unit)) := cut pF6_2 (uF6_2 (F6_2)) (nowhere)
theorem oF6_2 {base S0 cs0} (hfin : FinOk (finR r6) base S0 (Post r6 S0)) : OSound m6 base S0 cs0 (Post r6 S0) (xF6_2) := OSound.cut (OSound.nowhere) (sF6_2 hfin)

/- 6[1, 1, 1, 0, 1, 0] -/
@[reducible] noncomputable def pF6_1 : CPat := ⟨⟨6, [1, 1, 1, 0, 1, 0], none, [.rows (.pair (.int .i64) (.pair (.int .i64) .unit)) false, .int .u16, .int .u8, .any, .any, .any, .any, .ptr 0 0, .int .i64, .any, .any, .any, .any, .any, .any, .any, .any, .any, .any, .any, .any, .any, .any, .any, .any, .any, .any, .any, .any, .any, .any, .any, .any, .any, .any, .any, .any, .any, .any, .any, .any, .any, .any, .any, .any, .any, .any, .any, .any, .any, .any, .any, .any, .any, .any, .any, .any, .any, .any, .any, .any, .any, .any, .any, .any, .any, .any, .any, .any, .any, .any, .any, .any, .any, .any, .any, .any, .any, .any, .any, .any, .any, .any, .any, .any, .any, .any, .any]⟩, [], [.dat (.pair .bool (.pair (.int .i64) (.pair (.int .i64) (.pair (.int .i64) (.pair (.int .i64) .unit)))))]⟩
@[reducible] noncomputable def uF6_1 (k : (List (Int × (Int × Unit))) → Int → Int → Int → (Bool × (Int × (Int × (Int × (Int × Unit))))) → Option (Bool × Unit)) : denC pF6_1 → Option (Bool × Unit) := fun x => k x.1.1 x.1.2.1 x.1.2.2.1 x.1.2.2.2.2.2.2.2.2.1 x.2.2.1
noncomputable def tF6_1 (k1 : (List (Int × (Int × Unit))) → Int → Int → Int → (Bool × (Int × (Int × (Int × (Int × Unit))))) → Option (Bool × Unit)) (l33 : (List (Int × (Int × Unit)))) (i34 : Int) (i35 : Int) (i36 : Int) (d37 : (Bool × (Int × (Int × (Int × (Int × Unit)))))) : Option (Bool × Unit) :=
  let n38 : Int := (((List.length l33) : Nat) : Int)
  let b39 : Bool := (decide (i36 < n38))
  bif b39 then
    bif (decide (((0 : Int) ≤ i36) ∧ (i36 < (((List.length l33) : Nat) : Int)))) then
      let x40 : (Int × (Int × Unit)) := (List.getD l33 (Int.toNat i36) (Ty.dflt (Ty.pair (Ty.int Go.IntKind.i64) (Ty.pair (Ty.int Go.IntKind.i64) Ty.unit))))
      bif (decide (((0 : Int) ≤ i36) ∧ (i36 < (((List.length l33) : Nat) : Int)))) then
        let x41 : (Int × (Int × Unit)) := (List.getD l33 (Int.toNat i36) (Ty.dflt (Ty.pair (Ty.int Go.IntKind.i64) (Ty.pair (Ty.int Go.IntKind.i64) Ty.unit))))
        obind (F15 d37 x40.1 x41.2.1 (5 : Int)) fun y42 =>
        let n43 : Int := (Go.IntKind.wrap Go.IntKind.i64 (i36 + (1 : Int)))
        k1 l33 i34 i35 n43 y42.1
      else none
    else none
  else
    let n44 : Int := (Go.IntKind.wrap Go.IntKind.i64 i35)
    let n45 : Int := (Int.tmod n44 (20 : Int))
    let n46 : Int := (Go.IntKind.wrap Go.IntKind.i64 i34)
    obind (F11 d37 n46 n45) fun y47 =>
    let n48 : Int := (Go.IntKind.wrap Go.IntKind.i64 i34)
    let n49 : Int := (Go.IntKind.wrap Go.IntKind.i64 (n45 + (1 : Int)))
    obind (F11 d37 n48 n49) fun y50 =>
    let b51 : Bool := (decide (n45 < (10 : Int)))
    bif b51 then
      let n52 : Int := (Go.IntKind.wrap Go.IntKind.i64 ((2 : Int) * y47.1))
      let b53 : Bool := (y50.1 != n52)
      bif b53 then
        some (false, ())
      else
        let b54 : Bool := (decide (n45 ≥ (10 : Int)))
        bif b54 then
          let b55 : Bool := (y50.1 != y47.1)
          bif b55 then
            some (false, ())
          else
            F6_2 i34 d37
        else
          F6_2 i34 d37
    else
      let b56 : Bool := (decide (n45 ≥ (10 : Int)))
      bif b56 then
        let b57 : Bool := (y50.1 != y47.1)
        bif b57 then
          some (false, ())
        else
          F6_2 i34 d37
      else
        F6_2 i34 d37
noncomputable def F6_1 : Nat → (List (Int × (Int × Unit))) → Int → Int → Int → (Bool × (Int × (Int × (Int × (Int × Unit))))) → Option (Bool × Unit)
  | 0 => fun _ _ _ _ _ => none
  | m + 1 => tF6_1 (F6_1 m)
noncomputable def F6_1' (l33 : (List (Int × (Int × Unit)))) (i34 : Int) (i35 : Int) (i36 : Int) (d37 : (Bool × (Int × (Int × (Int × (Int × Unit)))))) : Option (Bool × Unit) := F6_1 (Int.toNat ((((List.length l33) : Nat) : Int) - i36) + 2) l33 i34 i35 i36 d37
theorem sF6_1 {base S0 cs0} (hfin : FinOk (finR r6) base S0 (Post r6 S0)) : ∀ m, JSound m6 base S0 cs0 (Post r6 S0) pF6_1 (uF6_1 (F6_1 m)) :=
  JSound.loop' hfin ks6 100000 uF6_1 (fun k1 => cut pF6_1 (uF6_1 k1) (xF6_2)) (fun k1 h1 => OSound.cut (oF6_2 hfin) h1) (F6_1) (by intro x; rfl) (by intro m x; kernel_rfl)
theorem sF6_1' {base S0 cs0} (hfin : FinOk (finR r6) base S0 (Post r6 S0)) : JSound m6 base S0 cs0 (Post r6 S0) pF6_1 (uF6_1 (F6_1')) := fun x r hx => sF6_1 hfin _ x r hx
noncomputable def xF6_1 : Cfg → Option (Option (Bool × Unit)) := cut pF6_1 (uF6_1 (F6_1')) (xF6_2)
theorem oF6_1 {base S0 cs0} (hfin : FinOk (finR r6) base S0 (Post r6 S0)) : OSound m6 base S0 cs0 (Post r6 S0) (xF6_1) := OSound.cut (oF6_2 hfin) (sF6_1' hfin)

/- 6[1, 0, 1, 0] -/
@[reducible] noncomputable def pF6_0 : CPat := ⟨⟨6, [1, 0, 1, 0], none, [.any, .any, .any, .any, .any, .any, .any, .any, .any, .any, .any, .any, .any, .any, .any, .any, .any, .any, .any, .any, .any, .any, .any, .any, .any, .any, .any, .any, .any, .any, .any, .any, .any, .any, .any, .any, .any, .any, .any, .any, .any, .any, .any, .any, .any, .any, .any, .any, .any, .any, .any, .any, .any, .any, .any, .any, .any, .any, .any, .any, .any, .any, .any, .any, .any, .any, .any, .any, .any, .any, .any, .any, .any, .any, .any, .any, .any, .any, .any, .any, .any, .any, .any, .any, .any, .any, .any, .any]⟩, [], []⟩
@[reducible] noncomputable def uF6_0 (k : Option (Bool × Unit)) : denC pF6_0 → Option (Bool × Unit) := fun x => k
noncomputable def F6_0 : Option (Bool × Unit) :=
  obind F8 fun y8 =>
  some y8
theorem sF6_0 {base S0 cs0} (hfin : FinOk (finR r6) base S0 (Post r6 S0)) : JSound m6 base S0 cs0 (Post r6 S0) pF6_0 (uF6_0 (F6_0)) :=
  JSound.join hfin (oF6_1 hfin) ks6 100000 (by intro x; kernel_rfl)
noncomputable def xF6_0 : Cfg → Option (Option (Bool × Unit)) := cut pF6_0 (uF6_0 (F6_0)) (xF6_1)
theorem oF6_0 {base S0 cs0} (hfin : FinOk (finR r6) base S0 (Post r6 S0)) : OSound m6 base S0 cs0 (Post r6 S0) (xF6_0) := OSound.cut (oF6_1 hfin) (sF6_0 hfin)

noncomputable def F6 (a0 : (List (Int × (Int × Unit)))) (a1 : Int) (a2 : Int) : Option (Bool × Unit) :=
  let n3 : Int := (((List.length a0) : Nat) : Int)
  let b4 : Bool := (decide (n3 > (100 : Int)))
  bif b4 then
    F6_0
  else
    obind F8 fun y5 =>
    let b6 : Bool := (!y5.1)
    bif b6 then
      F6_0
    else
      obind F9 fun y9 =>
      F6_1' a0 a1 a2 (0 : Int) y9.1
noncomputable def con6 : Con := ⟨[(.slice (.pair (.int .i64) (.pair (.int .i64) .unit))), (.int .u16), (.int .u8)], r6, fun x => F6 x.1 x.2.1 x.2.2.1⟩
theorem con6_ok : con6.Sound prog Inv 6 :=
  con_run (M := m6) inv_g (f := f6) rfl ks6 100000 (X := xF6_0) (fun base S0 cs0 hfin => oF6_0 hfin) (by intro x; kernel_rfl)

-- used [6]


end Go.Proofs.Ytecjkkofoafhaaa.V
