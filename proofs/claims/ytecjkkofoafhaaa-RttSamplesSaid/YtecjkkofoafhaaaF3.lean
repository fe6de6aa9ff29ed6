import Derived.Test.YtecjkkofoafhaaaFb
import Derived.Test.YtecjkkofoafhaaaF8
import Derived.Test.YtecjkkofoafhaaaF9
import Derived.Test.YtecjkkofoafhaaaF10
import Derived.Test.YtecjkkofoafhaaaF11
import Derived.Test.YtecjkkofoafhaaaF12
import Derived.Test.YtecjkkofoafhaaaF13
import Derived.Test.YtecjkkofoafhaaaF14
import Derived.Test.YtecjkkofoafhaaaF15
import Derived.Test.YtecjkkofoafhaaaF16
namespace Go.Proofs.Ytecjkkofoafhaaa.V
open Go.RowKit Go.Proofs.Try
set_option maxRecDepth 100000
set_option linter.unusedVariables false
theorem ok3 : FnOk prog 3 f3 := ⟨func3, by decide +kernel, by kernel_rfl⟩
noncomputable def m3 : Mach prog Inv gInv := mach inv_keep inv_mixed [(3, f3)] ⟨ok3, trivial⟩ [(8, con8), (9, con9), (10, con10), (11, con11), (12, con12), (13, con13), (14, con14), (15, con15), (16, con16)] ⟨⟨con8_ok, FnOk.callable ok8⟩, ⟨con9_ok, FnOk.callable ok9⟩, ⟨con10_ok, FnOk.callable ok10⟩, ⟨con11_ok, FnOk.callable ok11⟩, ⟨con12_ok, FnOk.callable ok12⟩, ⟨con13_ok, FnOk.callable ok13⟩, ⟨con14_ok, FnOk.callable ok14⟩, ⟨con15_ok, FnOk.callable ok15⟩, ⟨con16_ok, FnOk.callable ok16⟩, trivial⟩
/-! ### domino/dominolaw11.RttSamples -/
@[reducible] def r3 : List Ty := [.bool]
def ks3 : List Nat := [3]
/- 3[1, 1, 1, 1, 0, 1, 0] -/
@[reducible] noncomputable def pF3_1 : CPat := ⟨⟨3, [1, 1, 1, 1, 0, 1, 0], none, [.rows (.pair (.int .i64) (.pair (.int .i64) .unit)) false, .int .i64, .int .i64, .any, .any, .any, .any, .ptr 0 0, .ptr 1 0, .int .i64, .any, .any, .any, .any, .any, .any, .any, .any, .any, .any, .any, .any, .any, .any, .any, .any, .any, .any, .any, .any, .any, .any, .any, .any, .any, .any, .any, .any, .any, .any, .any, .any, .any, .any, .any, .any, .any, .any, .any, .any, .any, .any, .any, .any, .any, .any, .any, .any, .any, .any, .any, .any, .any, .any, .any, .any, .any, .any, .any, .any, .any, .any, .any, .any, .any, .any, .any]⟩, [], [.dat (.pair .bool (.pair (.int .i64) (.pair (.int .i64) (.pair (.int .i64) (.pair (.int .i64) .unit))))), .dat (.pair .bool (.pair (.int .i64) (.pair (.int .i64) (.pair (.int .i64) (.pair (.int .i64) .unit)))))]⟩
@[reducible] noncomputable def uF3_1 (k : (List (Int × (Int × Unit))) → Int → Int → Int → (Bool × (Int × (Int × (Int × (Int × Unit))))) → (Bool × (Int × (Int × (Int × (Int × Unit))))) → Option (Bool × Unit)) : denC pF3_1 → Option (Bool × Unit) := fun x => k x.1.1 x.1.2.1 x.1.2.2.1 x.1.2.2.2.2.2.2.2.2.2.1 x.2.2.1 x.2.2.2.1
/- 3[1, 1, 1, 1, 0, 1, 0, 0, 1, 1] -/
@[reducible] noncomputable def pF3_3 : CPat := ⟨⟨3, [1, 1, 1, 1, 0, 1, 0, 0, 1, 1], none, [.rows (.pair (.int .i64) (.pair (.int .i64) .unit)) false, .int .i64, .int .i64, .any, .any, .any, .any, .ptr 0 0, .ptr 1 0, .int .i64, .any, .any, .any, .any, .any, .any, .any, .any, .any, .any, .any, .any, .any, .any, .any, .any, .any, .any, .any, .any, .any, .any, .any, .any, .any, .any, .any, .any, .any, .any, .any, .any, .any, .any, .any, .any, .any, .any, .any, .any, .any, .any, .any, .any, .any, .any, .any, .any, .any, .any, .any, .any, .any, .any, .any, .any, .any, .any, .any, .any, .any, .any, .any, .any, .any, .any, .any]⟩, [], [.dat (.pair .bool (.pair (.int .i64) (.pair (.int .i64) (.pair (.int .i64) (.pair (.int .i64) .unit))))), .dat (.pair .bool (.pair (.int .i64) (.pair (.int .i64) (.pair (.int .i64) (.pair (.int .i64) .unit)))))]⟩
@[reducible] noncomputable def uF3_3 (k : (List (Int × (Int × Unit))) → Int → Int → Int → (Bool × (Int × (Int × (Int × (Int × Unit))))) → (Bool × (Int × (Int × (Int × (Int × Unit))))) → Option (Bool × Unit)) : denC pF3_3 → Option (Bool × Unit) := fun x => k x.1.1 x.1.2.1 x.1.2.2.1 x.1.2.2.2.2.2.2.2.2.2.1 x.2.2.1 x.2.2.2.1
noncomputable def F3_3 (k1 : (List (Int × (Int × Unit))) → Int → Int → Int → (Bool × (Int × (Int × (Int × (Int × Unit))))) → (Bool × (Int × (Int × (Int × (Int × Unit))))) → Option (Bool × Unit)) (l62 : (List (Int × (Int × Unit)))) (i63 : Int) (i64 : Int) (i65 : Int) (d66 : (Bool × (Int × (Int × (Int × (Int × Unit)))))) (d67 : (Bool × (Int × (Int × (Int × (Int × Unit)))))) : Option (Bool × Unit) :=
  let n68 : Int := (Go.IntKind.wrap Go.IntKind.i64 (i65 + (1 : Int)))
  k1 l62 i63 i64 n68 d66 d67
theorem sF3_3 {base S0 cs0} (hfin : FinOk (finR r3) base S0 (Post r3 S0)) (k1) (h1 : JSound m3 base S0 cs0 (Post r3 S0) pF3_1 (uF3_1 k1)) : JSound m3 base S0 cs0 (Post r3 S0) pF3_3 (uF3_3 (F3_3 k1)) :=
  JSound.join hfin (OSound.cut (OSound.nowhere) h1) ks3 100000 (by intro x; kernel_rfl)
noncomputable def xF3_3 (k1 : (List (Int × (Int × Unit))) → Int → Int → Int → (Bool × (Int × (Int × (Int × (Int × Unit))))) → (Bool × (Int × (Int × (Int × (Int × Unit))))) → Option (Bool × Unit)) : Cfg → Option (Option (Bool × Unit)) := cut pF3_3 (uF3_3 (F3_3 k1)) (cut pF3_1 (uF3_1 k1) (nowhere))
theorem oF3_3 {base S0 cs0} (hfin : FinOk (finR r3) base S0 (Post r3 S0)) (k1) (h1 : JSound m3 base S0 cs0 (Post r3 S0) pF3_1 (uF3_1 k1)) : OSound m3 base S0 cs0 (Post r3 S0) (xF3_3 k1) := OSound.cut (OSound.cut (OSound.nowhere) h1) (sF3_3 hfin k1 h1)

noncomputable def tF3_1 (k1 : (List (Int × (Int × Unit))) → Int → Int → Int → (Bool × (Int × (Int × (Int × (Int × Unit))))) → (Bool × (Int × (Int × (Int × (Int × Unit))))) → Option (Bool × Unit)) (l38 : (List (Int × (Int × Unit)))) (i39 : Int) (i40 : Int) (i41 : Int) (d42 : (Bool × (Int × (Int × (Int × (Int × Unit)))))) (d43 : (Bool × (Int × (Int × (Int × (Int × Unit)))))) : Option (Bool × Unit) :=
  let n44 : Int := (((List.length l38) : Nat) : Int)
  let b45 : Bool := (decide (i41 ≤ n44))
  bif b45 then
    let b46 : Bool := (!((d42.1 == d43.1) && ((d42.2.1 == d43.2.1) && ((d42.2.2.1 == d43.2.2.1) && ((d42.2.2.2.1 == d43.2.2.2.1) && ((d42.2.2.2.2.1 == d43.2.2.2.2.1) && true))))))
    bif b46 then
      some (false, ())
    else
      obind (F11 d42 i39 i40) fun y47 =>
      obind (F12 d43 i39 i40) fun y48 =>
      let b49 : Bool := (y47.1 != y48.1)
      bif b49 then
        some (false, ())
      else
        obind (F13 d42) fun y50 =>
        obind (F14 d43) fun y51 =>
        let b52 : Bool := (y50.1 != y51.1)
        bif b52 then
          some (false, ())
        else
          let n53 : Int := (((List.length l38) : Nat) : Int)
          let b54 : Bool := (decide (i41 < n53))
          bif b54 then
            bif (decide (((0 : Int) ≤ i41) ∧ (i41 < (((List.length l38) : Nat) : Int)))) then
              let x55 : (Int × (Int × Unit)) := (List.getD l38 (Int.toNat i41) (Ty.dflt (Ty.pair (Ty.int Go.IntKind.i64) (Ty.pair (Ty.int Go.IntKind.i64) Ty.unit))))
              bif (decide (((0 : Int) ≤ i41) ∧ (i41 < (((List.length l38) : Nat) : Int)))) then
                let x56 : (Int × (Int × Unit)) := (List.getD l38 (Int.toNat i41) (Ty.dflt (Ty.pair (Ty.int Go.IntKind.i64) (Ty.pair (Ty.int Go.IntKind.i64) Ty.unit))))
                obind (F15 d42 x55.1 x56.2.1 i39) fun y57 =>
                bif (decide (((0 : Int) ≤ i41) ∧ (i41 < (((List.length l38) : Nat) : Int)))) then
                  let x58 : (Int × (Int × Unit)) := (List.getD l38 (Int.toNat i41) (Ty.dflt (Ty.pair (Ty.int Go.IntKind.i64) (Ty.pair (Ty.int Go.IntKind.i64) Ty.unit))))
                  bif (decide (((0 : Int) ≤ i41) ∧ (i41 < (((List.length l38) : Nat) : Int)))) then
                    let x59 : (Int × (Int × Unit)) := (List.getD l38 (Int.toNat i41) (Ty.dflt (Ty.pair (Ty.int Go.IntKind.i64) (Ty.pair (Ty.int Go.IntKind.i64) Ty.unit))))
                    obind (F16 d43 x58.1 x59.2.1 i39) fun y60 =>
                    F3_3 k1 l38 i39 i40 i41 y57.1 y60.1
                  else none
                else none
              else none
            else none
          else
            F3_3 k1 l38 i39 i40 i41 d42 d43
  else
    some (true, ())
noncomputable def F3_1 : Nat → (List (Int × (Int × Unit))) → Int → Int → Int → (Bool × (Int × (Int × (Int × (Int × Unit))))) → (Bool × (Int × (Int × (Int × (Int × Unit))))) → Option (Bool × Unit)
  | 0 => fun _ _ _ _ _ _ => none
  | m + 1 => tF3_1 (F3_1 m)
noncomputable def F3_1' (l38 : (List (Int × (Int × Unit)))) (i39 : Int) (i40 : Int) (i41 : Int) (d42 : (Bool × (Int × (Int × (Int × (Int × Unit)))))) (d43 : (Bool × (Int × (Int × (Int × (Int × Unit)))))) : Option (Bool × Unit) := F3_1 (Int.toNat ((((List.length l38) : Nat) : Int) - i41) + 2) l38 i39 i40 i41 d42 d43
theorem sF3_1 {base S0 cs0} (hfin : FinOk (finR r3) base S0 (Post r3 S0)) : ∀ m, JSound m3 base S0 cs0 (Post r3 S0) pF3_1 (uF3_1 (F3_1 m)) :=
  JSound.loop' hfin ks3 100000 uF3_1 (fun k1 => xF3_3 k1) (fun k1 h1 => oF3_3 hfin k1 h1) (F3_1) (by intro x; rfl) (by intro m x; kernel_rfl)
theorem sF3_1' {base S0 cs0} (hfin : FinOk (finR r3) base S0 (Post r3 S0)) : JSound m3 base S0 cs0 (Post r3 S0) pF3_1 (uF3_1 (F3_1')) := fun x r hx => sF3_1 hfin _ x r hx
noncomputable def xF3_1 : Cfg → Option (Option (Bool × Unit)) := cut pF3_1 (uF3_1 (F3_1')) (nowhere)
theorem oF3_1 {base S0 cs0} (hfin : FinOk (finR r3) base S0 (Post r3 S0)) : OSound m3 base S0 cs0 (Post r3 S0) (xF3_1) := OSound.cut (OSound.nowhere) (sF3_1' hfin)

/- 3[1, 0, 1, 0] -/
@[reducible] noncomputable def pF3_0 : CPat := ⟨⟨3, [1, 0, 1, 0], none, [.any, .any, .any, .any, .any, .any, .any, .any, .any, .any, .any, .any, .any, .any, .any, .any, .any, .any, .any, .any, .any, .any, .any, .any, .any, .any, .any, .any, .any, .any, .any, .any, .any, .any, .any, .any, .any, .any, .any, .any, .any, .any, .any, .any, .any, .any, .any, .any, .any, .any, .any, .any, .any, .any, .any, .any, .any, .any, .any, .any, .any, .any, .any, .any, .any, .any, .any, .any, .any, .any, .any, .any, .any, .any, .any, .any, .any]⟩, [], []⟩
@[reducible] noncomputable def uF3_0 (k : Option (Bool × Unit)) : denC pF3_0 → Option (Bool × Unit) := fun x => k
noncomputable def F3_0 : Option (Bool × Unit) :=
  obind F8 fun y8 =>
  some y8
theorem sF3_0 {base S0 cs0} (hfin : FinOk (finR r3) base S0 (Post r3 S0)) : JSound m3 base S0 cs0 (Post r3 S0) pF3_0 (uF3_0 (F3_0)) :=
  JSound.join hfin (oF3_1 hfin) ks3 100000 (by intro x; kernel_rfl)
noncomputable def xF3_0 : Cfg → Option (Option (Bool × Unit)) := cut pF3_0 (uF3_0 (F3_0)) (xF3_1)
theorem oF3_0 {base S0 cs0} (hfin : FinOk (finR r3) base S0 (Post r3 S0)) : OSound m3 base S0 cs0 (Post r3 S0) (xF3_0) := OSound.cut (oF3_1 hfin) (sF3_0 hfin)

noncomputable def F3 (a0 : (List (Int × (Int × Unit)))) (a1 : Int) (a2 : Int) : Option (Bool × Unit) :=
  let n3 : Int := (((List.length a0) : Nat) : Int)
  let b4 : Bool := (decide (n3 > (100 : Int)))
  bif b4 then
    F3_0
  else
    obind F8 fun y5 =>
    let b6 : Bool := (!y5.1)
    bif b6 then
      F3_0
    else
      obind F9 fun y9 =>
      obind F10 fun y10 =>
      F3_1' a0 a1 a2 (0 : Int) y9.1 y10.1
noncomputable def con3 : Con := ⟨[(.slice (.pair (.int .i64) (.pair (.int .i64) .unit))), (.int .i64), (.int .i64)], r3, fun x => F3 x.1 x.2.1 x.2.2.1⟩
theorem con3_ok : con3.Sound prog Inv 3 :=
  con_run (M := m3) inv_g (f := f3) rfl ks3 100000 (X := xF3_0) (fun base S0 cs0 hfin => oF3_0 hfin) (by intro x; kernel_rfl)

-- used [3]


end Go.Proofs.Ytecjkkofoafhaaa.V
