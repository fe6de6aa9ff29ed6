/- The law IdsOnce, part 6 of 6: what is proved: for every input that can be read the call of IdsOnce returns true and leaves its arguments alone. No conditions but the listed tables of the card. -/
import Derived.OpenShut
import Derived.LaidHandle
import Derived.LaidMore
import Derived.Stop.Joined
import Derived.Test.YtjlfmolfcgennaaDoorRows
import Derived.Test.YtjlfmolfcgennaaDoorCards
import Derived.Test.YtjlfmolfcgennaaDoorTie
import Derived.SevenTiedAt
import Derived.Test.YtjlfmolfcgennaaDoorZ5
namespace Go.Proofs.YtjlfmolfcgennaaDoor.V
open Go.RowKit Go.Proofs.Tryd
set_option maxRecDepth 100000
set_option linter.unusedVariables false
noncomputable def m_ref03_May : Mach prog Inv gInv := mach bas [(28, f28)] ⟨ok28, trivial⟩ [] trivial [] trivial [] trivial
/-! ### domino/dominoref03.May -/
@[reducible] def r_ref03_May : List Ty := [.bool]
def ks_ref03_May : List Nat := [28]
abbrev H_ref03_May (base : Base) (S0 : Nat → Prop) := base.n = 0 ∧ FinOk (finR r_ref03_May) base S0 (Post r_ref03_May S0)
abbrev J_ref03_May (base : Base) (S0 : Nat → Prop) (cs0 : List Go.Frame) (p : CPat) (J : denC p → Option (denL r_ref03_May)) := JSound m_ref03_May base S0 cs0 (Post r_ref03_May S0) p J
abbrev O_ref03_May (base : Base) (S0 : Nat → Prop) (cs0 : List Go.Frame) (X : Cfg → Option (Option (denL r_ref03_May))) := OSound m_ref03_May base S0 cs0 (Post r_ref03_May S0) X
@[reducible] noncomputable def p_ref03_May_0 : CPat := ⟨⟨28, [1, 0, 1, 0], none, [.rows T_ranges_Range false, .any, .any, .int .i64], 44⟩, [], [], 0⟩
@[reducible] noncomputable def u_ref03_May_0 (k : (List D_ranges_Range) → Int → Option (Bool × Unit)) : denC p_ref03_May_0 → Option (Bool × Unit) := fun x => k x.1.1 x.1.2.2.2.1
@[reducible] noncomputable def p_ref03_May_1 : CPat := ⟨⟨28, [1, 0, 1, 0, 0, 1, 0, 0, 1, 1], none, [.rows T_ranges_Range false, .any, .any, .int .i64], 44⟩, [], [], 0⟩
@[reducible] noncomputable def u_ref03_May_1 (k : (List D_ranges_Range) → Int → Option (Bool × Unit)) : denC p_ref03_May_1 → Option (Bool × Unit) := fun x => k x.1.1 x.1.2.2.2.1
noncomputable def b_ref03_May_1 (k0 : (List D_ranges_Range) → Int → Option (Bool × Unit)) (l25 : (List D_ranges_Range)) (i26 : Int) : Option (Bool × Unit) :=
 let n27 : Int := (Go.IntKind.wrap Go.IntKind.i64 (i26 + (1 : Int)))
 k0 l25 n27
theorem ex_ref03_May_1 : ∃ f, f = @b_ref03_May_1 := ⟨_, rfl⟩
noncomputable def ref03_May_1 := Classical.choose ex_ref03_May_1
theorem ref03_May_1_eq : @ref03_May_1 = @b_ref03_May_1 := Classical.choose_spec ex_ref03_May_1
theorem s_ref03_May_1 {base S0 cs0} (hfin : H_ref03_May base S0) (k0) (h0 : J_ref03_May base S0 cs0 p_ref03_May_0 (u_ref03_May_0 k0)) : J_ref03_May base S0 cs0 p_ref03_May_1 (u_ref03_May_1 (ref03_May_1 k0)) :=
 JSound.join hfin.2 (OSound.cut (OSound.nowhere) (Nat.le_of_eq hfin.1) h0) ks_ref03_May 100000 (by rw [ref03_May_1_eq]; intro x; kernel_rfl)
noncomputable def x_ref03_May_1 (k0 : (List D_ranges_Range) → Int → Option (Bool × Unit)) : Cfg → Option (Option (Bool × Unit)) := cut p_ref03_May_1 (u_ref03_May_1 (ref03_May_1 k0)) (cut p_ref03_May_0 (u_ref03_May_0 k0) (nowhere))
theorem o_ref03_May_1 {base S0 cs0} (hfin : H_ref03_May base S0) (k0) (h0 : J_ref03_May base S0 cs0 p_ref03_May_0 (u_ref03_May_0 k0)) : O_ref03_May base S0 cs0 (x_ref03_May_1 k0) := OSound.cut (OSound.cut (OSound.nowhere) (Nat.le_of_eq hfin.1) h0) (Nat.le_of_eq hfin.1) (s_ref03_May_1 hfin k0 h0)
noncomputable def t_ref03_May_0 (k0 : (List D_ranges_Range) → Int → Option (Bool × Unit)) (l9 : (List D_ranges_Range)) (i10 : Int) : Option (Bool × Unit) :=
 let n11 : Int := (((List.length l9) : Nat) : Int)
 let b12 : Bool := (decide (i10 < n11))
 bif b12 then
  bif (decide (((0 : Int) ≤ i10) ∧ (i10 < (((List.length l9) : Nat) : Int)))) then
   let x13 : D_ranges_Range := (List.getD l9 (Int.toNat i10) (Ty.dflt T_ranges_Range))
   bif (decide (((0 : Int) ≤ i10) ∧ (i10 < (((List.length l9) : Nat) : Int)))) then
    let x14 : D_ranges_Range := (List.getD l9 (Int.toNat i10) (Ty.dflt T_ranges_Range))
    let b15 : Bool := (decide (x13.2.1 < x14.1))
    bif b15 then
     some (false, ())
    else
     bif (decide (((0 : Int) ≤ i10) ∧ (i10 < (((List.length l9) : Nat) : Int)))) then
      let x16 : D_ranges_Range := (List.getD l9 (Int.toNat i10) (Ty.dflt T_ranges_Range))
      let b17 : Bool := (decide (x16.2.1 ≥ (9223372036854775808 : Int)))
      bif b17 then
       some (false, ())
      else
       let b18 : Bool := (decide (i10 > (0 : Int)))
       bif b18 then
        bif (decide (((0 : Int) ≤ i10) ∧ (i10 < (((List.length l9) : Nat) : Int)))) then
         let x19 : D_ranges_Range := (List.getD l9 (Int.toNat i10) (Ty.dflt T_ranges_Range))
         let n20 : Int := (Go.IntKind.wrap Go.IntKind.i64 (i10 - (1 : Int)))
         bif (decide (((0 : Int) ≤ n20) ∧ (n20 < (((List.length l9) : Nat) : Int)))) then
          let x21 : D_ranges_Range := (List.getD l9 (Int.toNat n20) (Ty.dflt T_ranges_Range))
          let n22 : Int := (Go.IntKind.wrap Go.IntKind.u64 (x21.2.1 + (2 : Int)))
          let b23 : Bool := (decide (x19.1 < n22))
          bif b23 then
           some (false, ())
          else
           ref03_May_1 k0 l9 i10
         else none
        else none
       else
        ref03_May_1 k0 l9 i10
     else none
   else none
  else none
 else
  some (true, ())
noncomputable def ref03_May_0 : Nat → (List D_ranges_Range) → Int → Option (Bool × Unit)
 | 0 => fun _ _ => none
 | m + 1 => t_ref03_May_0 (ref03_May_0 m)
noncomputable def b_ref03_May_0' (l9 : (List D_ranges_Range)) (i10 : Int) : Option (Bool × Unit) := ref03_May_0 (Int.toNat ((((List.length l9) : Nat) : Int) - i10) + 2) l9 i10
theorem ex_ref03_May_0' : ∃ f, f = @b_ref03_May_0' := ⟨_, rfl⟩
noncomputable def ref03_May_0' := Classical.choose ex_ref03_May_0'
theorem ref03_May_0'_eq : @ref03_May_0' = @b_ref03_May_0' := Classical.choose_spec ex_ref03_May_0'
theorem s_ref03_May_0 {base S0 cs0} (hfin : H_ref03_May base S0) : ∀ m, J_ref03_May base S0 cs0 p_ref03_May_0 (u_ref03_May_0 (ref03_May_0 m)) :=
 JSound.loop' hfin.2 ks_ref03_May 100000 u_ref03_May_0 (fun k0 => x_ref03_May_1 k0) (fun k0 h0 => o_ref03_May_1 hfin k0 h0) (ref03_May_0) (by intro x; rfl) (by intro m x; kernel_rfl)
theorem s_ref03_May_0' {base S0 cs0} (hfin : H_ref03_May base S0) : J_ref03_May base S0 cs0 p_ref03_May_0 (u_ref03_May_0 (ref03_May_0')) := by
 rw [ref03_May_0'_eq]; exact fun x r hx => s_ref03_May_0 hfin _ x r hx
noncomputable def x_ref03_May_0 : Cfg → Option (Option (Bool × Unit)) := cut p_ref03_May_0 (u_ref03_May_0 (ref03_May_0')) (nowhere)
theorem o_ref03_May_0 {base S0 cs0} (hfin : H_ref03_May base S0) : O_ref03_May base S0 cs0 (x_ref03_May_0) := OSound.cut (OSound.nowhere) (Nat.le_of_eq hfin.1) (s_ref03_May_0' hfin)
noncomputable def b_ref03_May (a0 : (List D_ranges_Range)) : Option (Bool × Unit) :=
 ref03_May_0' a0 (0 : Int)
theorem ex_ref03_May : ∃ f, f = @b_ref03_May := ⟨_, rfl⟩
noncomputable def ref03_May := Classical.choose ex_ref03_May
theorem ref03_May_eq : @ref03_May = @b_ref03_May := Classical.choose_spec ex_ref03_May
noncomputable def cb_ref03_May : Con := ⟨[(.slice T_ranges_Range)], r_ref03_May, fun x => b_ref03_May x.1⟩
noncomputable def c_ref03_May : Con := ⟨[(.slice T_ranges_Range)], r_ref03_May, fun x => ref03_May x.1⟩
theorem cb_ref03_May_ok : cb_ref03_May.Sound prog Inv gInv 28 :=
 con_run (M := m_ref03_May) inv_g (f := f28) rfl ks_ref03_May 100000 (X := x_ref03_May_0) (fun base S0 cs0 hn hf => have hfin : H_ref03_May base S0 := ⟨hn, hf⟩; o_ref03_May_0 hfin) (by intro x; kernel_rfl)
theorem c_ref03_May_ok : c_ref03_May.Sound prog Inv gInv 28 := by
 have e : c_ref03_May = cb_ref03_May := by unfold c_ref03_May cb_ref03_May; rw [ref03_May_eq]
 rw [e]; exact cb_ref03_May_ok
noncomputable def m_ref06_May : Mach prog Inv gInv := mach bas [(11, f11)] ⟨ok11, trivial⟩ [(26, c_ref06_shape), (27, c_ref06_in), (28, c_ref03_May)] ⟨⟨c_ref06_shape_ok, FnOk.callable ok26⟩, ⟨c_ref06_in_ok, FnOk.callable ok27⟩, ⟨c_ref03_May_ok, FnOk.callable ok28⟩, trivial⟩ [] trivial [] trivial
/-! ### domino/dominoref06.May -/
@[reducible] def r_ref06_May : List Ty := [.bool]
def ks_ref06_May : List Nat := [11]
abbrev H_ref06_May (base : Base) (S0 : Nat → Prop) := base.n = 0 ∧ FinOk (finR r_ref06_May) base S0 (Post r_ref06_May S0)
abbrev J_ref06_May (base : Base) (S0 : Nat → Prop) (cs0 : List Go.Frame) (p : CPat) (J : denC p → Option (denL r_ref06_May)) := JSound m_ref06_May base S0 cs0 (Post r_ref06_May S0) p J
abbrev O_ref06_May (base : Base) (S0 : Nat → Prop) (cs0 : List Go.Frame) (X : Cfg → Option (Option (denL r_ref06_May))) := OSound m_ref06_May base S0 cs0 (Post r_ref06_May S0) X
@[reducible] noncomputable def p_ref06_May_7 : CPat := ⟨⟨11, [1, 1, 1, 1, 1, 0, 1, 0, 1, 1, 1, 1, 1, 1, 1, 1, 1, 1, 1], none, [.any, .ptr 0 0, .any, .any, .any, .any, .any, .any, .any, .any, .any, .any, .any, .any, .any, .any, .any, .any, .any, .any, .any, .any, .any, .any, .any, .any, .any, .any, .any, .any, .any, .any, .any, .any, .any, .any, .any, .any, .any, .any, .any, .any, .any, .any, .any, .any, .any, .any, .any, .any, .any, .any, .any, .any, .any, .any, .any, .any, .any, .any, .any, .any, .any, .any, .any, .any, .any, .any, .any, .any, .any, .any, .any, .any, .any, .any, .any, .any, .any, .any, .any, .any, .any, .any, .any, .any, .any, .any, .any, .any, .any, .any, .any, .any, .any, .any, .any, .any, .any, .any, .any, .any, .any, .any, .any, .any, .any, .any, .any, .any, .any, .any, .any, .any, .any, .any, .any, .any, .any, .any, .any, .any, .any, .any, .any, .any, .any, .any, .any, .any, .any, .any, .any, .any, .any, .any, .any, .any, .any, .any, .any, .any, .any, .any, .any, .any, .any, .any, .any, .any, .any, .any, .any, .any, .any, .any, .any, .any, .any, .any, .any, .any, .any, .any, .any, .any, .any, .any, .any, .any, .any, .any, .any, .any, .any, .any, .any, .any, .any, .any, .bool], 7⟩, [], [.dat 49 T_frame_Frame], 0⟩
@[reducible] noncomputable def u_ref06_May_7 (k : Bool → D_frame_Frame → Option (Bool × Unit)) : denC p_ref06_May_7 → Option (Bool × Unit) := fun x => k x.1.2.2.2.2.2.2.2.2.2.2.2.2.2.2.2.2.2.2.2.2.2.2.2.2.2.2.2.2.2.2.2.2.2.2.2.2.2.2.2.2.2.2.2.2.2.2.2.2.2.2.2.2.2.2.2.2.2.2.2.2.2.2.2.2.2.2.2.2.2.2.2.2.2.2.2.2.2.2.2.2.2.2.2.2.2.2.2.2.2.2.2.2.2.2.2.2.2.2.2.2.2.2.2.2.2.2.2.2.2.2.2.2.2.2.2.2.2.2.2.2.2.2.2.2.2.2.2.2.2.2.2.2.2.2.2.2.2.2.2.2.2.2.2.2.2.2.2.2.2.2.2.2.2.2.2.2.2.2.2.2.2.2.2.2.2.2.2.2.2.2.2.2.2.2.2.2.2.2.2.2.1 x.2.2.1
noncomputable def b_ref06_May_7 (b300 : Bool) (d301 : D_frame_Frame) : Option (Bool × Unit) :=
 bif b300 then
  let b302 : Bool := (decide (d301.2.2.2.1 ≤ (1152921504606846976 : Int)))
  some (b302, ())
 else
  some (true, ())
theorem ex_ref06_May_7 : ∃ f, f = @b_ref06_May_7 := ⟨_, rfl⟩
noncomputable def ref06_May_7 := Classical.choose ex_ref06_May_7
theorem ref06_May_7_eq : @ref06_May_7 = @b_ref06_May_7 := Classical.choose_spec ex_ref06_May_7
theorem s_ref06_May_7 {base S0 cs0} (hfin : H_ref06_May base S0) : J_ref06_May base S0 cs0 p_ref06_May_7 (u_ref06_May_7 (ref06_May_7)) :=
 JSound.join hfin.2 (OSound.nowhere) ks_ref06_May 100000 (by rw [ref06_May_7_eq]; intro x; kernel_rfl)
noncomputable def x_ref06_May_7 : Cfg → Option (Option (Bool × Unit)) := cut p_ref06_May_7 (u_ref06_May_7 (ref06_May_7)) (nowhere)
theorem o_ref06_May_7 {base S0 cs0} (hfin : H_ref06_May base S0) : O_ref06_May base S0 cs0 (x_ref06_May_7) := OSound.cut (OSound.nowhere) (Nat.le_of_eq hfin.1) (s_ref06_May_7 hfin)
@[reducible] noncomputable def p_ref06_May_6 : CPat := ⟨⟨11, [1, 1, 1, 1, 1, 0, 1, 0, 1, 1, 1, 1, 1, 1, 1, 1, 1], none, [.any, .ptr 0 0, .any, .any, .any, .any, .any, .any, .any, .any, .any, .any, .any, .any, .any, .any, .any, .any, .any, .any, .any, .any, .any, .any, .any, .any, .any, .any, .any, .any, .any, .any, .any, .any, .any, .any, .any, .any, .any, .any, .any, .any, .any, .any, .any, .any, .any, .any, .any, .any, .any, .any, .any, .any, .any, .any, .any, .any, .any, .any, .any, .any, .any, .any, .any, .any, .any, .any, .any, .any, .any, .any, .any, .any, .any, .any, .any, .any, .any, .any, .any, .any, .any, .any, .any, .any, .any, .any, .any, .any, .any, .any, .any, .any, .any, .any, .any, .any, .any, .any, .any, .any, .any, .int .u64, .any, .any, .any, .any, .any, .any, .any, .any, .any, .any, .any, .any, .any, .any, .any, .any, .any, .any, .any, .any, .any, .any, .any, .any, .any, .any, .any, .any, .any, .any, .any, .any, .any, .any, .any, .any, .any, .any, .any, .any, .any, .any, .any, .any, .any, .any, .any, .any, .any, .any, .any, .any, .any, .any, .any, .any, .any, .any, .any, .any, .any, .any, .any, .any, .any, .any, .any, .any, .any, .bool], 14⟩, [], [.dat 49 T_frame_Frame], 0⟩
@[reducible] noncomputable def u_ref06_May_6 (k : Int → Bool → D_frame_Frame → Option (Bool × Unit)) : denC p_ref06_May_6 → Option (Bool × Unit) := fun x => k x.1.2.2.2.2.2.2.2.2.2.2.2.2.2.2.2.2.2.2.2.2.2.2.2.2.2.2.2.2.2.2.2.2.2.2.2.2.2.2.2.2.2.2.2.2.2.2.2.2.2.2.2.2.2.2.2.2.2.2.2.2.2.2.2.2.2.2.2.2.2.2.2.2.2.2.2.2.2.2.2.2.2.2.2.2.2.2.2.2.2.2.2.2.2.2.2.2.2.2.2.2.2.2.2.1 x.1.2.2.2.2.2.2.2.2.2.2.2.2.2.2.2.2.2.2.2.2.2.2.2.2.2.2.2.2.2.2.2.2.2.2.2.2.2.2.2.2.2.2.2.2.2.2.2.2.2.2.2.2.2.2.2.2.2.2.2.2.2.2.2.2.2.2.2.2.2.2.2.2.2.2.2.2.2.2.2.2.2.2.2.2.2.2.2.2.2.2.2.2.2.2.2.2.2.2.2.2.2.2.2.2.2.2.2.2.2.2.2.2.2.2.2.2.2.2.2.2.2.2.2.2.2.2.2.2.2.2.2.2.2.2.2.2.2.2.2.2.2.2.2.2.2.2.2.2.2.2.2.2.2.2.2.2.2.2.2.2.2.2.2.2.2.2.2.2.2.2.2.2.2.1 x.2.2.1
noncomputable def b_ref06_May_6 (i291 : Int) (b292 : Bool) (d293 : D_frame_Frame) : Option (Bool × Unit) :=
 bif b292 then
  let n294 : Int := (((ByteArray.size d293.2.2.2.2.2.2.2.2.2.2.2.1) : Nat) : Int)
  let b295 : Bool := (n294 == (8 : Int))
  some (b295, ())
 else
  let b296 : Bool := (i291 == (18 : Int))
  bif b296 then
   ref06_May_7 true d293
  else
   let b297 : Bool := (i291 == (19 : Int))
   bif b297 then
    ref06_May_7 true d293
   else
    let b298 : Bool := (i291 == (22 : Int))
    bif b298 then
     ref06_May_7 true d293
    else
     let b299 : Bool := (i291 == (23 : Int))
     ref06_May_7 b299 d293
theorem ex_ref06_May_6 : ∃ f, f = @b_ref06_May_6 := ⟨_, rfl⟩
noncomputable def ref06_May_6 := Classical.choose ex_ref06_May_6
theorem ref06_May_6_eq : @ref06_May_6 = @b_ref06_May_6 := Classical.choose_spec ex_ref06_May_6
theorem s_ref06_May_6 {base S0 cs0} (hfin : H_ref06_May base S0) : J_ref06_May base S0 cs0 p_ref06_May_6 (u_ref06_May_6 (ref06_May_6)) :=
 JSound.join hfin.2 (o_ref06_May_7 hfin) ks_ref06_May 100000 (by rw [ref06_May_6_eq]; intro x; kernel_rfl)
noncomputable def x_ref06_May_6 : Cfg → Option (Option (Bool × Unit)) := cut p_ref06_May_6 (u_ref06_May_6 (ref06_May_6)) (x_ref06_May_7)
theorem o_ref06_May_6 {base S0 cs0} (hfin : H_ref06_May base S0) : O_ref06_May base S0 cs0 (x_ref06_May_6) := OSound.cut (o_ref06_May_7 hfin) (Nat.le_of_eq hfin.1) (s_ref06_May_6 hfin)
@[reducible] noncomputable def p_ref06_May_5 : CPat := ⟨⟨11, [1, 1, 1, 1, 1, 0, 1, 0, 1, 1, 1, 1, 1], none, [.any, .ptr 0 0, .any, .any, .any, .any, .any, .any, .any, .any, .any, .any, .any, .any, .any, .any, .any, .any, .any, .any, .any, .any, .any, .any, .any, .any, .any, .any, .any, .any, .any, .any, .any, .any, .any, .any, .any, .any, .any, .any, .any, .any, .any, .any, .any, .any, .any, .any, .any, .any, .any, .any, .any, .any, .any, .any, .any, .any, .any, .any, .any, .any, .any, .any, .any, .any, .any, .any, .any, .any, .any, .any, .any, .any, .any, .any, .any, .any, .any, .any, .any, .any, .any, .any, .any, .any, .any, .any, .any, .any, .any, .any, .any, .any, .any, .any, .any, .any, .any, .any, .any, .any, .any, .int .u64, .any, .any, .any, .any, .any, .any, .any, .any, .any, .any, .any, .any, .any, .any, .any, .any, .any, .any, .any, .any, .any, .any, .any, .any, .any, .any, .any, .any, .any, .any, .any, .any, .any, .any, .any, .any, .any, .any, .any, .any, .any, .any, .any, .bool], 40⟩, [], [.dat 49 T_frame_Frame], 0⟩
@[reducible] noncomputable def u_ref06_May_5 (k : Int → Bool → D_frame_Frame → Option (Bool × Unit)) : denC p_ref06_May_5 → Option (Bool × Unit) := fun x => k x.1.2.2.2.2.2.2.2.2.2.2.2.2.2.2.2.2.2.2.2.2.2.2.2.2.2.2.2.2.2.2.2.2.2.2.2.2.2.2.2.2.2.2.2.2.2.2.2.2.2.2.2.2.2.2.2.2.2.2.2.2.2.2.2.2.2.2.2.2.2.2.2.2.2.2.2.2.2.2.2.2.2.2.2.2.2.2.2.2.2.2.2.2.2.2.2.2.2.2.2.2.2.2.2.1 x.1.2.2.2.2.2.2.2.2.2.2.2.2.2.2.2.2.2.2.2.2.2.2.2.2.2.2.2.2.2.2.2.2.2.2.2.2.2.2.2.2.2.2.2.2.2.2.2.2.2.2.2.2.2.2.2.2.2.2.2.2.2.2.2.2.2.2.2.2.2.2.2.2.2.2.2.2.2.2.2.2.2.2.2.2.2.2.2.2.2.2.2.2.2.2.2.2.2.2.2.2.2.2.2.2.2.2.2.2.2.2.2.2.2.2.2.2.2.2.2.2.2.2.2.2.2.2.2.2.2.2.2.2.2.2.2.2.2.2.2.2.2.2.2.2.2.2.2.1 x.2.2.1
noncomputable def b_ref06_May_5 (i278 : Int) (b279 : Bool) (d280 : D_frame_Frame) : Option (Bool × Unit) :=
 bif b279 then
  let n281 : Int := (((ByteArray.size d280.2.2.2.2.2.2.2.2.2.1) : Nat) : Int)
  let b282 : Bool := (decide (n281 ≤ (1200 : Int)))
  some (b282, ())
 else
  let b283 : Bool := (i278 == (24 : Int))
  bif b283 then
   let b284 : Bool := (decide (d280.2.2.2.2.2.2.1 ≤ d280.2.2.2.2.2.1))
   bif b284 then
    let n285 : Int := (((ByteArray.size d280.2.2.2.2.2.2.2.2.2.2.1) : Nat) : Int)
    let b286 : Bool := (n285 == (8 : Int))
    bif b286 then
     let n287 : Int := (((ByteArray.size d280.2.2.2.2.2.2.2.2.2.2.2.1) : Nat) : Int)
     let b288 : Bool := (n287 == (16 : Int))
     some (b288, ())
    else
     some (false, ())
   else
    some (false, ())
  else
   let b289 : Bool := (i278 == (26 : Int))
   bif b289 then
    ref06_May_6 i278 true d280
   else
    let b290 : Bool := (i278 == (27 : Int))
    ref06_May_6 i278 b290 d280
theorem ex_ref06_May_5 : ∃ f, f = @b_ref06_May_5 := ⟨_, rfl⟩
noncomputable def ref06_May_5 := Classical.choose ex_ref06_May_5
theorem ref06_May_5_eq : @ref06_May_5 = @b_ref06_May_5 := Classical.choose_spec ex_ref06_May_5
theorem s_ref06_May_5 {base S0 cs0} (hfin : H_ref06_May base S0) : J_ref06_May base S0 cs0 p_ref06_May_5 (u_ref06_May_5 (ref06_May_5)) :=
 JSound.join hfin.2 (o_ref06_May_6 hfin) ks_ref06_May 100000 (by rw [ref06_May_5_eq]; intro x; kernel_rfl)
noncomputable def x_ref06_May_5 : Cfg → Option (Option (Bool × Unit)) := cut p_ref06_May_5 (u_ref06_May_5 (ref06_May_5)) (x_ref06_May_6)
theorem o_ref06_May_5 {base S0 cs0} (hfin : H_ref06_May base S0) : O_ref06_May base S0 cs0 (x_ref06_May_5) := OSound.cut (o_ref06_May_6 hfin) (Nat.le_of_eq hfin.1) (s_ref06_May_5 hfin)
@[reducible] noncomputable def p_ref06_May_4 : CPat := ⟨⟨11, [1, 1, 1, 1, 1, 0, 1, 0, 1, 1, 1], none, [.any, .ptr 0 0, .any, .any, .any, .any, .any, .any, .any, .any, .any, .any, .any, .any, .any, .any, .any, .any, .any, .any, .any, .any, .any, .any, .any, .any, .any, .any, .any, .any, .any, .any, .any, .any, .any, .any, .any, .any, .any, .any, .any, .any, .any, .any, .any, .any, .any, .any, .any, .any, .any, .any, .any, .any, .any, .any, .any, .any, .any, .any, .any, .any, .any, .any, .any, .any, .any, .any, .any, .any, .any, .any, .any, .any, .any, .any, .any, .any, .any, .any, .any, .any, .any, .any, .any, .any, .any, .any, .any, .any, .any, .any, .any, .any, .any, .any, .any, .any, .any, .any, .any, .any, .any, .int .u64, .any, .any, .any, .any, .any, .any, .any, .any, .any, .any, .any, .any, .any, .any, .any, .any, .any, .any, .any, .any, .any, .any, .any, .any, .any, .any, .bool], 57⟩, [], [.dat 49 T_frame_Frame], 0⟩
@[reducible] noncomputable def u_ref06_May_4 (k : Int → Bool → D_frame_Frame → Option (Bool × Unit)) : denC p_ref06_May_4 → Option (Bool × Unit) := fun x => k x.1.2.2.2.2.2.2.2.2.2.2.2.2.2.2.2.2.2.2.2.2.2.2.2.2.2.2.2.2.2.2.2.2.2.2.2.2.2.2.2.2.2.2.2.2.2.2.2.2.2.2.2.2.2.2.2.2.2.2.2.2.2.2.2.2.2.2.2.2.2.2.2.2.2.2.2.2.2.2.2.2.2.2.2.2.2.2.2.2.2.2.2.2.2.2.2.2.2.2.2.2.2.2.2.1 x.1.2.2.2.2.2.2.2.2.2.2.2.2.2.2.2.2.2.2.2.2.2.2.2.2.2.2.2.2.2.2.2.2.2.2.2.2.2.2.2.2.2.2.2.2.2.2.2.2.2.2.2.2.2.2.2.2.2.2.2.2.2.2.2.2.2.2.2.2.2.2.2.2.2.2.2.2.2.2.2.2.2.2.2.2.2.2.2.2.2.2.2.2.2.2.2.2.2.2.2.2.2.2.2.2.2.2.2.2.2.2.2.2.2.2.2.2.2.2.2.2.2.2.2.2.2.2.2.2.2.2.1 x.2.2.1
noncomputable def b_ref06_May_4 (i267 : Int) (b268 : Bool) (d269 : D_frame_Frame) : Option (Bool × Unit) :=
 bif b268 then
  let n270 : Int := (((ByteArray.size d269.2.2.2.2.2.2.2.2.2.1) : Nat) : Int)
  let b271 : Bool := (decide (n270 ≤ (1200 : Int)))
  bif b271 then
   let n272 : Int := (((ByteArray.size d269.2.2.2.2.2.2.2.2.2.1) : Nat) : Int)
   let n273 : Int := (Go.IntKind.wrap Go.IntKind.u64 n272)
   let n274 : Int := (Go.IntKind.wrap Go.IntKind.u64 (d269.2.2.1 + n273))
   let b275 : Bool := (decide (n274 ≤ (4611686018427387903 : Int)))
   some (b275, ())
  else
   some (false, ())
 else
  let b276 : Bool := (i267 == (28 : Int))
  bif b276 then
   ref06_May_5 i267 true d269
  else
   let b277 : Bool := (i267 == (29 : Int))
   ref06_May_5 i267 b277 d269
theorem ex_ref06_May_4 : ∃ f, f = @b_ref06_May_4 := ⟨_, rfl⟩
noncomputable def ref06_May_4 := Classical.choose ex_ref06_May_4
theorem ref06_May_4_eq : @ref06_May_4 = @b_ref06_May_4 := Classical.choose_spec ex_ref06_May_4
theorem s_ref06_May_4 {base S0 cs0} (hfin : H_ref06_May base S0) : J_ref06_May base S0 cs0 p_ref06_May_4 (u_ref06_May_4 (ref06_May_4)) :=
 JSound.join hfin.2 (o_ref06_May_5 hfin) ks_ref06_May 100000 (by rw [ref06_May_4_eq]; intro x; kernel_rfl)
noncomputable def x_ref06_May_4 : Cfg → Option (Option (Bool × Unit)) := cut p_ref06_May_4 (u_ref06_May_4 (ref06_May_4)) (x_ref06_May_5)
theorem o_ref06_May_4 {base S0 cs0} (hfin : H_ref06_May base S0) : O_ref06_May base S0 cs0 (x_ref06_May_4) := OSound.cut (o_ref06_May_5 hfin) (Nat.le_of_eq hfin.1) (s_ref06_May_4 hfin)
@[reducible] noncomputable def p_ref06_May_3 : CPat := ⟨⟨11, [1, 1, 1, 1, 0, 1, 1], none, [.any, .ptr 0 0], 186⟩, [], [.dat 49 T_frame_Frame], 0⟩
@[reducible] noncomputable def u_ref06_May_3 (k : D_frame_Frame → Option (Bool × Unit)) : denC p_ref06_May_3 → Option (Bool × Unit) := fun x => k x.2.2.1
noncomputable def b_ref06_May_3 (d256 : D_frame_Frame) : Option (Bool × Unit) :=
 let b257 : Bool := (d256.1 == (2 : Int))
 bif b257 then
  let n258 : Int := (((List.length d256.2.2.2.2.2.2.2.2.2.2.2.2.1) : Nat) : Int)
  obind (ref03_May d256.2.2.2.2.2.2.2.2.2.2.2.2.1) fun y259 =>
  bif y259.1 then
   let b260 : Bool := (decide (n258 ≥ (1 : Int)))
   bif b260 then
    let b261 : Bool := (decide (n258 ≤ (32 : Int)))
    bif b261 then
     let n262 : Int := (Go.IntKind.wrap Go.IntKind.i64 (n258 - (1 : Int)))
     bif (decide (((0 : Int) ≤ n262) ∧ (n262 < (((List.length d256.2.2.2.2.2.2.2.2.2.2.2.2.1) : Nat) : Int)))) then
      let x263 : D_ranges_Range := (List.getD d256.2.2.2.2.2.2.2.2.2.2.2.2.1 (Int.toNat n262) (Ty.dflt T_ranges_Range))
      let b264 : Bool := (decide (x263.2.1 ≤ (4611686018427387903 : Int)))
      some (b264, ())
     else none
    else
     some (false, ())
   else
    some (false, ())
  else
   some (false, ())
 else
  let b265 : Bool := (d256.1 == (6 : Int))
  bif b265 then
   ref06_May_4 d256.1 true d256
  else
   let b266 : Bool := (d256.1 == (8 : Int))
   ref06_May_4 d256.1 b266 d256
theorem ex_ref06_May_3 : ∃ f, f = @b_ref06_May_3 := ⟨_, rfl⟩
noncomputable def ref06_May_3 := Classical.choose ex_ref06_May_3
theorem ref06_May_3_eq : @ref06_May_3 = @b_ref06_May_3 := Classical.choose_spec ex_ref06_May_3
theorem s_ref06_May_3 {base S0 cs0} (hfin : H_ref06_May base S0) : J_ref06_May base S0 cs0 p_ref06_May_3 (u_ref06_May_3 (ref06_May_3)) :=
 JSound.join hfin.2 (o_ref06_May_4 hfin) ks_ref06_May 100000 (by rw [ref06_May_3_eq]; intro x; kernel_rfl)
noncomputable def x_ref06_May_3 : Cfg → Option (Option (Bool × Unit)) := cut p_ref06_May_3 (u_ref06_May_3 (ref06_May_3)) (x_ref06_May_4)
theorem o_ref06_May_3 {base S0 cs0} (hfin : H_ref06_May base S0) : O_ref06_May base S0 cs0 (x_ref06_May_3) := OSound.cut (o_ref06_May_4 hfin) (Nat.le_of_eq hfin.1) (s_ref06_May_3 hfin)
@[reducible] noncomputable def p_ref06_May_0 : CPat := ⟨⟨11, [1, 1, 1, 0, 1, 0], none, [.any, .ptr 0 0, .any, .str, .all 1, .int .i64], 182⟩, [], [.dat 49 T_frame_Frame, .row (.int .u64)], 0⟩
@[reducible] noncomputable def u_ref06_May_0 (k : ByteArray → Int → D_frame_Frame → (List Int) → Option (Bool × Unit)) : denC p_ref06_May_0 → Option (Bool × Unit) := fun x => k x.1.2.2.2.1 x.1.2.2.2.2.2.1 x.2.2.1 x.2.2.2.1
@[reducible] noncomputable def p_ref06_May_2 : CPat := ⟨⟨11, [1, 1, 1, 0, 1, 0, 0, 1, 0, 0, 1, 1], none, [.any, .ptr 0 0, .any, .str, .all 1, .int .i64], 182⟩, [], [.dat 49 T_frame_Frame, .row (.int .u64)], 0⟩
@[reducible] noncomputable def u_ref06_May_2 (k : ByteArray → Int → D_frame_Frame → (List Int) → Option (Bool × Unit)) : denC p_ref06_May_2 → Option (Bool × Unit) := fun x => k x.1.2.2.2.1 x.1.2.2.2.2.2.1 x.2.2.1 x.2.2.2.1
noncomputable def b_ref06_May_2 (k0 : ByteArray → Int → D_frame_Frame → (List Int) → Option (Bool × Unit)) (s250 : ByteArray) (i251 : Int) (d252 : D_frame_Frame) (l253 : (List Int)) : Option (Bool × Unit) :=
 let n254 : Int := (Go.IntKind.wrap Go.IntKind.i64 (i251 + (1 : Int)))
 k0 s250 n254 d252 l253
theorem ex_ref06_May_2 : ∃ f, f = @b_ref06_May_2 := ⟨_, rfl⟩
noncomputable def ref06_May_2 := Classical.choose ex_ref06_May_2
theorem ref06_May_2_eq : @ref06_May_2 = @b_ref06_May_2 := Classical.choose_spec ex_ref06_May_2
theorem s_ref06_May_2 {base S0 cs0} (hfin : H_ref06_May base S0) (k0) (h0 : J_ref06_May base S0 cs0 p_ref06_May_0 (u_ref06_May_0 k0)) : J_ref06_May base S0 cs0 p_ref06_May_2 (u_ref06_May_2 (ref06_May_2 k0)) :=
 JSound.join hfin.2 (OSound.cut (o_ref06_May_3 hfin) (Nat.le_of_eq hfin.1) h0) ks_ref06_May 100000 (by rw [ref06_May_2_eq]; intro x; kernel_rfl)
noncomputable def x_ref06_May_2 (k0 : ByteArray → Int → D_frame_Frame → (List Int) → Option (Bool × Unit)) : Cfg → Option (Option (Bool × Unit)) := cut p_ref06_May_2 (u_ref06_May_2 (ref06_May_2 k0)) (cut p_ref06_May_0 (u_ref06_May_0 k0) (x_ref06_May_3))
theorem o_ref06_May_2 {base S0 cs0} (hfin : H_ref06_May base S0) (k0) (h0 : J_ref06_May base S0 cs0 p_ref06_May_0 (u_ref06_May_0 k0)) : O_ref06_May base S0 cs0 (x_ref06_May_2 k0) := OSound.cut (OSound.cut (o_ref06_May_3 hfin) (Nat.le_of_eq hfin.1) h0) (Nat.le_of_eq hfin.1) (s_ref06_May_2 hfin k0 h0)
noncomputable def t_ref06_May_0 (k0 : ByteArray → Int → D_frame_Frame → (List Int) → Option (Bool × Unit)) (s125 : ByteArray) (i126 : Int) (d127 : D_frame_Frame) (l128 : (List Int)) : Option (Bool × Unit) :=
 let n129 : Int := (((List.length l128) : Nat) : Int)
 let b130 : Bool := (decide (i126 < n129))
 bif b130 then
  bif (decide (((0 : Int) ≤ i126) ∧ (i126 < (((List.length l128) : Nat) : Int)))) then
   let i131 : Nat := (Int.toNat i126)
   let n132 : Int := (List.getD l128 i131 (0 : Int))
   let b133 : Bool := (decide (n132 > (4611686018427387903 : Int)))
   bif b133 then
    some (false, ())
   else
    bif (decide (((0 : Int) ≤ i126) ∧ (i126 < (((List.length l128) : Nat) : Int)))) then
     let i134 : Nat := (Int.toNat i126)
     let n135 : Int := (List.getD l128 i134 (0 : Int))
     let b136 : Bool := (n135 != (0 : Int))
     bif b136 then
      bif (decide (((0 : Int) ≤ i126) ∧ (i126 < (7 : Int)))) then
       let n137 : Int := (byteAt (ByteArray.mk (List.toArray ((105 : UInt8) :: ((111 : UInt8) :: ((109 : UInt8) :: ((99 : UInt8) :: ((113 : UInt8) :: ((112 : UInt8) :: ((101 : UInt8) :: ([] : List UInt8)))))))))) i126)
       obind (ref06_in s125 n137) fun y138 =>
       let b139 : Bool := (!y138.1)
       bif b139 then
        some (false, ())
       else
        ref06_May_2 k0 s125 i126 d127 l128
      else none
     else
      ref06_May_2 k0 s125 i126 d127 l128
    else none
  else none
 else
  let b140 : Bool := ((ByteArray.toList s125) == (ByteArray.toList (ByteArray.mk (List.toArray ([] : List UInt8)))))
  bif b140 then
   some (false, ())
  else
   bif d127.2.2.2.2.2.2.2.2.1 then
    obind (ref06_in s125 (102 : Int)) fun y141 =>
    let b142 : Bool := (!y141.1)
    bif b142 then
     some (false, ())
    else
     let b143 : Bool := (!((ByteArray.toList d127.2.2.2.2.2.2.2.2.2.1) == (ByteArray.toList (ByteArray.mk (List.toArray ([] : List UInt8))))))
     bif b143 then
      obind (ref06_in s125 (100 : Int)) fun y144 =>
      let b145 : Bool := (!y144.1)
      bif b145 then
       some (false, ())
      else
       let b146 : Bool := (!((ByteArray.toList d127.2.2.2.2.2.2.2.2.2.2.1) == (ByteArray.toList (ByteArray.mk (List.toArray ([] : List UInt8))))))
       bif b146 then
        obind (ref06_in s125 (110 : Int)) fun y147 =>
        let b148 : Bool := (!y147.1)
        bif b148 then
         some (false, ())
        else
         let b149 : Bool := (!((ByteArray.toList d127.2.2.2.2.2.2.2.2.2.2.2.1) == (ByteArray.toList (ByteArray.mk (List.toArray ([] : List UInt8))))))
         bif b149 then
          obind (ref06_in s125 (116 : Int)) fun y150 =>
          let b151 : Bool := (!y150.1)
          bif b151 then
           some (false, ())
          else
           let n152 : Int := (((List.length d127.2.2.2.2.2.2.2.2.2.2.2.2.1) : Nat) : Int)
           let b153 : Bool := (decide (n152 > (0 : Int)))
           bif b153 then
            obind (ref06_in s125 (115 : Int)) fun y154 =>
            let b155 : Bool := (!y154.1)
            bif b155 then
             some (false, ())
            else
             ref06_May_3 d127
           else
            ref06_May_3 d127
         else
          let n156 : Int := (((List.length d127.2.2.2.2.2.2.2.2.2.2.2.2.1) : Nat) : Int)
          let b157 : Bool := (decide (n156 > (0 : Int)))
          bif b157 then
           obind (ref06_in s125 (115 : Int)) fun y158 =>
           let b159 : Bool := (!y158.1)
           bif b159 then
            some (false, ())
           else
            ref06_May_3 d127
          else
           ref06_May_3 d127
       else
        let b160 : Bool := (!((ByteArray.toList d127.2.2.2.2.2.2.2.2.2.2.2.1) == (ByteArray.toList (ByteArray.mk (List.toArray ([] : List UInt8))))))
        bif b160 then
         obind (ref06_in s125 (116 : Int)) fun y161 =>
         let b162 : Bool := (!y161.1)
         bif b162 then
          some (false, ())
         else
          let n163 : Int := (((List.length d127.2.2.2.2.2.2.2.2.2.2.2.2.1) : Nat) : Int)
          let b164 : Bool := (decide (n163 > (0 : Int)))
          bif b164 then
           obind (ref06_in s125 (115 : Int)) fun y165 =>
           let b166 : Bool := (!y165.1)
           bif b166 then
            some (false, ())
           else
            ref06_May_3 d127
          else
           ref06_May_3 d127
        else
         let n167 : Int := (((List.length d127.2.2.2.2.2.2.2.2.2.2.2.2.1) : Nat) : Int)
         let b168 : Bool := (decide (n167 > (0 : Int)))
         bif b168 then
          obind (ref06_in s125 (115 : Int)) fun y169 =>
          let b170 : Bool := (!y169.1)
          bif b170 then
           some (false, ())
          else
           ref06_May_3 d127
         else
          ref06_May_3 d127
     else
      let b171 : Bool := (!((ByteArray.toList d127.2.2.2.2.2.2.2.2.2.2.1) == (ByteArray.toList (ByteArray.mk (List.toArray ([] : List UInt8))))))
      bif b171 then
       obind (ref06_in s125 (110 : Int)) fun y172 =>
       let b173 : Bool := (!y172.1)
       bif b173 then
        some (false, ())
       else
        let b174 : Bool := (!((ByteArray.toList d127.2.2.2.2.2.2.2.2.2.2.2.1) == (ByteArray.toList (ByteArray.mk (List.toArray ([] : List UInt8))))))
        bif b174 then
         obind (ref06_in s125 (116 : Int)) fun y175 =>
         let b176 : Bool := (!y175.1)
         bif b176 then
          some (false, ())
         else
          let n177 : Int := (((List.length d127.2.2.2.2.2.2.2.2.2.2.2.2.1) : Nat) : Int)
          let b178 : Bool := (decide (n177 > (0 : Int)))
          bif b178 then
           obind (ref06_in s125 (115 : Int)) fun y179 =>
           let b180 : Bool := (!y179.1)
           bif b180 then
            some (false, ())
           else
            ref06_May_3 d127
          else
           ref06_May_3 d127
        else
         let n181 : Int := (((List.length d127.2.2.2.2.2.2.2.2.2.2.2.2.1) : Nat) : Int)
         let b182 : Bool := (decide (n181 > (0 : Int)))
         bif b182 then
          obind (ref06_in s125 (115 : Int)) fun y183 =>
          let b184 : Bool := (!y183.1)
          bif b184 then
           some (false, ())
          else
           ref06_May_3 d127
         else
          ref06_May_3 d127
      else
       let b185 : Bool := (!((ByteArray.toList d127.2.2.2.2.2.2.2.2.2.2.2.1) == (ByteArray.toList (ByteArray.mk (List.toArray ([] : List UInt8))))))
       bif b185 then
        obind (ref06_in s125 (116 : Int)) fun y186 =>
        let b187 : Bool := (!y186.1)
        bif b187 then
         some (false, ())
        else
         let n188 : Int := (((List.length d127.2.2.2.2.2.2.2.2.2.2.2.2.1) : Nat) : Int)
         let b189 : Bool := (decide (n188 > (0 : Int)))
         bif b189 then
          obind (ref06_in s125 (115 : Int)) fun y190 =>
          let b191 : Bool := (!y190.1)
          bif b191 then
           some (false, ())
          else
           ref06_May_3 d127
         else
          ref06_May_3 d127
       else
        let n192 : Int := (((List.length d127.2.2.2.2.2.2.2.2.2.2.2.2.1) : Nat) : Int)
        let b193 : Bool := (decide (n192 > (0 : Int)))
        bif b193 then
         obind (ref06_in s125 (115 : Int)) fun y194 =>
         let b195 : Bool := (!y194.1)
         bif b195 then
          some (false, ())
         else
          ref06_May_3 d127
        else
         ref06_May_3 d127
   else
    let b196 : Bool := (!((ByteArray.toList d127.2.2.2.2.2.2.2.2.2.1) == (ByteArray.toList (ByteArray.mk (List.toArray ([] : List UInt8))))))
    bif b196 then
     obind (ref06_in s125 (100 : Int)) fun y197 =>
     let b198 : Bool := (!y197.1)
     bif b198 then
      some (false, ())
     else
      let b199 : Bool := (!((ByteArray.toList d127.2.2.2.2.2.2.2.2.2.2.1) == (ByteArray.toList (ByteArray.mk (List.toArray ([] : List UInt8))))))
      bif b199 then
       obind (ref06_in s125 (110 : Int)) fun y200 =>
       let b201 : Bool := (!y200.1)
       bif b201 then
        some (false, ())
       else
        let b202 : Bool := (!((ByteArray.toList d127.2.2.2.2.2.2.2.2.2.2.2.1) == (ByteArray.toList (ByteArray.mk (List.toArray ([] : List UInt8))))))
        bif b202 then
         obind (ref06_in s125 (116 : Int)) fun y203 =>
         let b204 : Bool := (!y203.1)
         bif b204 then
          some (false, ())
         else
          let n205 : Int := (((List.length d127.2.2.2.2.2.2.2.2.2.2.2.2.1) : Nat) : Int)
          let b206 : Bool := (decide (n205 > (0 : Int)))
          bif b206 then
           obind (ref06_in s125 (115 : Int)) fun y207 =>
           let b208 : Bool := (!y207.1)
           bif b208 then
            some (false, ())
           else
            ref06_May_3 d127
          else
           ref06_May_3 d127
        else
         let n209 : Int := (((List.length d127.2.2.2.2.2.2.2.2.2.2.2.2.1) : Nat) : Int)
         let b210 : Bool := (decide (n209 > (0 : Int)))
         bif b210 then
          obind (ref06_in s125 (115 : Int)) fun y211 =>
          let b212 : Bool := (!y211.1)
          bif b212 then
           some (false, ())
          else
           ref06_May_3 d127
         else
          ref06_May_3 d127
      else
       let b213 : Bool := (!((ByteArray.toList d127.2.2.2.2.2.2.2.2.2.2.2.1) == (ByteArray.toList (ByteArray.mk (List.toArray ([] : List UInt8))))))
       bif b213 then
        obind (ref06_in s125 (116 : Int)) fun y214 =>
        let b215 : Bool := (!y214.1)
        bif b215 then
         some (false, ())
        else
         let n216 : Int := (((List.length d127.2.2.2.2.2.2.2.2.2.2.2.2.1) : Nat) : Int)
         let b217 : Bool := (decide (n216 > (0 : Int)))
         bif b217 then
          obind (ref06_in s125 (115 : Int)) fun y218 =>
          let b219 : Bool := (!y218.1)
          bif b219 then
           some (false, ())
          else
           ref06_May_3 d127
         else
          ref06_May_3 d127
       else
        let n220 : Int := (((List.length d127.2.2.2.2.2.2.2.2.2.2.2.2.1) : Nat) : Int)
        let b221 : Bool := (decide (n220 > (0 : Int)))
        bif b221 then
         obind (ref06_in s125 (115 : Int)) fun y222 =>
         let b223 : Bool := (!y222.1)
         bif b223 then
          some (false, ())
         else
          ref06_May_3 d127
        else
         ref06_May_3 d127
    else
     let b224 : Bool := (!((ByteArray.toList d127.2.2.2.2.2.2.2.2.2.2.1) == (ByteArray.toList (ByteArray.mk (List.toArray ([] : List UInt8))))))
     bif b224 then
      obind (ref06_in s125 (110 : Int)) fun y225 =>
      let b226 : Bool := (!y225.1)
      bif b226 then
       some (false, ())
      else
       let b227 : Bool := (!((ByteArray.toList d127.2.2.2.2.2.2.2.2.2.2.2.1) == (ByteArray.toList (ByteArray.mk (List.toArray ([] : List UInt8))))))
       bif b227 then
        obind (ref06_in s125 (116 : Int)) fun y228 =>
        let b229 : Bool := (!y228.1)
        bif b229 then
         some (false, ())
        else
         let n230 : Int := (((List.length d127.2.2.2.2.2.2.2.2.2.2.2.2.1) : Nat) : Int)
         let b231 : Bool := (decide (n230 > (0 : Int)))
         bif b231 then
          obind (ref06_in s125 (115 : Int)) fun y232 =>
          let b233 : Bool := (!y232.1)
          bif b233 then
           some (false, ())
          else
           ref06_May_3 d127
         else
          ref06_May_3 d127
       else
        let n234 : Int := (((List.length d127.2.2.2.2.2.2.2.2.2.2.2.2.1) : Nat) : Int)
        let b235 : Bool := (decide (n234 > (0 : Int)))
        bif b235 then
         obind (ref06_in s125 (115 : Int)) fun y236 =>
         let b237 : Bool := (!y236.1)
         bif b237 then
          some (false, ())
         else
          ref06_May_3 d127
        else
         ref06_May_3 d127
     else
      let b238 : Bool := (!((ByteArray.toList d127.2.2.2.2.2.2.2.2.2.2.2.1) == (ByteArray.toList (ByteArray.mk (List.toArray ([] : List UInt8))))))
      bif b238 then
       obind (ref06_in s125 (116 : Int)) fun y239 =>
       let b240 : Bool := (!y239.1)
       bif b240 then
        some (false, ())
       else
        let n241 : Int := (((List.length d127.2.2.2.2.2.2.2.2.2.2.2.2.1) : Nat) : Int)
        let b242 : Bool := (decide (n241 > (0 : Int)))
        bif b242 then
         obind (ref06_in s125 (115 : Int)) fun y243 =>
         let b244 : Bool := (!y243.1)
         bif b244 then
          some (false, ())
         else
          ref06_May_3 d127
        else
         ref06_May_3 d127
      else
       let n245 : Int := (((List.length d127.2.2.2.2.2.2.2.2.2.2.2.2.1) : Nat) : Int)
       let b246 : Bool := (decide (n245 > (0 : Int)))
       bif b246 then
        obind (ref06_in s125 (115 : Int)) fun y247 =>
        let b248 : Bool := (!y247.1)
        bif b248 then
         some (false, ())
        else
         ref06_May_3 d127
       else
        ref06_May_3 d127
noncomputable def ref06_May_0 : Nat → ByteArray → Int → D_frame_Frame → (List Int) → Option (Bool × Unit)
 | 0 => fun _ _ _ _ => none
 | m + 1 => t_ref06_May_0 (ref06_May_0 m)
noncomputable def b_ref06_May_0' (s125 : ByteArray) (i126 : Int) (d127 : D_frame_Frame) (l128 : (List Int)) : Option (Bool × Unit) := ref06_May_0 (Int.toNat ((((List.length l128) : Nat) : Int) - i126) + 2) s125 i126 d127 l128
theorem ex_ref06_May_0' : ∃ f, f = @b_ref06_May_0' := ⟨_, rfl⟩
noncomputable def ref06_May_0' := Classical.choose ex_ref06_May_0'
theorem ref06_May_0'_eq : @ref06_May_0' = @b_ref06_May_0' := Classical.choose_spec ex_ref06_May_0'
theorem s_ref06_May_0 {base S0 cs0} (hfin : H_ref06_May base S0) : ∀ m, J_ref06_May base S0 cs0 p_ref06_May_0 (u_ref06_May_0 (ref06_May_0 m)) :=
 JSound.loop' hfin.2 ks_ref06_May 100000 u_ref06_May_0 (fun k0 => x_ref06_May_2 k0) (fun k0 h0 => o_ref06_May_2 hfin k0 h0) (ref06_May_0) (by intro x; rfl) (by intro m x; kernel_rfl)
theorem s_ref06_May_0' {base S0 cs0} (hfin : H_ref06_May base S0) : J_ref06_May base S0 cs0 p_ref06_May_0 (u_ref06_May_0 (ref06_May_0')) := by
 rw [ref06_May_0'_eq]; exact fun x r hx => s_ref06_May_0 hfin _ x r hx
noncomputable def x_ref06_May_0 : Cfg → Option (Option (Bool × Unit)) := cut p_ref06_May_0 (u_ref06_May_0 (ref06_May_0')) (x_ref06_May_3)
theorem o_ref06_May_0 {base S0 cs0} (hfin : H_ref06_May base S0) : O_ref06_May base S0 cs0 (x_ref06_May_0) := OSound.cut (o_ref06_May_3 hfin) (Nat.le_of_eq hfin.1) (s_ref06_May_0' hfin)
noncomputable def b_ref06_May (a0 : D_frame_Frame) : Option (Bool × Unit) :=
 obind (ref06_shape a0.1) fun y1 =>
 ref06_May_0' y1.1 (0 : Int) a0 (a0.2.1 :: (a0.2.2.1 :: (a0.2.2.2.1 :: (a0.2.2.2.2.1 :: (a0.2.2.2.2.2.1 :: (a0.2.2.2.2.2.2.1 :: (a0.2.2.2.2.2.2.2.1 :: ([] : List Int))))))))
theorem ex_ref06_May : ∃ f, f = @b_ref06_May := ⟨_, rfl⟩
noncomputable def ref06_May := Classical.choose ex_ref06_May
theorem ref06_May_eq : @ref06_May = @b_ref06_May := Classical.choose_spec ex_ref06_May
noncomputable def cb_ref06_May : Con := ⟨[T_frame_Frame], r_ref06_May, fun x => b_ref06_May x.1⟩
noncomputable def c_ref06_May : Con := ⟨[T_frame_Frame], r_ref06_May, fun x => ref06_May x.1⟩
theorem cb_ref06_May_ok : cb_ref06_May.Sound prog Inv gInv 11 :=
 con_run (M := m_ref06_May) inv_g (f := f11) rfl ks_ref06_May 100000 (X := x_ref06_May_0) (fun base S0 cs0 hn hf => have hfin : H_ref06_May base S0 := ⟨hn, hf⟩; o_ref06_May_0 hfin) (by intro x; kernel_rfl)
theorem c_ref06_May_ok : c_ref06_May.Sound prog Inv gInv 11 := by
 have e : c_ref06_May = cb_ref06_May := by unfold c_ref06_May cb_ref06_May; rw [ref06_May_eq]
 rw [e]; exact cb_ref06_May_ok
end Go.Proofs.YtjlfmolfcgennaaDoor.V
namespace Go.Proofs.YtjlfmolfcgennaaDoor.V
open Go.RowKit
set_option linter.unusedVariables false
noncomputable def endM (s : ByteArray) (d : D_frame_Frame) : Option (Bool × Unit) := t_ref06_May_0 (fun _ _ _ _ => none) s 0 d []
def okM (l : List Int) (d : D_frame_Frame) : Bool :=
 !decide (l = []) && (!d.2.2.2.2.2.2.2.2.1 || decide ((102 : Int) ∈ l)) && (decide (d.2.2.2.2.2.2.2.2.2.1 = eB) || decide ((100 : Int) ∈ l)) && (decide (d.2.2.2.2.2.2.2.2.2.2.1 = eB) || decide ((110 : Int) ∈ l)) &&
 (decide (d.2.2.2.2.2.2.2.2.2.2.2.1 = eB) || decide ((116 : Int) ∈ l)) && (decide (d.2.2.2.2.2.2.2.2.2.2.2.2.1.length = 0) || decide ((115 : Int) ∈ l))
theorem endM_is (l : List Int) (hB : Byt l) (hl : l.length ≤ 100) (d : D_frame_Frame) : endM (bytesStr l) d = bif okM l d then ref06_May_3 d else some (false, ()) := by
 have e0 : ByteArray.mk (List.toArray ([] : List UInt8)) = eB := rfl
 have I : ∀ x, ref06_in (bytesStr l) x = some (decide (x ∈ l), ()) := fun x => by rw [in_is _ _ (by rw [bytesStr_size]; omega), strBytes_bs hB]
 have s0 : decide (bytesStr l = eB) = decide (l = []) := decide_eq_decide.mpr ⟨fun e => by
  have := congrArg ByteArray.size e
  rw [bytesStr_size] at this
  exact List.eq_nil_of_length_eq_zero this, fun e => by subst e; rfl⟩
 have n0 : decide ((((d.2.2.2.2.2.2.2.2.2.2.2.2.1.length : Nat) : Int)) > 0) = !decide (d.2.2.2.2.2.2.2.2.2.2.2.2.1.length = 0) := by
  by_cases h : d.2.2.2.2.2.2.2.2.2.2.2.2.1.length = 0
  · simp [h]
  ·
   have : (((d.2.2.2.2.2.2.2.2.2.2.2.2.1.length : Nat) : Int)) > 0 := by omega
   simp only [h, this, decide_true, decide_false, Bool.not_false]
 unfold endM okM
 simp only [t_ref06_May_0, List.length_nil, e0, toList_beq, s0, I, obind_some, n0]
 rw [show decide ((0 : Int) < ((0 : Nat) : Int)) = false from rfl]
 simp only [cond_false]
 generalize decide (l = []) = b0
 generalize d.2.2.2.2.2.2.2.2.1 = f1
 generalize decide (d.2.2.2.2.2.2.2.2.2.1 = eB) = f2
 generalize decide (d.2.2.2.2.2.2.2.2.2.2.1 = eB) = f3
 generalize decide (d.2.2.2.2.2.2.2.2.2.2.2.1 = eB) = f4
 generalize decide (d.2.2.2.2.2.2.2.2.2.2.2.2.1.length = 0) = f5
 generalize decide ((102 : Int) ∈ l) = t1
 generalize decide ((100 : Int) ∈ l) = t2
 generalize decide ((110 : Int) ∈ l) = t3
 generalize decide ((116 : Int) ∈ l) = t4
 generalize decide ((115 : Int) ∈ l) = t5
 generalize ref06_May_3 d = R
 cases b0
 · cases f1 <;> cases t1 <;> (try rfl) <;> cases f2 <;> cases t2 <;> (try rfl) <;> cases f3 <;> cases t3 <;> (try rfl) <;> cases f4 <;> cases t4 <;> (try rfl) <;> cases f5 <;> cases t5 <;> rfl
 · rfl
def letL : List Int := [105, 111, 109, 99, 113, 112, 101]
theorem let_is : strBytes (ByteArray.mk (List.toArray ((105 : UInt8) :: ((111 : UInt8) :: ((109 : UInt8) :: ((99 : UInt8) :: ((113 : UInt8) :: ((112 : UInt8) :: ((101 : UInt8) :: ([] : List UInt8)))))))))) = letL := rfl
def okNs (l : List Int) : Nat → List Int → Bool
 | _, [] => true
 | i, x :: r => decide (x ≤ 4611686018427387903) && (x == 0 || decide (letL.getD i 0 ∈ l)) && okNs l (i + 1) r
theorem num6_loop (l : List Int) (hB : Byt l) (hl : l.length ≤ 100) (d : D_frame_Frame) : ∀ (suf pre : List Int) (m : Nat), suf.length < m → (pre ++ suf).length = 7 →
  ref06_May_0 m (bytesStr l) ((pre.length : Nat) : Int) d (pre ++ suf) = bif okNs l pre.length suf then endM (bytesStr l) d else some (false, ()) := by
 have I : ∀ x, ref06_in (bytesStr l) x = some (decide (x ∈ l), ()) := fun x => by rw [in_is _ _ (by rw [bytesStr_size]; omega), strBytes_bs hB]
 intro suf
 induction suf with
 | nil =>
  intro pre m hm h7
  obtain ⟨m, rfl⟩ : ∃ k, m = k + 1 := ⟨m - 1, by omega⟩
  unfold endM
  rw [ref06_May_0]
  simp only [t_ref06_May_0, mid_end, decide_false, cond_false, okNs, cond_true, List.length_nil]
  rw [show decide ((0 : Int) < ((0 : Nat) : Int)) = false from rfl]
  simp only [cond_false]
 | cons x suf ih =>
  intro pre m hm h7
  obtain ⟨m, rfl⟩ : ∃ k, m = k + 1 := ⟨m - 1, by omega⟩
  have c7 : ((pre.length : Nat) : Int) < 7 := by simp at h7; omega
  have hn : (pre ++ x :: suf).length ≤ 4294967296 := by omega
  have e : byteAt (ByteArray.mk (List.toArray ((105 : UInt8) :: ((111 : UInt8) :: ((109 : UInt8) :: ((99 : UInt8) :: ((113 : UInt8) :: ((112 : UInt8) :: ((101 : UInt8) :: ([] : List UInt8)))))))))) ((pre.length : Nat) : Int) = letL.getD pre.length 0 := by
   rw [byteAt_is, let_is, Int.toNat_natCast]
  rw [ref06_May_0]
  unfold t_ref06_May_0
  simp only [mid_lt, nn, and_true, decide_true, cond_true, toNat_len, getD_mid, okNs]
  have next : ref06_May_2 (ref06_May_0 m) (bytesStr l) ((pre.length : Nat) : Int) d (pre ++ x :: suf) = bif okNs l (pre.length + 1) suf then endM (bytesStr l) d else some (false, ()) := by
   rw [ref06_May_2_eq, b_ref06_May_2]
   rw [mid_next pre x x suf hn, snoc_app pre x suf, ih (pre ++ [x]) m (by simp at hm; omega) (by simpa using h7)]
   simp
  by_cases c1 : x ≤ 4611686018427387903
  ·
   have c2 : ¬ x > 4611686018427387903 := by omega
   simp only [c1, c2, decide_true, decide_false, cond_false, Bool.true_and]
   by_cases c3 : x = 0
   ·
    subst c3
    simp only [bne_self_eq_false, cond_false, beq_self_eq_true, Bool.true_or, Bool.true_and]
    exact next
   ·
    have c4 : (x != 0) = true := by simpa using c3
    simp only [c4, cond_true, beq_false_of_ne c3, Bool.false_or, c7, decide_true, e, I, obind_some]
    cases decide (letL.getD pre.length 0 ∈ l) with
    | false => rfl
    | true => simp only [Bool.not_true, cond_false, Bool.true_and]; exact next
  ·
   have c2 : x > 4611686018427387903 := by omega
   simp only [c1, c2, decide_true, decide_false, cond_true, Bool.false_and, cond_false]
def m3 (f : D_frame_Frame) : Bool :=
 let k := f.1
 bif k == 2 then mayR 0 f.2.2.2.2.2.2.2.2.2.2.2.2.1 && decide (1 ≤ f.2.2.2.2.2.2.2.2.2.2.2.2.1.length) && decide (f.2.2.2.2.2.2.2.2.2.2.2.2.1.length ≤ 32) && decide (lastHi f.2.2.2.2.2.2.2.2.2.2.2.2.1 ≤ 4611686018427387903)
 else bif k == 6 || k == 8 then decide (f.2.2.2.2.2.2.2.2.2.1.size ≤ 1200) && decide (f.2.2.1 + ((f.2.2.2.2.2.2.2.2.2.1.size : Nat) : Int) ≤ 4611686018427387903)
 else bif k == 28 || k == 29 then decide (f.2.2.2.2.2.2.2.2.2.1.size ≤ 1200)
 else bif k == 24 then decide (f.2.2.2.2.2.2.1 ≤ f.2.2.2.2.2.1) && (((f.2.2.2.2.2.2.2.2.2.2.1.size : Nat) : Int) == 8) && (((f.2.2.2.2.2.2.2.2.2.2.2.1.size : Nat) : Int) == 16)
 else bif k == 26 || k == 27 then (((f.2.2.2.2.2.2.2.2.2.2.2.1.size : Nat) : Int) == 8)
 else bif k == 18 || k == 19 || k == 22 || k == 23 then decide (f.2.2.2.1 ≤ 1152921504606846976)
 else true
theorem sums_is (f : D_frame_Frame) (hk : kindB f.1 = true) : (okNs (shapeL f.1) 0 [f.2.1, f.2.2.1, f.2.2.2.1, f.2.2.2.2.1, f.2.2.2.2.2.1, f.2.2.2.2.2.2.1, f.2.2.2.2.2.2.2.1] && (okM (shapeL f.1) f && m3 f)) = mayFr f := by
 obtain ⟨k, id, off, mx, code, seq, prior, delay, fin, data, cid, tok, set, ⟨⟩⟩ := f
 simp only at hk ⊢
 have hd : data = ⟨#[]⟩ → data.size = 0 := by rintro rfl; rfl
 have hc : cid = ⟨#[]⟩ → cid.size = 0 := by rintro rfl; rfl
 have ht : tok = ⟨#[]⟩ → tok.size = 0 := by rintro rfl; rfl
 rcases kinds hk with rfl | rfl | rfl | rfl | rfl | rfl | rfl | rfl | rfl | rfl | rfl | rfl | rfl | rfl | rfl | rfl | rfl | rfl | rfl | rfl | rfl | rfl
 all_goals
  rw [Bool.eq_iff_iff]
  simp [okNs, okM, shapeL, letL, m3, mayFr, kindB, onlyF, hasId, hasOff, hasMax, hasCode, hasSeq, hasPrior, hasDelay, hasFin, hasData, hasCid, hasToken, hasSet, numsOk, extraF]
  try grind
theorem shapeL_none {k : Int} (h : kindB k = false) : shapeL k = [] := by
 obtain ⟨h0, h1, h2, h4, h5, h6, h8, h16, h17, h18, h19, h20, h21, h22, h23, h24, h25, h26, h27, h28, h29, h30⟩ := nokind h
 simp only [shapeL, h0, h1, h2, h4, h5, h6, h8, h16, h17, h18, h19, h20, h21, h22, h23, h24, h25, h26, h27, h28, h29, h30, or_self, if_false]
theorem shapeL_byt (k : Int) : Byt (shapeL k) ∧ (shapeL k).length ≤ 100 := by
 cases h : kindB k with
 | true =>
  unfold Byt
  rcases kinds h with rfl | rfl | rfl | rfl | rfl | rfl | rfl | rfl | rfl | rfl | rfl | rfl | rfl | rfl | rfl | rfl | rfl | rfl | rfl | rfl | rfl | rfl <;> decide
 | false => rw [shapeL_none h]; exact ⟨Byt.nil, by simp⟩
theorem may3_loop : ∀ (suf pre : List D_ranges_Range) (e : Int) (m : Nat), suf.length < m → (pre ++ suf).length ≤ 9223372036854775807 → (∀ r ∈ suf, 0 ≤ r.1 ∧ 0 ≤ r.2.1) →
  ((pre = [] ∧ e = 0) ∨ ∃ p y, pre = p ++ [y] ∧ e = y.2.1 + 2 ∧ 0 ≤ y.2.1 ∧ y.2.1 < 9223372036854775808) →
  ref03_May_0 m (pre ++ suf) ((pre.length : Nat) : Int) = some (mayR e suf, ()) := by
 intro suf
 induction suf with
 | nil =>
  intro pre e m hm _ _ _
  obtain ⟨m, rfl⟩ : ∃ k, m = k + 1 := ⟨m - 1, by omega⟩
  simp only [ref03_May_0, t_ref03_May_0, mid_end, decide_false, cond_false, mayR]
 | cons x suf ih =>
  intro pre e m hm hl hr he
  obtain ⟨m, rfl⟩ : ∃ k, m = k + 1 := ⟨m - 1, by omega⟩
  have hx := hr x (by simp)
  simp only [ref03_May_0, t_ref03_May_0, mid_lt, nn, and_true, decide_true, cond_true, toNat_len, getD_mid, mayR]
  have next : x.2.1 < 9223372036854775808 → ref03_May_1 (ref03_May_0 m) (pre ++ x :: suf) ((pre.length : Nat) : Int) = some (mayR (x.2.1 + 2) suf, ()) := by
   intro h2
   rw [ref03_May_1_eq, b_ref03_May_1]
   rw [mid_next' pre x x suf hl, snoc_app pre x suf, ih (pre ++ [x]) (x.2.1 + 2) m (by simp at hm; omega) (by simpa using hl) (fun r h => hr r (by simp [h])) (.inr ⟨pre, x, rfl, rfl, hx.2, h2⟩)]
  by_cases h1 : x.2.1 < x.1
  ·
   have : ¬ x.1 ≤ x.2.1 := by omega
   simp only [h1, this, decide_true, cond_true, decide_false, Bool.false_and]
  ·
   have h1' : x.1 ≤ x.2.1 := by omega
   simp only [h1, h1', decide_false, cond_false, decide_true, Bool.true_and]
   by_cases h2 : x.2.1 < 9223372036854775808
   ·
    have : ¬ x.2.1 ≥ 9223372036854775808 := by omega
    simp only [h2, this, decide_false, cond_false, decide_true, Bool.true_and]
    rcases he with ⟨rfl, rfl⟩ | ⟨p, y, rfl, rfl, y0, y1⟩
    ·
     have c : ¬ ((([] : List D_ranges_Range).length : Nat) : Int) > 0 := by simp
     simp only [c, decide_false, cond_false, next h2, hx.1, decide_true, Bool.true_and]
    ·
     have c : (((p ++ [y]).length : Nat) : Int) > 0 := by simp <;> omega
     have w : IntKind.wrap .i64 ((((p ++ [y]).length : Nat) : Int) - 1) = ((p.length : Nat) : Int) := by
      simp at hl; rw [wrap_i64 _ (by simp <;> omega) (by simp <;> omega)]; simp
     have c2 : ((p.length : Nat) : Int) < ((((p ++ [y]) ++ x :: suf).length : Nat) : Int) := by simp; omega
     have g : ((p ++ [y]) ++ x :: suf).getD p.length (Ty.dflt T_ranges_Range) = y := by rw [← snoc_app, getD_mid]
     have w2 : IntKind.wrap .u64 (y.2.1 + 2) = y.2.1 + 2 := wrap_u64 _ (by omega) (by omega)
     simp only [c, decide_true, cond_true, w, nn, c2, and_self, Int.toNat_natCast, g, w2]
     by_cases h3 : x.1 < y.2.1 + 2
     ·
      have : ¬ y.2.1 + 2 ≤ x.1 := by omega
      simp only [h3, this, decide_true, decide_false, cond_true, Bool.false_and]
     ·
      have h3' : y.2.1 + 2 ≤ x.1 := by omega
      simp only [h3, h3', decide_true, decide_false, cond_false, Bool.true_and, next h2]
   ·
    have : x.2.1 ≥ 9223372036854775808 := by omega
    simp only [h2, this, decide_true, cond_true, decide_false, Bool.false_and]
theorem may3_is (l : List D_ranges_Range) (hl : l.length ≤ 9223372036854775807) (hr : ∀ r ∈ l, 0 ≤ r.1 ∧ 0 ≤ r.2.1) : ref03_May l = some (mayR 0 l, ()) := by
 rw [ref03_May_eq, b_ref03_May, ref03_May_0'_eq, b_ref03_May_0']
 exact may3_loop l [] 0 _ (by simp) (by simpa using hl) hr (.inl ⟨rfl, rfl⟩)
theorem pick3 (b6 b8 b28 b29 b24 b26 b27 b18 b19 b22 b23 q1 q2 q3 q4 q5 q6 q7 : Bool) :
  (bif b6 then (some (q1, ()) : Option (Bool × Unit)) else bif b8 then some (q1, ()) else bif b28 then some (q2, ()) else bif b29 then some (q2, ()) else bif b24 then bif q3 then bif q4 then some (q5, ()) else some (false, ()) else some (false, ()) else
   bif b26 then some (q6, ()) else bif b27 then some (q6, ()) else bif b18 then some (q7, ()) else bif b19 then some (q7, ()) else bif b22 then some (q7, ()) else bif b23 then some (q7, ()) else some (true, ())) =
  some (bif b6 || b8 then q1 else bif b28 || b29 then q2 else bif b24 then q3 && q4 && q5 else bif b26 || b27 then q6 else bif b18 || b19 || b22 || b23 then q7 else true, ()) := by
 cases b6
 ·
  cases b8
  ·
   cases b28
   ·
    cases b29
    ·
     cases b24
     ·
      cases b26
      ·
       cases b27
       ·
        cases b18
        ·
         cases b19
         ·
          cases b22
          · cases b23 <;> rfl
          · rfl
         · rfl
        · rfl
       · rfl
      · rfl
     · exact three _ _ _
    · rfl
   · rfl
  · rfl
 · rfl
theorem m3_is (f : D_frame_Frame) (h : FrOk f) (ho : f.2.2.1 ≤ 4611686018427387903) : ref06_May_3 f = some (m3 f, ()) := by
 have hfew := h.few
 have hoff := h.off
 rw [ref06_May_3_eq, b_ref06_May_3, may3_is _ hfew (fun r hr => ⟨(h.set r hr).1.1, (h.set r hr).2.1⟩)]
 simp only [ref06_May_4_eq, b_ref06_May_4, ref06_May_5_eq, b_ref06_May_5, ref06_May_6_eq, b_ref06_May_6, ref06_May_7_eq, b_ref06_May_7, obind_some, m3]
 have dsz : decide (((f.2.2.2.2.2.2.2.2.2.1.size : Nat) : Int) ≤ 1200) = decide (f.2.2.2.2.2.2.2.2.2.1.size ≤ 1200) := decide_eq_decide.mpr (by omega)
 by_cases e2 : f.1 = 2
 ·
  simp only [e2, beq_self_eq_true, cond_true]
  cases mayR 0 f.2.2.2.2.2.2.2.2.2.2.2.2.1 with
  | false => simp only [cond_false, Bool.false_and]
  | true =>
   simp only [cond_true, Bool.true_and]
   unfold lastHi
   generalize f.2.2.2.2.2.2.2.2.2.2.2.2.1 = l at *
   by_cases l0 : 1 ≤ l.length
   ·
    by_cases l1 : l.length ≤ 32
    ·
     have c0 : ((l.length : Nat) : Int) ≥ 1 := by omega
     have c1 : ((l.length : Nat) : Int) ≤ 32 := by omega
     have c2 : IntKind.wrap .i64 (((l.length : Nat) : Int) - 1) = ((l.length - 1 : Nat) : Int) := by rw [wrap_i64 _ (by omega) (by omega)]; omega
     have c3 : (0 : Int) ≤ ((l.length - 1 : Nat) : Int) ∧ ((l.length - 1 : Nat) : Int) < ((l.length : Nat) : Int) := by omega
     simp only [c0, c1, c2, c3, and_self, l0, l1, decide_true, cond_true, Bool.true_and, Int.toNat_natCast]
    ·
     have c0 : ((l.length : Nat) : Int) ≥ 1 := by omega
     have c1 : ¬ ((l.length : Nat) : Int) ≤ 32 := by omega
     simp only [c0, c1, l0, l1, decide_true, decide_false, cond_true, cond_false, Bool.true_and, Bool.false_and]
   ·
    have c0 : ¬ ((l.length : Nat) : Int) ≥ 1 := by omega
    simp only [c0, l0, decide_false, cond_false, Bool.false_and]
 ·
  simp only [beq_false_of_ne e2, cond_false, dsz]
  by_cases d : f.2.2.2.2.2.2.2.2.2.1.size ≤ 1200
  ·
   have w1 : IntKind.wrap .u64 ((f.2.2.2.2.2.2.2.2.2.1.size : Nat) : Int) = ((f.2.2.2.2.2.2.2.2.2.1.size : Nat) : Int) := wrap_u64 _ (by omega) (by omega)
   have w2 : IntKind.wrap .u64 (f.2.2.1 + ((f.2.2.2.2.2.2.2.2.2.1.size : Nat) : Int)) = f.2.2.1 + ((f.2.2.2.2.2.2.2.2.2.1.size : Nat) : Int) := wrap_u64 _ (by omega) (by omega)
   simp only [d, decide_true, cond_true, w1, w2, Bool.true_and]
   exact pick3 _ _ _ _ _ _ _ _ _ _ _ _ _ _ _ _ _ _
  ·
   simp only [d, decide_false, cond_false, Bool.false_and]
   exact pick3 _ _ _ _ _ _ _ _ _ _ _ _ _ _ _ _ _ _
theorem may6_is (f : D_frame_Frame) (h : FrOk f) : ref06_May f = some (mayFr f, ()) := by
 obtain ⟨hB, hl⟩ := shapeL_byt f.1
 rw [ref06_May_eq, b_ref06_May, shape_is]
 simp only [obind_some]
 rw [ref06_May_0'_eq, b_ref06_May_0']
 have e := num6_loop (shapeL f.1) hB hl f [f.2.1, f.2.2.1, f.2.2.2.1, f.2.2.2.2.1, f.2.2.2.2.2.1, f.2.2.2.2.2.2.1, f.2.2.2.2.2.2.2.1] [] (Int.toNat ((([f.2.1, f.2.2.1, f.2.2.2.1, f.2.2.2.2.1, f.2.2.2.2.2.1, f.2.2.2.2.2.2.1, f.2.2.2.2.2.2.2.1].length : Nat) : Int) - 0) + 2) (by simp) rfl
 rw [List.nil_append] at e
 rw [show ((([] : List Int).length : Nat) : Int) = 0 from rfl] at e
 rw [e, endM_is _ hB hl]
 have hlen : ([] : List Int).length = 0 := rfl
 rw [hlen]
 cases hk : kindB f.1 with
 | false =>
  have e1 : okM (shapeL f.1) f = false := by simp [okM, shapeL_none hk]
  have e2 : mayFr f = false := by simp [mayFr, hk]
  rw [e1, e2]
  simp only [cond_false]
  cases okNs (shapeL f.1) 0 [f.2.1, f.2.2.1, f.2.2.2.1, f.2.2.2.2.1, f.2.2.2.2.2.1, f.2.2.2.2.2.2.1, f.2.2.2.2.2.2.2.1] <;> rfl
 | true =>
  rw [← sums_is f hk]
  cases hn : okNs (shapeL f.1) 0 [f.2.1, f.2.2.1, f.2.2.2.1, f.2.2.2.2.1, f.2.2.2.2.2.1, f.2.2.2.2.2.2.1, f.2.2.2.2.2.2.2.1] with
  | false => simp only [cond_false, Bool.false_and]
  | true =>
   have ho : f.2.2.1 ≤ 4611686018427387903 := by
    simp only [okNs, Bool.and_eq_true, decide_eq_true_eq] at hn
    exact hn.2.1.1
   simp only [cond_true, m3_is f h ho, Bool.true_and]
   cases okM (shapeL f.1) f <;> rfl
end Go.Proofs.YtjlfmolfcgennaaDoor.V
namespace Go.Proofs.YtjlfmolfcgennaaDoor.V
open Go.RowKit Go.Proofs.Tryd
set_option maxRecDepth 100000
set_option linter.unusedVariables false
noncomputable def m_law18_its : Mach prog Inv gInv := mach bas [(12, f12)] ⟨ok12, trivial⟩ [] trivial [] trivial [] trivial
/-! ### domino/dominolaw18.its -/
@[reducible] def r_law18_its : List Ty := [T_frame_Frame]
def ks_law18_its : List Nat := [12]
abbrev H_law18_its (base : Base) (S0 : Nat → Prop) := base.n = 0 ∧ FinOk (finR r_law18_its) base S0 (Post r_law18_its S0)
abbrev J_law18_its (base : Base) (S0 : Nat → Prop) (cs0 : List Go.Frame) (p : CPat) (J : denC p → Option (denL r_law18_its)) := JSound m_law18_its base S0 cs0 (Post r_law18_its S0) p J
abbrev O_law18_its (base : Base) (S0 : Nat → Prop) (cs0 : List Go.Frame) (X : Cfg → Option (Option (denL r_law18_its))) := OSound m_law18_its base S0 cs0 (Post r_law18_its S0) X
@[reducible] noncomputable def p_law18_its_0 : CPat := ⟨⟨12, [1, 1, 0, 1, 0], none, [.any, .ptr 0 0, .ptr 1 0, .ptr 2 0, .int .i64], 43⟩, [], [.dat 36 T_frame_Frame, .cells 49 [.intC .u64 (0), .intC .u64 (0), .intC .u64 (0), .intC .u64 (0), .intC .u64 (0), .intC .u64 (0), .intC .u64 (0), .intC .u64 (0), .boolC false, .str, .str, .str, .nilSlice], .cells 49 [.int .u64, .int .u64, .int .u64, .int .u64, .int .u64, .int .u64, .int .u64, .int .u64, .bool, .str, .str, .str, .all 3], .row T_ranges_Range], 0⟩
@[reducible] noncomputable def u_law18_its_0 (k : Int → D_frame_Frame → ByteArray → ByteArray → ByteArray → Int → Int → Int → Int → Int → Int → Int → Int → Bool → ByteArray → ByteArray → ByteArray → (List D_ranges_Range) → Option (D_frame_Frame × Unit)) : denC p_law18_its_0 → Option (D_frame_Frame × Unit) := fun x => k x.1.2.2.2.2.1 x.2.2.1 x.2.2.2.1.2.2.2.2.2.2.2.2.2.1 x.2.2.2.1.2.2.2.2.2.2.2.2.2.2.1 x.2.2.2.1.2.2.2.2.2.2.2.2.2.2.2.1 x.2.2.2.2.1.1 x.2.2.2.2.1.2.1 x.2.2.2.2.1.2.2.1 x.2.2.2.2.1.2.2.2.1 x.2.2.2.2.1.2.2.2.2.1 x.2.2.2.2.1.2.2.2.2.2.1 x.2.2.2.2.1.2.2.2.2.2.2.1 x.2.2.2.2.1.2.2.2.2.2.2.2.1 x.2.2.2.2.1.2.2.2.2.2.2.2.2.1 x.2.2.2.2.1.2.2.2.2.2.2.2.2.2.1 x.2.2.2.2.1.2.2.2.2.2.2.2.2.2.2.1 x.2.2.2.2.1.2.2.2.2.2.2.2.2.2.2.2.1 x.2.2.2.2.2.1
noncomputable def t_law18_its_0 (k0 : Int → D_frame_Frame → ByteArray → ByteArray → ByteArray → Int → Int → Int → Int → Int → Int → Int → Int → Bool → ByteArray → ByteArray → ByteArray → (List D_ranges_Range) → Option (D_frame_Frame × Unit)) (i23 : Int) (d24 : D_frame_Frame) (s25 : ByteArray) (s26 : ByteArray) (s27 : ByteArray) (i28 : Int) (i29 : Int) (i30 : Int) (i31 : Int) (i32 : Int) (i33 : Int) (i34 : Int) (i35 : Int) (b36 : Bool) (s37 : ByteArray) (s38 : ByteArray) (s39 : ByteArray) (l40 : (List D_ranges_Range)) : Option (D_frame_Frame × Unit) :=
 let n41 : Int := (((List.length d24.2.2.2.2.2.2.2.2.2.2.2.2.1) : Nat) : Int)
 let b42 : Bool := (decide (i23 < n41))
 bif b42 then
  bif (decide (((0 : Int) ≤ i23) ∧ (i23 < (((List.length d24.2.2.2.2.2.2.2.2.2.2.2.2.1) : Nat) : Int)))) then
   let x43 : D_ranges_Range := (List.getD d24.2.2.2.2.2.2.2.2.2.2.2.2.1 (Int.toNat i23) (Ty.dflt T_ranges_Range))
   let e44 : (Int × (Int × Unit)) := (x43.1, (x43.2.1, ()))
   bif (decide (((List.length l40) + (List.length (e44 :: ([] : List D_ranges_Range)))) ≤ 4294967296)) then
    let l45 : (List D_ranges_Range) := (l40 ++ (e44 :: ([] : List D_ranges_Range)))
    let n46 : Int := (Go.IntKind.wrap Go.IntKind.i64 (i23 + (1 : Int)))
    k0 n46 d24 s25 s26 s27 i28 i29 i30 i31 i32 i33 i34 i35 b36 s37 s38 s39 l45
   else none
  else none
 else
  some ((i28, (i29, (i30, (i31, (i32, (i33, (i34, (i35, (b36, (s37, (s38, (s39, (l40, ()))))))))))))), ())
noncomputable def law18_its_0 : Nat → Int → D_frame_Frame → ByteArray → ByteArray → ByteArray → Int → Int → Int → Int → Int → Int → Int → Int → Bool → ByteArray → ByteArray → ByteArray → (List D_ranges_Range) → Option (D_frame_Frame × Unit)
 | 0 => fun _ _ _ _ _ _ _ _ _ _ _ _ _ _ _ _ _ _ => none
 | m + 1 => t_law18_its_0 (law18_its_0 m)
noncomputable def b_law18_its_0' (i23 : Int) (d24 : D_frame_Frame) (s25 : ByteArray) (s26 : ByteArray) (s27 : ByteArray) (i28 : Int) (i29 : Int) (i30 : Int) (i31 : Int) (i32 : Int) (i33 : Int) (i34 : Int) (i35 : Int) (b36 : Bool) (s37 : ByteArray) (s38 : ByteArray) (s39 : ByteArray) (l40 : (List D_ranges_Range)) : Option (D_frame_Frame × Unit) := law18_its_0 (Int.toNat ((((List.length d24.2.2.2.2.2.2.2.2.2.2.2.2.1) : Nat) : Int) - i23) + 2) i23 d24 s25 s26 s27 i28 i29 i30 i31 i32 i33 i34 i35 b36 s37 s38 s39 l40
theorem ex_law18_its_0' : ∃ f, f = @b_law18_its_0' := ⟨_, rfl⟩
noncomputable def law18_its_0' := Classical.choose ex_law18_its_0'
theorem law18_its_0'_eq : @law18_its_0' = @b_law18_its_0' := Classical.choose_spec ex_law18_its_0'
theorem s_law18_its_0 {base S0 cs0} (hfin : H_law18_its base S0) : ∀ m, J_law18_its base S0 cs0 p_law18_its_0 (u_law18_its_0 (law18_its_0 m)) :=
 JSound.loop' hfin.2 ks_law18_its 100000 u_law18_its_0 (fun k0 => cut p_law18_its_0 (u_law18_its_0 k0) (nowhere)) (fun k0 h0 => OSound.cut (OSound.nowhere) (Nat.le_of_eq hfin.1) h0) (law18_its_0) (by intro x; rfl) (by intro m x; kernel_rfl)
theorem s_law18_its_0' {base S0 cs0} (hfin : H_law18_its base S0) : J_law18_its base S0 cs0 p_law18_its_0 (u_law18_its_0 (law18_its_0')) := by
 rw [law18_its_0'_eq]; exact fun x r hx => s_law18_its_0 hfin _ x r hx
noncomputable def x_law18_its_0 : Cfg → Option (Option (D_frame_Frame × Unit)) := cut p_law18_its_0 (u_law18_its_0 (law18_its_0')) (nowhere)
theorem o_law18_its_0 {base S0 cs0} (hfin : H_law18_its base S0) : O_law18_its base S0 cs0 (x_law18_its_0) := OSound.cut (OSound.nowhere) (Nat.le_of_eq hfin.1) (s_law18_its_0' hfin)
noncomputable def b_law18_its (a0 : D_frame_Frame) : Option (D_frame_Frame × Unit) :=
 let s1 : ByteArray := (ByteArray.mk (List.toArray ([] : List UInt8)))
 let s2 : ByteArray := (ByteArray.mk (List.toArray ([] : List UInt8)))
 law18_its_0' (0 : Int) a0 s1 s1 s1 a0.1 a0.2.1 a0.2.2.1 a0.2.2.2.1 a0.2.2.2.2.1 a0.2.2.2.2.2.1 a0.2.2.2.2.2.2.1 a0.2.2.2.2.2.2.2.1 a0.2.2.2.2.2.2.2.2.1 a0.2.2.2.2.2.2.2.2.2.1 a0.2.2.2.2.2.2.2.2.2.2.1 a0.2.2.2.2.2.2.2.2.2.2.2.1 ([] : List D_ranges_Range)
theorem ex_law18_its : ∃ f, f = @b_law18_its := ⟨_, rfl⟩
noncomputable def law18_its := Classical.choose ex_law18_its
theorem law18_its_eq : @law18_its = @b_law18_its := Classical.choose_spec ex_law18_its
noncomputable def cb_law18_its : Con := ⟨[T_frame_Frame], r_law18_its, fun x => b_law18_its x.1⟩
noncomputable def c_law18_its : Con := ⟨[T_frame_Frame], r_law18_its, fun x => law18_its x.1⟩
theorem cb_law18_its_ok : cb_law18_its.Sound prog Inv gInv 12 :=
 con_run (M := m_law18_its) inv_g (f := f12) rfl ks_law18_its 100000 (X := x_law18_its_0) (fun base S0 cs0 hn hf => have hfin : H_law18_its base S0 := ⟨hn, hf⟩; o_law18_its_0 hfin) (by intro x; kernel_rfl)
theorem c_law18_its_ok : c_law18_its.Sound prog Inv gInv 12 := by
 have e : c_law18_its = cb_law18_its := by unfold c_law18_its cb_law18_its; rw [law18_its_eq]
 rw [e]; exact cb_law18_its_ok
end Go.Proofs.YtjlfmolfcgennaaDoor.V
namespace Go.Proofs.YtjlfmolfcgennaaDoor.V
open Go.RowKit
set_option linter.unusedVariables false
theorem its18_loop (f : D_frame_Frame) (s1 s2 s3 : ByteArray) (i1 i2 i3 i4 i5 i6 i7 i8 : Int) (b : Bool) (t1 t2 t3 : ByteArray) (hl : f.2.2.2.2.2.2.2.2.2.2.2.2.1.length ≤ 1000000) : ∀ (suf pre : List D_ranges_Range) (m : Nat), suf.length < m → f.2.2.2.2.2.2.2.2.2.2.2.2.1 = pre ++ suf →
  law18_its_0 m ((pre.length : Nat) : Int) f s1 s2 s3 i1 i2 i3 i4 i5 i6 i7 i8 b t1 t2 t3 pre = some ((i1, (i2, (i3, (i4, (i5, (i6, (i7, (i8, (b, (t1, (t2, (t3, (pre ++ suf, ()))))))))))))), ()) := by
 intro suf
 induction suf with
 | nil =>
  intro pre m hm e
  obtain ⟨m, rfl⟩ : ∃ k, m = k + 1 := ⟨m - 1, by omega⟩
  rw [List.append_nil] at e
  simp only [law18_its_0, t_law18_its_0, e, Int.lt_irrefl, decide_false, cond_false, List.append_nil]
 | cons x suf ih =>
  intro pre m hm e
  obtain ⟨m, rfl⟩ : ∃ k, m = k + 1 := ⟨m - 1, by omega⟩
  have hl' : (pre ++ x :: suf).length ≤ 1000000 := by rw [← e]; exact hl
  have c : pre.length + [((x.1, (x.2.1, ())) : D_ranges_Range)].length ≤ 4294967296 := by simp at hl' ⊢; omega
  have ex : ((x.1, (x.2.1, ())) : D_ranges_Range) = x := rfl
  simp only [law18_its_0, t_law18_its_0, e, mid_lt, nn, and_true, decide_true, cond_true, toNat_len, getD_mid, c]
  rw [mid_next pre x x suf (by omega), ex, ih (pre ++ [x]) m (by simp at hm; omega) (by rw [e]; simp)]
  simp
theorem its18_is (f : D_frame_Frame) (hl : f.2.2.2.2.2.2.2.2.2.2.2.2.1.length ≤ 1000000) : law18_its f = some (f, ()) := by
 rw [law18_its_eq, b_law18_its]
 rw [law18_its_0'_eq, b_law18_its_0']
 have := its18_loop f eB eB eB f.1 f.2.1 f.2.2.1 f.2.2.2.1 f.2.2.2.2.1 f.2.2.2.2.2.1 f.2.2.2.2.2.2.1 f.2.2.2.2.2.2.2.1 f.2.2.2.2.2.2.2.2.1 f.2.2.2.2.2.2.2.2.2.1 f.2.2.2.2.2.2.2.2.2.2.1 f.2.2.2.2.2.2.2.2.2.2.2.1 hl f.2.2.2.2.2.2.2.2.2.2.2.2.1 [] (Int.toNat (((f.2.2.2.2.2.2.2.2.2.2.2.2.1.length : Nat) : Int) - 0) + 2) (by omega) rfl
 exact this
end Go.Proofs.YtjlfmolfcgennaaDoor.V
namespace Go.Proofs.YtjlfmolfcgennaaDoor.V
open Go.RowKit Go.Proofs.Tryd
set_option maxRecDepth 100000
set_option linter.unusedVariables false
noncomputable def m_law18_bounded : Mach prog Inv gInv := mach bas [(4, f4)] ⟨ok4, trivial⟩ [] trivial [] trivial [] trivial
/-! ### domino/dominolaw18.bounded -/
@[reducible] def r_law18_bounded : List Ty := [.bool]
def ks_law18_bounded : List Nat := [4]
abbrev H_law18_bounded (base : Base) (S0 : Nat → Prop) := base.n = 0 ∧ FinOk (finR r_law18_bounded) base S0 (Post r_law18_bounded S0)
abbrev J_law18_bounded (base : Base) (S0 : Nat → Prop) (cs0 : List Go.Frame) (p : CPat) (J : denC p → Option (denL r_law18_bounded)) := JSound m_law18_bounded base S0 cs0 (Post r_law18_bounded S0) p J
abbrev O_law18_bounded (base : Base) (S0 : Nat → Prop) (cs0 : List Go.Frame) (X : Cfg → Option (Option (denL r_law18_bounded))) := OSound m_law18_bounded base S0 cs0 (Post r_law18_bounded S0) X
@[reducible] noncomputable def p_law18_bounded_0 : CPat := ⟨⟨4, [1, 0, 1, 0], none, [.rows T_law18_Act false, .any, .any, .int .i64], 27⟩, [], [], 0⟩
@[reducible] noncomputable def u_law18_bounded_0 (k : (List D_law18_Act) → Int → Option (Bool × Unit)) : denC p_law18_bounded_0 → Option (Bool × Unit) := fun x => k x.1.1 x.1.2.2.2.1
noncomputable def t_law18_bounded_0 (k0 : (List D_law18_Act) → Int → Option (Bool × Unit)) (l12 : (List D_law18_Act)) (i13 : Int) : Option (Bool × Unit) :=
 let n14 : Int := (((List.length l12) : Nat) : Int)
 let b15 : Bool := (decide (i13 < n14))
 bif b15 then
  bif (decide (((0 : Int) ≤ i13) ∧ (i13 < (((List.length l12) : Nat) : Int)))) then
   let x16 : D_law18_Act := (List.getD l12 (Int.toNat i13) (Ty.dflt T_law18_Act))
   let n17 : Int := (((ByteArray.size x16.2.2.1.2.2.2.2.2.2.2.2.2.1) : Nat) : Int)
   let b18 : Bool := (decide (n17 > (100 : Int)))
   bif b18 then
    some (false, ())
   else
    bif (decide (((0 : Int) ≤ i13) ∧ (i13 < (((List.length l12) : Nat) : Int)))) then
     let x19 : D_law18_Act := (List.getD l12 (Int.toNat i13) (Ty.dflt T_law18_Act))
     let n20 : Int := (((List.length x19.2.2.1.2.2.2.2.2.2.2.2.2.2.2.2.1) : Nat) : Int)
     let b21 : Bool := (decide (n20 > (5 : Int)))
     bif b21 then
      some (false, ())
     else
      let n24 : Int := (Go.IntKind.wrap Go.IntKind.i64 (i13 + (1 : Int)))
      k0 l12 n24
    else none
  else none
 else
  let n22 : Int := (((List.length l12) : Nat) : Int)
  let b23 : Bool := (decide (n22 ≤ (60 : Int)))
  some (b23, ())
noncomputable def law18_bounded_0 : Nat → (List D_law18_Act) → Int → Option (Bool × Unit)
 | 0 => fun _ _ => none
 | m + 1 => t_law18_bounded_0 (law18_bounded_0 m)
noncomputable def b_law18_bounded_0' (l12 : (List D_law18_Act)) (i13 : Int) : Option (Bool × Unit) := law18_bounded_0 (Int.toNat ((((List.length l12) : Nat) : Int) - i13) + 2) l12 i13
theorem ex_law18_bounded_0' : ∃ f, f = @b_law18_bounded_0' := ⟨_, rfl⟩
noncomputable def law18_bounded_0' := Classical.choose ex_law18_bounded_0'
theorem law18_bounded_0'_eq : @law18_bounded_0' = @b_law18_bounded_0' := Classical.choose_spec ex_law18_bounded_0'
theorem s_law18_bounded_0 {base S0 cs0} (hfin : H_law18_bounded base S0) : ∀ m, J_law18_bounded base S0 cs0 p_law18_bounded_0 (u_law18_bounded_0 (law18_bounded_0 m)) :=
 JSound.loop' hfin.2 ks_law18_bounded 100000 u_law18_bounded_0 (fun k0 => cut p_law18_bounded_0 (u_law18_bounded_0 k0) (nowhere)) (fun k0 h0 => OSound.cut (OSound.nowhere) (Nat.le_of_eq hfin.1) h0) (law18_bounded_0) (by intro x; rfl) (by intro m x; kernel_rfl)
theorem s_law18_bounded_0' {base S0 cs0} (hfin : H_law18_bounded base S0) : J_law18_bounded base S0 cs0 p_law18_bounded_0 (u_law18_bounded_0 (law18_bounded_0')) := by
 rw [law18_bounded_0'_eq]; exact fun x r hx => s_law18_bounded_0 hfin _ x r hx
noncomputable def x_law18_bounded_0 : Cfg → Option (Option (Bool × Unit)) := cut p_law18_bounded_0 (u_law18_bounded_0 (law18_bounded_0')) (nowhere)
theorem o_law18_bounded_0 {base S0 cs0} (hfin : H_law18_bounded base S0) : O_law18_bounded base S0 cs0 (x_law18_bounded_0) := OSound.cut (OSound.nowhere) (Nat.le_of_eq hfin.1) (s_law18_bounded_0' hfin)
noncomputable def b_law18_bounded (a0 : (List D_law18_Act)) : Option (Bool × Unit) :=
 law18_bounded_0' a0 (0 : Int)
theorem ex_law18_bounded : ∃ f, f = @b_law18_bounded := ⟨_, rfl⟩
noncomputable def law18_bounded := Classical.choose ex_law18_bounded
theorem law18_bounded_eq : @law18_bounded = @b_law18_bounded := Classical.choose_spec ex_law18_bounded
noncomputable def cb_law18_bounded : Con := ⟨[(.slice T_law18_Act)], r_law18_bounded, fun x => b_law18_bounded x.1⟩
noncomputable def c_law18_bounded : Con := ⟨[(.slice T_law18_Act)], r_law18_bounded, fun x => law18_bounded x.1⟩
theorem cb_law18_bounded_ok : cb_law18_bounded.Sound prog Inv gInv 4 :=
 con_run (M := m_law18_bounded) inv_g (f := f4) rfl ks_law18_bounded 100000 (X := x_law18_bounded_0) (fun base S0 cs0 hn hf => have hfin : H_law18_bounded base S0 := ⟨hn, hf⟩; o_law18_bounded_0 hfin) (by intro x; kernel_rfl)
theorem c_law18_bounded_ok : c_law18_bounded.Sound prog Inv gInv 4 := by
 have e : c_law18_bounded = cb_law18_bounded := by unfold c_law18_bounded cb_law18_bounded; rw [law18_bounded_eq]
 rw [e]; exact cb_law18_bounded_ok
noncomputable def m_law18_IdsOnce : Mach prog Inv gInv := mach bas [(3, f3)] ⟨ok3, trivial⟩ [(4, c_law18_bounded), (5, c_law18_shown), (6, c_ids_New), (7, c_ids_Cid), (8, c_ids_Fill), (9, c_ids_Take), (10, c_ids_Next), (11, c_ref06_May), (12, c_law18_its), (13, c_ids_On)] ⟨⟨c_law18_bounded_ok, FnOk.callable ok4⟩, ⟨c_law18_shown_ok, FnOk.callable ok5⟩, ⟨c_ids_New_ok, FnOk.callable ok6⟩, ⟨c_ids_Cid_ok, FnOk.callable ok7⟩, ⟨c_ids_Fill_ok, FnOk.callable ok8⟩, ⟨c_ids_Take_ok, FnOk.callable ok9⟩, ⟨c_ids_Next_ok, FnOk.callable ok10⟩, ⟨c_ref06_May_ok, FnOk.callable ok11⟩, ⟨c_law18_its_ok, FnOk.callable ok12⟩, ⟨c_ids_On_ok, FnOk.callable ok13⟩, trivial⟩ [] trivial [] trivial
/-! ### domino/dominolaw18.IdsOnce -/
@[reducible] def r_law18_IdsOnce : List Ty := [.bool]
def ks_law18_IdsOnce : List Nat := [3]
abbrev H_law18_IdsOnce (base : Base) (S0 : Nat → Prop) := base.n = 0 ∧ FinOk (finR r_law18_IdsOnce) base S0 (Post r_law18_IdsOnce S0)
abbrev J_law18_IdsOnce (base : Base) (S0 : Nat → Prop) (cs0 : List Go.Frame) (p : CPat) (J : denC p → Option (denL r_law18_IdsOnce)) := JSound m_law18_IdsOnce base S0 cs0 (Post r_law18_IdsOnce S0) p J
abbrev O_law18_IdsOnce (base : Base) (S0 : Nat → Prop) (cs0 : List Go.Frame) (X : Cfg → Option (Option (denL r_law18_IdsOnce))) := OSound m_law18_IdsOnce base S0 cs0 (Post r_law18_IdsOnce S0) X
@[reducible] noncomputable def p_law18_IdsOnce_1 : CPat := ⟨⟨3, [1, 1, 1, 1, 1, 0, 1, 0], none, [.any, .rows T_law18_Act false, .any, .any, .any, .ptr 0 0, .mp 1, .str, .int .i64], 149⟩, [], [.dat 29 T_ids_State, .map .str (.int .i64)], 0⟩
@[reducible] noncomputable def u_law18_IdsOnce_1 (k : (List D_law18_Act) → ByteArray → Int → D_ids_State → (List (ByteArray × Int)) → Option (Bool × Unit)) : denC p_law18_IdsOnce_1 → Option (Bool × Unit) := fun x => k x.1.2.1 x.1.2.2.2.2.2.2.2.1 x.1.2.2.2.2.2.2.2.2.1 x.2.2.1 x.2.2.2.1
@[reducible] noncomputable def p_law18_IdsOnce_13 : CPat := ⟨⟨3, [1, 1, 1, 1, 1, 0, 1, 0, 0, 1, 0, 0, 1, 1, 1, 1, 1, 1, 0], none, [.any, .rows T_law18_Act false, .any, .any, .any, .ptr 0 0, .mp 1, .str, .int .i64, .any, .mp 2, .int .i64], 146⟩, [], [.dat 29 T_ids_State, .map .str (.int .i64), .map .str (.int .i64)], 0⟩
@[reducible] noncomputable def u_law18_IdsOnce_13 (k : (List D_law18_Act) → ByteArray → Int → Int → D_ids_State → (List (ByteArray × Int)) → (List (ByteArray × Int)) → Option (Bool × Unit)) : denC p_law18_IdsOnce_13 → Option (Bool × Unit) := fun x => k x.1.2.1 x.1.2.2.2.2.2.2.2.1 x.1.2.2.2.2.2.2.2.2.1 x.1.2.2.2.2.2.2.2.2.2.2.2.1 x.2.2.1 x.2.2.2.1 x.2.2.2.2.1
noncomputable def t_law18_IdsOnce_13 (k13 : (List D_law18_Act) → ByteArray → Int → Int → D_ids_State → (List (ByteArray × Int)) → (List (ByteArray × Int)) → Option (Bool × Unit)) (k1 : (List D_law18_Act) → ByteArray → Int → D_ids_State → (List (ByteArray × Int)) → Option (Bool × Unit)) (l212 : (List D_law18_Act)) (s213 : ByteArray) (i214 : Int) (i215 : Int) (d216 : D_ids_State) (m217 : (List (ByteArray × Int))) (m218 : (List (ByteArray × Int))) : Option (Bool × Unit) :=
 let n219 : Int := (((List.length d216.2.2.2.1) : Nat) : Int)
 let b220 : Bool := (decide (i215 < n219))
 bif b220 then
  bif (decide (((0 : Int) ≤ i215) ∧ (i215 < (((List.length d216.2.2.2.1) : Nat) : Int)))) then
   let x221 : D_ids_Own := (List.getD d216.2.2.2.1 (Int.toNat i215) (Ty.dflt T_ids_Own))
   let n222 : Int := (mget Ty.str (Ty.int Go.IntKind.i64) m218 x221.2.1)
   let n223 : Int := (Go.IntKind.wrap Go.IntKind.i64 (n222 + (1 : Int)))
   let m224 : (List (ByteArray × Int)) := (mset Ty.str (Ty.int Go.IntKind.i64) m218 x221.2.1 n223)
   bif (decide (((0 : Int) ≤ i215) ∧ (i215 < (((List.length d216.2.2.2.1) : Nat) : Int)))) then
    let x225 : D_ids_Own := (List.getD d216.2.2.2.1 (Int.toNat i215) (Ty.dflt T_ids_Own))
    let n226 : Int := (mget Ty.str (Ty.int Go.IntKind.i64) m224 x225.2.1)
    let b227 : Bool := (decide (n226 > (1 : Int)))
    bif b227 then
     some (false, ())
    else
     bif (decide (((0 : Int) ≤ i215) ∧ (i215 < (((List.length d216.2.2.2.1) : Nat) : Int)))) then
      let x228 : D_ids_Own := (List.getD d216.2.2.2.1 (Int.toNat i215) (Ty.dflt T_ids_Own))
      let n229 : Int := (Go.IntKind.wrap Go.IntKind.u64 i215)
      let b230 : Bool := (x228.1 != n229)
      bif b230 then
       some (false, ())
      else
       let n232 : Int := (Go.IntKind.wrap Go.IntKind.i64 (i215 + (1 : Int)))
       k13 l212 s213 i214 n232 d216 m217 m224
     else none
   else none
  else none
 else
  let n231 : Int := (Go.IntKind.wrap Go.IntKind.i64 (i214 + (1 : Int)))
  k1 l212 s213 n231 d216 m217
noncomputable def law18_IdsOnce_13 (k1 : (List D_law18_Act) → ByteArray → Int → D_ids_State → (List (ByteArray × Int)) → Option (Bool × Unit)) : Nat → (List D_law18_Act) → ByteArray → Int → Int → D_ids_State → (List (ByteArray × Int)) → (List (ByteArray × Int)) → Option (Bool × Unit)
 | 0 => fun _ _ _ _ _ _ _ => none
 | m + 1 => t_law18_IdsOnce_13 (law18_IdsOnce_13 k1 m) k1
noncomputable def b_law18_IdsOnce_13' (k1 : (List D_law18_Act) → ByteArray → Int → D_ids_State → (List (ByteArray × Int)) → Option (Bool × Unit)) (l212 : (List D_law18_Act)) (s213 : ByteArray) (i214 : Int) (i215 : Int) (d216 : D_ids_State) (m217 : (List (ByteArray × Int))) (m218 : (List (ByteArray × Int))) : Option (Bool × Unit) := law18_IdsOnce_13 k1 (Int.toNat ((((List.length d216.2.2.2.1) : Nat) : Int) - i215) + 2) l212 s213 i214 i215 d216 m217 m218
theorem ex_law18_IdsOnce_13' : ∃ f, f = @b_law18_IdsOnce_13' := ⟨_, rfl⟩
noncomputable def law18_IdsOnce_13' := Classical.choose ex_law18_IdsOnce_13'
theorem law18_IdsOnce_13'_eq : @law18_IdsOnce_13' = @b_law18_IdsOnce_13' := Classical.choose_spec ex_law18_IdsOnce_13'
theorem s_law18_IdsOnce_13 {base S0 cs0} (hfin : H_law18_IdsOnce base S0) (k1) (h1 : J_law18_IdsOnce base S0 cs0 p_law18_IdsOnce_1 (u_law18_IdsOnce_1 k1)) : ∀ m, J_law18_IdsOnce base S0 cs0 p_law18_IdsOnce_13 (u_law18_IdsOnce_13 (law18_IdsOnce_13 k1 m)) :=
 JSound.loop' hfin.2 ks_law18_IdsOnce 100000 u_law18_IdsOnce_13 (fun k13 => cut p_law18_IdsOnce_13 (u_law18_IdsOnce_13 k13) (cut p_law18_IdsOnce_1 (u_law18_IdsOnce_1 k1) (nowhere))) (fun k13 h13 => OSound.cut (OSound.cut (OSound.nowhere) (Nat.le_of_eq hfin.1) h1) (Nat.le_of_eq hfin.1) h13) (law18_IdsOnce_13 k1) (by intro x; rfl) (by intro m x; kernel_rfl)
theorem s_law18_IdsOnce_13' {base S0 cs0} (hfin : H_law18_IdsOnce base S0) (k1) (h1 : J_law18_IdsOnce base S0 cs0 p_law18_IdsOnce_1 (u_law18_IdsOnce_1 k1)) : J_law18_IdsOnce base S0 cs0 p_law18_IdsOnce_13 (u_law18_IdsOnce_13 (law18_IdsOnce_13' k1)) := by
 rw [law18_IdsOnce_13'_eq]; exact fun x r hx => s_law18_IdsOnce_13 hfin k1 h1 _ x r hx
noncomputable def x_law18_IdsOnce_13 (k1 : (List D_law18_Act) → ByteArray → Int → D_ids_State → (List (ByteArray × Int)) → Option (Bool × Unit)) : Cfg → Option (Option (Bool × Unit)) := cut p_law18_IdsOnce_13 (u_law18_IdsOnce_13 (law18_IdsOnce_13' k1)) (cut p_law18_IdsOnce_1 (u_law18_IdsOnce_1 k1) (nowhere))
theorem o_law18_IdsOnce_13 {base S0 cs0} (hfin : H_law18_IdsOnce base S0) (k1) (h1 : J_law18_IdsOnce base S0 cs0 p_law18_IdsOnce_1 (u_law18_IdsOnce_1 k1)) : O_law18_IdsOnce base S0 cs0 (x_law18_IdsOnce_13 k1) := OSound.cut (OSound.cut (OSound.nowhere) (Nat.le_of_eq hfin.1) h1) (Nat.le_of_eq hfin.1) (s_law18_IdsOnce_13' hfin k1 h1)
@[reducible] noncomputable def p_law18_IdsOnce_10 : CPat := ⟨⟨3, [1, 1, 1, 1, 1, 0, 1, 0, 0, 1, 0, 0, 1, 1, 1, 0, 1, 0], none, [.any, .rows T_law18_Act false, .any, .any, .any, .ptr 0 0, .mp 1, .str, .int .i64, .int .i64], 148⟩, [], [.dat 29 T_ids_State, .map .str (.int .i64)], 0⟩
@[reducible] noncomputable def u_law18_IdsOnce_10 (k : (List D_law18_Act) → ByteArray → Int → Int → D_ids_State → (List (ByteArray × Int)) → Option (Bool × Unit)) : denC p_law18_IdsOnce_10 → Option (Bool × Unit) := fun x => k x.1.2.1 x.1.2.2.2.2.2.2.2.1 x.1.2.2.2.2.2.2.2.2.1 x.1.2.2.2.2.2.2.2.2.2.1 x.2.2.1 x.2.2.2.1
@[reducible] noncomputable def p_law18_IdsOnce_12 : CPat := ⟨⟨3, [1, 1, 1, 1, 1, 0, 1, 0, 0, 1, 0, 0, 1, 1, 1, 0, 1, 0, 0, 1, 0, 0, 1, 1], none, [.any, .rows T_law18_Act false, .any, .any, .any, .ptr 0 0, .mp 1, .str, .int .i64, .int .i64], 148⟩, [], [.dat 29 T_ids_State, .map .str (.int .i64)], 0⟩
@[reducible] noncomputable def u_law18_IdsOnce_12 (k : (List D_law18_Act) → ByteArray → Int → Int → D_ids_State → (List (ByteArray × Int)) → Option (Bool × Unit)) : denC p_law18_IdsOnce_12 → Option (Bool × Unit) := fun x => k x.1.2.1 x.1.2.2.2.2.2.2.2.1 x.1.2.2.2.2.2.2.2.2.1 x.1.2.2.2.2.2.2.2.2.2.1 x.2.2.1 x.2.2.2.1
noncomputable def b_law18_IdsOnce_12 (k10 : (List D_law18_Act) → ByteArray → Int → Int → D_ids_State → (List (ByteArray × Int)) → Option (Bool × Unit)) (k1 : (List D_law18_Act) → ByteArray → Int → D_ids_State → (List (ByteArray × Int)) → Option (Bool × Unit)) (l187 : (List D_law18_Act)) (s188 : ByteArray) (i189 : Int) (i190 : Int) (d191 : D_ids_State) (m192 : (List (ByteArray × Int))) : Option (Bool × Unit) :=
 let n193 : Int := (Go.IntKind.wrap Go.IntKind.i64 (i190 + (1 : Int)))
 k10 l187 s188 i189 n193 d191 m192
theorem ex_law18_IdsOnce_12 : ∃ f, f = @b_law18_IdsOnce_12 := ⟨_, rfl⟩
noncomputable def law18_IdsOnce_12 := Classical.choose ex_law18_IdsOnce_12
theorem law18_IdsOnce_12_eq : @law18_IdsOnce_12 = @b_law18_IdsOnce_12 := Classical.choose_spec ex_law18_IdsOnce_12
theorem s_law18_IdsOnce_12 {base S0 cs0} (hfin : H_law18_IdsOnce base S0) (k10) (k1) (h10 : J_law18_IdsOnce base S0 cs0 p_law18_IdsOnce_10 (u_law18_IdsOnce_10 k10)) (h1 : J_law18_IdsOnce base S0 cs0 p_law18_IdsOnce_1 (u_law18_IdsOnce_1 k1)) : J_law18_IdsOnce base S0 cs0 p_law18_IdsOnce_12 (u_law18_IdsOnce_12 (law18_IdsOnce_12 k10 k1)) :=
 JSound.join hfin.2 (OSound.cut (o_law18_IdsOnce_13 hfin k1 h1) (Nat.le_of_eq hfin.1) h10) ks_law18_IdsOnce 100000 (by rw [law18_IdsOnce_12_eq]; intro x; kernel_rfl)
noncomputable def x_law18_IdsOnce_12 (k10 : (List D_law18_Act) → ByteArray → Int → Int → D_ids_State → (List (ByteArray × Int)) → Option (Bool × Unit)) (k1 : (List D_law18_Act) → ByteArray → Int → D_ids_State → (List (ByteArray × Int)) → Option (Bool × Unit)) : Cfg → Option (Option (Bool × Unit)) := cut p_law18_IdsOnce_12 (u_law18_IdsOnce_12 (law18_IdsOnce_12 k10 k1)) (cut p_law18_IdsOnce_10 (u_law18_IdsOnce_10 k10) (x_law18_IdsOnce_13 k1))
theorem o_law18_IdsOnce_12 {base S0 cs0} (hfin : H_law18_IdsOnce base S0) (k10) (k1) (h10 : J_law18_IdsOnce base S0 cs0 p_law18_IdsOnce_10 (u_law18_IdsOnce_10 k10)) (h1 : J_law18_IdsOnce base S0 cs0 p_law18_IdsOnce_1 (u_law18_IdsOnce_1 k1)) : O_law18_IdsOnce base S0 cs0 (x_law18_IdsOnce_12 k10 k1) := OSound.cut (OSound.cut (o_law18_IdsOnce_13 hfin k1 h1) (Nat.le_of_eq hfin.1) h10) (Nat.le_of_eq hfin.1) (s_law18_IdsOnce_12 hfin k10 k1 h10 h1)
noncomputable def t_law18_IdsOnce_10 (k10 : (List D_law18_Act) → ByteArray → Int → Int → D_ids_State → (List (ByteArray × Int)) → Option (Bool × Unit)) (k1 : (List D_law18_Act) → ByteArray → Int → D_ids_State → (List (ByteArray × Int)) → Option (Bool × Unit)) (l175 : (List D_law18_Act)) (s176 : ByteArray) (i177 : Int) (i178 : Int) (d179 : D_ids_State) (m180 : (List (ByteArray × Int))) : Option (Bool × Unit) :=
 let n181 : Int := (((List.length d179.2.2.2.2.1) : Nat) : Int)
 let b182 : Bool := (decide (i178 < n181))
 bif b182 then
  bif (decide (((0 : Int) ≤ i178) ∧ (i178 < (((List.length d179.2.2.2.2.1) : Nat) : Int)))) then
   let x183 : D_ids_Given := (List.getD d179.2.2.2.2.1 (Int.toNat i178) (Ty.dflt T_ids_Given))
   let b184 : Bool := (x183.1 == d179.2.2.2.2.2.2.1)
   bif b184 then
    bif (decide (((0 : Int) ≤ i178) ∧ (i178 < (((List.length d179.2.2.2.2.1) : Nat) : Int)))) then
     let x185 : D_ids_Given := (List.getD d179.2.2.2.2.1 (Int.toNat i178) (Ty.dflt T_ids_Given))
     bif x185.2.2.2.2.1 then
      some (false, ())
     else
      law18_IdsOnce_12 k10 k1 l175 s176 i177 i178 d179 m180
    else none
   else
    law18_IdsOnce_12 k10 k1 l175 s176 i177 i178 d179 m180
  else none
 else
  law18_IdsOnce_13' k1 l175 s176 i177 (0 : Int) d179 m180 ([] : List (ByteArray × Int))
noncomputable def law18_IdsOnce_10 (k1 : (List D_law18_Act) → ByteArray → Int → D_ids_State → (List (ByteArray × Int)) → Option (Bool × Unit)) : Nat → (List D_law18_Act) → ByteArray → Int → Int → D_ids_State → (List (ByteArray × Int)) → Option (Bool × Unit)
 | 0 => fun _ _ _ _ _ _ => none
 | m + 1 => t_law18_IdsOnce_10 (law18_IdsOnce_10 k1 m) k1
noncomputable def b_law18_IdsOnce_10' (k1 : (List D_law18_Act) → ByteArray → Int → D_ids_State → (List (ByteArray × Int)) → Option (Bool × Unit)) (l175 : (List D_law18_Act)) (s176 : ByteArray) (i177 : Int) (i178 : Int) (d179 : D_ids_State) (m180 : (List (ByteArray × Int))) : Option (Bool × Unit) := law18_IdsOnce_10 k1 (Int.toNat ((((List.length d179.2.2.2.2.1) : Nat) : Int) - i178) + 2) l175 s176 i177 i178 d179 m180
theorem ex_law18_IdsOnce_10' : ∃ f, f = @b_law18_IdsOnce_10' := ⟨_, rfl⟩
noncomputable def law18_IdsOnce_10' := Classical.choose ex_law18_IdsOnce_10'
theorem law18_IdsOnce_10'_eq : @law18_IdsOnce_10' = @b_law18_IdsOnce_10' := Classical.choose_spec ex_law18_IdsOnce_10'
theorem s_law18_IdsOnce_10 {base S0 cs0} (hfin : H_law18_IdsOnce base S0) (k1) (h1 : J_law18_IdsOnce base S0 cs0 p_law18_IdsOnce_1 (u_law18_IdsOnce_1 k1)) : ∀ m, J_law18_IdsOnce base S0 cs0 p_law18_IdsOnce_10 (u_law18_IdsOnce_10 (law18_IdsOnce_10 k1 m)) :=
 JSound.loop' hfin.2 ks_law18_IdsOnce 100000 u_law18_IdsOnce_10 (fun k10 => x_law18_IdsOnce_12 k10 k1) (fun k10 h10 => o_law18_IdsOnce_12 hfin k10 k1 h10 h1) (law18_IdsOnce_10 k1) (by intro x; rfl) (by intro m x; kernel_rfl)
theorem s_law18_IdsOnce_10' {base S0 cs0} (hfin : H_law18_IdsOnce base S0) (k1) (h1 : J_law18_IdsOnce base S0 cs0 p_law18_IdsOnce_1 (u_law18_IdsOnce_1 k1)) : J_law18_IdsOnce base S0 cs0 p_law18_IdsOnce_10 (u_law18_IdsOnce_10 (law18_IdsOnce_10' k1)) := by
 rw [law18_IdsOnce_10'_eq]; exact fun x r hx => s_law18_IdsOnce_10 hfin k1 h1 _ x r hx
noncomputable def x_law18_IdsOnce_10 (k1 : (List D_law18_Act) → ByteArray → Int → D_ids_State → (List (ByteArray × Int)) → Option (Bool × Unit)) : Cfg → Option (Option (Bool × Unit)) := cut p_law18_IdsOnce_10 (u_law18_IdsOnce_10 (law18_IdsOnce_10' k1)) (x_law18_IdsOnce_13 k1)
theorem o_law18_IdsOnce_10 {base S0 cs0} (hfin : H_law18_IdsOnce base S0) (k1) (h1 : J_law18_IdsOnce base S0 cs0 p_law18_IdsOnce_1 (u_law18_IdsOnce_1 k1)) : O_law18_IdsOnce base S0 cs0 (x_law18_IdsOnce_10 k1) := OSound.cut (o_law18_IdsOnce_13 hfin k1 h1) (Nat.le_of_eq hfin.1) (s_law18_IdsOnce_10' hfin k1 h1)
@[reducible] noncomputable def p_law18_IdsOnce_9 : CPat := ⟨⟨3, [1, 1, 1, 1, 1, 0, 1, 0, 0, 1, 0, 0, 1, 1], none, [.any, .rows T_law18_Act false, .any, .any, .any, .ptr 0 0, .mp 1, .str, .int .i64], 149⟩, [], [.dat 29 T_ids_State, .map .str (.int .i64)], 0⟩
@[reducible] noncomputable def u_law18_IdsOnce_9 (k : (List D_law18_Act) → ByteArray → Int → D_ids_State → (List (ByteArray × Int)) → Option (Bool × Unit)) : denC p_law18_IdsOnce_9 → Option (Bool × Unit) := fun x => k x.1.2.1 x.1.2.2.2.2.2.2.2.1 x.1.2.2.2.2.2.2.2.2.1 x.2.2.1 x.2.2.2.1
noncomputable def b_law18_IdsOnce_9 (k1 : (List D_law18_Act) → ByteArray → Int → D_ids_State → (List (ByteArray × Int)) → Option (Bool × Unit)) (l153 : (List D_law18_Act)) (s154 : ByteArray) (i155 : Int) (d156 : D_ids_State) (m157 : (List (ByteArray × Int))) : Option (Bool × Unit) :=
 let n158 : Int := (mget Ty.str (Ty.int Go.IntKind.i64) m157 s154)
 let b159 : Bool := (decide (n158 > (0 : Int)))
 bif b159 then
  some (false, ())
 else
  law18_IdsOnce_10' k1 l153 s154 i155 (0 : Int) d156 m157
theorem ex_law18_IdsOnce_9 : ∃ f, f = @b_law18_IdsOnce_9 := ⟨_, rfl⟩
noncomputable def law18_IdsOnce_9 := Classical.choose ex_law18_IdsOnce_9
theorem law18_IdsOnce_9_eq : @law18_IdsOnce_9 = @b_law18_IdsOnce_9 := Classical.choose_spec ex_law18_IdsOnce_9
theorem s_law18_IdsOnce_9 {base S0 cs0} (hfin : H_law18_IdsOnce base S0) (k1) (h1 : J_law18_IdsOnce base S0 cs0 p_law18_IdsOnce_1 (u_law18_IdsOnce_1 k1)) : J_law18_IdsOnce base S0 cs0 p_law18_IdsOnce_9 (u_law18_IdsOnce_9 (law18_IdsOnce_9 k1)) :=
 JSound.join hfin.2 (o_law18_IdsOnce_10 hfin k1 h1) ks_law18_IdsOnce 100000 (by rw [law18_IdsOnce_9_eq]; intro x; kernel_rfl)
noncomputable def x_law18_IdsOnce_9 (k1 : (List D_law18_Act) → ByteArray → Int → D_ids_State → (List (ByteArray × Int)) → Option (Bool × Unit)) : Cfg → Option (Option (Bool × Unit)) := cut p_law18_IdsOnce_9 (u_law18_IdsOnce_9 (law18_IdsOnce_9 k1)) (x_law18_IdsOnce_10 k1)
theorem o_law18_IdsOnce_9 {base S0 cs0} (hfin : H_law18_IdsOnce base S0) (k1) (h1 : J_law18_IdsOnce base S0 cs0 p_law18_IdsOnce_1 (u_law18_IdsOnce_1 k1)) : O_law18_IdsOnce base S0 cs0 (x_law18_IdsOnce_9 k1) := OSound.cut (o_law18_IdsOnce_10 hfin k1 h1) (Nat.le_of_eq hfin.1) (s_law18_IdsOnce_9 hfin k1 h1)
@[reducible] noncomputable def p_law18_IdsOnce_8 : CPat := ⟨⟨3, [1, 1, 1, 1, 1, 0, 1, 0, 0, 1, 0, 0, 1], none, [.any, .rows T_law18_Act false, .any, .any, .any, .ptr 0 0, .mp 1, .str, .int .i64], 149⟩, [], [.dat 29 T_ids_State, .map .str (.int .i64)], 0⟩
@[reducible] noncomputable def u_law18_IdsOnce_8 (k : (List D_law18_Act) → ByteArray → Int → D_ids_State → (List (ByteArray × Int)) → Option (Bool × Unit)) : denC p_law18_IdsOnce_8 → Option (Bool × Unit) := fun x => k x.1.2.1 x.1.2.2.2.2.2.2.2.1 x.1.2.2.2.2.2.2.2.2.1 x.2.2.1 x.2.2.2.1
noncomputable def b_law18_IdsOnce_8 (k1 : (List D_law18_Act) → ByteArray → Int → D_ids_State → (List (ByteArray × Int)) → Option (Bool × Unit)) (l140 : (List D_law18_Act)) (s141 : ByteArray) (i142 : Int) (d143 : D_ids_State) (m144 : (List (ByteArray × Int))) : Option (Bool × Unit) :=
 obind (ids_Cid d143) fun y145 =>
 let b146 : Bool := (!((ByteArray.toList y145.1) == (ByteArray.toList s141)))
 bif b146 then
  let n147 : Int := (mget Ty.str (Ty.int Go.IntKind.i64) m144 s141)
  let n148 : Int := (Go.IntKind.wrap Go.IntKind.i64 (n147 + (1 : Int)))
  let m149 : (List (ByteArray × Int)) := (mset Ty.str (Ty.int Go.IntKind.i64) m144 s141 n148)
  obind (ids_Cid d143) fun y150 =>
  law18_IdsOnce_9 k1 l140 y150.1 i142 d143 m149
 else
  law18_IdsOnce_9 k1 l140 s141 i142 d143 m144
theorem ex_law18_IdsOnce_8 : ∃ f, f = @b_law18_IdsOnce_8 := ⟨_, rfl⟩
noncomputable def law18_IdsOnce_8 := Classical.choose ex_law18_IdsOnce_8
theorem law18_IdsOnce_8_eq : @law18_IdsOnce_8 = @b_law18_IdsOnce_8 := Classical.choose_spec ex_law18_IdsOnce_8
theorem s_law18_IdsOnce_8 {base S0 cs0} (hfin : H_law18_IdsOnce base S0) (k1) (h1 : J_law18_IdsOnce base S0 cs0 p_law18_IdsOnce_1 (u_law18_IdsOnce_1 k1)) : J_law18_IdsOnce base S0 cs0 p_law18_IdsOnce_8 (u_law18_IdsOnce_8 (law18_IdsOnce_8 k1)) :=
 JSound.join hfin.2 (o_law18_IdsOnce_9 hfin k1 h1) ks_law18_IdsOnce 100000 (by rw [law18_IdsOnce_8_eq]; intro x; kernel_rfl)
noncomputable def x_law18_IdsOnce_8 (k1 : (List D_law18_Act) → ByteArray → Int → D_ids_State → (List (ByteArray × Int)) → Option (Bool × Unit)) : Cfg → Option (Option (Bool × Unit)) := cut p_law18_IdsOnce_8 (u_law18_IdsOnce_8 (law18_IdsOnce_8 k1)) (x_law18_IdsOnce_9 k1)
theorem o_law18_IdsOnce_8 {base S0 cs0} (hfin : H_law18_IdsOnce base S0) (k1) (h1 : J_law18_IdsOnce base S0 cs0 p_law18_IdsOnce_1 (u_law18_IdsOnce_1 k1)) : O_law18_IdsOnce base S0 cs0 (x_law18_IdsOnce_8 k1) := OSound.cut (o_law18_IdsOnce_9 hfin k1 h1) (Nat.le_of_eq hfin.1) (s_law18_IdsOnce_8 hfin k1 h1)
noncomputable def t_law18_IdsOnce_1 (k1 : (List D_law18_Act) → ByteArray → Int → D_ids_State → (List (ByteArray × Int)) → Option (Bool × Unit)) (l116 : (List D_law18_Act)) (s117 : ByteArray) (i118 : Int) (d119 : D_ids_State) (m120 : (List (ByteArray × Int))) : Option (Bool × Unit) :=
 let n121 : Int := (((List.length l116) : Nat) : Int)
 let b122 : Bool := (decide (i118 < n121))
 bif b122 then
  bif (decide (((0 : Int) ≤ i118) ∧ (i118 < (((List.length l116) : Nat) : Int)))) then
   let x123 : D_law18_Act := (List.getD l116 (Int.toNat i118) (Ty.dflt T_law18_Act))
   let b124 : Bool := (x123.1 == (0 : Int))
   bif b124 then
    bif (decide (((0 : Int) ≤ i118) ∧ (i118 < (((List.length l116) : Nat) : Int)))) then
     let x125 : D_law18_Act := (List.getD l116 (Int.toNat i118) (Ty.dflt T_law18_Act))
     obind (ids_Fill d119 x125.2.1) fun y126 =>
     law18_IdsOnce_8 k1 l116 s117 i118 y126.1 m120
    else none
   else
    let b127 : Bool := (x123.1 == (1 : Int))
    bif b127 then
     obind (ids_Take d119) fun y128 =>
     law18_IdsOnce_8 k1 l116 s117 i118 y128.1 m120
    else
     let b129 : Bool := (x123.1 == (2 : Int))
     bif b129 then
      bif (decide (((0 : Int) ≤ i118) ∧ (i118 < (((List.length l116) : Nat) : Int)))) then
       let x130 : D_law18_Act := (List.getD l116 (Int.toNat i118) (Ty.dflt T_law18_Act))
       obind (ids_Next d119 x130.2.1) fun y131 =>
       law18_IdsOnce_8 k1 l116 s117 i118 y131.1 m120
      else none
     else
      bif (decide (((0 : Int) ≤ i118) ∧ (i118 < (((List.length l116) : Nat) : Int)))) then
       let x132 : D_law18_Act := (List.getD l116 (Int.toNat i118) (Ty.dflt T_law18_Act))
       obind (law18_its x132.2.2.1) fun y133 =>
       obind (ref06_May y133.1) fun y134 =>
       let b135 : Bool := (!y134.1)
       bif b135 then
        some (true, ())
       else
        bif (decide (((0 : Int) ≤ i118) ∧ (i118 < (((List.length l116) : Nat) : Int)))) then
         let x136 : D_law18_Act := (List.getD l116 (Int.toNat i118) (Ty.dflt T_law18_Act))
         obind (ids_On d119 x136.2.2.1) fun y137 =>
         law18_IdsOnce_8 k1 l116 s117 i118 y137.1 m120
        else none
      else none
  else none
 else
  some (true, ())
noncomputable def law18_IdsOnce_1 : Nat → (List D_law18_Act) → ByteArray → Int → D_ids_State → (List (ByteArray × Int)) → Option (Bool × Unit)
 | 0 => fun _ _ _ _ _ => none
 | m + 1 => t_law18_IdsOnce_1 (law18_IdsOnce_1 m)
noncomputable def b_law18_IdsOnce_1' (l116 : (List D_law18_Act)) (s117 : ByteArray) (i118 : Int) (d119 : D_ids_State) (m120 : (List (ByteArray × Int))) : Option (Bool × Unit) := law18_IdsOnce_1 (Int.toNat ((((List.length l116) : Nat) : Int) - i118) + 2) l116 s117 i118 d119 m120
theorem ex_law18_IdsOnce_1' : ∃ f, f = @b_law18_IdsOnce_1' := ⟨_, rfl⟩
noncomputable def law18_IdsOnce_1' := Classical.choose ex_law18_IdsOnce_1'
theorem law18_IdsOnce_1'_eq : @law18_IdsOnce_1' = @b_law18_IdsOnce_1' := Classical.choose_spec ex_law18_IdsOnce_1'
theorem s_law18_IdsOnce_1 {base S0 cs0} (hfin : H_law18_IdsOnce base S0) : ∀ m, J_law18_IdsOnce base S0 cs0 p_law18_IdsOnce_1 (u_law18_IdsOnce_1 (law18_IdsOnce_1 m)) :=
 JSound.loop' hfin.2 ks_law18_IdsOnce 100000 u_law18_IdsOnce_1 (fun k1 => x_law18_IdsOnce_8 k1) (fun k1 h1 => o_law18_IdsOnce_8 hfin k1 h1) (law18_IdsOnce_1) (by intro x; rfl) (by intro m x; kernel_rfl)
theorem s_law18_IdsOnce_1' {base S0 cs0} (hfin : H_law18_IdsOnce base S0) : J_law18_IdsOnce base S0 cs0 p_law18_IdsOnce_1 (u_law18_IdsOnce_1 (law18_IdsOnce_1')) := by
 rw [law18_IdsOnce_1'_eq]; exact fun x r hx => s_law18_IdsOnce_1 hfin _ x r hx
noncomputable def x_law18_IdsOnce_1 : Cfg → Option (Option (Bool × Unit)) := cut p_law18_IdsOnce_1 (u_law18_IdsOnce_1 (law18_IdsOnce_1')) (nowhere)
theorem o_law18_IdsOnce_1 {base S0 cs0} (hfin : H_law18_IdsOnce base S0) : O_law18_IdsOnce base S0 cs0 (x_law18_IdsOnce_1) := OSound.cut (OSound.nowhere) (Nat.le_of_eq hfin.1) (s_law18_IdsOnce_1' hfin)
@[reducible] noncomputable def p_law18_IdsOnce_0 : CPat := ⟨⟨3, [1, 0, 1, 0], none, [], 158⟩, [], [], 0⟩
@[reducible] noncomputable def u_law18_IdsOnce_0 (k : Option (Bool × Unit)) : denC p_law18_IdsOnce_0 → Option (Bool × Unit) := fun x => k
noncomputable def b_law18_IdsOnce_0 : Option (Bool × Unit) :=
 obind law18_shown fun y7 =>
 some y7
theorem ex_law18_IdsOnce_0 : ∃ f, f = @b_law18_IdsOnce_0 := ⟨_, rfl⟩
noncomputable def law18_IdsOnce_0 := Classical.choose ex_law18_IdsOnce_0
theorem law18_IdsOnce_0_eq : @law18_IdsOnce_0 = @b_law18_IdsOnce_0 := Classical.choose_spec ex_law18_IdsOnce_0
theorem s_law18_IdsOnce_0 {base S0 cs0} (hfin : H_law18_IdsOnce base S0) : J_law18_IdsOnce base S0 cs0 p_law18_IdsOnce_0 (u_law18_IdsOnce_0 (law18_IdsOnce_0)) :=
 JSound.join hfin.2 (o_law18_IdsOnce_1 hfin) ks_law18_IdsOnce 100000 (by rw [law18_IdsOnce_0_eq]; intro x; kernel_rfl)
noncomputable def x_law18_IdsOnce_0 : Cfg → Option (Option (Bool × Unit)) := cut p_law18_IdsOnce_0 (u_law18_IdsOnce_0 (law18_IdsOnce_0)) (x_law18_IdsOnce_1)
theorem o_law18_IdsOnce_0 {base S0 cs0} (hfin : H_law18_IdsOnce base S0) : O_law18_IdsOnce base S0 cs0 (x_law18_IdsOnce_0) := OSound.cut (o_law18_IdsOnce_1 hfin) (Nat.le_of_eq hfin.1) (s_law18_IdsOnce_0 hfin)
noncomputable def b_law18_IdsOnce (a0 : Int) (a1 : (List D_law18_Act)) : Option (Bool × Unit) :=
 obind (law18_bounded a1) fun y2 =>
 let b3 : Bool := (!y2.1)
 bif b3 then
  law18_IdsOnce_0
 else
  obind law18_shown fun y4 =>
  let b5 : Bool := (!y4.1)
  bif b5 then
   law18_IdsOnce_0
  else
   obind (ids_New a0 (0 : Int)) fun y8 =>
   obind (ids_Cid y8.1) fun y9 =>
   law18_IdsOnce_1' a1 y9.1 (0 : Int) y8.1 ([] : List (ByteArray × Int))
theorem ex_law18_IdsOnce : ∃ f, f = @b_law18_IdsOnce := ⟨_, rfl⟩
noncomputable def law18_IdsOnce := Classical.choose ex_law18_IdsOnce
theorem law18_IdsOnce_eq : @law18_IdsOnce = @b_law18_IdsOnce := Classical.choose_spec ex_law18_IdsOnce
noncomputable def cb_law18_IdsOnce : Con := ⟨[(.int .u64), (.slice T_law18_Act)], r_law18_IdsOnce, fun x => b_law18_IdsOnce x.1 x.2.1⟩
noncomputable def c_law18_IdsOnce : Con := ⟨[(.int .u64), (.slice T_law18_Act)], r_law18_IdsOnce, fun x => law18_IdsOnce x.1 x.2.1⟩
theorem cb_law18_IdsOnce_ok : cb_law18_IdsOnce.Sound prog Inv gInv 3 :=
 con_run (M := m_law18_IdsOnce) inv_g (f := f3) rfl ks_law18_IdsOnce 100000 (X := x_law18_IdsOnce_0) (fun base S0 cs0 hn hf => have hfin : H_law18_IdsOnce base S0 := ⟨hn, hf⟩; o_law18_IdsOnce_0 hfin) (by intro x; kernel_rfl)
theorem c_law18_IdsOnce_ok : c_law18_IdsOnce.Sound prog Inv gInv 3 := by
 have e : c_law18_IdsOnce = cb_law18_IdsOnce := by unfold c_law18_IdsOnce cb_law18_IdsOnce; rw [law18_IdsOnce_eq]
 rw [e]; exact cb_law18_IdsOnce_ok
end Go.Proofs.YtjlfmolfcgennaaDoor.V
namespace Go.Proofs.YtjlfmolfcgennaaDoor.V
open Go.RowKit
set_option linter.unusedVariables false
/-! #### counting -/
abbrev CM : Type := List (ByteArray × Int)
def cnt (m : CM) (c : ByteArray) : Int := mget Ty.str (Ty.int Go.IntKind.i64) m c
theorem eq_str (a b : ByteArray) : eqT Ty.str a b = decide (a = b) := by
 show (a == b) = decide (a = b)
 by_cases h : a = b
 ·
  subst h
  rcases a with ⟨d⟩
  show (d == d) = _
  simp
 ·
  simp only [h, decide_false]
  rcases a with ⟨d⟩
  rcases b with ⟨e⟩
  show (d == e) = false
  exact beq_false_of_ne fun k => h (by rw [k])
theorem cnt_nil (c : ByteArray) : cnt [] c = 0 := rfl
theorem cnt_set : ∀ (m : CM) (a : ByteArray) (x : Int) (c : ByteArray), cnt (mset Ty.str (Ty.int Go.IntKind.i64) m a x) c = if c = a then x else cnt m c := by
 intro m a x c
 unfold cnt mset
 induction m with
 | nil =>
  simp only [mhas, cond_false, List.nil_append, mget, eq_str]
  by_cases h : c = a
  · simp [h]
  · simp [h]
 | cons p m ih =>
  obtain ⟨q, v⟩ := p
  simp only [mhas, midx, mget, eq_str] at ih ⊢
  by_cases h1 : a = q
  ·
   subst h1
   simp only [decide_true, Bool.true_or, cond_true, mput, mget, eq_str]
   by_cases h : c = a
   · simp [h]
   · simp [h]
  ·
   simp only [h1, decide_false, Bool.false_or, cond_false]
   cases hm : mhas Ty.str (Ty.int Go.IntKind.i64) m a with
   | true =>
    rw [hm] at ih
    simp only [cond_true] at ih
    simp only [cond_true, mput, mget, eq_str, ih]
    by_cases h : c = q
    ·
     subst h
     have : ¬ c = a := fun e => h1 e.symm
     simp [this]
    · simp [h]
   | false =>
    rw [hm] at ih
    simp only [cond_false] at ih
    simp only [cond_false, List.cons_append, mget, eq_str, ih]
    by_cases h : c = q
    ·
     subst h
     have : ¬ c = a := fun e => h1 e.symm
     simp [this]
    · simp [h]
/-! #### turns -/
def OwnS (seed : Int) (l : List D_ids_Own) : Prop := ∀ (k : Nat) (h : k < l.length), l[k].1 = ((k : Nat) : Int) ∧ l[k].2.1 = idF seed (placeId 0 ((k : Nat) : Int))
theorem ownS_mod {seed : Int} {l : List D_ids_Own} (h : OwnS seed l) (f : D_ids_Own → D_ids_Own) (hf : ∀ o, (f o).1 = o.1 ∧ (f o).2.1 = o.2.1) (i : Nat) : OwnS seed (l.modify i f) := by
 intro k hk
 have hk' : k < l.length := by simpa using hk
 rw [List.getElem_modify]
 split
 ·
  rw [(hf _).1, (hf _).2]
  exact h k hk'
 · exact h k hk'
theorem ownS_fill {seed : Int} {l : List D_ids_Own} (h : OwnS seed l) (n : Nat) : OwnS seed (l ++ (List.range n).map (fun j => drF seed 0 ((l.length + j : Nat) : Int))) := by
 intro k hk
 rw [List.getElem_append]
 split
 · exact h k (by assumption)
 ·
  rename_i hk2
  rw [List.getElem_map, List.getElem_range]
  have : l.length + (k - l.length) = k := by omega
  rw [this]
  exact ⟨rfl, rfl⟩
theorem ownS_apart {seed : Int} {l : List D_ids_Own} (h : OwnS seed l) (hl : l.length ≤ 1000) {i j : Nat} (hi : i < l.length) (hj : j < l.length) (e : l[i].2.1 = l[j].2.1) : i = j := by
 rw [(h i hi).2, (h j hj).2] at e
 rw [placeId_small 0 _ (.inl rfl) (by omega), placeId_small 0 _ (.inl rfl) (by omega)] at e
 have := idF_inj seed _ _ (by omega) (by omega) e
 omega
def InP (l : List D_ids_Given) : Prop := ∀ g ∈ l, 0 ≤ g.1 ∧ g.1 < 18446744073709551616
theorem inP_keys {l l' : List D_ids_Given} (h : InP l) (e : keysG l' = keysG l) : InP l' := by
 intro g hg
 have : (g.1, g.2.1) ∈ keysG l' := List.mem_map_of_mem (f := fun g : D_ids_Given => (g.1, g.2.1)) hg
 rw [e] at this
 obtain ⟨g', h1, h2⟩ := List.mem_map.mp this
 simp only [Prod.mk.injEq] at h2
 rw [← h2.1]
 exact h g' h1
structure TurnO (sd : Int) (s t : D_ids_State) : Prop where
 one : Step1 s.2.2.2.2.1 s.2.2.2.2.2.2.1 t.2.2.2.2.1 t.2.2.2.2.2.2.1
 seed : t.1 = s.1
 side : t.2.1 = s.2.1
 own : OwnS sd s.2.2.2.1 → OwnS sd t.2.2.2.1
 lenL : t.2.2.2.1.length ≤ s.2.2.2.1.length + 4
 lenP : t.2.2.2.2.1.length ≤ s.2.2.2.2.1.length + 1
 seq : InP s.2.2.2.2.1 → InP t.2.2.2.2.1
structure InvO (sd : Int) (s : D_ids_State) (n : Nat) : Prop where
 seed : s.1 = sd
 side : s.2.1 = 0
 own : OwnS sd s.2.2.2.1
 lenL : s.2.2.2.1.length ≤ 4 * n + 4
 lenP : s.2.2.2.2.1.length ≤ n + 4
 keys : KeysOk s.2.2.2.2.1
 now : NowOk s.2.2.2.2.1 s.2.2.2.2.2.2.1
 seq : InP s.2.2.2.2.1
theorem InvO.turn {seed : Int} {s t : D_ids_State} {n : Nat} (h : InvO seed s n) (k : TurnO seed s t) : InvO seed t (n + 1) :=
 ⟨k.seed.trans h.seed, k.side.trans h.side, k.own h.own, by have := k.lenL; have := h.lenL; omega, by have := k.lenP; have := h.lenP; omega, k.one.keys, k.one.ok, k.seq h.seq⟩
theorem TurnO.refl {seed : Int} {s : D_ids_State} {n : Nat} (h : InvO seed s n) : TurnO seed s s :=
 ⟨⟨ExtG.refl _, h.keys, h.now, fun e => absurd rfl e⟩, rfl, rfl, id, by omega, by omega, id⟩
theorem InvO.rise {seed : Int} {s : D_ids_State} {n : Nat} (h : InvO seed s n) : RisesG s.2.2.2.2.1 := by
 have := h.keys.rise
 unfold keysG at this
 rw [List.pairwise_map] at this
 exact this
theorem InvO.at_now {seed : Int} {s : D_ids_State} {n : Nat} (h : InvO seed s n) : nowI s.2.2.2.2.1 s.2.2.2.2.2.2.1 < s.2.2.2.2.1.length := by
 obtain ⟨g, hg, g1, _⟩ := h.now
 exact (nowI_iff _ _).mpr ⟨g, hg, g1⟩
theorem fill_turn {seed : Int} {s : D_ids_State} {n : Nat} (h : InvO seed s n) (l : List D_ids_Own) (hl : l.length = s.2.2.2.1.length) (ho : OwnS seed s.2.2.2.1 → OwnS seed l) (many : Int) : TurnO seed s (fillId (drF s.1 s.2.1) (setL s l) many) := by
 refine ⟨⟨ExtG.refl _, h.keys, h.now, fun e => absurd rfl e⟩, rfl, rfl, fun hs => ?_, ?_, Nat.le_succ _, id⟩
 ·
  have := ownS_fill (ho hs) ((max 2 (min many 4)).toNat - liveO l)
  show OwnS seed (l ++ (List.range ((max 2 (min many 4)).toNat - liveO l)).map (fun j => drF s.1 s.2.1 ((l.length + j : Nat) : Int)))
  rw [h.seed, h.side]
  exact this
 ·
  show (l ++ (List.range ((max 2 (min many 4)).toNat - liveO l)).map _).length ≤ _
  rw [List.length_append, List.length_map, List.length_range]
  omega
theorem take_turn {seed : Int} {s : D_ids_State} {n : Nat} (h : InvO seed s n) (hn : n ≤ 100) : ∃ t e, ids_Take s = some (t, e) ∧ TurnO seed s t := by
 have hL := h.lenL
 have hP := h.lenP
 rw [take_is s (by omega) (by omega) h.at_now]
 cases ht : takeP s with
 | none => exact ⟨s, _, rfl, TurnO.refl h⟩
 | some t =>
  obtain ⟨h1, h2, h3, h4, h5⟩ := take_step h.keys h.now ht
  refine ⟨t, _, rfl, ⟨h1, h3, h4, fun ho => by rw [h2]; exact ho, by rw [h2]; omega, by omega, fun hp => ?_⟩⟩
  unfold takeP at ht
  cases hm : moveP s.2.2.2.2.1 with
  | none => rw [hm] at ht; cases ht
  | some x =>
   obtain ⟨l, now⟩ := x
   rw [hm] at ht
   simp only [Option.some.injEq] at ht
   subst ht
   obtain ⟨hi, rfl, rfl⟩ := moveP_some hm
   exact inP_keys hp ((keys_modify keeps_ret _ _).trans (keys_modify keeps_use _ _))
theorem next_turn {seed : Int} {s : D_ids_State} {n : Nat} (h : InvO seed s n) (hn : n ≤ 100) (room : Int) : ∃ t e, ids_Next s room = some (t, e) ∧ TurnO seed s t := by
 have hL := h.lenL
 have hP := h.lenP
 rw [next_is s room (by omega) (by omega) (fun o ho => frOk_id _ (.inl rfl) (by
  obtain ⟨k, hk, rfl⟩ := List.getElem_of_mem ho
  have e := (h.own k hk).1
  show 0 ≤ s.2.2.2.1[k].1 ∧ s.2.2.2.1[k].1 < 18446744073709551616
  rw [e]
  omega) (by show (0 : Int) ≤ 0 ∧ (0 : Int) < _; omega)) (fun g hg => frOk_id _ (.inr rfl) (h.seq g hg) (by show (0 : Int) ≤ 0 ∧ (0 : Int) < _; omega))]
 cases ht : nextP (fitR room) (fitO room) ⟨#[]⟩ s with
 | none => exact ⟨s, _, rfl, TurnO.refl h⟩
 | some x =>
  obtain ⟨h1, h2, h3, h4, h5⟩ := next_step h.keys h.now ht
  have h5l : x.1.2.2.2.2.1.length = s.2.2.2.2.1.length := by
   have := congrArg List.length h5
   simpa [keysG] using this
  refine ⟨x.1, _, rfl, ⟨h1, h3, h4, fun ho => ?_, ?_, by omega, fun hp => inP_keys hp h5⟩⟩
  ·
   rcases h2 with h2 | ⟨i, h2⟩
   · rw [h2]; exact ho
   · rw [h2]; exact ownS_mod ho toldO (fun _ => ⟨rfl, rfl⟩) i
  ·
   rcases h2 with h2 | ⟨i, h2⟩
   · rw [h2]; omega
   · rw [h2, List.length_modify]; omega
theorem on_turn {seed : Int} (hseed : InU seed) {s : D_ids_State} {n : Nat} (h : InvO seed s n) (hn : n ≤ 100) (f : D_frame_Frame) (hf : FrOk f) (hq : 0 ≤ f.2.2.2.2.2.1 ∧ f.2.2.2.2.2.1 < 18446744073709551616) : ∃ t e, ids_On s f = some (t, e) ∧ TurnO seed s t := by
 have hL := h.lenL
 have hP := h.lenP
 by_cases k1 : f.1 = 24
 ·
  rw [on_new s f k1 (by omega) (by omega) h.rise (now_put _ _ _ _ _ _ h.at_now)]
  cases ht : newP s f.2.2.2.2.2.1 f.2.2.2.2.2.2.1 f.2.2.2.2.2.2.2.2.2.2.1 f.2.2.2.2.2.2.2.2.2.2.2.1 with
  | none => exact ⟨s, _, rfl, TurnO.refl h⟩
  | some t =>
   obtain ⟨h1, h2, h3, h4, h5, h6⟩ := new_step h.keys h.now ht
   refine ⟨t, _, rfl, ⟨h1, h3, h4, fun ho => by rw [h2]; exact ho, by rw [h2]; omega, h5, fun hp => inP_keys (fun g hg => ?_) h6⟩⟩
   rcases putIn_seq _ _ _ _ g hg with hg | hg
   · exact hp g hg
   · rw [hg]; exact hq
 ·
  by_cases k2 : f.1 = 25
  ·
   rw [on_ret s f k2 hq.1 (by rw [h.seed]; exact hseed) (by omega) (by omega)]
   cases ht : retP (drF s.1 s.2.1) s f.2.2.2.2.2.1 with
   | none => exact ⟨s, _, rfl, TurnO.refl h⟩
   | some t =>
    refine ⟨t, _, rfl, ?_⟩
    unfold retP at ht
    split at ht
    · cases ht
    ·
     split at ht
     ·
      simp only [Option.some.injEq] at ht
      subst ht
      exact fill_turn h _ (List.length_modify ..) (fun ho => ownS_mod ho goneO (fun _ => ⟨rfl, rfl⟩) _) _
     ·
      simp only [Option.some.injEq] at ht
      subst ht
      exact ⟨⟨ExtG.refl _, h.keys, h.now, fun e => absurd rfl e⟩, rfl, rfl, fun ho => ownS_mod ho goneO (fun _ => ⟨rfl, rfl⟩) _, by simp only [setL, List.length_modify]; omega, Nat.le_succ _, id⟩
  ·
   refine ⟨s, (0, ()), ?_, TurnO.refl h⟩
   rw [ids_On_eq, b_ids_On, clone_own _ (by omega), clone_given _ (by omega)]
   have c1 : (f.1 == (24 : Int)) = false := beq_false_of_ne k1
   have c2 : (f.1 == (25 : Int)) = false := beq_false_of_ne k2
   simp only [obind_some, c1, c2, cond_false]
/-! #### what is sent to -/
def cidN (s : D_ids_State) : ByteArray := match s.2.2.2.2.1[nowI s.2.2.2.2.1 s.2.2.2.2.2.2.1]? with | some g => g.2.1 | none => ⟨#[]⟩
theorem cidN_is {l : List D_ids_Given} {s : D_ids_State} (e : s.2.2.2.2.1 = l) (hk : KeysOk l) {g : D_ids_Given} (hg : g ∈ l) (h1 : g.1 = s.2.2.2.2.2.2.1) : cidN s = g.2.1 := by
 subst e
 have hI : nowI s.2.2.2.2.1 s.2.2.2.2.2.2.1 < s.2.2.2.2.1.length := (nowI_iff _ _).mpr ⟨g, hg, h1⟩
 unfold cidN
 rw [List.getElem?_eq_getElem hI]
 exact congrArg (fun g : D_ids_Given => g.2.1) (hk.seq_one (List.getElem_mem hI) hg ((nowI_at hI).trans h1.symm))
def OldO (s : D_ids_State) (n : Nat) (m : CM) : Prop := ∀ c, 0 ≤ cnt m c ∧ cnt m c ≤ n ∧ (cnt m c > 0 → ∃ g ∈ s.2.2.2.2.1, g.2.1 = c ∧ g.2.2.2.2.1 = true)
theorem old_keep {seed : Int} {s t : D_ids_State} {n : Nat} {m : CM} (k : TurnO seed s t) (h : OldO s n m) : OldO t (n + 1) m := by
 intro c
 obtain ⟨h1, h2, h3⟩ := h c
 refine ⟨h1, by omega, fun hc => ?_⟩
 obtain ⟨g, hg, g1, g2⟩ := h3 hc
 obtain ⟨g', k1, k2, k3, k4⟩ := k.one.ext g hg
 exact ⟨g', k1, k3.trans g1, k4 g2⟩
theorem cid_left {seed : Int} {s t : D_ids_State} {n : Nat} (hs : InvO seed s n) (k : TurnO seed s t) (hc : cidN t ≠ cidN s) : ∃ g ∈ t.2.2.2.2.1, g.2.1 = cidN s ∧ g.2.2.2.2.1 = true := by
 obtain ⟨g, hg, g1, g2, g3⟩ := hs.now
 have e1 := cidN_is rfl hs.keys hg g1
 obtain ⟨g', k1, k2, k3, k4⟩ := k.one.ext g hg
 by_cases hn : t.2.2.2.2.2.2.1 = s.2.2.2.2.2.2.1
 ·
  exfalso
  have e2 := cidN_is rfl k.one.keys k1 (k2.trans (g1.trans hn.symm))
  exact hc (e2.trans (k3.trans e1.symm))
 ·
  obtain ⟨x, x1, x2, x3⟩ := k.one.left hn
  have : x = g' := k.one.keys.seq_one x1 k1 (x2.trans (k2.trans g1).symm)
  exact ⟨x, x1, by rw [this]; exact k3.trans e1.symm, x3⟩
theorem old_next {seed : Int} {s t : D_ids_State} {n : Nat} {m : CM} (hs : InvO seed s n) (k : TurnO seed s t) (hc : cidN t ≠ cidN s) (h : OldO s n m) : OldO t (n + 1) (mset Ty.str (Ty.int Go.IntKind.i64) m (cidN s) (cnt m (cidN s) + 1)) := by
 intro c
 rw [cnt_set]
 by_cases e : c = cidN s
 ·
  subst e
  obtain ⟨h1, h2, h3⟩ := h (cidN s)
  simp only [if_true]
  exact ⟨by omega, by omega, fun _ => cid_left hs k hc⟩
 ·
  rw [if_neg e]
  exact old_keep k h c
/-! #### the loops -/
theorem own_loop {seed : Int} (k1 : (List D_law18_Act) → ByteArray → Int → D_ids_State → CM → Option (Bool × Unit)) (l : List D_law18_Act) (c : ByteArray) (i : Int) (d : D_ids_State) (m0 : CM) (ho : OwnS seed d.2.2.2.1) (hl : d.2.2.2.1.length ≤ 1000) :
  ∀ (suf pre : List D_ids_Own) (m : Nat) (seen : CM), d.2.2.2.1 = pre ++ suf → suf.length < m → (∀ (j : Nat) (h : j < d.2.2.2.1.length), pre.length ≤ j → cnt seen d.2.2.2.1[j].2.1 = 0) →
  law18_IdsOnce_13 k1 m l c i ((pre.length : Nat) : Int) d m0 seen = k1 l c (IntKind.wrap .i64 (i + 1)) d m0 := by
 intro suf
 induction suf with
 | nil =>
  intro pre m seen e hm hz
  obtain ⟨m, rfl⟩ : ∃ k, m = k + 1 := ⟨m - 1, by omega⟩
  rw [List.append_nil] at e
  simp only [law18_IdsOnce_13, t_law18_IdsOnce_13, e, Int.lt_irrefl, decide_false, cond_false]
 | cons x suf ih =>
  intro pre m seen e hm hz
  obtain ⟨m, rfl⟩ : ∃ k, m = k + 1 := ⟨m - 1, by omega⟩
  have hpl : (pre ++ x :: suf).length ≤ 1000 := by rw [← e]; exact hl
  have hlt : pre.length < d.2.2.2.1.length := by rw [e]; simp
  have hx : d.2.2.2.1[pre.length] = x := by
   have : (pre ++ x :: suf)[pre.length]'(by simp) = x := by simp
   rw [← this]
   congr 1
  have hx1 := (ho pre.length hlt).1
  rw [hx] at hx1
  have hz0 := hz pre.length hlt (Nat.le_refl _)
  rw [hx] at hz0
  have c1 : cnt seen x.2.1 = mget Ty.str (Ty.int Go.IntKind.i64) seen x.2.1 := rfl
  have w1 : IntKind.wrap .i64 ((0 : Int) + 1) = 1 := rfl
  have c2 : cnt (mset Ty.str (Ty.int Go.IntKind.i64) seen x.2.1 1) x.2.1 = 1 := by rw [cnt_set, if_pos rfl]
  unfold cnt at c2
  have w2 : IntKind.wrap .u64 ((pre.length : Nat) : Int) = ((pre.length : Nat) : Int) := wrap_u64 _ (by omega) (by simp at hpl; omega)
  have c3 : (x.1 != ((pre.length : Nat) : Int)) = false := by rw [hx1]; simp
  simp only [law18_IdsOnce_13, t_law18_IdsOnce_13, e, mid_lt, nn, and_true, decide_true, cond_true, toNat_len, getD_mid, ← c1, hz0, w1, w2, c3, cond_false]
  rw [c2]
  simp only [Int.lt_irrefl, gt_iff_lt, decide_false, cond_false]
  rw [mid_next pre x x suf (by omega)]
  refine ih (pre ++ [x]) m _ (by rw [e]; simp) (by simp at hm; omega) fun j hj hle => ?_
  rw [cnt_set, if_neg fun k => ?_]
  · exact hz j hj (by simp at hle; omega)
  ·
   rw [← hx] at k
   have := ownS_apart ho hl hj hlt k
   simp at hle
   omega
theorem pool_loop {seed : Int} (k1 : (List D_law18_Act) → ByteArray → Int → D_ids_State → CM → Option (Bool × Unit)) (l : List D_law18_Act) (c : ByteArray) (i : Int) (d : D_ids_State) (m0 : CM) (ho : OwnS seed d.2.2.2.1) (hl : d.2.2.2.1.length ≤ 1000) (hp : d.2.2.2.2.1.length ≤ 1000) (hg : ∀ g ∈ d.2.2.2.2.1, g.1 = d.2.2.2.2.2.2.1 → g.2.2.2.2.1 = false) :
  ∀ (suf pre : List D_ids_Given) (m : Nat), d.2.2.2.2.1 = pre ++ suf → suf.length < m →
  law18_IdsOnce_10 k1 m l c i ((pre.length : Nat) : Int) d m0 = k1 l c (IntKind.wrap .i64 (i + 1)) d m0 := by
 intro suf
 induction suf with
 | nil =>
  intro pre m e hm
  obtain ⟨m, rfl⟩ : ∃ k, m = k + 1 := ⟨m - 1, by omega⟩
  rw [List.append_nil] at e
  simp only [law18_IdsOnce_10, t_law18_IdsOnce_10, e, Int.lt_irrefl, decide_false, cond_false, law18_IdsOnce_13'_eq, b_law18_IdsOnce_13']
  exact own_loop k1 l c i d m0 ho hl d.2.2.2.1 [] _ [] rfl (by omega) (fun _ _ _ => rfl)
 | cons x suf ih =>
  intro pre m e hm
  obtain ⟨m, rfl⟩ : ∃ k, m = k + 1 := ⟨m - 1, by omega⟩
  have hpl : (pre ++ x :: suf).length ≤ 1000 := by rw [← e]; exact hp
  have hx : x ∈ d.2.2.2.2.1 := by rw [e]; simp
  have nx := ih (pre ++ [x]) m (by rw [e]; simp) (by simp at hm; omega)
  simp only [law18_IdsOnce_10, t_law18_IdsOnce_10, e, mid_lt, nn, and_true, decide_true, cond_true, toNat_len, getD_mid, law18_IdsOnce_12_eq, b_law18_IdsOnce_12]
  rw [mid_next pre x x suf (by omega)]
  by_cases hn : x.1 = d.2.2.2.2.2.2.1
  ·
   simp only [beq_of hn, cond_true, hg x hx hn, cond_false]
   exact nx
  ·
   simp only [beq_false_of_ne hn, cond_false]
   exact nx
theorem once8 {seed : Int} (k1 : (List D_law18_Act) → ByteArray → Int → D_ids_State → CM → Option (Bool × Unit)) (l : List D_law18_Act) (i : Int) (s t : D_ids_State) (n : Nat) (m : CM) (hn : n ≤ 100) (hs : InvO seed s n) (hk : TurnO seed s t) (hm : OldO s n m) :
  ∃ m', OldO t (n + 1) m' ∧ law18_IdsOnce_8 k1 l (cidN s) i t m = k1 l (cidN t) (IntKind.wrap .i64 (i + 1)) t m' := by
 have ht := hs.turn hk
 have hL := ht.lenL
 have hP := ht.lenP
 have hcid : ids_Cid t = some (cidN t, ()) := cid_is t (by omega)
 obtain ⟨g, hg, g1, g2, g3⟩ := ht.now
 have hrest : ∀ m', OldO t (n + 1) m' → law18_IdsOnce_9 k1 l (cidN t) i t m' = k1 l (cidN t) (IntKind.wrap .i64 (i + 1)) t m' := by
  intro m' hm'
  have hz : cnt m' (cidN t) = 0 := by
   obtain ⟨h1, h2, h3⟩ := hm' (cidN t)
   rcases Int.lt_or_le 0 (cnt m' (cidN t)) with hp | hp
   ·
    obtain ⟨x, hx, x1, x2⟩ := h3 hp
    have e := cidN_is rfl ht.keys hg g1
    have : x = g := ht.keys.cid_one hx hg (x1.trans e)
    rw [this, g3] at x2
    cases x2
   · omega
  unfold cnt at hz
  have hz' : (mget Ty.str (Ty.int Go.IntKind.i64) m' (cidN t) : Int) = 0 := hz
  rw [law18_IdsOnce_9_eq, b_law18_IdsOnce_9]
  simp only [hz', gt_iff_lt, Int.lt_irrefl, decide_false, cond_false, law18_IdsOnce_10'_eq, b_law18_IdsOnce_10']
  exact pool_loop k1 l (cidN t) i t m' ht.own (by omega) (by omega) (fun x hx x1 => by
   have : x = g := ht.keys.seq_one hx hg (x1.trans g1.symm)
   rw [this]; exact g3) t.2.2.2.2.1 [] _ rfl (by omega)
 rw [law18_IdsOnce_8_eq, b_law18_IdsOnce_8, hcid]
 simp only [obind_some, toList_beq]
 by_cases hc : cidN t = cidN s
 ·
  refine ⟨m, old_keep hk hm, ?_⟩
  simp only [hc, decide_true, Bool.not_true, cond_false]
  rw [← hc]
  exact hrest m (old_keep hk hm)
 ·
  have hw : IntKind.wrap .i64 (mget Ty.str (Ty.int Go.IntKind.i64) m (cidN s) + 1) = cnt m (cidN s) + 1 := by
   obtain ⟨h1, h2, _⟩ := hm (cidN s)
   unfold cnt at h1 h2 ⊢
   have h1' : (0 : Int) ≤ mget Ty.str (Ty.int Go.IntKind.i64) m (cidN s) := h1
   have h2' : (mget Ty.str (Ty.int Go.IntKind.i64) m (cidN s) : Int) ≤ n := h2
   generalize (mget Ty.str (Ty.int Go.IntKind.i64) m (cidN s) : Int) = v at *
   exact wrap_i64 _ (by omega) (by omega)
  refine ⟨_, old_next hs hk hc hm, ?_⟩
  simp only [hc, decide_false, Bool.not_false, cond_true]
  rw [hw]
  exact hrest _ (old_next hs hk hc hm)
theorem once_main {seed : Int} (hseed : InU seed) : ∀ (suf pre : List D_law18_Act) (m : Nat) (s : D_ids_State) (mp : CM), (pre ++ suf).length ≤ 60 → suf.length < m → (∀ x ∈ suf, FrOk x.2.2.1 ∧ (0 ≤ x.2.2.1.2.2.2.2.2.1 ∧ x.2.2.1.2.2.2.2.2.1 < 18446744073709551616) ∧ x.2.2.1.2.2.2.2.2.2.2.2.2.2.2.2.1.length ≤ 5) →
  InvO seed s pre.length → OldO s pre.length mp → law18_IdsOnce_1 m (pre ++ suf) (cidN s) ((pre.length : Nat) : Int) s mp = some (true, ()) := by
 intro suf
 induction suf with
 | nil =>
  intro pre m s mp hl hm hx hs ho
  obtain ⟨m, rfl⟩ : ∃ k, m = k + 1 := ⟨m - 1, by omega⟩
  rw [List.append_nil]
  simp only [law18_IdsOnce_1, t_law18_IdsOnce_1, Int.lt_irrefl, decide_false, cond_false]
 | cons x suf ih =>
  intro pre m s mp hl hm hx hs ho
  obtain ⟨m, rfl⟩ : ∃ k, m = k + 1 := ⟨m - 1, by omega⟩
  obtain ⟨f1, f2, f3⟩ := hx x List.mem_cons_self
  have hn : pre.length ≤ 100 := by simp at hl; omega
  have hL := hs.lenL
  have hP := hs.lenP
  have nx : ∀ t, TurnO seed s t → law18_IdsOnce_8 (law18_IdsOnce_1 m) (pre ++ x :: suf) (cidN s) ((pre.length : Nat) : Int) t mp = some (true, ()) := by
   intro t ht
   obtain ⟨m', h1, h2⟩ := once8 (law18_IdsOnce_1 m) (pre ++ x :: suf) ((pre.length : Nat) : Int) s t pre.length mp hn hs ht ho
   rw [h2, mid_next pre x x suf (by simp at hl ⊢; omega), snoc_app]
   have hlen : (pre ++ [x]).length = pre.length + 1 := by simp
   refine ih (pre ++ [x]) m t m' (by simpa using hl) (by simp at hm; omega) (fun y hy => hx y (List.mem_cons_of_mem _ hy)) ?_ ?_
   · rw [hlen]; exact hs.turn ht
   · rw [hlen]; exact h1
  simp only [law18_IdsOnce_1, t_law18_IdsOnce_1, mid_lt, nn, and_true, decide_true, cond_true, toNat_len, getD_mid]
  cases (x.1 == (0 : Int)) with
  | true =>
   simp only [cond_true]
   rw [fill_is s _ (by rw [hs.seed]; exact hseed) (by omega) (by omega)]
   simp only [obind_some]
   exact nx _ (fill_turn hs s.2.2.2.1 rfl id _)
  | false =>
   simp only [cond_false]
   cases (x.1 == (1 : Int)) with
   | true =>
    obtain ⟨t, e, h1, h2⟩ := take_turn hs hn
    simp only [cond_true, h1, obind_some]
    exact nx t h2
   | false =>
    simp only [cond_false]
    cases (x.1 == (2 : Int)) with
    | true =>
     obtain ⟨t, e, h1, h2⟩ := next_turn hs hn x.2.1
     simp only [cond_true, h1, obind_some]
     exact nx t h2
    | false =>
     simp only [cond_false]
     rw [its18_is _ (by omega)]
     simp only [obind_some]
     rw [may6_is _ f1]
     simp only [obind_some]
     cases mayFr x.2.2.1 with
     | false => rfl
     | true =>
      obtain ⟨t, e, h1, h2⟩ := on_turn hseed hs hn x.2.2.1 f1 f2
      simp only [Bool.not_true, cond_false, h1, obind_some]
      exact nx t h2
theorem bnd18_loop : ∀ (suf pre : List D_law18_Act) (m : Nat), suf.length < m → (pre ++ suf).length ≤ 9223372036854775807 →
  ∃ b, law18_bounded_0 m (pre ++ suf) ((pre.length : Nat) : Int) = some (b, ()) ∧ (b = true → (∀ x ∈ suf, x.2.2.1.2.2.2.2.2.2.2.2.2.2.2.2.1.length ≤ 5) ∧ (pre ++ suf).length ≤ 60) := by
 intro suf
 induction suf with
 | nil =>
  intro pre m hm hl
  obtain ⟨m, rfl⟩ : ∃ k, m = k + 1 := ⟨m - 1, by omega⟩
  rw [List.append_nil]
  refine ⟨decide (((pre.length : Nat) : Int) ≤ 60), ?_, fun h => ⟨fun _ h => (by cases h), by have := of_decide_eq_true h; omega⟩⟩
  simp only [law18_bounded_0, t_law18_bounded_0, Int.lt_irrefl, decide_false, cond_false]
 | cons x suf ih =>
  intro pre m hm hl
  obtain ⟨m, rfl⟩ : ∃ k, m = k + 1 := ⟨m - 1, by omega⟩
  simp only [law18_bounded_0, t_law18_bounded_0, mid_lt, nn, and_true, decide_true, cond_true, toNat_len, getD_mid]
  cases decide ((((x.2.2.1.2.2.2.2.2.2.2.2.2.1).size : Nat) : Int) > 100) with
  | true => exact ⟨false, rfl, fun h => by cases h⟩
  | false =>
   simp only [cond_false]
   by_cases h5 : ((x.2.2.1.2.2.2.2.2.2.2.2.2.2.2.2.1.length : Nat) : Int) > 5
   ·
    simp only [h5, decide_true, cond_true]
    exact ⟨false, rfl, fun h => by cases h⟩
   ·
    simp only [h5, decide_false, cond_false]
    rw [mid_next' pre x x suf hl, snoc_app]
    obtain ⟨b, h1, h2⟩ := ih (pre ++ [x]) m (by simp at hm; omega) (by simpa using hl)
    refine ⟨b, h1, fun hb => ?_⟩
    obtain ⟨h3, h4⟩ := h2 hb
    refine ⟨fun y hy => ?_, h4⟩
    rcases List.mem_cons.mp hy with rfl | hy
    · omega
    · exact h3 y hy
theorem lawIdsOnce (x : denL c_law18_IdsOnce.params) (h : Wfs c_law18_IdsOnce.params x) : c_law18_IdsOnce.F x = some (true, ()) := by
 obtain ⟨seed, l, u⟩ := x
 obtain ⟨h1, h2, _⟩ := h
 have hseed := wf_u64 h1
 have hS : InU seed := by unfold InU; omega
 show law18_IdsOnce seed l = _
 rw [law18_IdsOnce_eq, b_law18_IdsOnce]
 have h0 : law18_IdsOnce_0 = some (true, ()) := by
  rw [law18_IdsOnce_0_eq, b_law18_IdsOnce_0, shown18_is]
  rfl
 obtain ⟨b, hb1, hb2⟩ := bnd18_loop l [] (Int.toNat (((l.length : Nat) : Int) - 0) + 2) (by omega) (by have := h2.1; unfold maxLen at this; simpa using this)
 have hb : law18_bounded l = some (b, ()) := by
  rw [law18_bounded_eq, b_law18_bounded, law18_bounded_0'_eq, b_law18_bounded_0']
  exact hb1
 rw [hb]
 simp only [obind_some]
 cases b with
 | false => simp only [Bool.not_false, cond_true, h0]
 | true =>
  obtain ⟨hb3, hb4⟩ := hb2 rfl
  simp only [Bool.not_true, cond_false, shown18_is, obind_some, new0_is]
  have hinv : InvO seed (newF seed 0 1) 0 := by
   refine ⟨rfl, rfl, ?_, by simp [newF], by simp [newF], ⟨?_, ?_⟩, ⟨_, List.mem_cons_self, rfl, rfl, rfl⟩, ?_⟩
   ·
    intro k hk
    have : k = 0 := by simp [newF] at hk; omega
    subst this
    exact ⟨rfl, rfl⟩
   · simp [newF, keysG]
   · simp [newF, keysG]
   ·
    intro g hg
    simp only [newF, List.mem_singleton] at hg
    subst hg
    exact ⟨by show (0 : Int) ≤ 0; omega, by show (0 : Int) < 18446744073709551616; omega⟩
  rw [cid_is (newF seed 0 1) (by simp [newF])]
  simp only [obind_some]
  rw [law18_IdsOnce_1'_eq, b_law18_IdsOnce_1']
  refine once_main hS l [] _ (newF seed 0 1) [] (by simpa using hb4) (by omega) (fun y hy => ?_) hinv (fun c => ⟨by rw [cnt_nil]; decide, by rw [cnt_nil]; decide, fun hc => by rw [cnt_nil] at hc; exact absurd hc (by decide)⟩)
  obtain ⟨_, _, hf, _⟩ := h2.2 y hy
  have hfk := frok_of_wf hf
  refine ⟨hfk, ?_, hb3 y hy⟩
  obtain ⟨w1, w2, w3, w4, w5, w6, _⟩ := hf
  have := wf_u64 w6
  omega
end Go.Proofs.YtjlfmolfcgennaaDoor.V
namespace Go.Proofs.YtjlfmolfcgennaaDoor.V
open Go.RowKit Go.ChangeShapes
section
variable {H : Type} {enc : TypeId × Value → H} {P : Program} {w : World} {sp : Nat → Bool} {held : Bool} {fuel : Nat}
theorem tab_cells {k : IntKind} {N : Nat} {e t : TypeId} {cs : List Value} {l : List Int} {p : List MemPlace} (hu : P.underlying t = some (.array N e)) (he : P.underlying e = some (.int k)) (hc : P.cellsOf e = 1) (ht : P.cellsOf t = l.length) (hN : N = l.length)
  (hd : DataW.trod enc P w 0 sp held fuel t cs = some (.agg (l.map fun n => .lit (.int k n)), p)) : cs = l.map (Value.int k) := by
 obtain ⟨xs, m, rfl, hx, hlen, hn, hel⟩ := DataW.trod_array hu hd
 simp only [Prod.mk.injEq, DataW.agg.injEq] at hx
 have hm := hx.1
 rw [ht] at hlen
 refine List.ext_getElem (by rw [hlen, List.length_map]) fun i h1 h2 => ?_
 have hi : i < l.length := by rw [List.length_map] at h2; exact h2
 have hix : i < xs.length := by omega
 have h3 := hel i (by omega)
 rw [hc, Nat.mul_one, List.getElem?_eq_getElem hix] at h3
 obtain ⟨n, e1, e2, _⟩ := DataW.trod_int he h3
 have e3 : (cs.drop i).take 1 = [cs[i]] := by
  rw [List.drop_eq_getElem_cons h1, List.take_succ_cons, List.take_zero]
 rw [e3] at e1
 have e4 : (l.map fun n => (DataW.lit (.int k n) : DataW H))[i]? = (xs.map (·.1))[i]? := by rw [hm]
 rw [List.getElem?_map, List.getElem?_map, List.getElem?_eq_getElem hi, List.getElem?_eq_getElem hix, e2] at e4
 simp only [Option.map_some, Option.some.injEq, DataW.lit.injEq, Lit.int.injEq, true_and] at e4
 simp only [List.cons.injEq, and_true] at e1
 rw [e1, List.getElem_map, ← e4]
theorem tab_in {k : IntKind} {N : Nat} {e t g : TypeId} {n : String} {cs : Array Value} {l : List Int} {p : List MemPlace} (hg : P.globalNamed n = some g) (hv : w.var? P n = some cs) (hu : P.underlying t = some (.array N e)) (he : P.underlying e = some (.int k)) (hc : P.cellsOf e = 1) (ht : P.cellsOf t = l.length) (hN : N = l.length)
  (hd : DataW.trod enc P w 0 sp held fuel t cs.toList = some (.agg (l.map fun n => .lit (.int k n)), p)) {r : List (Nat × (Σ t : Ty, List t.den))} (hr : TabsIn w r) : TabsIn w ((g, ⟨.int k, l⟩) :: r) ∧ g < w.heap.size := by
 have hcs := tab_cells hu he hc ht hN hd
 simp only [World.var?, hg, Option.bind_some] at hv
 cases hh : w.heap[g]? with
 | none => rw [hh] at hv; cases hv
 | some o =>
  rw [hh] at hv
  cases o with
  | cells arr e' fz =>
   simp only [Option.some.injEq] at hv
   subst hv
   refine ⟨⟨⟨arr, e', fz, hh, fun i hi => ⟨[.int k (l.getD i 0)], ?_, ?_⟩⟩, hr⟩, lt_of_heap hh⟩
   ·
    simp only [Rep]
    have : l.getD i 0 = l[i] := by simp [List.getD, hi]
    rw [this]
   ·
    intro j hj
    simp at hj
    subst hj
    show arr[i * 1 + 0]? = _
    rw [Nat.mul_one, Nat.add_zero, ← Array.getElem?_toList, hcs, List.getElem?_map, List.getElem?_eq_getElem hi]
    simp [List.getD, hi]
  | _ => cases hv
end
end Go.Proofs.YtjlfmolfcgennaaDoor.V
/- The law IdsOnce: for every input that can be read the call returns true and leaves its arguments alone: the row, and the tied card. No conditions but that the listed tables are laid (which the card ties to the program's text). -/
namespace Go.Proofs.YtjlfmolfcgennaaDoor.V.RowIdsOnce
open Go.ChangeShapes Go.WideShapes Go.ChangeAt Go.RowKit Go.Proofs
set_option linter.unusedVariables false
set_option maxRecDepth 100000
theorem own : ownKnob Tryd.prog.godebug = none := by kernel_rfl
theorem laidOut : laidOutB Tryd.prog = true := by kernel_rfl
theorem door_met (os : Os) (args : Array Value) : laidMetH Tryd.prog [("math/bits.deBruijn32tab", Rows.laid_math_bits_deBruijn32tab), ("math/bits.deBruijn64tab", Rows.laid_math_bits_deBruijn64tab)] ((World.doorLaid Tryd.prog 400 os).forCall (fun _ _ => 0) ⟨#[], args, []⟩).memory :=
 laidMetH_of_parts3 (fuel := 8) (laidMet_of_run' 8 (by kernel_rfl) (by kernel_rfl)) (by kernel_rfl) (by kernel_rfl)
theorem inv_of {W : World} (h : laidMetH Tryd.prog [("math/bits.deBruijn32tab", Rows.laid_math_bits_deBruijn32tab), ("math/bits.deBruijn64tab", Rows.laid_math_bits_deBruijn64tab)] W) : Inv W := by
 rw [MakeChecks.laidMetH_plain _ _ _ (by kernel_rfl)] at h
 obtain ⟨ps, ⟨g0, t0, cs0, f0, p0, q0, hg0, ht0, hv0, hd0, ⟨g1, t1, cs1, f1, p1, q1, hg1, ht1, hv1, hd1, _, _⟩, _⟩, _, _⟩ := h
 obtain ⟨gg0, tt0⟩ : Tryd.prog.globalNamed "math/bits.deBruijn32tab" = some 0 ∧ (Tryd.prog.globals[0]?).map (·.type) = some 143 := ⟨by kernel_rfl, by kernel_rfl⟩
 obtain rfl := Option.some.inj (gg0.symm.trans hg0)
 obtain rfl := Option.some.inj (tt0.symm.trans ht0)
 obtain ⟨gg1, tt1⟩ : Tryd.prog.globalNamed "math/bits.deBruijn64tab" = some 1 ∧ (Tryd.prog.globals[1]?).map (·.type) = some 144 := ⟨by kernel_rfl, by kernel_rfl⟩
 obtain rfl := Option.some.inj (gg1.symm.trans hg1)
 obtain rfl := Option.some.inj (tt1.symm.trans ht1)
 have i1 := tab_in (k := .u8) (l := [0, 1, 56, 2, 57, 49, 28, 3, 61, 58, 42, 50, 38, 29, 17, 4, 62, 47, 59, 36, 45, 43, 51, 22, 53, 39, 33, 30, 24, 18, 12, 5, 63, 55, 48, 27, 60, 41, 37, 16, 46, 35, 44, 21, 52, 32, 23, 11, 54, 26, 40, 15, 34, 20, 31, 10, 25, 14, 19, 9, 13, 8, 7, 6]) hg1 hv1 Tryd.underlying144 (by kernel_rfl) (by kernel_rfl) (by kernel_rfl) (by kernel_rfl) hd1 (r := []) trivial
 have i0 := tab_in (k := .u8) (l := [0, 1, 28, 2, 29, 14, 24, 3, 30, 22, 20, 15, 25, 17, 4, 8, 31, 27, 13, 23, 21, 19, 16, 7, 26, 12, 18, 6, 11, 5, 10, 9]) hg0 hv0 Tryd.underlying143 (by kernel_rfl) (by kernel_rfl) (by kernel_rfl) (by kernel_rfl) hd0 i1.1
 exact ⟨i1.2, i0.1⟩
theorem lifted (os : Os) (started : os.Started) (H : Type) (enc : TypeId × Value → H) :
  ReturnsInHanded {} Tryd.checked os 3 .any (fun w args => (Rows.idsOnceSpec.pre enc Tryd.prog Tryd.f3 [] false w args ∧ laidMetH Tryd.prog [("math/bits.deBruijn32tab", Rows.laid_math_bits_deBruijn32tab), ("math/bits.deBruijn64tab", Rows.laid_math_bits_deBruijn64tab)] w) ∧ sizedMet enc Tryd.prog Tryd.f3 (OpenSpec.ofChange Rows.idsOnceSpec) false w args) (Rows.idsOnceSpec.post enc Tryd.prog Tryd.f3 false true false false) := by
 refine returnsInHanded_of_change_and (C := Tryd.checked) (X := fun w _ => laidMetH Tryd.prog [("math/bits.deBruijn32tab", Rows.laid_math_bits_deBruijn32tab), ("math/bits.deBruijn64tab", Rows.laid_math_bits_deBruijn64tab)] w) (fun _ _ _ hh h => h.of_heap hh) own started (by kernel_rfl) Tryd.func3
  (ChangeSpec.witness_shaped (enc := enc) (C := Tryd.checked) (os := os) (X := fun w _ => laidMetH Tryd.prog [("math/bits.deBruijn32tab", Rows.laid_math_bits_deBruijn32tab), ("math/bits.deBruijn64tab", Rows.laid_math_bits_deBruijn64tab)] w) false (World.doorLaid Tryd.prog 400 os) (c_law18_IdsOnce.params.map zeroV).toArray 8 rfl (World.shaped_of_RefB (by kernel_rfl) (by kernel_rfl)) (by kernel_rfl) (by kernel_rfl) (by kernel_rfl) (door_met os _)) ?_
 intro W base args ds gs before hval hW hcnd hsz hL _
 have hI := inv_of hL
 have hW' := hW
 obtain ⟨p, q, hA, hV, rfl, hfz, hnd⟩ := hW
 obtain ⟨x, hx, hwf⟩ := args_rep (n := 20) (ts := c_law18_IdsOnce.params) (by kernel_rfl) hA (fun j T v h1 h2 => hval j T v (by simpa using h1) (by simpa using h2))
 have hlen : ds.length = 2 := (trodAll_length hA).trans (by kernel_rfl)
 obtain ⟨d1, d2, rfl⟩ : ∃ d1 d2, ds = [d1, d2] := by match ds, hlen with | [d1, d2], _ => exact ⟨d1, d2, rfl⟩
 obtain ⟨rfl, rfl⟩ := trodVars_none hV
 refine (law_calls (K := 3) c_law18_IdsOnce_ok hI hx (lawIdsOnce x hwf)).mono fun e W' ⟨he, bel⟩ => ?_
 subst he
 exact ⟨_, rfl, _, _, _, [], _, [], hW', trodAll_mk1 (shut_bool Tryd.underlying4 _), trodAll_below laidOut bel (by kernel_rfl) hA, rfl, bel.frame _, fun h => by cases h⟩
theorem proved : Rows.IdsOnceSaid :=
 OpenClaim.holds_of_wide 3 Tryd.f3 rfl rfl rfl rfl rfl rfl rfl ⟨rfl, rfl, rfl, rfl, rfl⟩ rfl rfl rfl rfl rfl (by kernel_rfl) Tryd.func3 (by kernel_rfl)
  (of_decide_eq_true (by kernel_rfl)) (by unfold Func.isWrapper; first | (rw [if_pos (by decide +kernel)]; kernel_rfl) | (rw [if_neg (by decide +kernel)]; exact ⟨rfl, rfl⟩))
  (fun os started H enc _ => lifted os started H enc)
theorem card : Rows.IdsOnceCardSaid :=
 Claim7.holds_tied_plain_at .later [] [.data, .data] true (true, "70b6eef9c0b129b7d1ea0fbf90fb816c6ee33174c00881a73e6ace0d5a4488d7") false
  proved (fun _ h => by cases h) (by kernel_rfl) (fun _ h => by cases h) idsOnce_row_tie rfl ⟨rfl, rfl⟩ (by kernel_rfl) rfl
  (fun f fn hf hfn => by
   obtain rfl : f = 3 := Option.some.inj ((show Tryd.prog.funcNamed "domino/dominolaw18.IdsOnce" = some 3 by kernel_rfl).symm.trans hf) |>.symm
   obtain rfl : fn = Tryd.f3 := (Option.some.inj (Tryd.func3.symm.trans hfn)).symm
   exact ⟨by kernel_rfl, fun j t ht => by
    have all : ∀ t ∈ [22, 23], Tryd.prog.wantsStandIn t = false := by
     intro t h
     simp only [List.mem_cons, List.not_mem_nil, or_false] at h
     rcases h with rfl | rfl <;> kernel_rfl
    have hp : Tryd.f3.params = #[22, 23] := rfl
    rw [hp] at ht
    exact all t (by
     have := List.mem_of_getElem? (l := [22, 23]) (i := j) (a := t) (by simpa using ht)
     exact this)⟩)
  (by kernel_rfl)
end Go.Proofs.YtjlfmolfcgennaaDoor.V.RowIdsOnce
namespace Go.Proofs.YtjlfmolfcgennaaDoor
theorem idsOnce_card : Rows.IdsOnceCardSaid := V.RowIdsOnce.card
end Go.Proofs.YtjlfmolfcgennaaDoor
