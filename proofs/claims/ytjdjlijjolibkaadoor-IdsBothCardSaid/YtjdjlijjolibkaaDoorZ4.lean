/- The law IdsBoth, part 4 of 6: what is proved: for every input that can be read the call of IdsBoth returns true and leaves its arguments alone. No conditions but the listed tables of the card. -/
import Derived.Test.YtjdjlijjolibkaaDoorZ3
/- Equality of data can be decided. -/
namespace Go.Proofs.YtjdjlijjolibkaaDoor.V
instance q_frame_reader : DecidableEq D_frame_reader := @instDecidableEqProd _ _ inferInstance (inferInstance)
instance q_runtime_errorAddressString : DecidableEq D_runtime_errorAddressString := @instDecidableEqProd _ _ inferInstance (@instDecidableEqProd _ _ inferInstance (inferInstance))
instance q_ranges_Range : DecidableEq D_ranges_Range := @instDecidableEqProd _ _ inferInstance (@instDecidableEqProd _ _ inferInstance (inferInstance))
instance q_runtime_boundsError : DecidableEq D_runtime_boundsError := @instDecidableEqProd _ _ inferInstance (@instDecidableEqProd _ _ inferInstance (@instDecidableEqProd _ _ inferInstance (@instDecidableEqProd _ _ inferInstance (inferInstance))))
instance q_ids_Own : DecidableEq D_ids_Own := @instDecidableEqProd _ _ inferInstance (@instDecidableEqProd _ _ inferInstance (@instDecidableEqProd _ _ inferInstance (@instDecidableEqProd _ _ inferInstance (@instDecidableEqProd _ _ inferInstance (inferInstance)))))
instance q_4_int : DecidableEq D_4_int := @instDecidableEqProd _ _ inferInstance (@instDecidableEqProd _ _ inferInstance (@instDecidableEqProd _ _ inferInstance (@instDecidableEqProd _ _ inferInstance (inferInstance))))
instance q_ids_Given : DecidableEq D_ids_Given := @instDecidableEqProd _ _ inferInstance (@instDecidableEqProd _ _ inferInstance (@instDecidableEqProd _ _ inferInstance (@instDecidableEqProd _ _ inferInstance (@instDecidableEqProd _ _ inferInstance (@instDecidableEqProd _ _ inferInstance (inferInstance))))))
instance q_path_Path : DecidableEq D_path_Path := @instDecidableEqProd _ _ inferInstance (@instDecidableEqProd _ _ inferInstance (@instDecidableEqProd _ _ inferInstance (@instDecidableEqProd _ _ inferInstance (@instDecidableEqProd _ _ inferInstance (@instDecidableEqProd _ _ inferInstance (inferInstance))))))
instance q_2_struct_shift_int_times_uint64 : DecidableEq D_2_struct_shift_int_times_uint64 := @instDecidableEqProd _ _ inferInstance (@instDecidableEqProd _ _ inferInstance (inferInstance))
instance q_8_uint8 : DecidableEq D_8_uint8 := @instDecidableEqProd _ _ inferInstance (@instDecidableEqProd _ _ inferInstance (@instDecidableEqProd _ _ inferInstance (@instDecidableEqProd _ _ inferInstance (@instDecidableEqProd _ _ inferInstance (@instDecidableEqProd _ _ inferInstance (@instDecidableEqProd _ _ inferInstance (@instDecidableEqProd _ _ inferInstance (inferInstance))))))))
instance q_8_uint64 : DecidableEq D_8_uint64 := @instDecidableEqProd _ _ inferInstance (@instDecidableEqProd _ _ inferInstance (@instDecidableEqProd _ _ inferInstance (@instDecidableEqProd _ _ inferInstance (@instDecidableEqProd _ _ inferInstance (@instDecidableEqProd _ _ inferInstance (@instDecidableEqProd _ _ inferInstance (@instDecidableEqProd _ _ inferInstance (inferInstance))))))))
instance q_path_State : DecidableEq D_path_State := @instDecidableEqProd _ _ inferInstance (@instDecidableEqProd _ _ inferInstance (@instDecidableEqProd _ _ inferInstance (inferInstance)))
instance q_frame_Frame : DecidableEq D_frame_Frame := @instDecidableEqProd _ _ inferInstance (@instDecidableEqProd _ _ inferInstance (@instDecidableEqProd _ _ inferInstance (@instDecidableEqProd _ _ inferInstance (@instDecidableEqProd _ _ inferInstance (@instDecidableEqProd _ _ inferInstance (@instDecidableEqProd _ _ inferInstance (@instDecidableEqProd _ _ inferInstance (@instDecidableEqProd _ _ inferInstance (@instDecidableEqProd _ _ inferInstance (@instDecidableEqProd _ _ inferInstance (@instDecidableEqProd _ _ inferInstance (@instDecidableEqProd _ _ inferInstance (inferInstance)))))))))))))
instance q_ids_State : DecidableEq D_ids_State := @instDecidableEqProd _ _ inferInstance (@instDecidableEqProd _ _ inferInstance (@instDecidableEqProd _ _ inferInstance (@instDecidableEqProd _ _ inferInstance (@instDecidableEqProd _ _ inferInstance (@instDecidableEqProd _ _ inferInstance (@instDecidableEqProd _ _ inferInstance (inferInstance)))))))
instance q_frame_framer : DecidableEq D_frame_framer := @instDecidableEqProd _ _ inferInstance (@instDecidableEqProd _ _ inferInstance (inferInstance))
instance q_law18_Act : DecidableEq D_law18_Act := @instDecidableEqProd _ _ inferInstance (@instDecidableEqProd _ _ inferInstance (@instDecidableEqProd _ _ inferInstance (inferInstance)))
instance q_law19_Act : DecidableEq D_law19_Act := @instDecidableEqProd _ _ inferInstance (@instDecidableEqProd _ _ inferInstance (@instDecidableEqProd _ _ inferInstance (@instDecidableEqProd _ _ inferInstance (inferInstance))))
end Go.Proofs.YtjdjlijjolibkaaDoor.V
namespace Go.Proofs.YtjdjlijjolibkaaDoor.V
open Go.RowKit Go.Proofs.Tryd
set_option maxRecDepth 100000
set_option linter.unusedVariables false
noncomputable def m_slices_Equal_ranges_Range : Mach prog Inv gInv := mach bas [(89, f89)] ⟨ok89, trivial⟩ [] trivial [] trivial [] trivial
/-! ### slices.Equal[domino/ranges.Set,domino/ranges.Range] -/
@[reducible] def r_slices_Equal_ranges_Range : List Ty := [.bool]
def ks_slices_Equal_ranges_Range : List Nat := [89]
abbrev H_slices_Equal_ranges_Range (base : Base) (S0 : Nat → Prop) := base.n = 0 ∧ FinOk (finR r_slices_Equal_ranges_Range) base S0 (Post r_slices_Equal_ranges_Range S0)
abbrev J_slices_Equal_ranges_Range (base : Base) (S0 : Nat → Prop) (cs0 : List Go.Frame) (p : CPat) (J : denC p → Option (denL r_slices_Equal_ranges_Range)) := JSound m_slices_Equal_ranges_Range base S0 cs0 (Post r_slices_Equal_ranges_Range S0) p J
abbrev O_slices_Equal_ranges_Range (base : Base) (S0 : Nat → Prop) (cs0 : List Go.Frame) (X : Cfg → Option (Option (denL r_slices_Equal_ranges_Range))) := OSound m_slices_Equal_ranges_Range base S0 cs0 (Post r_slices_Equal_ranges_Range S0) X
@[reducible] noncomputable def p_slices_Equal_ranges_Range_0 : CPat := ⟨⟨89, [1, 1, 0, 1, 0], none, [.rows T_ranges_Range false, .rows T_ranges_Range false, .any, .any, .any, .any, .any, .any, .any, .any, .any, .any, .int .i64, .int .i64], 12⟩, [], [], 0⟩
@[reducible] noncomputable def u_slices_Equal_ranges_Range_0 (k : (List D_ranges_Range) → (List D_ranges_Range) → Int → Int → Option (Bool × Unit)) : denC p_slices_Equal_ranges_Range_0 → Option (Bool × Unit) := fun x => k x.1.1 x.1.2.1 x.1.2.2.2.2.2.2.2.2.2.2.2.2.1 x.1.2.2.2.2.2.2.2.2.2.2.2.2.2.1
noncomputable def t_slices_Equal_ranges_Range_0 (k0 : (List D_ranges_Range) → (List D_ranges_Range) → Int → Int → Option (Bool × Unit)) (l13 : (List D_ranges_Range)) (l14 : (List D_ranges_Range)) (i15 : Int) (i16 : Int) : Option (Bool × Unit) :=
  let b17 : Bool := (decide (i16 < i15))
  bif b17 then
    bif (decide (((0 : Int) ≤ i16) ∧ (i16 < (((List.length l13) : Nat) : Int)))) then
      let x18 : D_ranges_Range := (List.getD l13 (Int.toNat i16) (Ty.dflt T_ranges_Range))
      bif (decide (((0 : Int) ≤ i16) ∧ (i16 < (((List.length l14) : Nat) : Int)))) then
        let x19 : D_ranges_Range := (List.getD l14 (Int.toNat i16) (Ty.dflt T_ranges_Range))
        let b20 : Bool := (!((x18.1 == x19.1) && ((x18.2.1 == x19.2.1) && true)))
        bif b20 then
          some (false, ())
        else
          let n21 : Int := (Go.IntKind.wrap Go.IntKind.i64 (i16 + (1 : Int)))
          k0 l13 l14 i15 n21
      else none
    else none
  else
    some (true, ())
noncomputable def slices_Equal_ranges_Range_0 : Nat → (List D_ranges_Range) → (List D_ranges_Range) → Int → Int → Option (Bool × Unit)
  | 0 => fun _ _ _ _ => none
  | m + 1 => t_slices_Equal_ranges_Range_0 (slices_Equal_ranges_Range_0 m)
noncomputable def b_slices_Equal_ranges_Range_0' (l13 : (List D_ranges_Range)) (l14 : (List D_ranges_Range)) (i15 : Int) (i16 : Int) : Option (Bool × Unit) := slices_Equal_ranges_Range_0 (Int.toNat (i15 - i16) + 2) l13 l14 i15 i16
theorem ex_slices_Equal_ranges_Range_0' : ∃ f, f = @b_slices_Equal_ranges_Range_0' := ⟨_, rfl⟩
noncomputable def slices_Equal_ranges_Range_0' := Classical.choose ex_slices_Equal_ranges_Range_0'
theorem slices_Equal_ranges_Range_0'_eq : @slices_Equal_ranges_Range_0' = @b_slices_Equal_ranges_Range_0' := Classical.choose_spec ex_slices_Equal_ranges_Range_0'
theorem s_slices_Equal_ranges_Range_0 {base S0 cs0} (hfin : H_slices_Equal_ranges_Range base S0) : ∀ m, J_slices_Equal_ranges_Range base S0 cs0 p_slices_Equal_ranges_Range_0 (u_slices_Equal_ranges_Range_0 (slices_Equal_ranges_Range_0 m)) :=
  JSound.loop' hfin.2 ks_slices_Equal_ranges_Range 100000 u_slices_Equal_ranges_Range_0 (fun k0 => cut p_slices_Equal_ranges_Range_0 (u_slices_Equal_ranges_Range_0 k0) (nowhere)) (fun k0 h0 => OSound.cut (OSound.nowhere) (Nat.le_of_eq hfin.1) h0) (slices_Equal_ranges_Range_0) (by intro x; rfl) (by intro m x; kernel_rfl)
theorem s_slices_Equal_ranges_Range_0' {base S0 cs0} (hfin : H_slices_Equal_ranges_Range base S0) : J_slices_Equal_ranges_Range base S0 cs0 p_slices_Equal_ranges_Range_0 (u_slices_Equal_ranges_Range_0 (slices_Equal_ranges_Range_0')) := by
  rw [slices_Equal_ranges_Range_0'_eq]; exact fun x r hx => s_slices_Equal_ranges_Range_0 hfin _ x r hx
noncomputable def x_slices_Equal_ranges_Range_0 : Cfg → Option (Option (Bool × Unit)) := cut p_slices_Equal_ranges_Range_0 (u_slices_Equal_ranges_Range_0 (slices_Equal_ranges_Range_0')) (nowhere)
theorem o_slices_Equal_ranges_Range_0 {base S0 cs0} (hfin : H_slices_Equal_ranges_Range base S0) : O_slices_Equal_ranges_Range base S0 cs0 (x_slices_Equal_ranges_Range_0) := OSound.cut (OSound.nowhere) (Nat.le_of_eq hfin.1) (s_slices_Equal_ranges_Range_0' hfin)
noncomputable def b_slices_Equal_ranges_Range (a0 : (List D_ranges_Range)) (a1 : (List D_ranges_Range)) : Option (Bool × Unit) :=
  let n2 : Int := (((List.length a0) : Nat) : Int)
  let n3 : Int := (((List.length a1) : Nat) : Int)
  let b4 : Bool := (n2 != n3)
  bif b4 then
    some (false, ())
  else
    let n5 : Int := (((List.length a0) : Nat) : Int)
    slices_Equal_ranges_Range_0' a0 a1 n5 (0 : Int)
theorem ex_slices_Equal_ranges_Range : ∃ f, f = @b_slices_Equal_ranges_Range := ⟨_, rfl⟩
noncomputable def slices_Equal_ranges_Range := Classical.choose ex_slices_Equal_ranges_Range
theorem slices_Equal_ranges_Range_eq : @slices_Equal_ranges_Range = @b_slices_Equal_ranges_Range := Classical.choose_spec ex_slices_Equal_ranges_Range
noncomputable def cb_slices_Equal_ranges_Range : Con := ⟨[(.slice T_ranges_Range), (.slice T_ranges_Range)], r_slices_Equal_ranges_Range, fun x => b_slices_Equal_ranges_Range x.1 x.2.1⟩
noncomputable def c_slices_Equal_ranges_Range : Con := ⟨[(.slice T_ranges_Range), (.slice T_ranges_Range)], r_slices_Equal_ranges_Range, fun x => slices_Equal_ranges_Range x.1 x.2.1⟩
theorem cb_slices_Equal_ranges_Range_ok : cb_slices_Equal_ranges_Range.Sound prog Inv gInv 89 :=
  con_run (M := m_slices_Equal_ranges_Range) inv_g (f := f89) rfl ks_slices_Equal_ranges_Range 100000 (X := x_slices_Equal_ranges_Range_0) (fun base S0 cs0 hn hf => have hfin : H_slices_Equal_ranges_Range base S0 := ⟨hn, hf⟩; o_slices_Equal_ranges_Range_0 hfin) (by intro x; kernel_rfl)
theorem c_slices_Equal_ranges_Range_ok : c_slices_Equal_ranges_Range.Sound prog Inv gInv 89 := by
  have e : c_slices_Equal_ranges_Range = cb_slices_Equal_ranges_Range := by unfold c_slices_Equal_ranges_Range cb_slices_Equal_ranges_Range; rw [slices_Equal_ranges_Range_eq]
  rw [e]; exact cb_slices_Equal_ranges_Range_ok
end Go.Proofs.YtjdjlijjolibkaaDoor.V
namespace Go.Proofs.YtjdjlijjolibkaaDoor.V
open Go.RowKit Go.Proofs.Tryd
set_option maxRecDepth 100000
set_option linter.unusedVariables false
noncomputable def m_frame_Same_l1 : Mach prog Inv gInv := mach bas [(90, f90)] ⟨ok90, trivial⟩ [] trivial [] trivial [] trivial
/-! ### domino/frame.Same$1 -/
@[reducible] def r_frame_Same_l1 : List Ty := [T_8_uint64]
def ks_frame_Same_l1 : List Nat := [90]
noncomputable def b_frame_Same_l1 (a0 : D_frame_Frame) : Option (D_8_uint64 × Unit) :=
  some ((a0.1, (a0.2.1, (a0.2.2.1, (a0.2.2.2.1, (a0.2.2.2.2.1, (a0.2.2.2.2.2.1, (a0.2.2.2.2.2.2.1, (a0.2.2.2.2.2.2.2.1, ())))))))), ())
theorem ex_frame_Same_l1 : ∃ f, f = @b_frame_Same_l1 := ⟨_, rfl⟩
noncomputable def frame_Same_l1 := Classical.choose ex_frame_Same_l1
theorem frame_Same_l1_eq : @frame_Same_l1 = @b_frame_Same_l1 := Classical.choose_spec ex_frame_Same_l1
noncomputable def cb_frame_Same_l1 : Con := ⟨[T_frame_Frame], r_frame_Same_l1, fun x => b_frame_Same_l1 x.1⟩
noncomputable def c_frame_Same_l1 : Con := ⟨[T_frame_Frame], r_frame_Same_l1, fun x => frame_Same_l1 x.1⟩
theorem cb_frame_Same_l1_ok : cb_frame_Same_l1.Sound prog Inv gInv 90 :=
  con_run (M := m_frame_Same_l1) inv_g (f := f90) rfl ks_frame_Same_l1 100000 (X := nowhere) (fun base S0 cs0 hn hf => OSound.nowhere) (by intro x; kernel_rfl)
theorem c_frame_Same_l1_ok : c_frame_Same_l1.Sound prog Inv gInv 90 := by
  have e : c_frame_Same_l1 = cb_frame_Same_l1 := by unfold c_frame_Same_l1 cb_frame_Same_l1; rw [frame_Same_l1_eq]
  rw [e]; exact cb_frame_Same_l1_ok
end Go.Proofs.YtjdjlijjolibkaaDoor.V
namespace Go.Proofs.YtjdjlijjolibkaaDoor.V
open Go.RowKit Go.Proofs.Tryd
set_option maxRecDepth 100000
set_option linter.unusedVariables false
noncomputable def m_frame_Same : Mach prog Inv gInv := mach bas [(39, f39)] ⟨ok39, trivial⟩ [(89, c_slices_Equal_ranges_Range), (90, c_frame_Same_l1)] ⟨⟨c_slices_Equal_ranges_Range_ok, FnOk.callable ok89⟩, ⟨c_frame_Same_l1_ok, FnOk.callable ok90⟩, trivial⟩ [] trivial [] trivial
/-! ### domino/frame.Same -/
@[reducible] def r_frame_Same : List Ty := [.bool]
def ks_frame_Same : List Nat := [39]
noncomputable def b_frame_Same (a0 : D_frame_Frame) (a1 : D_frame_Frame) : Option (Bool × Unit) :=
  obind (slices_Equal_ranges_Range a0.2.2.2.2.2.2.2.2.2.2.2.2.1 a1.2.2.2.2.2.2.2.2.2.2.2.2.1) fun y2 =>
  let b3 : Bool := (!y2.1)
  bif b3 then
    some (false, ())
  else
    obind (frame_Same_l1 a0) fun y4 =>
    obind (frame_Same_l1 a1) fun y5 =>
    let b6 : Bool := ((y4.1.1 == y5.1.1) && ((y4.1.2.1 == y5.1.2.1) && ((y4.1.2.2.1 == y5.1.2.2.1) && ((y4.1.2.2.2.1 == y5.1.2.2.2.1) && ((y4.1.2.2.2.2.1 == y5.1.2.2.2.2.1) && ((y4.1.2.2.2.2.2.1 == y5.1.2.2.2.2.2.1) && ((y4.1.2.2.2.2.2.2.1 == y5.1.2.2.2.2.2.2.1) && ((y4.1.2.2.2.2.2.2.2.1 == y5.1.2.2.2.2.2.2.2.1) && true))))))))
    bif b6 then
      let b7 : Bool := (a0.2.2.2.2.2.2.2.2.1 == a1.2.2.2.2.2.2.2.2.1)
      bif b7 then
        let b8 : Bool := ((ByteArray.toList a0.2.2.2.2.2.2.2.2.2.1) == (ByteArray.toList a1.2.2.2.2.2.2.2.2.2.1))
        bif b8 then
          let b9 : Bool := ((ByteArray.toList a0.2.2.2.2.2.2.2.2.2.2.1) == (ByteArray.toList a1.2.2.2.2.2.2.2.2.2.2.1))
          bif b9 then
            let b10 : Bool := ((ByteArray.toList a0.2.2.2.2.2.2.2.2.2.2.2.1) == (ByteArray.toList a1.2.2.2.2.2.2.2.2.2.2.2.1))
            some (b10, ())
          else
            some (false, ())
        else
          some (false, ())
      else
        some (false, ())
    else
      some (false, ())
theorem ex_frame_Same : ∃ f, f = @b_frame_Same := ⟨_, rfl⟩
noncomputable def frame_Same := Classical.choose ex_frame_Same
theorem frame_Same_eq : @frame_Same = @b_frame_Same := Classical.choose_spec ex_frame_Same
noncomputable def cb_frame_Same : Con := ⟨[T_frame_Frame, T_frame_Frame], r_frame_Same, fun x => b_frame_Same x.1 x.2.1⟩
noncomputable def c_frame_Same : Con := ⟨[T_frame_Frame, T_frame_Frame], r_frame_Same, fun x => frame_Same x.1 x.2.1⟩
theorem cb_frame_Same_ok : cb_frame_Same.Sound prog Inv gInv 39 :=
  con_run (M := m_frame_Same) inv_g (f := f39) rfl ks_frame_Same 100000 (X := nowhere) (fun base S0 cs0 hn hf => OSound.nowhere) (by intro x; kernel_rfl)
theorem c_frame_Same_ok : c_frame_Same.Sound prog Inv gInv 39 := by
  have e : c_frame_Same = cb_frame_Same := by unfold c_frame_Same cb_frame_Same; rw [frame_Same_eq]
  rw [e]; exact cb_frame_Same_ok
end Go.Proofs.YtjdjlijjolibkaaDoor.V
namespace Go.Proofs.YtjdjlijjolibkaaDoor.V
open Go.RowKit Go.Proofs.Tryd
set_option maxRecDepth 100000
set_option linter.unusedVariables false
noncomputable def m_frame_Frame_only : Mach prog Inv gInv := mach bas [(80, f80)] ⟨ok80, trivial⟩ [] trivial [] trivial [] trivial
/-! ### (domino/frame.Frame).only -/
@[reducible] def r_frame_Frame_only : List Ty := [T_frame_Frame, .bool]
def ks_frame_Frame_only : List Nat := [80]
abbrev H_frame_Frame_only (base : Base) (S0 : Nat → Prop) := base.n = 0 ∧ FinOk (finR r_frame_Frame_only) base S0 (Post r_frame_Frame_only S0)
abbrev J_frame_Frame_only (base : Base) (S0 : Nat → Prop) (cs0 : List Go.Frame) (p : CPat) (J : denC p → Option (denL r_frame_Frame_only)) := JSound m_frame_Frame_only base S0 cs0 (Post r_frame_Frame_only S0) p J
abbrev O_frame_Frame_only (base : Base) (S0 : Nat → Prop) (cs0 : List Go.Frame) (X : Cfg → Option (Option (denL r_frame_Frame_only))) := OSound m_frame_Frame_only base S0 cs0 (Post r_frame_Frame_only S0) X
@[reducible] noncomputable def p_frame_Frame_only_3 : CPat := ⟨⟨80, [1, 1, 0, 1, 0, 1, 1, 1, 1, 1, 1, 1, 1, 1, 1, 1, 1, 1, 1, 1, 1, 1, 1, 1, 1, 1], none, [.any, .ptr 0 0, .ptr 1 0, .any, .ptr 2 0, .any, .any, .any, .any, .int .u64, .any, .any, .any, .any, .any, .any, .any, .any, .any, .any, .any, .any, .any, .any, .any, .any, .any, .any, .any, .any, .any, .any, .any, .any, .any, .any, .any, .any, .any, .any, .any, .any, .any, .any, .any, .any, .any, .any, .any, .any, .any, .any, .any, .any, .any, .any, .any, .any, .any, .any, .any, .any, .any, .any, .any, .any, .any, .any, .any, .any, .any, .any, .any, .any, .any, .any, .any, .any, .any, .any, .any, .any, .any, .any, .any, .any, .any, .any, .any, .any, .any, .any, .any, .any, .any, .any, .any, .any, .any, .any, .any, .any, .bool], 25⟩, [], [.dat 34 T_frame_Frame, .dat 34 T_frame_Frame, .dat 34 T_frame_Frame], 0⟩
@[reducible] noncomputable def u_frame_Frame_only_3 (k : Int → Bool → D_frame_Frame → D_frame_Frame → D_frame_Frame → Option (D_frame_Frame × Bool × Unit)) : denC p_frame_Frame_only_3 → Option (D_frame_Frame × Bool × Unit) := fun x => k x.1.2.2.2.2.2.2.2.2.2.1 x.1.2.2.2.2.2.2.2.2.2.2.2.2.2.2.2.2.2.2.2.2.2.2.2.2.2.2.2.2.2.2.2.2.2.2.2.2.2.2.2.2.2.2.2.2.2.2.2.2.2.2.2.2.2.2.2.2.2.2.2.2.2.2.2.2.2.2.2.2.2.2.2.2.2.2.2.2.2.2.2.2.2.2.2.2.2.2.2.2.2.2.2.2.2.2.2.2.2.2.2.2.2.2.1 x.2.2.1 x.2.2.2.1 x.2.2.2.2.1
noncomputable def b_frame_Frame_only_3 (i39 : Int) (b40 : Bool) (d41 : D_frame_Frame) (d42 : D_frame_Frame) (d43 : D_frame_Frame) : Option (D_frame_Frame × Bool × Unit) :=
  bif b40 then
    some ((d43.1, (d43.2.1, (d43.2.2.1, (d43.2.2.2.1, (d43.2.2.2.2.1, (d43.2.2.2.2.2.1, (d43.2.2.2.2.2.2.1, (d43.2.2.2.2.2.2.2.1, (d43.2.2.2.2.2.2.2.2.1, (d43.2.2.2.2.2.2.2.2.2.1, (d43.2.2.2.2.2.2.2.2.2.2.1, (d41.2.2.2.2.2.2.2.2.2.2.2.1, d43.2.2.2.2.2.2.2.2.2.2.2.2)))))))))))), (true, ()))
  else
    let b44 : Bool := (i39 == (28 : Int))
    bif b44 then
      some ((d43.1, (d43.2.1, (d43.2.2.1, (d43.2.2.2.1, (d41.2.2.2.2.1, (d43.2.2.2.2.2.1, (d43.2.2.2.2.2.2.1, (d41.2.2.2.2.2.2.2.1, (d43.2.2.2.2.2.2.2.2.1, (d41.2.2.2.2.2.2.2.2.2.1, d43.2.2.2.2.2.2.2.2.2.2)))))))))), (true, ()))
    else
      let b45 : Bool := (i39 == (29 : Int))
      bif b45 then
        some ((d43.1, (d43.2.1, (d43.2.2.1, (d43.2.2.2.1, (d41.2.2.2.2.1, (d43.2.2.2.2.2.1, (d43.2.2.2.2.2.2.1, (d43.2.2.2.2.2.2.2.1, (d43.2.2.2.2.2.2.2.2.1, (d41.2.2.2.2.2.2.2.2.2.1, d43.2.2.2.2.2.2.2.2.2.2)))))))))), (true, ()))
      else
        let s46 : ByteArray := (ByteArray.mk (List.toArray ([] : List UInt8)))
        some (((0 : Int), ((0 : Int), ((0 : Int), ((0 : Int), ((0 : Int), ((0 : Int), ((0 : Int), ((0 : Int), (false, (s46, (s46, (s46, (([] : List D_ranges_Range), ()))))))))))))), (false, ()))
theorem ex_frame_Frame_only_3 : ∃ f, f = @b_frame_Frame_only_3 := ⟨_, rfl⟩
noncomputable def frame_Frame_only_3 := Classical.choose ex_frame_Frame_only_3
theorem frame_Frame_only_3_eq : @frame_Frame_only_3 = @b_frame_Frame_only_3 := Classical.choose_spec ex_frame_Frame_only_3
theorem s_frame_Frame_only_3 {base S0 cs0} (hfin : H_frame_Frame_only base S0) : J_frame_Frame_only base S0 cs0 p_frame_Frame_only_3 (u_frame_Frame_only_3 (frame_Frame_only_3)) :=
  JSound.join hfin.2 (OSound.nowhere) ks_frame_Frame_only 100000 (by rw [frame_Frame_only_3_eq]; intro x; kernel_rfl)
noncomputable def x_frame_Frame_only_3 : Cfg → Option (Option (D_frame_Frame × Bool × Unit)) := cut p_frame_Frame_only_3 (u_frame_Frame_only_3 (frame_Frame_only_3)) (nowhere)
theorem o_frame_Frame_only_3 {base S0 cs0} (hfin : H_frame_Frame_only base S0) : O_frame_Frame_only base S0 cs0 (x_frame_Frame_only_3) := OSound.cut (OSound.nowhere) (Nat.le_of_eq hfin.1) (s_frame_Frame_only_3 hfin)
@[reducible] noncomputable def p_frame_Frame_only_2 : CPat := ⟨⟨80, [1, 1, 0, 1, 0, 1, 1, 1, 1, 1, 1, 1, 1, 1, 1, 1, 1, 1, 1, 1], none, [.any, .ptr 0 0, .ptr 1 0, .any, .ptr 2 0, .any, .any, .any, .any, .int .u64, .any, .any, .any, .any, .any, .any, .any, .any, .any, .any, .any, .any, .any, .any, .any, .any, .any, .any, .any, .any, .any, .any, .any, .any, .any, .any, .any, .any, .any, .any, .any, .any, .any, .any, .any, .any, .any, .any, .any, .any, .any, .any, .any, .any, .any, .any, .any, .any, .any, .any, .any, .any, .any, .any, .any, .any, .any, .any, .any, .any, .any, .any, .any, .any, .bool], 53⟩, [], [.dat 34 T_frame_Frame, .dat 34 T_frame_Frame, .dat 34 T_frame_Frame], 0⟩
@[reducible] noncomputable def u_frame_Frame_only_2 (k : Int → Bool → D_frame_Frame → D_frame_Frame → D_frame_Frame → Option (D_frame_Frame × Bool × Unit)) : denC p_frame_Frame_only_2 → Option (D_frame_Frame × Bool × Unit) := fun x => k x.1.2.2.2.2.2.2.2.2.2.1 x.1.2.2.2.2.2.2.2.2.2.2.2.2.2.2.2.2.2.2.2.2.2.2.2.2.2.2.2.2.2.2.2.2.2.2.2.2.2.2.2.2.2.2.2.2.2.2.2.2.2.2.2.2.2.2.2.2.2.2.2.2.2.2.2.2.2.2.2.2.2.2.2.2.2.2.1 x.2.2.1 x.2.2.2.1 x.2.2.2.2.1
noncomputable def b_frame_Frame_only_2 (i30 : Int) (b31 : Bool) (d32 : D_frame_Frame) (d33 : D_frame_Frame) (d34 : D_frame_Frame) : Option (D_frame_Frame × Bool × Unit) :=
  bif b31 then
    some ((d34.1, (d32.2.1, (d34.2.2.1, (d32.2.2.2.1, d34.2.2.2.2)))), (true, ()))
  else
    let b35 : Bool := (i30 == (24 : Int))
    bif b35 then
      some ((d34.1, (d34.2.1, (d34.2.2.1, (d34.2.2.2.1, (d34.2.2.2.2.1, (d32.2.2.2.2.2.1, (d32.2.2.2.2.2.2.1, (d34.2.2.2.2.2.2.2.1, (d34.2.2.2.2.2.2.2.2.1, (d34.2.2.2.2.2.2.2.2.2.1, (d32.2.2.2.2.2.2.2.2.2.2.1, (d32.2.2.2.2.2.2.2.2.2.2.2.1, d34.2.2.2.2.2.2.2.2.2.2.2.2)))))))))))), (true, ()))
    else
      let b36 : Bool := (i30 == (25 : Int))
      bif b36 then
        some ((d34.1, (d34.2.1, (d34.2.2.1, (d34.2.2.2.1, (d34.2.2.2.2.1, (d32.2.2.2.2.2.1, d34.2.2.2.2.2.2)))))), (true, ()))
      else
        let b37 : Bool := (i30 == (26 : Int))
        bif b37 then
          frame_Frame_only_3 i30 true d32 d33 d34
        else
          let b38 : Bool := (i30 == (27 : Int))
          frame_Frame_only_3 i30 b38 d32 d33 d34
theorem ex_frame_Frame_only_2 : ∃ f, f = @b_frame_Frame_only_2 := ⟨_, rfl⟩
noncomputable def frame_Frame_only_2 := Classical.choose ex_frame_Frame_only_2
theorem frame_Frame_only_2_eq : @frame_Frame_only_2 = @b_frame_Frame_only_2 := Classical.choose_spec ex_frame_Frame_only_2
theorem s_frame_Frame_only_2 {base S0 cs0} (hfin : H_frame_Frame_only base S0) : J_frame_Frame_only base S0 cs0 p_frame_Frame_only_2 (u_frame_Frame_only_2 (frame_Frame_only_2)) :=
  JSound.join hfin.2 (o_frame_Frame_only_3 hfin) ks_frame_Frame_only 100000 (by rw [frame_Frame_only_2_eq]; intro x; kernel_rfl)
noncomputable def x_frame_Frame_only_2 : Cfg → Option (Option (D_frame_Frame × Bool × Unit)) := cut p_frame_Frame_only_2 (u_frame_Frame_only_2 (frame_Frame_only_2)) (x_frame_Frame_only_3)
theorem o_frame_Frame_only_2 {base S0 cs0} (hfin : H_frame_Frame_only base S0) : O_frame_Frame_only base S0 cs0 (x_frame_Frame_only_2) := OSound.cut (o_frame_Frame_only_3 hfin) (Nat.le_of_eq hfin.1) (s_frame_Frame_only_2 hfin)
@[reducible] noncomputable def p_frame_Frame_only_1 : CPat := ⟨⟨80, [1, 1, 0, 1, 0, 1, 1, 1, 1, 1, 1, 1, 1, 1, 1, 1, 1, 1], none, [.any, .ptr 0 0, .ptr 1 0, .any, .ptr 2 0, .any, .any, .any, .any, .int .u64, .any, .any, .any, .any, .any, .any, .any, .any, .any, .any, .any, .any, .any, .any, .any, .any, .any, .any, .any, .any, .any, .any, .any, .any, .any, .any, .any, .any, .any, .any, .any, .any, .any, .any, .any, .any, .any, .any, .any, .any, .any, .any, .any, .any, .any, .any, .any, .any, .any, .any, .any, .any, .any, .any, .bool], 63⟩, [], [.dat 34 T_frame_Frame, .dat 34 T_frame_Frame, .dat 34 T_frame_Frame], 0⟩
@[reducible] noncomputable def u_frame_Frame_only_1 (k : Int → Bool → D_frame_Frame → D_frame_Frame → D_frame_Frame → Option (D_frame_Frame × Bool × Unit)) : denC p_frame_Frame_only_1 → Option (D_frame_Frame × Bool × Unit) := fun x => k x.1.2.2.2.2.2.2.2.2.2.1 x.1.2.2.2.2.2.2.2.2.2.2.2.2.2.2.2.2.2.2.2.2.2.2.2.2.2.2.2.2.2.2.2.2.2.2.2.2.2.2.2.2.2.2.2.2.2.2.2.2.2.2.2.2.2.2.2.2.2.2.2.2.2.2.2.2.1 x.2.2.1 x.2.2.2.1 x.2.2.2.2.1
noncomputable def b_frame_Frame_only_1 (i23 : Int) (b24 : Bool) (d25 : D_frame_Frame) (d26 : D_frame_Frame) (d27 : D_frame_Frame) : Option (D_frame_Frame × Bool × Unit) :=
  bif b24 then
    some ((d27.1, (d27.2.1, (d27.2.2.1, (d25.2.2.2.1, d27.2.2.2.2)))), (true, ()))
  else
    let b28 : Bool := (i23 == (17 : Int))
    bif b28 then
      frame_Frame_only_2 i23 true d25 d26 d27
    else
      let b29 : Bool := (i23 == (21 : Int))
      frame_Frame_only_2 i23 b29 d25 d26 d27
theorem ex_frame_Frame_only_1 : ∃ f, f = @b_frame_Frame_only_1 := ⟨_, rfl⟩
noncomputable def frame_Frame_only_1 := Classical.choose ex_frame_Frame_only_1
theorem frame_Frame_only_1_eq : @frame_Frame_only_1 = @b_frame_Frame_only_1 := Classical.choose_spec ex_frame_Frame_only_1
theorem s_frame_Frame_only_1 {base S0 cs0} (hfin : H_frame_Frame_only base S0) : J_frame_Frame_only base S0 cs0 p_frame_Frame_only_1 (u_frame_Frame_only_1 (frame_Frame_only_1)) :=
  JSound.join hfin.2 (o_frame_Frame_only_2 hfin) ks_frame_Frame_only 100000 (by rw [frame_Frame_only_1_eq]; intro x; kernel_rfl)
noncomputable def x_frame_Frame_only_1 : Cfg → Option (Option (D_frame_Frame × Bool × Unit)) := cut p_frame_Frame_only_1 (u_frame_Frame_only_1 (frame_Frame_only_1)) (x_frame_Frame_only_2)
theorem o_frame_Frame_only_1 {base S0 cs0} (hfin : H_frame_Frame_only base S0) : O_frame_Frame_only base S0 cs0 (x_frame_Frame_only_1) := OSound.cut (o_frame_Frame_only_2 hfin) (Nat.le_of_eq hfin.1) (s_frame_Frame_only_1 hfin)
@[reducible] noncomputable def p_frame_Frame_only_0 : CPat := ⟨⟨80, [1, 1, 0, 1, 0, 1], none, [.any, .ptr 0 0, .ptr 1 0, .any, .ptr 2 0, .any, .any, .any, .any, .int .u64, .any, .bool], 116⟩, [], [.dat 34 T_frame_Frame, .dat 34 T_frame_Frame, .dat 34 T_frame_Frame], 0⟩
@[reducible] noncomputable def u_frame_Frame_only_0 (k : Int → Bool → D_frame_Frame → D_frame_Frame → D_frame_Frame → Option (D_frame_Frame × Bool × Unit)) : denC p_frame_Frame_only_0 → Option (D_frame_Frame × Bool × Unit) := fun x => k x.1.2.2.2.2.2.2.2.2.2.1 x.1.2.2.2.2.2.2.2.2.2.2.2.1 x.2.2.1 x.2.2.2.1 x.2.2.2.2.1
noncomputable def b_frame_Frame_only_0 (i7 : Int) (b8 : Bool) (d9 : D_frame_Frame) (d10 : D_frame_Frame) (d11 : D_frame_Frame) : Option (D_frame_Frame × Bool × Unit) :=
  bif b8 then
    some (d11, (true, ()))
  else
    let b12 : Bool := (i7 == (2 : Int))
    bif b12 then
      some ((d11.1, (d11.2.1, (d11.2.2.1, (d11.2.2.2.1, (d11.2.2.2.2.1, (d11.2.2.2.2.2.1, (d11.2.2.2.2.2.2.1, (d9.2.2.2.2.2.2.2.1, (d11.2.2.2.2.2.2.2.2.1, (d11.2.2.2.2.2.2.2.2.2.1, (d11.2.2.2.2.2.2.2.2.2.2.1, (d11.2.2.2.2.2.2.2.2.2.2.2.1, d9.2.2.2.2.2.2.2.2.2.2.2.2)))))))))))), (true, ()))
    else
      let b13 : Bool := (i7 == (4 : Int))
      bif b13 then
        some ((d11.1, (d9.2.1, (d11.2.2.1, (d9.2.2.2.1, (d9.2.2.2.2.1, d11.2.2.2.2.2))))), (true, ()))
      else
        let b14 : Bool := (i7 == (5 : Int))
        bif b14 then
          some ((d11.1, (d9.2.1, (d11.2.2.1, (d11.2.2.2.1, (d9.2.2.2.2.1, d11.2.2.2.2.2))))), (true, ()))
        else
          let b15 : Bool := (i7 == (6 : Int))
          bif b15 then
            some ((d11.1, (d11.2.1, (d9.2.2.1, (d11.2.2.2.1, (d11.2.2.2.2.1, (d11.2.2.2.2.2.1, (d11.2.2.2.2.2.2.1, (d11.2.2.2.2.2.2.2.1, (d11.2.2.2.2.2.2.2.2.1, (d9.2.2.2.2.2.2.2.2.2.1, d11.2.2.2.2.2.2.2.2.2.2)))))))))), (true, ()))
          else
            let b16 : Bool := (i7 == (8 : Int))
            bif b16 then
              some ((d11.1, (d9.2.1, (d9.2.2.1, (d11.2.2.2.1, (d11.2.2.2.2.1, (d11.2.2.2.2.2.1, (d11.2.2.2.2.2.2.1, (d11.2.2.2.2.2.2.2.1, (d9.2.2.2.2.2.2.2.2.1, (d9.2.2.2.2.2.2.2.2.2.1, d11.2.2.2.2.2.2.2.2.2.2)))))))))), (true, ()))
            else
              let b17 : Bool := (i7 == (16 : Int))
              bif b17 then
                frame_Frame_only_1 i7 true d9 d10 d11
              else
                let b18 : Bool := (i7 == (18 : Int))
                bif b18 then
                  frame_Frame_only_1 i7 true d9 d10 d11
                else
                  let b19 : Bool := (i7 == (19 : Int))
                  bif b19 then
                    frame_Frame_only_1 i7 true d9 d10 d11
                  else
                    let b20 : Bool := (i7 == (20 : Int))
                    bif b20 then
                      frame_Frame_only_1 i7 true d9 d10 d11
                    else
                      let b21 : Bool := (i7 == (22 : Int))
                      bif b21 then
                        frame_Frame_only_1 i7 true d9 d10 d11
                      else
                        let b22 : Bool := (i7 == (23 : Int))
                        frame_Frame_only_1 i7 b22 d9 d10 d11
theorem ex_frame_Frame_only_0 : ∃ f, f = @b_frame_Frame_only_0 := ⟨_, rfl⟩
noncomputable def frame_Frame_only_0 := Classical.choose ex_frame_Frame_only_0
theorem frame_Frame_only_0_eq : @frame_Frame_only_0 = @b_frame_Frame_only_0 := Classical.choose_spec ex_frame_Frame_only_0
theorem s_frame_Frame_only_0 {base S0 cs0} (hfin : H_frame_Frame_only base S0) : J_frame_Frame_only base S0 cs0 p_frame_Frame_only_0 (u_frame_Frame_only_0 (frame_Frame_only_0)) :=
  JSound.join hfin.2 (o_frame_Frame_only_1 hfin) ks_frame_Frame_only 100000 (by rw [frame_Frame_only_0_eq]; intro x; kernel_rfl)
noncomputable def x_frame_Frame_only_0 : Cfg → Option (Option (D_frame_Frame × Bool × Unit)) := cut p_frame_Frame_only_0 (u_frame_Frame_only_0 (frame_Frame_only_0)) (x_frame_Frame_only_1)
theorem o_frame_Frame_only_0 {base S0 cs0} (hfin : H_frame_Frame_only base S0) : O_frame_Frame_only base S0 cs0 (x_frame_Frame_only_0) := OSound.cut (o_frame_Frame_only_1 hfin) (Nat.le_of_eq hfin.1) (s_frame_Frame_only_0 hfin)
noncomputable def b_frame_Frame_only (a0 : D_frame_Frame) : Option (D_frame_Frame × Bool × Unit) :=
  let s1 : ByteArray := (ByteArray.mk (List.toArray ([] : List UInt8)))
  let s2 : ByteArray := (ByteArray.mk (List.toArray ([] : List UInt8)))
  let s3 : ByteArray := (ByteArray.mk (List.toArray ([] : List UInt8)))
  let b4 : Bool := (a0.1 == (0 : Int))
  bif b4 then
    frame_Frame_only_0 a0.1 true a0 ((0 : Int), ((0 : Int), ((0 : Int), ((0 : Int), ((0 : Int), ((0 : Int), ((0 : Int), ((0 : Int), (false, (s1, (s1, (s1, (([] : List D_ranges_Range), ()))))))))))))) (a0.1, ((0 : Int), ((0 : Int), ((0 : Int), ((0 : Int), ((0 : Int), ((0 : Int), ((0 : Int), (false, (s2, (s2, (s2, (([] : List D_ranges_Range), ())))))))))))))
  else
    let b5 : Bool := (a0.1 == (1 : Int))
    bif b5 then
      frame_Frame_only_0 a0.1 true a0 ((0 : Int), ((0 : Int), ((0 : Int), ((0 : Int), ((0 : Int), ((0 : Int), ((0 : Int), ((0 : Int), (false, (s1, (s1, (s1, (([] : List D_ranges_Range), ()))))))))))))) (a0.1, ((0 : Int), ((0 : Int), ((0 : Int), ((0 : Int), ((0 : Int), ((0 : Int), ((0 : Int), (false, (s2, (s2, (s2, (([] : List D_ranges_Range), ())))))))))))))
    else
      let b6 : Bool := (a0.1 == (30 : Int))
      frame_Frame_only_0 a0.1 b6 a0 ((0 : Int), ((0 : Int), ((0 : Int), ((0 : Int), ((0 : Int), ((0 : Int), ((0 : Int), ((0 : Int), (false, (s1, (s1, (s1, (([] : List D_ranges_Range), ()))))))))))))) (a0.1, ((0 : Int), ((0 : Int), ((0 : Int), ((0 : Int), ((0 : Int), ((0 : Int), ((0 : Int), (false, (s2, (s2, (s2, (([] : List D_ranges_Range), ())))))))))))))
theorem ex_frame_Frame_only : ∃ f, f = @b_frame_Frame_only := ⟨_, rfl⟩
noncomputable def frame_Frame_only := Classical.choose ex_frame_Frame_only
theorem frame_Frame_only_eq : @frame_Frame_only = @b_frame_Frame_only := Classical.choose_spec ex_frame_Frame_only
noncomputable def cb_frame_Frame_only : Con := ⟨[T_frame_Frame], r_frame_Frame_only, fun x => b_frame_Frame_only x.1⟩
noncomputable def c_frame_Frame_only : Con := ⟨[T_frame_Frame], r_frame_Frame_only, fun x => frame_Frame_only x.1⟩
theorem cb_frame_Frame_only_ok : cb_frame_Frame_only.Sound prog Inv gInv 80 :=
  con_run (M := m_frame_Frame_only) inv_g (f := f80) rfl ks_frame_Frame_only 100000 (X := x_frame_Frame_only_0) (fun base S0 cs0 hn hf => have hfin : H_frame_Frame_only base S0 := ⟨hn, hf⟩; o_frame_Frame_only_0 hfin) (by intro x; kernel_rfl)
theorem c_frame_Frame_only_ok : c_frame_Frame_only.Sound prog Inv gInv 80 := by
  have e : c_frame_Frame_only = cb_frame_Frame_only := by unfold c_frame_Frame_only cb_frame_Frame_only; rw [frame_Frame_only_eq]
  rw [e]; exact cb_frame_Frame_only_ok
end Go.Proofs.YtjdjlijjolibkaaDoor.V
namespace Go.Proofs.YtjdjlijjolibkaaDoor.V
open Go.RowKit Go.Proofs.Tryd
set_option maxRecDepth 100000
set_option linter.unusedVariables false
noncomputable def m_slices_Max_uint64 : Mach prog Inv gInv := mach bas [(81, f81)] ⟨ok81, trivial⟩ [] trivial [] trivial [] trivial
/-! ### slices.Max[[]uint64,uint64] -/
@[reducible] def r_slices_Max_uint64 : List Ty := [(.int .u64)]
def ks_slices_Max_uint64 : List Nat := [81]
abbrev H_slices_Max_uint64 (base : Base) (S0 : Nat → Prop) := base.n = 0 ∧ FinOk (finR r_slices_Max_uint64) base S0 (Post r_slices_Max_uint64 S0)
abbrev J_slices_Max_uint64 (base : Base) (S0 : Nat → Prop) (cs0 : List Go.Frame) (p : CPat) (J : denC p → Option (denL r_slices_Max_uint64)) := JSound m_slices_Max_uint64 base S0 cs0 (Post r_slices_Max_uint64 S0) p J
abbrev O_slices_Max_uint64 (base : Base) (S0 : Nat → Prop) (cs0 : List Go.Frame) (X : Cfg → Option (Option (denL r_slices_Max_uint64))) := OSound m_slices_Max_uint64 base S0 cs0 (Post r_slices_Max_uint64 S0) X
@[reducible] noncomputable def p_slices_Max_uint64_0 : CPat := ⟨⟨81, [1, 1, 1, 0, 1, 0], none, [.rows (.int .u64) false, .any, .any, .int .u64, .int .i64], 20⟩, [], [], 0⟩
@[reducible] noncomputable def u_slices_Max_uint64_0 (k : (List Int) → Int → Int → Option (Int × Unit)) : denC p_slices_Max_uint64_0 → Option (Int × Unit) := fun x => k x.1.1 x.1.2.2.2.1 x.1.2.2.2.2.1
noncomputable def t_slices_Max_uint64_0 (k0 : (List Int) → Int → Int → Option (Int × Unit)) (l11 : (List Int)) (i12 : Int) (i13 : Int) : Option (Int × Unit) :=
  let n14 : Int := (((List.length l11) : Nat) : Int)
  let b15 : Bool := (decide (i13 < n14))
  bif b15 then
    bif (decide (((0 : Int) ≤ i13) ∧ (i13 < (((List.length l11) : Nat) : Int)))) then
      let x16 : Int := (List.getD l11 (Int.toNat i13) (0 : Int))
      let n17 : Int := (if (x16 > i12) then x16 else i12)
      let n18 : Int := (Go.IntKind.wrap Go.IntKind.i64 (i13 + (1 : Int)))
      k0 l11 n17 n18
    else none
  else
    some (i12, ())
noncomputable def slices_Max_uint64_0 : Nat → (List Int) → Int → Int → Option (Int × Unit)
  | 0 => fun _ _ _ => none
  | m + 1 => t_slices_Max_uint64_0 (slices_Max_uint64_0 m)
noncomputable def b_slices_Max_uint64_0' (l11 : (List Int)) (i12 : Int) (i13 : Int) : Option (Int × Unit) := slices_Max_uint64_0 (Int.toNat ((((List.length l11) : Nat) : Int) - i13) + 2) l11 i12 i13
theorem ex_slices_Max_uint64_0' : ∃ f, f = @b_slices_Max_uint64_0' := ⟨_, rfl⟩
noncomputable def slices_Max_uint64_0' := Classical.choose ex_slices_Max_uint64_0'
theorem slices_Max_uint64_0'_eq : @slices_Max_uint64_0' = @b_slices_Max_uint64_0' := Classical.choose_spec ex_slices_Max_uint64_0'
theorem s_slices_Max_uint64_0 {base S0 cs0} (hfin : H_slices_Max_uint64 base S0) : ∀ m, J_slices_Max_uint64 base S0 cs0 p_slices_Max_uint64_0 (u_slices_Max_uint64_0 (slices_Max_uint64_0 m)) :=
  JSound.loop' hfin.2 ks_slices_Max_uint64 100000 u_slices_Max_uint64_0 (fun k0 => cut p_slices_Max_uint64_0 (u_slices_Max_uint64_0 k0) (nowhere)) (fun k0 h0 => OSound.cut (OSound.nowhere) (Nat.le_of_eq hfin.1) h0) (slices_Max_uint64_0) (by intro x; rfl) (by intro m x; kernel_rfl)
theorem s_slices_Max_uint64_0' {base S0 cs0} (hfin : H_slices_Max_uint64 base S0) : J_slices_Max_uint64 base S0 cs0 p_slices_Max_uint64_0 (u_slices_Max_uint64_0 (slices_Max_uint64_0')) := by
  rw [slices_Max_uint64_0'_eq]; exact fun x r hx => s_slices_Max_uint64_0 hfin _ x r hx
noncomputable def x_slices_Max_uint64_0 : Cfg → Option (Option (Int × Unit)) := cut p_slices_Max_uint64_0 (u_slices_Max_uint64_0 (slices_Max_uint64_0')) (nowhere)
theorem o_slices_Max_uint64_0 {base S0 cs0} (hfin : H_slices_Max_uint64 base S0) : O_slices_Max_uint64 base S0 cs0 (x_slices_Max_uint64_0) := OSound.cut (OSound.nowhere) (Nat.le_of_eq hfin.1) (s_slices_Max_uint64_0' hfin)
noncomputable def b_slices_Max_uint64 (a0 : (List Int)) : Option (Int × Unit) :=
  let n1 : Int := (((List.length a0) : Nat) : Int)
  let b2 : Bool := (decide (n1 < (1 : Int)))
  bif b2 then
    let s3 : ByteArray := (ByteArray.mk (List.toArray ((115 : UInt8) :: ((108 : UInt8) :: ((105 : UInt8) :: ((99 : UInt8) :: ((101 : UInt8) :: ((115 : UInt8) :: ((46 : UInt8) :: ((77 : UInt8) :: ((97 : UInt8) :: ((120 : UInt8) :: ((58 : UInt8) :: ((32 : UInt8) :: ((101 : UInt8) :: ((109 : UInt8) :: ((112 : UInt8) :: ((116 : UInt8) :: ((121 : UInt8) :: ((32 : UInt8) :: ((108 : UInt8) :: ((105 : UInt8) :: ((115 : UInt8) :: ((116 : UInt8) :: ([] : List UInt8)))))))))))))))))))))))))
    none
  else
    bif (decide (((0 : Int) ≤ (0 : Int)) ∧ ((0 : Int) < (((List.length a0) : Nat) : Int)))) then
      let x4 : Int := (List.getD a0 0 (0 : Int))
      slices_Max_uint64_0' a0 x4 (1 : Int)
    else none
theorem ex_slices_Max_uint64 : ∃ f, f = @b_slices_Max_uint64 := ⟨_, rfl⟩
noncomputable def slices_Max_uint64 := Classical.choose ex_slices_Max_uint64
theorem slices_Max_uint64_eq : @slices_Max_uint64 = @b_slices_Max_uint64 := Classical.choose_spec ex_slices_Max_uint64
noncomputable def cb_slices_Max_uint64 : Con := ⟨[(.slice (.int .u64))], r_slices_Max_uint64, fun x => b_slices_Max_uint64 x.1⟩
noncomputable def c_slices_Max_uint64 : Con := ⟨[(.slice (.int .u64))], r_slices_Max_uint64, fun x => slices_Max_uint64 x.1⟩
theorem cb_slices_Max_uint64_ok : cb_slices_Max_uint64.Sound prog Inv gInv 81 :=
  con_run (M := m_slices_Max_uint64) inv_g (f := f81) rfl ks_slices_Max_uint64 100000 (X := x_slices_Max_uint64_0) (fun base S0 cs0 hn hf => have hfin : H_slices_Max_uint64 base S0 := ⟨hn, hf⟩; o_slices_Max_uint64_0 hfin) (by intro x; kernel_rfl)
theorem c_slices_Max_uint64_ok : c_slices_Max_uint64.Sound prog Inv gInv 81 := by
  have e : c_slices_Max_uint64 = cb_slices_Max_uint64 := by unfold c_slices_Max_uint64 cb_slices_Max_uint64; rw [slices_Max_uint64_eq]
  rw [e]; exact cb_slices_Max_uint64_ok
end Go.Proofs.YtjdjlijjolibkaaDoor.V
namespace Go.Proofs.YtjdjlijjolibkaaDoor.V
open Go.RowKit Go.Proofs.Tryd
set_option maxRecDepth 100000
set_option linter.unusedVariables false
noncomputable def m_ranges_Range_empty : Mach prog Inv gInv := mach bas [(120, f120)] ⟨ok120, trivial⟩ [] trivial [] trivial [] trivial
/-! ### (domino/ranges.Range).empty -/
@[reducible] def r_ranges_Range_empty : List Ty := [.bool]
def ks_ranges_Range_empty : List Nat := [120]
noncomputable def b_ranges_Range_empty (a0 : D_ranges_Range) : Option (Bool × Unit) :=
  let b1 : Bool := (decide (a0.2.1 < a0.1))
  some (b1, ())
theorem ex_ranges_Range_empty : ∃ f, f = @b_ranges_Range_empty := ⟨_, rfl⟩
noncomputable def ranges_Range_empty := Classical.choose ex_ranges_Range_empty
theorem ranges_Range_empty_eq : @ranges_Range_empty = @b_ranges_Range_empty := Classical.choose_spec ex_ranges_Range_empty
noncomputable def cb_ranges_Range_empty : Con := ⟨[T_ranges_Range], r_ranges_Range_empty, fun x => b_ranges_Range_empty x.1⟩
noncomputable def c_ranges_Range_empty : Con := ⟨[T_ranges_Range], r_ranges_Range_empty, fun x => ranges_Range_empty x.1⟩
theorem cb_ranges_Range_empty_ok : cb_ranges_Range_empty.Sound prog Inv gInv 120 :=
  con_run (M := m_ranges_Range_empty) inv_g (f := f120) rfl ks_ranges_Range_empty 100000 (X := nowhere) (fun base S0 cs0 hn hf => OSound.nowhere) (by intro x; kernel_rfl)
theorem c_ranges_Range_empty_ok : c_ranges_Range_empty.Sound prog Inv gInv 120 := by
  have e : c_ranges_Range_empty = cb_ranges_Range_empty := by unfold c_ranges_Range_empty cb_ranges_Range_empty; rw [ranges_Range_empty_eq]
  rw [e]; exact cb_ranges_Range_empty_ok
end Go.Proofs.YtjdjlijjolibkaaDoor.V
namespace Go.Proofs.YtjdjlijjolibkaaDoor.V
open Go.RowKit Go.Proofs.Tryd
set_option maxRecDepth 100000
set_option linter.unusedVariables false
noncomputable def m_ranges_May : Mach prog Inv gInv := mach bas [(82, f82)] ⟨ok82, trivial⟩ [(120, c_ranges_Range_empty)] ⟨⟨c_ranges_Range_empty_ok, FnOk.callable ok120⟩, trivial⟩ [] trivial [] trivial
/-! ### domino/ranges.May -/
@[reducible] def r_ranges_May : List Ty := [.bool]
def ks_ranges_May : List Nat := [82]
abbrev H_ranges_May (base : Base) (S0 : Nat → Prop) := base.n = 0 ∧ FinOk (finR r_ranges_May) base S0 (Post r_ranges_May S0)
abbrev J_ranges_May (base : Base) (S0 : Nat → Prop) (cs0 : List Go.Frame) (p : CPat) (J : denC p → Option (denL r_ranges_May)) := JSound m_ranges_May base S0 cs0 (Post r_ranges_May S0) p J
abbrev O_ranges_May (base : Base) (S0 : Nat → Prop) (cs0 : List Go.Frame) (X : Cfg → Option (Option (denL r_ranges_May))) := OSound m_ranges_May base S0 cs0 (Post r_ranges_May S0) X
@[reducible] noncomputable def p_ranges_May_0 : CPat := ⟨⟨82, [1, 1, 0, 1, 0], none, [.any, .any, .any, .int .u64, .any, .any, .rows T_ranges_Range false, .int .i64, .int .i64], 20⟩, [], [], 0⟩
@[reducible] noncomputable def u_ranges_May_0 (k : Int → (List D_ranges_Range) → Int → Int → Option (Bool × Unit)) : denC p_ranges_May_0 → Option (Bool × Unit) := fun x => k x.1.2.2.2.1 x.1.2.2.2.2.2.2.1 x.1.2.2.2.2.2.2.2.1 x.1.2.2.2.2.2.2.2.2.1
noncomputable def t_ranges_May_0 (k0 : Int → (List D_ranges_Range) → Int → Int → Option (Bool × Unit)) (i10 : Int) (l11 : (List D_ranges_Range)) (i12 : Int) (i13 : Int) : Option (Bool × Unit) :=
  let b14 : Bool := (decide (i13 < i12))
  bif b14 then
    bif (decide (((0 : Int) ≤ i13) ∧ (i13 < (((List.length l11) : Nat) : Int)))) then
      let x15 : D_ranges_Range := (List.getD l11 (Int.toNat i13) (Ty.dflt T_ranges_Range))
      obind (ranges_Range_empty x15) fun y16 =>
      bif y16.1 then
        some (false, ())
      else
        let b17 : Bool := (decide (x15.2.1 ≥ (9223372036854775808 : Int)))
        bif b17 then
          some (false, ())
        else
          let b18 : Bool := (decide (x15.1 < i10))
          bif b18 then
            some (false, ())
          else
            let n19 : Int := (Go.IntKind.wrap Go.IntKind.u64 (x15.2.1 + (2 : Int)))
            let n20 : Int := (Go.IntKind.wrap Go.IntKind.i64 (i13 + (1 : Int)))
            k0 n19 l11 i12 n20
    else none
  else
    some (true, ())
noncomputable def ranges_May_0 : Nat → Int → (List D_ranges_Range) → Int → Int → Option (Bool × Unit)
  | 0 => fun _ _ _ _ => none
  | m + 1 => t_ranges_May_0 (ranges_May_0 m)
noncomputable def b_ranges_May_0' (i10 : Int) (l11 : (List D_ranges_Range)) (i12 : Int) (i13 : Int) : Option (Bool × Unit) := ranges_May_0 (Int.toNat (i12 - i13) + 2) i10 l11 i12 i13
theorem ex_ranges_May_0' : ∃ f, f = @b_ranges_May_0' := ⟨_, rfl⟩
noncomputable def ranges_May_0' := Classical.choose ex_ranges_May_0'
theorem ranges_May_0'_eq : @ranges_May_0' = @b_ranges_May_0' := Classical.choose_spec ex_ranges_May_0'
theorem s_ranges_May_0 {base S0 cs0} (hfin : H_ranges_May base S0) : ∀ m, J_ranges_May base S0 cs0 p_ranges_May_0 (u_ranges_May_0 (ranges_May_0 m)) :=
  JSound.loop' hfin.2 ks_ranges_May 100000 u_ranges_May_0 (fun k0 => cut p_ranges_May_0 (u_ranges_May_0 k0) (nowhere)) (fun k0 h0 => OSound.cut (OSound.nowhere) (Nat.le_of_eq hfin.1) h0) (ranges_May_0) (by intro x; rfl) (by intro m x; kernel_rfl)
theorem s_ranges_May_0' {base S0 cs0} (hfin : H_ranges_May base S0) : J_ranges_May base S0 cs0 p_ranges_May_0 (u_ranges_May_0 (ranges_May_0')) := by
  rw [ranges_May_0'_eq]; exact fun x r hx => s_ranges_May_0 hfin _ x r hx
noncomputable def x_ranges_May_0 : Cfg → Option (Option (Bool × Unit)) := cut p_ranges_May_0 (u_ranges_May_0 (ranges_May_0')) (nowhere)
theorem o_ranges_May_0 {base S0 cs0} (hfin : H_ranges_May base S0) : O_ranges_May base S0 cs0 (x_ranges_May_0) := OSound.cut (OSound.nowhere) (Nat.le_of_eq hfin.1) (s_ranges_May_0' hfin)
noncomputable def b_ranges_May (a0 : (List D_ranges_Range)) : Option (Bool × Unit) :=
  let n1 : Int := (((List.length a0) : Nat) : Int)
  ranges_May_0' (0 : Int) a0 n1 (0 : Int)
theorem ex_ranges_May : ∃ f, f = @b_ranges_May := ⟨_, rfl⟩
noncomputable def ranges_May := Classical.choose ex_ranges_May
theorem ranges_May_eq : @ranges_May = @b_ranges_May := Classical.choose_spec ex_ranges_May
noncomputable def cb_ranges_May : Con := ⟨[(.slice T_ranges_Range)], r_ranges_May, fun x => b_ranges_May x.1⟩
noncomputable def c_ranges_May : Con := ⟨[(.slice T_ranges_Range)], r_ranges_May, fun x => ranges_May x.1⟩
theorem cb_ranges_May_ok : cb_ranges_May.Sound prog Inv gInv 82 :=
  con_run (M := m_ranges_May) inv_g (f := f82) rfl ks_ranges_May 100000 (X := x_ranges_May_0) (fun base S0 cs0 hn hf => have hfin : H_ranges_May base S0 := ⟨hn, hf⟩; o_ranges_May_0 hfin) (by intro x; kernel_rfl)
theorem c_ranges_May_ok : c_ranges_May.Sound prog Inv gInv 82 := by
  have e : c_ranges_May = cb_ranges_May := by unfold c_ranges_May cb_ranges_May; rw [ranges_May_eq]
  rw [e]; exact cb_ranges_May_ok
end Go.Proofs.YtjdjlijjolibkaaDoor.V
namespace Go.Proofs.YtjdjlijjolibkaaDoor.V
open Go.RowKit Go.Proofs.Tryd
set_option maxRecDepth 100000
set_option linter.unusedVariables false
noncomputable def m_frame_May : Mach prog Inv gInv := mach bas [(34, f34)] ⟨ok34, trivial⟩ [(39, c_frame_Same), (80, c_frame_Frame_only), (81, c_slices_Max_uint64), (82, c_ranges_May)] ⟨⟨c_frame_Same_ok, FnOk.callable ok39⟩, ⟨c_frame_Frame_only_ok, FnOk.callable ok80⟩, ⟨c_slices_Max_uint64_ok, FnOk.callable ok81⟩, ⟨c_ranges_May_ok, FnOk.callable ok82⟩, trivial⟩ [] trivial [] trivial
/-! ### domino/frame.May -/
@[reducible] def r_frame_May : List Ty := [.bool]
def ks_frame_May : List Nat := [34]
abbrev H_frame_May (base : Base) (S0 : Nat → Prop) := base.n = 0 ∧ FinOk (finR r_frame_May) base S0 (Post r_frame_May S0)
abbrev J_frame_May (base : Base) (S0 : Nat → Prop) (cs0 : List Go.Frame) (p : CPat) (J : denC p → Option (denL r_frame_May)) := JSound m_frame_May base S0 cs0 (Post r_frame_May S0) p J
abbrev O_frame_May (base : Base) (S0 : Nat → Prop) (cs0 : List Go.Frame) (X : Cfg → Option (Option (denL r_frame_May))) := OSound m_frame_May base S0 cs0 (Post r_frame_May S0) X
@[reducible] noncomputable def p_frame_May_2 : CPat := ⟨⟨34, [1, 1, 1, 0, 1, 1, 0, 1, 1, 1, 1, 1, 1, 1, 1, 1], none, [.any, .ptr 0 0, .any, .any, .any, .any, .any, .any, .any, .any, .any, .any, .any, .any, .any, .any, .any, .any, .any, .any, .any, .any, .any, .any, .any, .any, .any, .any, .any, .any, .any, .any, .any, .any, .any, .any, .any, .any, .any, .any, .any, .any, .any, .any, .any, .any, .any, .any, .any, .any, .any, .any, .any, .any, .any, .any, .any, .any, .any, .any, .any, .any, .any, .any, .any, .any, .any, .any, .any, .any, .any, .any, .any, .any, .any, .any, .any, .any, .any, .any, .any, .any, .any, .any, .any, .any, .any, .any, .any, .any, .any, .any, .any, .any, .any, .any, .any, .any, .any, .any, .any, .any, .any, .any, .any, .any, .any, .any, .any, .bool], 7⟩, [], [.dat 34 T_frame_Frame], 0⟩
@[reducible] noncomputable def u_frame_May_2 (k : Bool → D_frame_Frame → Option (Bool × Unit)) : denC p_frame_May_2 → Option (Bool × Unit) := fun x => k x.1.2.2.2.2.2.2.2.2.2.2.2.2.2.2.2.2.2.2.2.2.2.2.2.2.2.2.2.2.2.2.2.2.2.2.2.2.2.2.2.2.2.2.2.2.2.2.2.2.2.2.2.2.2.2.2.2.2.2.2.2.2.2.2.2.2.2.2.2.2.2.2.2.2.2.2.2.2.2.2.2.2.2.2.2.2.2.2.2.2.2.2.2.2.2.2.2.2.2.2.2.2.2.2.2.2.2.2.2.2.1 x.2.2.1
noncomputable def b_frame_May_2 (b44 : Bool) (d45 : D_frame_Frame) : Option (Bool × Unit) :=
  bif b44 then
    let b46 : Bool := (decide (d45.2.2.2.1 ≤ (1152921504606846976 : Int)))
    some (b46, ())
  else
    some (true, ())
theorem ex_frame_May_2 : ∃ f, f = @b_frame_May_2 := ⟨_, rfl⟩
noncomputable def frame_May_2 := Classical.choose ex_frame_May_2
theorem frame_May_2_eq : @frame_May_2 = @b_frame_May_2 := Classical.choose_spec ex_frame_May_2
theorem s_frame_May_2 {base S0 cs0} (hfin : H_frame_May base S0) : J_frame_May base S0 cs0 p_frame_May_2 (u_frame_May_2 (frame_May_2)) :=
  JSound.join hfin.2 (OSound.nowhere) ks_frame_May 100000 (by rw [frame_May_2_eq]; intro x; kernel_rfl)
noncomputable def x_frame_May_2 : Cfg → Option (Option (Bool × Unit)) := cut p_frame_May_2 (u_frame_May_2 (frame_May_2)) (nowhere)
theorem o_frame_May_2 {base S0 cs0} (hfin : H_frame_May base S0) : O_frame_May base S0 cs0 (x_frame_May_2) := OSound.cut (OSound.nowhere) (Nat.le_of_eq hfin.1) (s_frame_May_2 hfin)
@[reducible] noncomputable def p_frame_May_1 : CPat := ⟨⟨34, [1, 1, 1, 0, 1, 1, 0, 1, 1, 1, 1, 1, 1, 1], none, [.any, .ptr 0 0, .any, .any, .any, .any, .any, .any, .any, .any, .any, .any, .any, .any, .any, .any, .any, .any, .any, .any, .any, .any, .any, .any, .any, .any, .any, .any, .any, .any, .any, .any, .any, .any, .any, .any, .any, .any, .any, .any, .any, .any, .any, .any, .any, .any, .any, .any, .int .u64, .any, .any, .any, .any, .any, .any, .any, .any, .any, .any, .any, .any, .any, .any, .any, .any, .any, .any, .any, .any, .any, .any, .any, .any, .any, .any, .any, .any, .any, .any, .any, .any, .any, .any, .any, .any, .any, .any, .any, .any, .any, .any, .any, .any, .any, .any, .any, .any, .any, .any, .any, .any, .any, .bool], 14⟩, [], [.dat 34 T_frame_Frame], 0⟩
@[reducible] noncomputable def u_frame_May_1 (k : Int → Bool → D_frame_Frame → Option (Bool × Unit)) : denC p_frame_May_1 → Option (Bool × Unit) := fun x => k x.1.2.2.2.2.2.2.2.2.2.2.2.2.2.2.2.2.2.2.2.2.2.2.2.2.2.2.2.2.2.2.2.2.2.2.2.2.2.2.2.2.2.2.2.2.2.2.2.2.1 x.1.2.2.2.2.2.2.2.2.2.2.2.2.2.2.2.2.2.2.2.2.2.2.2.2.2.2.2.2.2.2.2.2.2.2.2.2.2.2.2.2.2.2.2.2.2.2.2.2.2.2.2.2.2.2.2.2.2.2.2.2.2.2.2.2.2.2.2.2.2.2.2.2.2.2.2.2.2.2.2.2.2.2.2.2.2.2.2.2.2.2.2.2.2.2.2.2.2.2.2.2.2.2.1 x.2.2.1
noncomputable def b_frame_May_1 (i35 : Int) (b36 : Bool) (d37 : D_frame_Frame) : Option (Bool × Unit) :=
  bif b36 then
    let n38 : Int := (((ByteArray.size d37.2.2.2.2.2.2.2.2.2.2.2.1) : Nat) : Int)
    let b39 : Bool := (n38 == (8 : Int))
    some (b39, ())
  else
    let b40 : Bool := (i35 == (18 : Int))
    bif b40 then
      frame_May_2 true d37
    else
      let b41 : Bool := (i35 == (19 : Int))
      bif b41 then
        frame_May_2 true d37
      else
        let b42 : Bool := (i35 == (22 : Int))
        bif b42 then
          frame_May_2 true d37
        else
          let b43 : Bool := (i35 == (23 : Int))
          frame_May_2 b43 d37
theorem ex_frame_May_1 : ∃ f, f = @b_frame_May_1 := ⟨_, rfl⟩
noncomputable def frame_May_1 := Classical.choose ex_frame_May_1
theorem frame_May_1_eq : @frame_May_1 = @b_frame_May_1 := Classical.choose_spec ex_frame_May_1
theorem s_frame_May_1 {base S0 cs0} (hfin : H_frame_May base S0) : J_frame_May base S0 cs0 p_frame_May_1 (u_frame_May_1 (frame_May_1)) :=
  JSound.join hfin.2 (o_frame_May_2 hfin) ks_frame_May 100000 (by rw [frame_May_1_eq]; intro x; kernel_rfl)
noncomputable def x_frame_May_1 : Cfg → Option (Option (Bool × Unit)) := cut p_frame_May_1 (u_frame_May_1 (frame_May_1)) (x_frame_May_2)
theorem o_frame_May_1 {base S0 cs0} (hfin : H_frame_May base S0) : O_frame_May base S0 cs0 (x_frame_May_1) := OSound.cut (o_frame_May_2 hfin) (Nat.le_of_eq hfin.1) (s_frame_May_1 hfin)
@[reducible] noncomputable def p_frame_May_0 : CPat := ⟨⟨34, [1, 1, 1, 0, 1, 1, 0, 1, 1, 1], none, [.any, .ptr 0 0, .any, .any, .any, .any, .any, .any, .any, .any, .any, .any, .any, .any, .any, .any, .any, .any, .any, .any, .any, .any, .any, .any, .any, .any, .any, .any, .any, .any, .any, .any, .any, .any, .any, .any, .any, .any, .any, .any, .any, .any, .any, .any, .any, .any, .any, .any, .int .u64, .any, .any, .any, .any, .any, .any, .any, .any, .any, .any, .any, .any, .any, .any, .any, .any, .any, .any, .any, .any, .any, .any, .any, .bool], 44⟩, [], [.dat 34 T_frame_Frame], 0⟩
@[reducible] noncomputable def u_frame_May_0 (k : Int → Bool → D_frame_Frame → Option (Bool × Unit)) : denC p_frame_May_0 → Option (Bool × Unit) := fun x => k x.1.2.2.2.2.2.2.2.2.2.2.2.2.2.2.2.2.2.2.2.2.2.2.2.2.2.2.2.2.2.2.2.2.2.2.2.2.2.2.2.2.2.2.2.2.2.2.2.2.1 x.1.2.2.2.2.2.2.2.2.2.2.2.2.2.2.2.2.2.2.2.2.2.2.2.2.2.2.2.2.2.2.2.2.2.2.2.2.2.2.2.2.2.2.2.2.2.2.2.2.2.2.2.2.2.2.2.2.2.2.2.2.2.2.2.2.2.2.2.2.2.2.2.2.1 x.2.2.1
noncomputable def b_frame_May_0 (i20 : Int) (b21 : Bool) (d22 : D_frame_Frame) : Option (Bool × Unit) :=
  bif b21 then
    let n23 : Int := (((ByteArray.size d22.2.2.2.2.2.2.2.2.2.1) : Nat) : Int)
    let n24 : Int := (Go.IntKind.wrap Go.IntKind.u64 n23)
    let n25 : Int := (Go.IntKind.wrap Go.IntKind.u64 (d22.2.2.1 + n24))
    let b26 : Bool := (decide (n25 ≤ (4611686018427387903 : Int)))
    some (b26, ())
  else
    let b27 : Bool := (i20 == (24 : Int))
    bif b27 then
      let b28 : Bool := (decide (d22.2.2.2.2.2.2.1 ≤ d22.2.2.2.2.2.1))
      bif b28 then
        let n29 : Int := (((ByteArray.size d22.2.2.2.2.2.2.2.2.2.2.1) : Nat) : Int)
        let b30 : Bool := (n29 == (8 : Int))
        bif b30 then
          let n31 : Int := (((ByteArray.size d22.2.2.2.2.2.2.2.2.2.2.2.1) : Nat) : Int)
          let b32 : Bool := (n31 == (16 : Int))
          some (b32, ())
        else
          some (false, ())
      else
        some (false, ())
    else
      let b33 : Bool := (i20 == (26 : Int))
      bif b33 then
        frame_May_1 i20 true d22
      else
        let b34 : Bool := (i20 == (27 : Int))
        frame_May_1 i20 b34 d22
theorem ex_frame_May_0 : ∃ f, f = @b_frame_May_0 := ⟨_, rfl⟩
noncomputable def frame_May_0 := Classical.choose ex_frame_May_0
theorem frame_May_0_eq : @frame_May_0 = @b_frame_May_0 := Classical.choose_spec ex_frame_May_0
theorem s_frame_May_0 {base S0 cs0} (hfin : H_frame_May base S0) : J_frame_May base S0 cs0 p_frame_May_0 (u_frame_May_0 (frame_May_0)) :=
  JSound.join hfin.2 (o_frame_May_1 hfin) ks_frame_May 100000 (by rw [frame_May_0_eq]; intro x; kernel_rfl)
noncomputable def x_frame_May_0 : Cfg → Option (Option (Bool × Unit)) := cut p_frame_May_0 (u_frame_May_0 (frame_May_0)) (x_frame_May_1)
theorem o_frame_May_0 {base S0 cs0} (hfin : H_frame_May base S0) : O_frame_May base S0 cs0 (x_frame_May_0) := OSound.cut (o_frame_May_1 hfin) (Nat.le_of_eq hfin.1) (s_frame_May_0 hfin)
noncomputable def b_frame_May (a0 : D_frame_Frame) : Option (Bool × Unit) :=
  obind (frame_Frame_only a0) fun y1 =>
  let s2 : ByteArray := (ByteArray.mk (List.toArray ([] : List UInt8)))
  let b3 : Bool := (!y1.2.1)
  bif b3 then
    some (false, ())
  else
    obind (frame_Same a0 y1.1) fun y4 =>
    let b5 : Bool := (!y4.1)
    bif b5 then
      some (false, ())
    else
      obind (slices_Max_uint64 (a0.2.1 :: (a0.2.2.1 :: (a0.2.2.2.1 :: (a0.2.2.2.2.1 :: (a0.2.2.2.2.2.1 :: (a0.2.2.2.2.2.2.1 :: (a0.2.2.2.2.2.2.2.1 :: ([] : List Int))))))))) fun y6 =>
      let b7 : Bool := (decide (y6.1 > (4611686018427387903 : Int)))
      bif b7 then
        some (false, ())
      else
        let n8 : Int := (((ByteArray.size a0.2.2.2.2.2.2.2.2.2.1) : Nat) : Int)
        let b9 : Bool := (decide (n8 > (1200 : Int)))
        bif b9 then
          some (false, ())
        else
          let n10 : Int := (((List.length a0.2.2.2.2.2.2.2.2.2.2.2.2.1) : Nat) : Int)
          let b11 : Bool := (a0.1 == (2 : Int))
          bif b11 then
            obind (ranges_May a0.2.2.2.2.2.2.2.2.2.2.2.2.1) fun y12 =>
            bif y12.1 then
              let b13 : Bool := (decide (n10 > (0 : Int)))
              bif b13 then
                let b14 : Bool := (decide (n10 ≤ (32 : Int)))
                bif b14 then
                  let n15 : Int := (Go.IntKind.wrap Go.IntKind.i64 (n10 - (1 : Int)))
                  bif (decide (((0 : Int) ≤ n15) ∧ (n15 < (((List.length a0.2.2.2.2.2.2.2.2.2.2.2.2.1) : Nat) : Int)))) then
                    let x16 : D_ranges_Range := (List.getD a0.2.2.2.2.2.2.2.2.2.2.2.2.1 (Int.toNat n15) (Ty.dflt T_ranges_Range))
                    let b17 : Bool := (decide (x16.2.1 ≤ (4611686018427387903 : Int)))
                    some (b17, ())
                  else none
                else
                  some (false, ())
              else
                some (false, ())
            else
              some (false, ())
          else
            let b18 : Bool := (a0.1 == (6 : Int))
            bif b18 then
              frame_May_0 a0.1 true a0
            else
              let b19 : Bool := (a0.1 == (8 : Int))
              frame_May_0 a0.1 b19 a0
theorem ex_frame_May : ∃ f, f = @b_frame_May := ⟨_, rfl⟩
noncomputable def frame_May := Classical.choose ex_frame_May
theorem frame_May_eq : @frame_May = @b_frame_May := Classical.choose_spec ex_frame_May
noncomputable def cb_frame_May : Con := ⟨[T_frame_Frame], r_frame_May, fun x => b_frame_May x.1⟩
noncomputable def c_frame_May : Con := ⟨[T_frame_Frame], r_frame_May, fun x => frame_May x.1⟩
theorem cb_frame_May_ok : cb_frame_May.Sound prog Inv gInv 34 :=
  con_run (M := m_frame_May) inv_g (f := f34) rfl ks_frame_May 100000 (X := x_frame_May_0) (fun base S0 cs0 hn hf => have hfin : H_frame_May base S0 := ⟨hn, hf⟩; o_frame_May_0 hfin) (by intro x; kernel_rfl)
theorem c_frame_May_ok : c_frame_May.Sound prog Inv gInv 34 := by
  have e : c_frame_May = cb_frame_May := by unfold c_frame_May cb_frame_May; rw [frame_May_eq]
  rw [e]; exact cb_frame_May_ok
end Go.Proofs.YtjdjlijjolibkaaDoor.V
/- What frame.May and frame.Same answer, in plain Lean. -/
namespace Go.Proofs.YtjdjlijjolibkaaDoor.V
open Go.RowKit
theorem equal_loop : ∀ (s1 s2 p1 p2 : List D_ranges_Range) (m : Nat), s1.length < m → p1.length = p2.length → s1.length = s2.length → (p1 ++ s1).length ≤ 9223372036854775807 →
    slices_Equal_ranges_Range_0 m (p1 ++ s1) (p2 ++ s2) (((p1 ++ s1).length : Nat) : Int) ((p1.length : Nat) : Int) = some (decide (s1 = s2), ()) := by
  intro s1
  induction s1 with
  | nil =>
    intro s2 p1 p2 m hm _ h2 _
    obtain ⟨m, rfl⟩ : ∃ k, m = k + 1 := ⟨m - 1, by omega⟩
    obtain rfl : s2 = [] := List.eq_nil_of_length_eq_zero (by simpa using h2.symm)
    simp only [slices_Equal_ranges_Range_0, t_slices_Equal_ranges_Range_0, mid_end, decide_false, cond_false, decide_true]
  | cons x s1 ih =>
    intro s2 p1 p2 m hm h1 h2 hl
    obtain ⟨m, rfl⟩ : ∃ k, m = k + 1 := ⟨m - 1, by omega⟩
    obtain ⟨y, s2, rfl⟩ : ∃ y t, s2 = y :: t := by
      cases s2 with
      | nil => simp at h2
      | cons y t => exact ⟨y, t, rfl⟩
    have e : ((p1.length : Nat) : Int) = ((p2.length : Nat) : Int) := by rw [h1]
    have g2 : ((p1.length : Nat) : Int) < (((p2 ++ y :: s2).length : Nat) : Int) := by rw [h1]; simp; omega
    have g3 : (p2 ++ y :: s2).getD p1.length (Ty.dflt T_ranges_Range) = y := by rw [h1, getD_mid]
    simp only [slices_Equal_ranges_Range_0, t_slices_Equal_ranges_Range_0, mid_lt, nn, and_true, decide_true, cond_true, toNat_len, getD_mid, g2, g3]
    obtain ⟨a, b, ⟨⟩⟩ := x
    obtain ⟨c, d, ⟨⟩⟩ := y
    by_cases hx : a = c ∧ b = d
    · obtain ⟨rfl, rfl⟩ := hx
      simp only [beq_self_eq_true, Bool.and_self, Bool.not_true, cond_false]
      rw [mid_next' p1 (a, b, ()) (a, b, ()) s1 hl, snoc_app p1, snoc_app p2, ih s2 (p1 ++ [(a, b, ())]) (p2 ++ [(a, b, ())]) m (by simp at hm; omega) (by simp [h1]) (by simpa using h2) (by simpa using hl)]
      simp
    · have : ((a == c) && ((b == d) && true)) = false := by
        simp only [Bool.and_true, Bool.and_eq_false_iff, beq_eq_false_iff_ne]
        by_cases e : a = c
        · exact .inr fun e2 => hx ⟨e, e2⟩
        · exact .inl e
      simp only [this, Bool.not_false, cond_true]
      rw [decide_eq_false]
      intro e
      simp only [List.cons.injEq, Prod.mk.injEq, and_true] at e
      exact hx e.1
theorem equal_is (a b : List D_ranges_Range) (ha : a.length ≤ 9223372036854775807) : slices_Equal_ranges_Range a b = some (decide (a = b), ()) := by
  rw [slices_Equal_ranges_Range_eq, b_slices_Equal_ranges_Range]
  by_cases h : a.length = b.length
  · have : (((a.length : Nat) : Int) != ((b.length : Nat) : Int)) = false := by rw [h]; simp
    simp only [this, cond_false]
    rw [slices_Equal_ranges_Range_0'_eq, b_slices_Equal_ranges_Range_0']
    exact equal_loop a b [] [] _ (by simp) rfl h (by simp; omega)
  · have : (((a.length : Nat) : Int) != ((b.length : Nat) : Int)) = true := by simp; omega
    simp only [this, cond_true]
    rw [decide_eq_false (fun e => h (by rw [e]))]
theorem three (a b c : Bool) : (bif a then bif b then (some (c, ()) : Option (Bool × Unit)) else some (false, ()) else some (false, ())) = some (a && b && c, ()) := by
  cases a <;> cases b <;> rfl
theorem same_is (f g : D_frame_Frame) (hf : f.2.2.2.2.2.2.2.2.2.2.2.2.1.length ≤ 9223372036854775807) : frame_Same f g = some (decide (f = g), ()) := by
  rw [frame_Same_eq, b_frame_Same, equal_is _ _ hf]
  simp only [obind_some, frame_Same_l1_eq, b_frame_Same_l1, toList_beq]
  obtain ⟨a1, a2, a3, a4, a5, a6, a7, a8, a9, a10, a11, a12, a13, ⟨⟩⟩ := f
  obtain ⟨b1, b2, b3, b4, b5, b6, b7, b8, b9, b10, b11, b12, b13, ⟨⟩⟩ := g
  simp only [Prod.mk.injEq, and_true]
  have e : ∀ x y : Int, (x == y) = decide (x = y) := fun x y => by by_cases h : x = y <;> simp [h]
  have e2 : ∀ x y : Bool, (x == y) = decide (x = y) := fun x y => by cases x <;> cases y <;> rfl
  simp only [e, e2, Bool.and_true]
  by_cases h13 : a13 = b13
  · simp only [h13, decide_true, Bool.not_true, cond_false, and_true]
    by_cases h1 : a1 = b1 ∧ a2 = b2 ∧ a3 = b3 ∧ a4 = b4 ∧ a5 = b5 ∧ a6 = b6 ∧ a7 = b7 ∧ a8 = b8
    · obtain ⟨rfl, rfl, rfl, rfl, rfl, rfl, rfl, rfl⟩ := h1
      simp only [decide_true, Bool.and_self, cond_true, true_and]
      by_cases h9 : a9 = b9
      · by_cases h10 : a10 = b10
        · by_cases h11 : a11 = b11
          · simp only [h9, h10, h11, decide_true, cond_true, true_and]
          · simp only [h9, h10, h11, decide_true, decide_false, cond_true, cond_false, true_and, false_and]
        · simp only [h9, h10, decide_true, decide_false, cond_true, cond_false, true_and, false_and]
      · simp only [h9, decide_false, cond_false, false_and]
    · have : (decide (a1 = b1) && (decide (a2 = b2) && (decide (a3 = b3) && (decide (a4 = b4) && (decide (a5 = b5) && (decide (a6 = b6) && (decide (a7 = b7) && decide (a8 = b8)))))))) = false := by
        rw [Bool.eq_false_iff]
        intro h
        simp only [Bool.and_eq_true, decide_eq_true_eq] at h
        exact h1 h
      simp only [this, cond_false]
      rw [eq_comm]
      simp only [Option.some.injEq, Prod.mk.injEq, decide_eq_false_iff_not, and_true]
      exact fun h => h1 ⟨h.1, h.2.1, h.2.2.1, h.2.2.2.1, h.2.2.2.2.1, h.2.2.2.2.2.1, h.2.2.2.2.2.2.1, h.2.2.2.2.2.2.2.1⟩
  · simp only [h13, decide_false, Bool.not_false, cond_true, and_false]
/-! which parts a kind has -/
def kindB (k : Int) : Bool := [0, 1, 2, 4, 5, 6, 8, 16, 17, 18, 19, 20, 21, 22, 23, 24, 25, 26, 27, 28, 29, 30].contains k
def hasId (k : Int) : Bool := [4, 5, 8, 17, 21].contains k
def hasOff (k : Int) : Bool := [6, 8].contains k
def hasMax (k : Int) : Bool := [4, 16, 17, 18, 19, 20, 21, 22, 23].contains k
def hasCode (k : Int) : Bool := [4, 5, 28, 29].contains k
def hasSeq (k : Int) : Bool := [24, 25].contains k
def hasPrior (k : Int) : Bool := [24].contains k
def hasDelay (k : Int) : Bool := [2, 28].contains k
def hasFin (k : Int) : Bool := [8].contains k
def hasData (k : Int) : Bool := [6, 8, 28, 29].contains k
def hasCid (k : Int) : Bool := [24].contains k
def hasToken (k : Int) : Bool := [24, 26, 27].contains k
def hasSet (k : Int) : Bool := [2].contains k
def onlyF (f : D_frame_Frame) : D_frame_Frame :=
  let k := f.1
  (k, bif hasId k then f.2.1 else 0, bif hasOff k then f.2.2.1 else 0, bif hasMax k then f.2.2.2.1 else 0, bif hasCode k then f.2.2.2.2.1 else 0, bif hasSeq k then f.2.2.2.2.2.1 else 0,
    bif hasPrior k then f.2.2.2.2.2.2.1 else 0, bif hasDelay k then f.2.2.2.2.2.2.2.1 else 0, bif hasFin k then f.2.2.2.2.2.2.2.2.1 else false, bif hasData k then f.2.2.2.2.2.2.2.2.2.1 else ⟨#[]⟩,
    bif hasCid k then f.2.2.2.2.2.2.2.2.2.2.1 else ⟨#[]⟩, bif hasToken k then f.2.2.2.2.2.2.2.2.2.2.2.1 else ⟨#[]⟩, bif hasSet k then f.2.2.2.2.2.2.2.2.2.2.2.2.1 else [], ())
theorem kinds {k : Int} (h : kindB k = true) : k = 0 ∨ k = 1 ∨ k = 2 ∨ k = 4 ∨ k = 5 ∨ k = 6 ∨ k = 8 ∨ k = 16 ∨ k = 17 ∨ k = 18 ∨ k = 19 ∨ k = 20 ∨ k = 21 ∨ k = 22 ∨ k = 23 ∨ k = 24 ∨ k = 25 ∨ k = 26 ∨ k = 27 ∨ k = 28 ∨ k = 29 ∨ k = 30 := by
  simpa [kindB] using h
theorem nokind {k : Int} (h : kindB k = false) : k ≠ 0 ∧ k ≠ 1 ∧ k ≠ 2 ∧ k ≠ 4 ∧ k ≠ 5 ∧ k ≠ 6 ∧ k ≠ 8 ∧ k ≠ 16 ∧ k ≠ 17 ∧ k ≠ 18 ∧ k ≠ 19 ∧ k ≠ 20 ∧ k ≠ 21 ∧ k ≠ 22 ∧ k ≠ 23 ∧ k ≠ 24 ∧ k ≠ 25 ∧ k ≠ 26 ∧ k ≠ 27 ∧ k ≠ 28 ∧ k ≠ 29 ∧ k ≠ 30 := by
  simpa [kindB] using h
theorem only_is (f : D_frame_Frame) : frame_Frame_only f = some (bif kindB f.1 then onlyF f else (0, 0, 0, 0, 0, 0, 0, 0, false, ⟨#[]⟩, ⟨#[]⟩, ⟨#[]⟩, [], ()), kindB f.1, ()) := by
  obtain ⟨k, a2, a3, a4, a5, a6, a7, a8, a9, a10, a11, a12, a13, ⟨⟩⟩ := f
  simp only [frame_Frame_only_eq, b_frame_Frame_only, frame_Frame_only_0_eq, b_frame_Frame_only_0, frame_Frame_only_1_eq, b_frame_Frame_only_1, frame_Frame_only_2_eq, b_frame_Frame_only_2, frame_Frame_only_3_eq, b_frame_Frame_only_3]
  cases h : kindB k with
  | true =>
    rcases kinds h with rfl | rfl | rfl | rfl | rfl | rfl | rfl | rfl | rfl | rfl | rfl | rfl | rfl | rfl | rfl | rfl | rfl | rfl | rfl | rfl | rfl | rfl <;> rfl
  | false =>
    obtain ⟨h0, h1, h2, h4, h5, h6, h8, h16, h17, h18, h19, h20, h21, h22, h23, h24, h25, h26, h27, h28, h29, h30⟩ := nokind h
    simp only [beq_false_of_ne h0, beq_false_of_ne h1, beq_false_of_ne h2, beq_false_of_ne h4, beq_false_of_ne h5, beq_false_of_ne h6, beq_false_of_ne h8, beq_false_of_ne h16, beq_false_of_ne h17, beq_false_of_ne h18, beq_false_of_ne h19,
      beq_false_of_ne h20, beq_false_of_ne h21, beq_false_of_ne h22, beq_false_of_ne h23, beq_false_of_ne h24, beq_false_of_ne h25, beq_false_of_ne h26, beq_false_of_ne h27, beq_false_of_ne h28, beq_false_of_ne h29, beq_false_of_ne h30, cond_false]
def mayR : Int → List D_ranges_Range → Bool
  | _, [] => true
  | e, r :: l => decide (r.1 ≤ r.2.1) && decide (r.2.1 < 9223372036854775808) && decide (e ≤ r.1) && mayR (r.2.1 + 2) l
theorem mayR_loop : ∀ (suf pre : List D_ranges_Range) (e : Int) (m : Nat), suf.length < m → (pre ++ suf).length ≤ 9223372036854775807 → (∀ r ∈ suf, 0 ≤ r.2.1) →
    ranges_May_0 m e (pre ++ suf) (((pre ++ suf).length : Nat) : Int) ((pre.length : Nat) : Int) = some (mayR e suf, ()) := by
  intro suf
  induction suf with
  | nil =>
    intro pre e m hm _ _
    obtain ⟨m, rfl⟩ : ∃ k, m = k + 1 := ⟨m - 1, by omega⟩
    simp only [ranges_May_0, t_ranges_May_0, mid_end, decide_false, cond_false, mayR]
  | cons x suf ih =>
    intro pre e m hm hl hr
    obtain ⟨m, rfl⟩ : ∃ k, m = k + 1 := ⟨m - 1, by omega⟩
    have h0 := hr x (by simp)
    simp only [ranges_May_0, t_ranges_May_0, mid_lt, nn, and_true, decide_true, cond_true, toNat_len, getD_mid, ranges_Range_empty_eq, b_ranges_Range_empty, obind_some, mayR]
    by_cases h1 : x.2.1 < x.1
    · have : ¬ x.1 ≤ x.2.1 := by omega
      simp only [h1, this, decide_true, cond_true, decide_false, Bool.false_and]
    · have h1' : x.1 ≤ x.2.1 := by omega
      simp only [h1, h1', decide_false, cond_false, decide_true, Bool.true_and]
      by_cases h2 : x.2.1 < 9223372036854775808
      · have : ¬ x.2.1 ≥ 9223372036854775808 := by omega
        simp only [h2, this, decide_false, cond_false, decide_true, Bool.true_and]
        by_cases h3 : x.1 < e
        · have : ¬ e ≤ x.1 := by omega
          simp only [h3, this, decide_true, cond_true, decide_false, Bool.false_and]
        · have h3' : e ≤ x.1 := by omega
          simp only [h3, h3', decide_false, cond_false, decide_true, Bool.true_and]
          rw [wrap_u64 _ (by omega) (by omega), mid_next' pre x x suf hl, snoc_app, ih (pre ++ [x]) _ m (by simp at hm; omega) (by simpa using hl) (fun r h => hr r (by simp [h]))]
      · have : x.2.1 ≥ 9223372036854775808 := by omega
        simp only [h2, this, decide_true, cond_true, decide_false, Bool.false_and]
theorem mayR_is (l : List D_ranges_Range) (hl : l.length ≤ 9223372036854775807) (hr : ∀ r ∈ l, 0 ≤ r.2.1) : ranges_May l = some (mayR 0 l, ()) := by
  rw [ranges_May_eq, b_ranges_May, ranges_May_0'_eq, b_ranges_May_0']
  exact mayR_loop l [] 0 _ (by simp) (by simp; omega) hr
theorem max_loop : ∀ (suf pre : List Int) (x : Int) (m : Nat), suf.length < m → (pre ++ suf).length ≤ 4294967296 →
    slices_Max_uint64_0 m (pre ++ suf) x ((pre.length : Nat) : Int) = some (suf.foldl (fun a b => if b > a then b else a) x, ()) := by
  intro suf
  induction suf with
  | nil =>
    intro pre x m hm _
    obtain ⟨m, rfl⟩ : ∃ k, m = k + 1 := ⟨m - 1, by omega⟩
    simp only [slices_Max_uint64_0, t_slices_Max_uint64_0, mid_end, decide_false, cond_false, List.foldl_nil]
  | cons y suf ih =>
    intro pre x m hm hl
    obtain ⟨m, rfl⟩ : ∃ k, m = k + 1 := ⟨m - 1, by omega⟩
    simp only [slices_Max_uint64_0, t_slices_Max_uint64_0, mid_lt, nn, and_true, decide_true, cond_true, toNat_len, getD_mid, List.foldl_cons]
    rw [mid_next pre y y suf hl, snoc_app, ih (pre ++ [y]) _ m (by simp at hm; omega) (by simpa using hl)]
theorem foldmax (b : Int) : ∀ (l : List Int) (x : Int), l.foldl (fun a b => if b > a then b else a) x ≤ b ↔ x ≤ b ∧ ∀ y ∈ l, y ≤ b
  | [], x => by simp
  | y :: l, x => by
    rw [List.foldl_cons, foldmax b l]
    simp only [List.mem_cons, forall_eq_or_imp]
    constructor
    · rintro ⟨h1, h2⟩; refine ⟨?_, ?_, h2⟩ <;> split at h1 <;> omega
    · rintro ⟨h1, h2, h3⟩; refine ⟨?_, h3⟩; split <;> omega
theorem max_is (x : Int) (l : List Int) (hl : l.length ≤ 1000) : ∃ y, slices_Max_uint64 (x :: l) = some (y, ()) ∧ ∀ b, y ≤ b ↔ x ≤ b ∧ ∀ z ∈ l, z ≤ b := by
  refine ⟨_, ?_, fun b => foldmax b l x⟩
  rw [slices_Max_uint64_eq, b_slices_Max_uint64]
  have h1 : ¬ ((((x :: l).length : Nat) : Int) < 1) := by simp; omega
  have h2 : (0 : Int) < (((x :: l).length : Nat) : Int) := by simp
  simp only [h1, h2, decide_false, cond_false, Int.le_refl, and_true, decide_true, cond_true, List.getD_cons_zero]
  rw [slices_Max_uint64_0'_eq, b_slices_Max_uint64_0']
  exact max_loop l [x] x _ (by simp) (by simp; omega)
def lastHi (l : List D_ranges_Range) : Int := (l.getD (l.length - 1) (Ty.dflt T_ranges_Range)).2.1
def extraF (f : D_frame_Frame) : Bool :=
  let k := f.1
  bif k == 2 then mayR 0 f.2.2.2.2.2.2.2.2.2.2.2.2.1 && decide (0 < f.2.2.2.2.2.2.2.2.2.2.2.2.1.length) && decide (f.2.2.2.2.2.2.2.2.2.2.2.2.1.length ≤ 32) && decide (lastHi f.2.2.2.2.2.2.2.2.2.2.2.2.1 ≤ 4611686018427387903)
  else bif k == 6 || k == 8 then decide (f.2.2.1 + ((f.2.2.2.2.2.2.2.2.2.1.size : Nat) : Int) ≤ 4611686018427387903)
  else bif k == 24 then decide (f.2.2.2.2.2.2.1 ≤ f.2.2.2.2.2.1) && (((f.2.2.2.2.2.2.2.2.2.2.1.size : Nat) : Int) == 8) && (((f.2.2.2.2.2.2.2.2.2.2.2.1.size : Nat) : Int) == 16)
  else bif k == 26 || k == 27 then (((f.2.2.2.2.2.2.2.2.2.2.2.1.size : Nat) : Int) == 8)
  else bif k == 18 || k == 19 || k == 22 || k == 23 then decide (f.2.2.2.1 ≤ 1152921504606846976)
  else true
def numsOk (f : D_frame_Frame) : Bool := decide (f.2.1 ≤ 4611686018427387903 ∧ f.2.2.1 ≤ 4611686018427387903 ∧ f.2.2.2.1 ≤ 4611686018427387903 ∧ f.2.2.2.2.1 ≤ 4611686018427387903 ∧ f.2.2.2.2.2.1 ≤ 4611686018427387903 ∧ f.2.2.2.2.2.2.1 ≤ 4611686018427387903 ∧ f.2.2.2.2.2.2.2.1 ≤ 4611686018427387903)
def mayFr (f : D_frame_Frame) : Bool := kindB f.1 && decide (f = onlyF f) && numsOk f && decide (f.2.2.2.2.2.2.2.2.2.1.size ≤ 1200) && extraF f
structure FrOk (f : D_frame_Frame) : Prop where
  kind : 0 ≤ f.1 ∧ f.1 < 18446744073709551616
  id : 0 ≤ f.2.1 ∧ f.2.1 < 18446744073709551616
  off : 0 ≤ f.2.2.1 ∧ f.2.2.1 < 18446744073709551616
  max : 0 ≤ f.2.2.2.1 ∧ f.2.2.2.1 < 18446744073709551616
  code : 0 ≤ f.2.2.2.2.1 ∧ f.2.2.2.2.1 < 18446744073709551616
  seq : 0 ≤ f.2.2.2.2.2.1 ∧ f.2.2.2.2.2.1 < 18446744073709551616
  prior : 0 ≤ f.2.2.2.2.2.2.1 ∧ f.2.2.2.2.2.2.1 < 18446744073709551616
  delay : 0 ≤ f.2.2.2.2.2.2.2.1 ∧ f.2.2.2.2.2.2.2.1 < 18446744073709551616
  set : ∀ r ∈ f.2.2.2.2.2.2.2.2.2.2.2.2.1, (0 ≤ r.1 ∧ r.1 < 18446744073709551616) ∧ (0 ≤ r.2.1 ∧ r.2.1 < 18446744073709551616)
  few : f.2.2.2.2.2.2.2.2.2.2.2.2.1.length ≤ 9223372036854775807
theorem may_is_fr (f : D_frame_Frame) (h : FrOk f) : frame_May f = some (mayFr f, ()) := by
  rw [frame_May_eq, b_frame_May, only_is]
  simp only [obind_some, mayFr]
  cases hk : kindB f.1 with
  | false => simp only [Bool.not_false, cond_true, Bool.false_and]
  | true =>
    simp only [Bool.not_true, cond_false, cond_true, Bool.true_and, same_is f _ h.few, obind_some]
    by_cases ho : f = onlyF f
    · simp only [← ho, decide_true, Bool.not_true, cond_false, Bool.true_and]
      obtain ⟨y, ey, hy⟩ := max_is f.2.1 [f.2.2.1, f.2.2.2.1, f.2.2.2.2.1, f.2.2.2.2.2.1, f.2.2.2.2.2.2.1, f.2.2.2.2.2.2.2.1] (by simp)
      simp only [ey, obind_some]
      have hn : numsOk f = decide (y ≤ 4611686018427387903) := by
        unfold numsOk
        rw [decide_eq_decide, hy]
        simp
      rw [hn]
      by_cases h1 : y ≤ 4611686018427387903
      · have : ¬ y > 4611686018427387903 := by omega
        simp only [h1, this, decide_true, decide_false, cond_false, Bool.true_and]
        by_cases h2 : f.2.2.2.2.2.2.2.2.2.1.size ≤ 1200
        · have : ¬ ((f.2.2.2.2.2.2.2.2.2.1.size : Nat) : Int) > 1200 := by omega
          simp only [h2, this, decide_true, decide_false, cond_false, Bool.true_and]
          have hoff := (hy 4611686018427387903).mp h1
          have ho1 : f.2.2.1 ≤ 4611686018427387903 := hoff.2 _ (by simp)
          have w1 : IntKind.wrap .u64 ((f.2.2.2.2.2.2.2.2.2.1.size : Nat) : Int) = ((f.2.2.2.2.2.2.2.2.2.1.size : Nat) : Int) := wrap_u64 _ (by omega) (by omega)
          have w2 : IntKind.wrap .u64 (f.2.2.1 + ((f.2.2.2.2.2.2.2.2.2.1.size : Nat) : Int)) = f.2.2.1 + ((f.2.2.2.2.2.2.2.2.2.1.size : Nat) : Int) := wrap_u64 _ (by have := h.off; omega) (by omega)
          simp only [frame_May_0_eq, b_frame_May_0, frame_May_1_eq, b_frame_May_1, frame_May_2_eq, b_frame_May_2, w1, w2, extraF]
          by_cases e2 : f.1 = 2
          · simp only [e2, beq_self_eq_true, cond_true]
            rw [mayR_is _ h.few (fun r hr => (h.set r hr).2.1)]
            simp only [obind_some]
            cases mayR 0 f.2.2.2.2.2.2.2.2.2.2.2.2.1 with
            | false => simp only [cond_false, Bool.false_and]
            | true =>
              simp only [cond_true, Bool.true_and]
              have hfew := h.few
              unfold lastHi
              generalize f.2.2.2.2.2.2.2.2.2.2.2.2.1 = l at *
              by_cases l0 : 0 < l.length
              · by_cases l1 : l.length ≤ 32
                · have c0 : ((l.length : Nat) : Int) > 0 := by omega
                  have c1 : ((l.length : Nat) : Int) ≤ 32 := by omega
                  have c2 : IntKind.wrap .i64 (((l.length : Nat) : Int) - 1) = ((l.length - 1 : Nat) : Int) := by rw [wrap_i64 _ (by omega) (by omega)]; omega
                  have c3 : (0 : Int) ≤ ((l.length - 1 : Nat) : Int) ∧ ((l.length - 1 : Nat) : Int) < ((l.length : Nat) : Int) := by omega
                  simp only [c0, c1, c2, c3, and_self, l0, l1, decide_true, cond_true, Bool.true_and, Int.toNat_natCast]
                · have c0 : ((l.length : Nat) : Int) > 0 := by omega
                  have c1 : ¬ ((l.length : Nat) : Int) ≤ 32 := by omega
                  simp only [c0, c1, l0, l1, decide_true, decide_false, cond_true, cond_false, Bool.true_and, Bool.false_and]
              · have c0 : ¬ ((l.length : Nat) : Int) > 0 := by omega
                simp only [c0, l0, decide_false, cond_false, Bool.false_and]
          · have b2 := beq_false_of_ne e2
            simp only [b2, cond_false]
            rcases kinds hk with e | e | e | e | e | e | e | e | e | e | e | e | e | e | e | e | e | e | e | e | e | e <;> rw [e] <;> (try rfl)
            exact three _ _ _
        · have : ((f.2.2.2.2.2.2.2.2.2.1.size : Nat) : Int) > 1200 := by omega
          simp only [h2, this, decide_true, decide_false, cond_true, Bool.false_and]
      · have : y > 4611686018427387903 := by omega
        simp only [h1, this, decide_true, decide_false, cond_true, Bool.false_and]
    · simp only [ho, decide_false, Bool.not_false, cond_true, Bool.false_and]
end Go.Proofs.YtjdjlijjolibkaaDoor.V
namespace Go.Proofs.YtjdjlijjolibkaaDoor.V
open Go.RowKit Go.Proofs.Tryd
set_option maxRecDepth 100000
set_option linter.unusedVariables false
noncomputable def m_slices_Clone_ranges_Range : Mach prog Inv gInv := mach bas [(116, f116)] ⟨ok116, trivial⟩ [] trivial [] trivial [] trivial
/-! ### slices.Clone: a row of the caller's own -/
@[reducible] def t_slices_Clone_ranges_Range : Ty := T_ranges_Range
def slices_Clone_ranges_Range (l : List t_slices_Clone_ranges_Range.den) : Option (List t_slices_Clone_ranges_Range.den) := bif decide (l.length ≤ 4294967296) then some l else none
noncomputable def c_slices_Clone_ranges_Range : OCon := ⟨[.slice t_slices_Clone_ranges_Range], t_slices_Clone_ranges_Range, fun x => slices_Clone_ranges_Range x.1⟩
@[reducible] noncomputable def p_slices_Clone_ranges_Range : CPat := ⟨⟨116, [1, 0, 0], some 1, [.rows t_slices_Clone_ranges_Range false, .any, .nilSlice, .rows t_slices_Clone_ranges_Range false], 4⟩, [], [], 0⟩
def j_slices_Clone_ranges_Range (a b : List t_slices_Clone_ranges_Range.den) : Option (List t_slices_Clone_ranges_Range.den) := match b with
  | [] => match a with
    | [] => some []
    | _ :: _ => none
  | _ :: _ => slices_Clone_ranges_Range a
theorem y_slices_Clone_ranges_Range (x : denC p_slices_Clone_ranges_Range) : runB m_slices_Clone_ranges_Range (finO t_slices_Clone_ranges_Range) [116] nowhere 1000 (adv (instC p_slices_Clone_ranges_Range x) 1 (some 4) (.val (.bool true)) (instC p_slices_Clone_ranges_Range x).H ⟨[], [], []⟩) = some [] := by kernel_rfl
theorem n_slices_Clone_ranges_Range (x : denC p_slices_Clone_ranges_Range) : runB m_slices_Clone_ranges_Range (finO t_slices_Clone_ranges_Range) [116] nowhere 1000 (adv (instC p_slices_Clone_ranges_Range x) 1 (some 4) (.val (.bool false)) (instC p_slices_Clone_ranges_Range x).H ⟨[], [], []⟩) = bif decide (0 + x.1.1.length ≤ 4294967296) then some x.1.1 else none := by kernel_rfl
theorem s_slices_Clone_ranges_Range {base S0 cs0} (hfin : FinOk (finO t_slices_Clone_ranges_Range) base S0 (OPost t_slices_Clone_ranges_Range base S0)) : JSound m_slices_Clone_ranges_Range base S0 cs0 (OPost t_slices_Clone_ranges_Range base S0) p_slices_Clone_ranges_Range (fun x => j_slices_Clone_ranges_Range x.1.1 x.1.2.2.2.1) := by
  intro x r h
  change j_slices_Clone_ranges_Range x.1.1 x.1.2.2.2.1 = some r at h
  have yes : x.1.2.2.2.1 = [] → j_slices_Clone_ranges_Range x.1.1 x.1.2.2.2.1 = some r → runB m_slices_Clone_ranges_Range (finO t_slices_Clone_ranges_Range) [116] nowhere 1000 (adv (instC p_slices_Clone_ranges_Range x) 1 (some 4) (.val (.bool true)) (instC p_slices_Clone_ranges_Range x).H ⟨[], [], []⟩) = some r := by
    intro hb hj
    rw [hb] at hj
    have e := y_slices_Clone_ranges_Range x
    rw [e]
    generalize x.1.1 = a at hj
    cases a with
    | nil => exact hj
    | cons _ _ => cases hj
  have no : runB m_slices_Clone_ranges_Range (finO t_slices_Clone_ranges_Range) [116] nowhere 1000 (adv (instC p_slices_Clone_ranges_Range x) 1 (some 4) (.val (.bool false)) (instC p_slices_Clone_ranges_Range x).H ⟨[], [], []⟩) = some r := by
    have e := n_slices_Clone_ranges_Range x
    rw [e, Nat.zero_add]
    show slices_Clone_ranges_Range x.1.1 = some r
    generalize x.1.1 = a at *
    generalize x.1.2.2.2.1 = b at *
    cases b with
    | nil => cases a with
      | nil => rw [← h]; rfl
      | cons _ _ => cases h
    | cons _ _ => exact h
  exact nil_sound (M := m_slices_Clone_ranges_Range) (f := f116) (T := 32) (e := 127) (x := .tmp 3) (t := t_slices_Clone_ranges_Range) (l := x.1.2.2.2.1) (cl := false) rfl rfl rfl rfl rfl rfl rfl rfl underlying32 rfl
    (fun hb => run_sound hfin OSound.nowhere (yes hb h)) (run_sound hfin OSound.nowhere no)
theorem c_slices_Clone_ranges_Range_ok : c_slices_Clone_ranges_Range.Sound prog Inv gInv 116 := by
  refine ocon_sound (M := m_slices_Clone_ranges_Range) inv_g (f := f116) rfl fun x y h base S0 cs0 hn => ?_
  have hfin := finO_ok t_slices_Clone_ranges_Range base S0
  refine run_sound hfin (X := cut p_slices_Clone_ranges_Range (fun x => j_slices_Clone_ranges_Range x.1.1 x.1.2.2.2.1) nowhere) (OSound.cut OSound.nowhere (Nat.le_of_eq hn) (s_slices_Clone_ranges_Range hfin)) (Ks := [116]) (n := 1000) ?_
  have e : runB m_slices_Clone_ranges_Range (finO t_slices_Clone_ranges_Range) [116] (cut p_slices_Clone_ranges_Range (fun x => j_slices_Clone_ranges_Range x.1.1 x.1.2.2.2.1) nowhere) 1000 (startP 116 f116.ntmps (pvsOf c_slices_Clone_ranges_Range.params x)) = j_slices_Clone_ranges_Range x.1 x.1 := by kernel_rfl
  refine e.trans (Eq.trans ?_ h)
  show j_slices_Clone_ranges_Range x.1 x.1 = slices_Clone_ranges_Range x.1
  generalize x.1 = l
  cases l with
  | nil => rfl
  | cons _ _ => rfl
end Go.Proofs.YtjdjlijjolibkaaDoor.V
namespace Go.Proofs.YtjdjlijjolibkaaDoor.V
open Go.RowKit Go.Proofs.Tryd
set_option maxRecDepth 100000
set_option linter.unusedVariables false
noncomputable def m_frame_writer_numbers_h0 : Mach prog Inv gInv := mach bas [(74, f74), (115, f115), (147, f147)] ⟨ok74, ok115, ok147, trivial⟩ [(114, c_varint_Puts)] ⟨⟨c_varint_Puts_ok, FnOk.callable ok114⟩, trivial⟩ [] trivial [(147, h_strings_Builder_copyCheck_h0), (147, h_strings_Builder_copyCheck_h1), (147, h_strings_Builder_copyCheck_h2)] ⟨⟨h_strings_Builder_copyCheck_h0_ok, FnOk.callable ok147⟩, ⟨h_strings_Builder_copyCheck_h1_ok, FnOk.callable ok147⟩, ⟨h_strings_Builder_copyCheck_h2_ok, FnOk.callable ok147⟩, trivial⟩
@[reducible] noncomputable def pa_frame_writer_numbers_h0 : List Pat := [.ptr 0 0, .all 1]
@[reducible] noncomputable def pH_frame_writer_numbers_h0 : List HPat := [.cells 132 [.nilPtr, .nilSlice], .row (.int .u64)]
/-! ### (*domino/frame.writer).numbers -/
abbrev R_frame_writer_numbers_h0 : Type := (List Int) × (List Int) × Unit
@[reducible] noncomputable def qa_frame_writer_numbers_h0 : List Pat := []
@[reducible] noncomputable def qH_frame_writer_numbers_h0 : List HPat := [.cells 132 [.ptr 0 0, .all 2], .fro (.int .u64), .row (.byt 5)]
def ks_frame_writer_numbers_h0 : List Nat := [74, 115, 147]
noncomputable def b_frame_writer_numbers_h0 (l0 : (List Int)) : Option R_frame_writer_numbers_h0 :=
  obind (varint_Puts l0) fun y1 =>
  obind strings_Builder_copyCheck_h2 fun y2 =>
  bif (decide ((List.length (strBytes y1.1)) ≤ 4294967296)) then
    let l3 : (List Int) := (strBytes y1.1)
    let n4 : Int := (((ByteArray.size y1.1) : Nat) : Int)
    some (l0, (l3, ()))
  else none
theorem ex_frame_writer_numbers_h0 : ∃ f, f = @b_frame_writer_numbers_h0 := ⟨_, rfl⟩
noncomputable def frame_writer_numbers_h0 := Classical.choose ex_frame_writer_numbers_h0
theorem frame_writer_numbers_h0_eq : @frame_writer_numbers_h0 = @b_frame_writer_numbers_h0 := Classical.choose_spec ex_frame_writer_numbers_h0
noncomputable def hb_frame_writer_numbers_h0 : HCon := HCon.mk0 pa_frame_writer_numbers_h0 pH_frame_writer_numbers_h0 qa_frame_writer_numbers_h0 qH_frame_writer_numbers_h0 R_frame_writer_numbers_h0 (fun x => b_frame_writer_numbers_h0 x.2.2.1) (fun r => ((), (((), ((), ())), (r.1, (r.2.1, ()))))) (fun y => (y.2.2.1, y.2.2.2.1, ())) (fun _ => rfl)
noncomputable def h_frame_writer_numbers_h0 : HCon := HCon.mk0 pa_frame_writer_numbers_h0 pH_frame_writer_numbers_h0 qa_frame_writer_numbers_h0 qH_frame_writer_numbers_h0 R_frame_writer_numbers_h0 (fun x => frame_writer_numbers_h0 x.2.2.1) (fun r => ((), (((), ((), ())), (r.1, (r.2.1, ()))))) (fun y => (y.2.2.1, y.2.2.2.1, ())) (fun _ => rfl)
theorem hb_frame_writer_numbers_h0_ok : hb_frame_writer_numbers_h0.Sound prog Inv gInv 74 :=
  hcon_run (M := m_frame_writer_numbers_h0) (f := f74) rfl ks_frame_writer_numbers_h0 100000 (X := nowhere) (fun base S0 cs0 hn hf => OSound.nowhere) (by intro x; kernel_rfl)
theorem h_frame_writer_numbers_h0_ok : h_frame_writer_numbers_h0.Sound prog Inv gInv 74 := by
  have e : h_frame_writer_numbers_h0 = hb_frame_writer_numbers_h0 := by unfold h_frame_writer_numbers_h0 hb_frame_writer_numbers_h0; rw [frame_writer_numbers_h0_eq]
  rw [e]; exact hb_frame_writer_numbers_h0_ok
end Go.Proofs.YtjdjlijjolibkaaDoor.V
namespace Go.Proofs.YtjdjlijjolibkaaDoor.V
open Go.RowKit Go.Proofs.Tryd
set_option maxRecDepth 100000
set_option linter.unusedVariables false
noncomputable def m_frame_writer_numbers_h1 : Mach prog Inv gInv := mach bas [(74, f74), (115, f115), (147, f147)] ⟨ok74, ok115, ok147, trivial⟩ [(114, c_varint_Puts)] ⟨⟨c_varint_Puts_ok, FnOk.callable ok114⟩, trivial⟩ [] trivial [(147, h_strings_Builder_copyCheck_h0), (147, h_strings_Builder_copyCheck_h1), (147, h_strings_Builder_copyCheck_h2), (147, h_strings_Builder_copyCheck_h3)] ⟨⟨h_strings_Builder_copyCheck_h0_ok, FnOk.callable ok147⟩, ⟨h_strings_Builder_copyCheck_h1_ok, FnOk.callable ok147⟩, ⟨h_strings_Builder_copyCheck_h2_ok, FnOk.callable ok147⟩, ⟨h_strings_Builder_copyCheck_h3_ok, FnOk.callable ok147⟩, trivial⟩
@[reducible] noncomputable def pa_frame_writer_numbers_h1 : List Pat := [.ptr 0 0, .all 1]
@[reducible] noncomputable def pH_frame_writer_numbers_h1 : List HPat := [.cells 132 [.ptr 0 0, .all 2], .row (.int .u64), .row (.byt 5)]
/-! ### (*domino/frame.writer).numbers -/
abbrev R_frame_writer_numbers_h1 : Type := (List Int) × (List Int) × Unit
@[reducible] noncomputable def qa_frame_writer_numbers_h1 : List Pat := []
@[reducible] noncomputable def qH_frame_writer_numbers_h1 : List HPat := [.cells 132 [.ptr 0 0, .all 3], .fro (.int .u64), .dead, .row (.byt 5)]
def ks_frame_writer_numbers_h1 : List Nat := [74, 115, 147]
noncomputable def b_frame_writer_numbers_h1 (l0 : (List Int)) (l1 : (List Int)) : Option R_frame_writer_numbers_h1 :=
  obind (varint_Puts l0) fun y2 =>
  obind (strings_Builder_copyCheck_h3 l1) fun y3 =>
  bif (decide (((List.length y3.1) + (List.length (strBytes y2.1))) ≤ 4294967296)) then
    let l4 : (List Int) := (y3.1 ++ (strBytes y2.1))
    let n5 : Int := (((ByteArray.size y2.1) : Nat) : Int)
    some (l0, (l4, ()))
  else none
theorem ex_frame_writer_numbers_h1 : ∃ f, f = @b_frame_writer_numbers_h1 := ⟨_, rfl⟩
noncomputable def frame_writer_numbers_h1 := Classical.choose ex_frame_writer_numbers_h1
theorem frame_writer_numbers_h1_eq : @frame_writer_numbers_h1 = @b_frame_writer_numbers_h1 := Classical.choose_spec ex_frame_writer_numbers_h1
noncomputable def hb_frame_writer_numbers_h1 : HCon := HCon.mk0 pa_frame_writer_numbers_h1 pH_frame_writer_numbers_h1 qa_frame_writer_numbers_h1 qH_frame_writer_numbers_h1 R_frame_writer_numbers_h1 (fun x => b_frame_writer_numbers_h1 x.2.2.1 x.2.2.2.1) (fun r => ((), (((), ((), ())), (r.1, ((), (r.2.1, ())))))) (fun y => (y.2.2.1, y.2.2.2.2.1, ())) (fun _ => rfl)
noncomputable def h_frame_writer_numbers_h1 : HCon := HCon.mk0 pa_frame_writer_numbers_h1 pH_frame_writer_numbers_h1 qa_frame_writer_numbers_h1 qH_frame_writer_numbers_h1 R_frame_writer_numbers_h1 (fun x => frame_writer_numbers_h1 x.2.2.1 x.2.2.2.1) (fun r => ((), (((), ((), ())), (r.1, ((), (r.2.1, ())))))) (fun y => (y.2.2.1, y.2.2.2.2.1, ())) (fun _ => rfl)
theorem hb_frame_writer_numbers_h1_ok : hb_frame_writer_numbers_h1.Sound prog Inv gInv 74 :=
  hcon_run (M := m_frame_writer_numbers_h1) (f := f74) rfl ks_frame_writer_numbers_h1 100000 (X := nowhere) (fun base S0 cs0 hn hf => OSound.nowhere) (by intro x; kernel_rfl)
theorem h_frame_writer_numbers_h1_ok : h_frame_writer_numbers_h1.Sound prog Inv gInv 74 := by
  have e : h_frame_writer_numbers_h1 = hb_frame_writer_numbers_h1 := by unfold h_frame_writer_numbers_h1 hb_frame_writer_numbers_h1; rw [frame_writer_numbers_h1_eq]
  rw [e]; exact hb_frame_writer_numbers_h1_ok
end Go.Proofs.YtjdjlijjolibkaaDoor.V
namespace Go.Proofs.YtjdjlijjolibkaaDoor.V
open Go.RowKit Go.Proofs.Tryd
set_option maxRecDepth 100000
set_option linter.unusedVariables false
noncomputable def m_frame_writer_long_h0 : Mach prog Inv gInv := mach bas [(113, f113), (74, f74), (115, f115), (147, f147)] ⟨ok113, ok74, ok115, ok147, trivial⟩ [(114, c_varint_Puts)] ⟨⟨c_varint_Puts_ok, FnOk.callable ok114⟩, trivial⟩ [] trivial [(147, h_strings_Builder_copyCheck_h0), (147, h_strings_Builder_copyCheck_h1), (147, h_strings_Builder_copyCheck_h2), (74, h_frame_writer_numbers_h0), (147, h_strings_Builder_copyCheck_h3), (74, h_frame_writer_numbers_h1)] ⟨⟨h_strings_Builder_copyCheck_h0_ok, FnOk.callable ok147⟩, ⟨h_strings_Builder_copyCheck_h1_ok, FnOk.callable ok147⟩, ⟨h_strings_Builder_copyCheck_h2_ok, FnOk.callable ok147⟩, ⟨h_frame_writer_numbers_h0_ok, FnOk.callable ok74⟩, ⟨h_strings_Builder_copyCheck_h3_ok, FnOk.callable ok147⟩, ⟨h_frame_writer_numbers_h1_ok, FnOk.callable ok74⟩, trivial⟩
@[reducible] noncomputable def pa_frame_writer_long_h0 : List Pat := [.ptr 0 0, .str]
@[reducible] noncomputable def pH_frame_writer_long_h0 : List HPat := [.cells 132 [.ptr 0 0, .all 1], .row (.byt 5)]
/-! ### (*domino/frame.writer).long -/
abbrev R_frame_writer_long_h0 : Type := (List Int) × Unit
@[reducible] noncomputable def qa_frame_writer_long_h0 : List Pat := []
@[reducible] noncomputable def qH_frame_writer_long_h0 : List HPat := [.cells 132 [.ptr 0 0, .all 2], .dead, .row (.byt 5)]
def ks_frame_writer_long_h0 : List Nat := [113, 74, 115, 147]
noncomputable def b_frame_writer_long_h0 (s0 : ByteArray) (l1 : (List Int)) : Option R_frame_writer_long_h0 :=
  let n2 : Int := (((ByteArray.size s0) : Nat) : Int)
  let n3 : Int := (Go.IntKind.wrap Go.IntKind.u64 n2)
  obind (frame_writer_numbers_h1 (n3 :: ([] : List Int)) l1) fun y4 =>
  obind (strings_Builder_copyCheck_h3 y4.2.1) fun y5 =>
  bif (decide (((List.length y5.1) + (List.length (strBytes s0))) ≤ 4294967296)) then
    let l6 : (List Int) := (y5.1 ++ (strBytes s0))
    let n7 : Int := (((ByteArray.size s0) : Nat) : Int)
    some (l6, ())
  else none
theorem ex_frame_writer_long_h0 : ∃ f, f = @b_frame_writer_long_h0 := ⟨_, rfl⟩
noncomputable def frame_writer_long_h0 := Classical.choose ex_frame_writer_long_h0
theorem frame_writer_long_h0_eq : @frame_writer_long_h0 = @b_frame_writer_long_h0 := Classical.choose_spec ex_frame_writer_long_h0
noncomputable def hb_frame_writer_long_h0 : HCon := HCon.mk0 pa_frame_writer_long_h0 pH_frame_writer_long_h0 qa_frame_writer_long_h0 qH_frame_writer_long_h0 R_frame_writer_long_h0 (fun x => b_frame_writer_long_h0 x.1.2.1 x.2.2.1) (fun r => ((), (((), ((), ())), ((), (r.1, ()))))) (fun y => (y.2.2.2.1, ())) (fun _ => rfl)
noncomputable def h_frame_writer_long_h0 : HCon := HCon.mk0 pa_frame_writer_long_h0 pH_frame_writer_long_h0 qa_frame_writer_long_h0 qH_frame_writer_long_h0 R_frame_writer_long_h0 (fun x => frame_writer_long_h0 x.1.2.1 x.2.2.1) (fun r => ((), (((), ((), ())), ((), (r.1, ()))))) (fun y => (y.2.2.2.1, ())) (fun _ => rfl)
theorem hb_frame_writer_long_h0_ok : hb_frame_writer_long_h0.Sound prog Inv gInv 113 :=
  hcon_run (M := m_frame_writer_long_h0) (f := f113) rfl ks_frame_writer_long_h0 100000 (X := nowhere) (fun base S0 cs0 hn hf => OSound.nowhere) (by intro x; kernel_rfl)
theorem h_frame_writer_long_h0_ok : h_frame_writer_long_h0.Sound prog Inv gInv 113 := by
  have e : h_frame_writer_long_h0 = hb_frame_writer_long_h0 := by unfold h_frame_writer_long_h0 hb_frame_writer_long_h0; rw [frame_writer_long_h0_eq]
  rw [e]; exact hb_frame_writer_long_h0_ok
end Go.Proofs.YtjdjlijjolibkaaDoor.V
namespace Go.Proofs.YtjdjlijjolibkaaDoor.V
open Go.RowKit Go.Proofs.Tryd
set_option maxRecDepth 100000
set_option linter.unusedVariables false
noncomputable def m_frame_writer_stream_h0 : Mach prog Inv gInv := mach bas [(73, f73), (74, f74), (113, f113), (115, f115), (147, f147)] ⟨ok73, ok74, ok113, ok115, ok147, trivial⟩ [(114, c_varint_Puts)] ⟨⟨c_varint_Puts_ok, FnOk.callable ok114⟩, trivial⟩ [] trivial [(147, h_strings_Builder_copyCheck_h0), (147, h_strings_Builder_copyCheck_h1), (147, h_strings_Builder_copyCheck_h2), (74, h_frame_writer_numbers_h0), (147, h_strings_Builder_copyCheck_h3), (74, h_frame_writer_numbers_h1), (113, h_frame_writer_long_h0)] ⟨⟨h_strings_Builder_copyCheck_h0_ok, FnOk.callable ok147⟩, ⟨h_strings_Builder_copyCheck_h1_ok, FnOk.callable ok147⟩, ⟨h_strings_Builder_copyCheck_h2_ok, FnOk.callable ok147⟩, ⟨h_frame_writer_numbers_h0_ok, FnOk.callable ok74⟩, ⟨h_strings_Builder_copyCheck_h3_ok, FnOk.callable ok147⟩, ⟨h_frame_writer_numbers_h1_ok, FnOk.callable ok74⟩, ⟨h_frame_writer_long_h0_ok, FnOk.callable ok113⟩, trivial⟩
@[reducible] noncomputable def pa_frame_writer_stream_h0 : List Pat := [.ptr 0 0, .dat T_frame_Frame]
@[reducible] noncomputable def pH_frame_writer_stream_h0 : List HPat := [.cells 132 [.nilPtr, .nilSlice]]
/-! ### (*domino/frame.writer).stream -/
abbrev R_frame_writer_stream_h0 : Type := (List Int) × Unit
@[reducible] noncomputable def qa_frame_writer_stream_h0 : List Pat := []
@[reducible] noncomputable def qH_frame_writer_stream_h0 : List HPat := [.cells 132 [.ptr 0 0, .all 1], .row (.byt 5)]
noncomputable def g_frame_writer_stream_h0 : HCon := HCon.mk0 pa_frame_writer_stream_h0 pH_frame_writer_stream_h0 qa_frame_writer_stream_h0 qH_frame_writer_stream_h0 R_frame_writer_stream_h0 (fun _ => none) (fun r => ((), (((), ((), ())), (r.1, ())))) (fun y => (y.2.2.1, ())) (fun _ => rfl)
def ks_frame_writer_stream_h0 : List Nat := [73, 74, 113, 115, 147]
abbrev H_frame_writer_stream_h0 (base : Base) (S0 : Nat → Prop) := base.n = 1 ∧ FinOk (finH g_frame_writer_stream_h0) base S0 (HPost g_frame_writer_stream_h0 base S0)
abbrev J_frame_writer_stream_h0 (base : Base) (S0 : Nat → Prop) (cs0 : List Go.Frame) (p : CPat) (J : denC p → Option R_frame_writer_stream_h0) := JSound m_frame_writer_stream_h0 base S0 cs0 (HPost g_frame_writer_stream_h0 base S0) p J
abbrev O_frame_writer_stream_h0 (base : Base) (S0 : Nat → Prop) (cs0 : List Go.Frame) (X : Cfg → Option (Option R_frame_writer_stream_h0)) := OSound m_frame_writer_stream_h0 base S0 cs0 (HPost g_frame_writer_stream_h0 base S0) X
@[reducible] noncomputable def p_frame_writer_stream_h0_2 : CPat := ⟨⟨73, [1, 1, 1, 1, 1, 1], none, [.ptr 0 0, .any, .any, .ptr 1 0], 28⟩, [], [.cells 132 [.ptr 0 0, .all 2], .dat 34 T_frame_Frame, .row (.byt 5)], 1⟩
@[reducible] noncomputable def u_frame_writer_stream_h0_2 (k : D_frame_Frame → (List Int) → Option R_frame_writer_stream_h0) : denC p_frame_writer_stream_h0_2 → Option R_frame_writer_stream_h0 := fun x => k x.2.2.2.1 x.2.2.2.2.1
noncomputable def b_frame_writer_stream_h0_2 (d14 : D_frame_Frame) (l15 : (List Int)) : Option R_frame_writer_stream_h0 :=
  obind (frame_writer_long_h0 d14.2.2.2.2.2.2.2.2.2.1 l15) fun y16 =>
  some (y16.1, ())
theorem ex_frame_writer_stream_h0_2 : ∃ f, f = @b_frame_writer_stream_h0_2 := ⟨_, rfl⟩
noncomputable def frame_writer_stream_h0_2 := Classical.choose ex_frame_writer_stream_h0_2
theorem frame_writer_stream_h0_2_eq : @frame_writer_stream_h0_2 = @b_frame_writer_stream_h0_2 := Classical.choose_spec ex_frame_writer_stream_h0_2
theorem s_frame_writer_stream_h0_2 {base S0 cs0} (hfin : H_frame_writer_stream_h0 base S0) : J_frame_writer_stream_h0 base S0 cs0 p_frame_writer_stream_h0_2 (u_frame_writer_stream_h0_2 (frame_writer_stream_h0_2)) :=
  JSound.join hfin.2 (OSound.nowhere) ks_frame_writer_stream_h0 100000 (by rw [frame_writer_stream_h0_2_eq]; intro x; kernel_rfl)
noncomputable def x_frame_writer_stream_h0_2 : Cfg → Option (Option R_frame_writer_stream_h0) := cut p_frame_writer_stream_h0_2 (u_frame_writer_stream_h0_2 (frame_writer_stream_h0_2)) (nowhere)
theorem o_frame_writer_stream_h0_2 {base S0 cs0} (hfin : H_frame_writer_stream_h0 base S0) : O_frame_writer_stream_h0 base S0 cs0 (x_frame_writer_stream_h0_2) := OSound.cut (OSound.nowhere) (Nat.le_of_eq hfin.1) (s_frame_writer_stream_h0_2 hfin)
@[reducible] noncomputable def p_frame_writer_stream_h0_1 : CPat := ⟨⟨73, [1, 1, 1, 1], none, [.ptr 0 0, .any, .any, .ptr 1 0, .int .u64], 27⟩, [], [.cells 132 [.nilPtr, .nilSlice], .dat 34 T_frame_Frame], 1⟩
@[reducible] noncomputable def u_frame_writer_stream_h0_1 (k : Int → D_frame_Frame → Option R_frame_writer_stream_h0) : denC p_frame_writer_stream_h0_1 → Option R_frame_writer_stream_h0 := fun x => k x.1.2.2.2.2.1 x.2.2.2.1
noncomputable def b_frame_writer_stream_h0_1 (i8 : Int) (d9 : D_frame_Frame) : Option R_frame_writer_stream_h0 :=
  obind (frame_writer_numbers_h0 (i8 :: (d9.2.1 :: ([] : List Int)))) fun y10 =>
  let b11 : Bool := (d9.2.2.1 != (0 : Int))
  bif b11 then
    obind (frame_writer_numbers_h1 (d9.2.2.1 :: ([] : List Int)) y10.2.1) fun y12 =>
    frame_writer_stream_h0_2 d9 y12.2.1
  else
    frame_writer_stream_h0_2 d9 y10.2.1
theorem ex_frame_writer_stream_h0_1 : ∃ f, f = @b_frame_writer_stream_h0_1 := ⟨_, rfl⟩
noncomputable def frame_writer_stream_h0_1 := Classical.choose ex_frame_writer_stream_h0_1
theorem frame_writer_stream_h0_1_eq : @frame_writer_stream_h0_1 = @b_frame_writer_stream_h0_1 := Classical.choose_spec ex_frame_writer_stream_h0_1
theorem s_frame_writer_stream_h0_1 {base S0 cs0} (hfin : H_frame_writer_stream_h0 base S0) : J_frame_writer_stream_h0 base S0 cs0 p_frame_writer_stream_h0_1 (u_frame_writer_stream_h0_1 (frame_writer_stream_h0_1)) :=
  JSound.join hfin.2 (o_frame_writer_stream_h0_2 hfin) ks_frame_writer_stream_h0 100000 (by rw [frame_writer_stream_h0_1_eq]; intro x; kernel_rfl)
noncomputable def x_frame_writer_stream_h0_1 : Cfg → Option (Option R_frame_writer_stream_h0) := cut p_frame_writer_stream_h0_1 (u_frame_writer_stream_h0_1 (frame_writer_stream_h0_1)) (x_frame_writer_stream_h0_2)
theorem o_frame_writer_stream_h0_1 {base S0 cs0} (hfin : H_frame_writer_stream_h0 base S0) : O_frame_writer_stream_h0 base S0 cs0 (x_frame_writer_stream_h0_1) := OSound.cut (o_frame_writer_stream_h0_2 hfin) (Nat.le_of_eq hfin.1) (s_frame_writer_stream_h0_1 hfin)
@[reducible] noncomputable def p_frame_writer_stream_h0_0 : CPat := ⟨⟨73, [1, 1, 1], none, [.ptr 0 0, .any, .any, .ptr 1 0, .int .u64], 27⟩, [], [.cells 132 [.nilPtr, .nilSlice], .dat 34 T_frame_Frame], 1⟩
@[reducible] noncomputable def u_frame_writer_stream_h0_0 (k : Int → D_frame_Frame → Option R_frame_writer_stream_h0) : denC p_frame_writer_stream_h0_0 → Option R_frame_writer_stream_h0 := fun x => k x.1.2.2.2.2.1 x.2.2.2.1
noncomputable def b_frame_writer_stream_h0_0 (i3 : Int) (d4 : D_frame_Frame) : Option R_frame_writer_stream_h0 :=
  bif d4.2.2.2.2.2.2.2.2.1 then
    let n5 : Int := (bits Go.BinOp.or Go.IntKind.u64 i3 (1 : Int))
    frame_writer_stream_h0_1 n5 d4
  else
    frame_writer_stream_h0_1 i3 d4
theorem ex_frame_writer_stream_h0_0 : ∃ f, f = @b_frame_writer_stream_h0_0 := ⟨_, rfl⟩
noncomputable def frame_writer_stream_h0_0 := Classical.choose ex_frame_writer_stream_h0_0
theorem frame_writer_stream_h0_0_eq : @frame_writer_stream_h0_0 = @b_frame_writer_stream_h0_0 := Classical.choose_spec ex_frame_writer_stream_h0_0
theorem s_frame_writer_stream_h0_0 {base S0 cs0} (hfin : H_frame_writer_stream_h0 base S0) : J_frame_writer_stream_h0 base S0 cs0 p_frame_writer_stream_h0_0 (u_frame_writer_stream_h0_0 (frame_writer_stream_h0_0)) :=
  JSound.join hfin.2 (o_frame_writer_stream_h0_1 hfin) ks_frame_writer_stream_h0 100000 (by rw [frame_writer_stream_h0_0_eq]; intro x; kernel_rfl)
noncomputable def x_frame_writer_stream_h0_0 : Cfg → Option (Option R_frame_writer_stream_h0) := cut p_frame_writer_stream_h0_0 (u_frame_writer_stream_h0_0 (frame_writer_stream_h0_0)) (x_frame_writer_stream_h0_1)
theorem o_frame_writer_stream_h0_0 {base S0 cs0} (hfin : H_frame_writer_stream_h0 base S0) : O_frame_writer_stream_h0 base S0 cs0 (x_frame_writer_stream_h0_0) := OSound.cut (o_frame_writer_stream_h0_1 hfin) (Nat.le_of_eq hfin.1) (s_frame_writer_stream_h0_0 hfin)
noncomputable def b_frame_writer_stream_h0 (d0 : D_frame_Frame) : Option R_frame_writer_stream_h0 :=
  let b1 : Bool := (d0.2.2.1 != (0 : Int))
  bif b1 then
    let n2 : Int := (bits Go.BinOp.or Go.IntKind.u64 (10 : Int) (4 : Int))
    frame_writer_stream_h0_0 n2 d0
  else
    frame_writer_stream_h0_0 (10 : Int) d0
theorem ex_frame_writer_stream_h0 : ∃ f, f = @b_frame_writer_stream_h0 := ⟨_, rfl⟩
noncomputable def frame_writer_stream_h0 := Classical.choose ex_frame_writer_stream_h0
theorem frame_writer_stream_h0_eq : @frame_writer_stream_h0 = @b_frame_writer_stream_h0 := Classical.choose_spec ex_frame_writer_stream_h0
noncomputable def hb_frame_writer_stream_h0 : HCon := HCon.mk0 pa_frame_writer_stream_h0 pH_frame_writer_stream_h0 qa_frame_writer_stream_h0 qH_frame_writer_stream_h0 R_frame_writer_stream_h0 (fun x => b_frame_writer_stream_h0 x.1.2.1) (fun r => ((), (((), ((), ())), (r.1, ())))) (fun y => (y.2.2.1, ())) (fun _ => rfl)
noncomputable def h_frame_writer_stream_h0 : HCon := HCon.mk0 pa_frame_writer_stream_h0 pH_frame_writer_stream_h0 qa_frame_writer_stream_h0 qH_frame_writer_stream_h0 R_frame_writer_stream_h0 (fun x => frame_writer_stream_h0 x.1.2.1) (fun r => ((), (((), ((), ())), (r.1, ())))) (fun y => (y.2.2.1, ())) (fun _ => rfl)
theorem hb_frame_writer_stream_h0_ok : hb_frame_writer_stream_h0.Sound prog Inv gInv 73 :=
  hcon_run (M := m_frame_writer_stream_h0) (f := f73) rfl ks_frame_writer_stream_h0 100000 (X := x_frame_writer_stream_h0_0) (fun base S0 cs0 hn hf => have hfin : H_frame_writer_stream_h0 base S0 := ⟨hn, hf⟩; o_frame_writer_stream_h0_0 hfin) (by intro x; kernel_rfl)
theorem h_frame_writer_stream_h0_ok : h_frame_writer_stream_h0.Sound prog Inv gInv 73 := by
  have e : h_frame_writer_stream_h0 = hb_frame_writer_stream_h0 := by unfold h_frame_writer_stream_h0 hb_frame_writer_stream_h0; rw [frame_writer_stream_h0_eq]
  rw [e]; exact hb_frame_writer_stream_h0_ok
end Go.Proofs.YtjdjlijjolibkaaDoor.V
namespace Go.Proofs.YtjdjlijjolibkaaDoor.V
open Go.RowKit Go.Proofs.Tryd
set_option maxRecDepth 100000
set_option linter.unusedVariables false
noncomputable def m_strings_Builder_WriteByte_h0 : Mach prog Inv gInv := mach bas [(118, f118), (147, f147)] ⟨ok118, ok147, trivial⟩ [] trivial [] trivial [(147, h_strings_Builder_copyCheck_h0), (147, h_strings_Builder_copyCheck_h1), (147, h_strings_Builder_copyCheck_h2), (147, h_strings_Builder_copyCheck_h3)] ⟨⟨h_strings_Builder_copyCheck_h0_ok, FnOk.callable ok147⟩, ⟨h_strings_Builder_copyCheck_h1_ok, FnOk.callable ok147⟩, ⟨h_strings_Builder_copyCheck_h2_ok, FnOk.callable ok147⟩, ⟨h_strings_Builder_copyCheck_h3_ok, FnOk.callable ok147⟩, trivial⟩
@[reducible] noncomputable def pa_strings_Builder_WriteByte_h0 : List Pat := [.ptr 0 0, .int .u8]
@[reducible] noncomputable def pH_strings_Builder_WriteByte_h0 : List HPat := [.cells 132 [.ptr 0 0, .all 1], .row (.byt 5)]
/-! ### (*strings.Builder).WriteByte -/
abbrev R_strings_Builder_WriteByte_h0 : Type := (List Int) × Unit
@[reducible] noncomputable def qa_strings_Builder_WriteByte_h0 : List Pat := [.nilIface]
@[reducible] noncomputable def qH_strings_Builder_WriteByte_h0 : List HPat := [.cells 132 [.ptr 0 0, .all 2], .dead, .row (.byt 5)]
def ks_strings_Builder_WriteByte_h0 : List Nat := [118, 147]
noncomputable def b_strings_Builder_WriteByte_h0 (i0 : Int) (l1 : (List Int)) : Option R_strings_Builder_WriteByte_h0 :=
  obind (strings_Builder_copyCheck_h3 l1) fun y2 =>
  bif (decide (((List.length y2.1) + (List.length (i0 :: ([] : List Int)))) ≤ 4294967296)) then
    let l3 : (List Int) := (y2.1 ++ (i0 :: ([] : List Int)))
    some (l3, ())
  else none
theorem ex_strings_Builder_WriteByte_h0 : ∃ f, f = @b_strings_Builder_WriteByte_h0 := ⟨_, rfl⟩
noncomputable def strings_Builder_WriteByte_h0 := Classical.choose ex_strings_Builder_WriteByte_h0
theorem strings_Builder_WriteByte_h0_eq : @strings_Builder_WriteByte_h0 = @b_strings_Builder_WriteByte_h0 := Classical.choose_spec ex_strings_Builder_WriteByte_h0
noncomputable def hb_strings_Builder_WriteByte_h0 : HCon := HCon.mk0 pa_strings_Builder_WriteByte_h0 pH_strings_Builder_WriteByte_h0 qa_strings_Builder_WriteByte_h0 qH_strings_Builder_WriteByte_h0 R_strings_Builder_WriteByte_h0 (fun x => b_strings_Builder_WriteByte_h0 x.1.2.1 x.2.2.1) (fun r => (((), ()), (((), ((), ())), ((), (r.1, ()))))) (fun y => (y.2.2.2.1, ())) (fun _ => rfl)
noncomputable def h_strings_Builder_WriteByte_h0 : HCon := HCon.mk0 pa_strings_Builder_WriteByte_h0 pH_strings_Builder_WriteByte_h0 qa_strings_Builder_WriteByte_h0 qH_strings_Builder_WriteByte_h0 R_strings_Builder_WriteByte_h0 (fun x => strings_Builder_WriteByte_h0 x.1.2.1 x.2.2.1) (fun r => (((), ()), (((), ((), ())), ((), (r.1, ()))))) (fun y => (y.2.2.2.1, ())) (fun _ => rfl)
theorem hb_strings_Builder_WriteByte_h0_ok : hb_strings_Builder_WriteByte_h0.Sound prog Inv gInv 118 :=
  hcon_run (M := m_strings_Builder_WriteByte_h0) (f := f118) rfl ks_strings_Builder_WriteByte_h0 100000 (X := nowhere) (fun base S0 cs0 hn hf => OSound.nowhere) (by intro x; kernel_rfl)
theorem h_strings_Builder_WriteByte_h0_ok : h_strings_Builder_WriteByte_h0.Sound prog Inv gInv 118 := by
  have e : h_strings_Builder_WriteByte_h0 = hb_strings_Builder_WriteByte_h0 := by unfold h_strings_Builder_WriteByte_h0 hb_strings_Builder_WriteByte_h0; rw [strings_Builder_WriteByte_h0_eq]
  rw [e]; exact hb_strings_Builder_WriteByte_h0_ok
end Go.Proofs.YtjdjlijjolibkaaDoor.V
namespace Go.Proofs.YtjdjlijjolibkaaDoor.V
open Go.RowKit Go.Proofs.Tryd
set_option maxRecDepth 100000
set_option linter.unusedVariables false
noncomputable def m_frame_writer_parts_h0 : Mach prog Inv gInv := mach bas [(75, f75), (74, f74), (113, f113), (115, f115), (117, f117), (118, f118), (147, f147)] ⟨ok75, ok74, ok113, ok115, ok117, ok118, ok147, trivial⟩ [(114, c_varint_Puts)] ⟨⟨c_varint_Puts_ok, FnOk.callable ok114⟩, trivial⟩ [(116, c_slices_Clone_ranges_Range)] ⟨⟨c_slices_Clone_ranges_Range_ok, FnOk.callable ok116⟩, trivial⟩ [(147, h_strings_Builder_copyCheck_h0), (147, h_strings_Builder_copyCheck_h1), (147, h_strings_Builder_copyCheck_h2), (74, h_frame_writer_numbers_h0), (147, h_strings_Builder_copyCheck_h3), (74, h_frame_writer_numbers_h1), (113, h_frame_writer_long_h0), (115, h_strings_Builder_WriteString_h0), (118, h_strings_Builder_WriteByte_h0)] ⟨⟨h_strings_Builder_copyCheck_h0_ok, FnOk.callable ok147⟩, ⟨h_strings_Builder_copyCheck_h1_ok, FnOk.callable ok147⟩, ⟨h_strings_Builder_copyCheck_h2_ok, FnOk.callable ok147⟩, ⟨h_frame_writer_numbers_h0_ok, FnOk.callable ok74⟩, ⟨h_strings_Builder_copyCheck_h3_ok, FnOk.callable ok147⟩, ⟨h_frame_writer_numbers_h1_ok, FnOk.callable ok74⟩, ⟨h_frame_writer_long_h0_ok, FnOk.callable ok113⟩, ⟨h_strings_Builder_WriteString_h0_ok, FnOk.callable ok115⟩, ⟨h_strings_Builder_WriteByte_h0_ok, FnOk.callable ok118⟩, trivial⟩
@[reducible] noncomputable def pa_frame_writer_parts_h0 : List Pat := [.ptr 0 0, .dat T_frame_Frame]
@[reducible] noncomputable def pH_frame_writer_parts_h0 : List HPat := [.cells 132 [.ptr 0 0, .all 1], .row (.byt 5)]
/-! ### (*domino/frame.writer).parts -/
abbrev R_frame_writer_parts_h0 : Type := (List Int) × Unit
@[reducible] noncomputable def qa_frame_writer_parts_h0 : List Pat := []
@[reducible] noncomputable def qH_frame_writer_parts_h0 : List HPat := [.cells 132 [.ptr 0 0, .all 2], .dead, .row (.byt 5)]
noncomputable def g_frame_writer_parts_h0 : HCon := HCon.mk0 pa_frame_writer_parts_h0 pH_frame_writer_parts_h0 qa_frame_writer_parts_h0 qH_frame_writer_parts_h0 R_frame_writer_parts_h0 (fun _ => none) (fun r => ((), (((), ((), ())), ((), (r.1, ()))))) (fun y => (y.2.2.2.1, ())) (fun _ => rfl)
def ks_frame_writer_parts_h0 : List Nat := [75, 74, 113, 115, 117, 118, 147]
abbrev H_frame_writer_parts_h0 (base : Base) (S0 : Nat → Prop) := base.n = 2 ∧ FinOk (finH g_frame_writer_parts_h0) base S0 (HPost g_frame_writer_parts_h0 base S0)
abbrev J_frame_writer_parts_h0 (base : Base) (S0 : Nat → Prop) (cs0 : List Go.Frame) (p : CPat) (J : denC p → Option R_frame_writer_parts_h0) := JSound m_frame_writer_parts_h0 base S0 cs0 (HPost g_frame_writer_parts_h0 base S0) p J
abbrev O_frame_writer_parts_h0 (base : Base) (S0 : Nat → Prop) (cs0 : List Go.Frame) (X : Cfg → Option (Option R_frame_writer_parts_h0)) := OSound m_frame_writer_parts_h0 base S0 cs0 (HPost g_frame_writer_parts_h0 base S0) X
@[reducible] noncomputable def p_frame_writer_parts_h0_4 : CPat := ⟨⟨75, [1, 1, 0, 1, 1, 1, 1, 1, 1, 1, 1, 1, 1, 1, 1, 1, 1, 1, 1, 1], none, [.ptr 0 0, .any, .any, .ptr 2 0, .any, .any, .any, .any, .int .u64, .any, .any, .any, .any, .any, .any, .any, .any, .any, .any, .any, .any, .any, .any, .any, .any, .any, .any, .any, .any, .any, .any, .any, .any, .any, .any, .any, .any, .any, .any, .any, .any, .any, .any, .any, .any, .any, .any, .any, .any, .any, .any, .any, .any, .any, .any, .any, .any, .any, .any, .any, .any, .any, .any, .any, .any, .any, .any, .any, .any, .any, .any, .any, .any, .any, .any, .any, .any, .any, .any, .any, .any, .any, .any, .any, .any, .any, .any, .any, .any, .any, .any, .any, .any, .any, .any, .any, .any, .any, .any, .any, .any, .any, .any, .any, .any, .any, .any, .any, .any, .any, .any, .any, .any, .any, .any, .any, .any, .any, .any, .any, .any, .any, .any, .any, .any, .any, .any, .any, .any, .any, .any, .any, .any, .any, .any, .any, .any, .any, .any, .any, .any, .any, .any, .any, .any, .any, .any, .any, .any, .any, .bool], 32⟩, [], [.cells 132 [.ptr 0 0, .all 1], .row (.byt 5), .dat 34 T_frame_Frame], 2⟩
@[reducible] noncomputable def u_frame_writer_parts_h0_4 (k : Int → Bool → (List Int) → D_frame_Frame → Option R_frame_writer_parts_h0) : denC p_frame_writer_parts_h0_4 → Option R_frame_writer_parts_h0 := fun x => k x.1.2.2.2.2.2.2.2.2.1 x.1.2.2.2.2.2.2.2.2.2.2.2.2.2.2.2.2.2.2.2.2.2.2.2.2.2.2.2.2.2.2.2.2.2.2.2.2.2.2.2.2.2.2.2.2.2.2.2.2.2.2.2.2.2.2.2.2.2.2.2.2.2.2.2.2.2.2.2.2.2.2.2.2.2.2.2.2.2.2.2.2.2.2.2.2.2.2.2.2.2.2.2.2.2.2.2.2.2.2.2.2.2.2.2.2.2.2.2.2.2.2.2.2.2.2.2.2.2.2.2.2.2.2.2.2.2.2.2.2.2.2.2.2.2.2.2.2.2.2.2.2.2.2.2.2.2.2.2.2.2.2.1 x.2.2.2.1 x.2.2.2.2.1
noncomputable def b_frame_writer_parts_h0_4 (i125 : Int) (b126 : Bool) (l127 : (List Int)) (d128 : D_frame_Frame) : Option R_frame_writer_parts_h0 :=
  bif b126 then
    obind (strings_Builder_WriteString_h0 d128.2.2.2.2.2.2.2.2.2.2.2.1 l127) fun y129 =>
    some (y129.2.1, ())
  else
    let b130 : Bool := (i125 == (28 : Int))
    bif b130 then
      obind (frame_writer_numbers_h1 (d128.2.2.2.2.1 :: (d128.2.2.2.2.2.2.2.1 :: ([] : List Int))) l127) fun y131 =>
      obind (frame_writer_long_h0 d128.2.2.2.2.2.2.2.2.2.1 y131.2.1) fun y132 =>
      some (y132.1, ())
    else
      let b133 : Bool := (i125 == (29 : Int))
      bif b133 then
        obind (frame_writer_numbers_h1 (d128.2.2.2.2.1 :: ([] : List Int)) l127) fun y134 =>
        obind (frame_writer_long_h0 d128.2.2.2.2.2.2.2.2.2.1 y134.2.1) fun y135 =>
        some (y135.1, ())
      else
        some (l127, ())
theorem ex_frame_writer_parts_h0_4 : ∃ f, f = @b_frame_writer_parts_h0_4 := ⟨_, rfl⟩
noncomputable def frame_writer_parts_h0_4 := Classical.choose ex_frame_writer_parts_h0_4
theorem frame_writer_parts_h0_4_eq : @frame_writer_parts_h0_4 = @b_frame_writer_parts_h0_4 := Classical.choose_spec ex_frame_writer_parts_h0_4
theorem s_frame_writer_parts_h0_4 {base S0 cs0} (hfin : H_frame_writer_parts_h0 base S0) : J_frame_writer_parts_h0 base S0 cs0 p_frame_writer_parts_h0_4 (u_frame_writer_parts_h0_4 (frame_writer_parts_h0_4)) :=
  JSound.join hfin.2 (OSound.nowhere) ks_frame_writer_parts_h0 100000 (by rw [frame_writer_parts_h0_4_eq]; intro x; kernel_rfl)
noncomputable def x_frame_writer_parts_h0_4 : Cfg → Option (Option R_frame_writer_parts_h0) := cut p_frame_writer_parts_h0_4 (u_frame_writer_parts_h0_4 (frame_writer_parts_h0_4)) (nowhere)
theorem o_frame_writer_parts_h0_4 {base S0 cs0} (hfin : H_frame_writer_parts_h0 base S0) : O_frame_writer_parts_h0 base S0 cs0 (x_frame_writer_parts_h0_4) := OSound.cut (OSound.nowhere) (Nat.le_of_eq hfin.1) (s_frame_writer_parts_h0_4 hfin)
@[reducible] noncomputable def p_frame_writer_parts_h0_3 : CPat := ⟨⟨75, [1, 1, 0, 1, 1, 1, 1, 1, 1, 1, 1, 1, 1, 1], none, [.ptr 0 0, .any, .any, .ptr 2 0, .any, .any, .any, .any, .int .u64, .any, .any, .any, .any, .any, .any, .any, .any, .any, .any, .any, .any, .any, .any, .any, .any, .any, .any, .any, .any, .any, .any, .any, .any, .any, .any, .any, .any, .any, .any, .any, .any, .any, .any, .any, .any, .any, .any, .any, .any, .any, .any, .any, .any, .any, .any, .any, .any, .any, .any, .any, .any, .any, .any, .any, .any, .any, .any, .any, .any, .any, .any, .any, .any, .any, .any, .any, .any, .any, .any, .any, .any, .any, .any, .any, .any, .any, .any, .any, .any, .any, .any, .any, .any, .any, .any, .any, .any, .any, .any, .any, .any, .any, .any, .any, .any, .any, .any, .bool], 75⟩, [], [.cells 132 [.ptr 0 0, .all 1], .row (.byt 5), .dat 34 T_frame_Frame], 2⟩
@[reducible] noncomputable def u_frame_writer_parts_h0_3 (k : Int → Bool → (List Int) → D_frame_Frame → Option R_frame_writer_parts_h0) : denC p_frame_writer_parts_h0_3 → Option R_frame_writer_parts_h0 := fun x => k x.1.2.2.2.2.2.2.2.2.1 x.1.2.2.2.2.2.2.2.2.2.2.2.2.2.2.2.2.2.2.2.2.2.2.2.2.2.2.2.2.2.2.2.2.2.2.2.2.2.2.2.2.2.2.2.2.2.2.2.2.2.2.2.2.2.2.2.2.2.2.2.2.2.2.2.2.2.2.2.2.2.2.2.2.2.2.2.2.2.2.2.2.2.2.2.2.2.2.2.2.2.2.2.2.2.2.2.2.2.2.2.2.2.2.2.2.2.2.2.1 x.2.2.2.1 x.2.2.2.2.1
noncomputable def b_frame_writer_parts_h0_3 (i109 : Int) (b110 : Bool) (l111 : (List Int)) (d112 : D_frame_Frame) : Option R_frame_writer_parts_h0 :=
  bif b110 then
    obind (frame_writer_numbers_h1 (d112.2.1 :: (d112.2.2.2.1 :: ([] : List Int))) l111) fun y113 =>
    some (y113.2.1, ())
  else
    let b114 : Bool := (i109 == (24 : Int))
    bif b114 then
      obind (frame_writer_numbers_h1 (d112.2.2.2.2.2.1 :: (d112.2.2.2.2.2.2.1 :: ([] : List Int))) l111) fun y115 =>
      let n116 : Int := (((ByteArray.size d112.2.2.2.2.2.2.2.2.2.2.1) : Nat) : Int)
      let n117 : Int := (Go.IntKind.wrap Go.IntKind.u8 n116)
      obind (strings_Builder_WriteByte_h0 n117 y115.2.1) fun y118 =>
      bif (decide (((ByteArray.size d112.2.2.2.2.2.2.2.2.2.2.1) + (ByteArray.size d112.2.2.2.2.2.2.2.2.2.2.2.1)) ≤ 9223372036854775807)) then
        let s119 : ByteArray := (d112.2.2.2.2.2.2.2.2.2.2.1 ++ d112.2.2.2.2.2.2.2.2.2.2.2.1)
        obind (strings_Builder_WriteString_h0 s119 y118.1) fun y120 =>
        some (y120.2.1, ())
      else none
    else
      let b121 : Bool := (i109 == (25 : Int))
      bif b121 then
        obind (frame_writer_numbers_h1 (d112.2.2.2.2.2.1 :: ([] : List Int)) l111) fun y122 =>
        some (y122.2.1, ())
      else
        let b123 : Bool := (i109 == (26 : Int))
        bif b123 then
          frame_writer_parts_h0_4 i109 true l111 d112
        else
          let b124 : Bool := (i109 == (27 : Int))
          frame_writer_parts_h0_4 i109 b124 l111 d112
theorem ex_frame_writer_parts_h0_3 : ∃ f, f = @b_frame_writer_parts_h0_3 := ⟨_, rfl⟩
noncomputable def frame_writer_parts_h0_3 := Classical.choose ex_frame_writer_parts_h0_3
theorem frame_writer_parts_h0_3_eq : @frame_writer_parts_h0_3 = @b_frame_writer_parts_h0_3 := Classical.choose_spec ex_frame_writer_parts_h0_3
theorem s_frame_writer_parts_h0_3 {base S0 cs0} (hfin : H_frame_writer_parts_h0 base S0) : J_frame_writer_parts_h0 base S0 cs0 p_frame_writer_parts_h0_3 (u_frame_writer_parts_h0_3 (frame_writer_parts_h0_3)) :=
  JSound.join hfin.2 (o_frame_writer_parts_h0_4 hfin) ks_frame_writer_parts_h0 100000 (by rw [frame_writer_parts_h0_3_eq]; intro x; kernel_rfl)
noncomputable def x_frame_writer_parts_h0_3 : Cfg → Option (Option R_frame_writer_parts_h0) := cut p_frame_writer_parts_h0_3 (u_frame_writer_parts_h0_3 (frame_writer_parts_h0_3)) (x_frame_writer_parts_h0_4)
theorem o_frame_writer_parts_h0_3 {base S0 cs0} (hfin : H_frame_writer_parts_h0 base S0) : O_frame_writer_parts_h0 base S0 cs0 (x_frame_writer_parts_h0_3) := OSound.cut (o_frame_writer_parts_h0_4 hfin) (Nat.le_of_eq hfin.1) (s_frame_writer_parts_h0_3 hfin)
@[reducible] noncomputable def p_frame_writer_parts_h0_2 : CPat := ⟨⟨75, [1, 1, 0, 1, 1, 1, 1, 1, 1, 1, 1, 1], none, [.ptr 0 0, .any, .any, .ptr 2 0, .any, .any, .any, .any, .int .u64, .any, .any, .any, .any, .any, .any, .any, .any, .any, .any, .any, .any, .any, .any, .any, .any, .any, .any, .any, .any, .any, .any, .any, .any, .any, .any, .any, .any, .any, .any, .any, .any, .any, .any, .any, .any, .any, .any, .any, .any, .any, .any, .any, .any, .any, .any, .any, .any, .any, .any, .any, .any, .any, .any, .any, .any, .any, .any, .any, .any, .any, .any, .any, .any, .any, .any, .any, .any, .any, .any, .any, .any, .any, .any, .any, .any, .any, .any, .any, .any, .any, .any, .any, .any, .any, .any, .bool], 87⟩, [], [.cells 132 [.ptr 0 0, .all 1], .row (.byt 5), .dat 34 T_frame_Frame], 2⟩
@[reducible] noncomputable def u_frame_writer_parts_h0_2 (k : Int → Bool → (List Int) → D_frame_Frame → Option R_frame_writer_parts_h0) : denC p_frame_writer_parts_h0_2 → Option R_frame_writer_parts_h0 := fun x => k x.1.2.2.2.2.2.2.2.2.1 x.1.2.2.2.2.2.2.2.2.2.2.2.2.2.2.2.2.2.2.2.2.2.2.2.2.2.2.2.2.2.2.2.2.2.2.2.2.2.2.2.2.2.2.2.2.2.2.2.2.2.2.2.2.2.2.2.2.2.2.2.2.2.2.2.2.2.2.2.2.2.2.2.2.2.2.2.2.2.2.2.2.2.2.2.2.2.2.2.2.2.2.2.2.2.2.2.1 x.2.2.2.1 x.2.2.2.2.1
noncomputable def b_frame_writer_parts_h0_2 (i102 : Int) (b103 : Bool) (l104 : (List Int)) (d105 : D_frame_Frame) : Option R_frame_writer_parts_h0 :=
  bif b103 then
    obind (frame_writer_numbers_h1 (d105.2.2.2.1 :: ([] : List Int)) l104) fun y106 =>
    some (y106.2.1, ())
  else
    let b107 : Bool := (i102 == (17 : Int))
    bif b107 then
      frame_writer_parts_h0_3 i102 true l104 d105
    else
      let b108 : Bool := (i102 == (21 : Int))
      frame_writer_parts_h0_3 i102 b108 l104 d105
theorem ex_frame_writer_parts_h0_2 : ∃ f, f = @b_frame_writer_parts_h0_2 := ⟨_, rfl⟩
noncomputable def frame_writer_parts_h0_2 := Classical.choose ex_frame_writer_parts_h0_2
theorem frame_writer_parts_h0_2_eq : @frame_writer_parts_h0_2 = @b_frame_writer_parts_h0_2 := Classical.choose_spec ex_frame_writer_parts_h0_2
theorem s_frame_writer_parts_h0_2 {base S0 cs0} (hfin : H_frame_writer_parts_h0 base S0) : J_frame_writer_parts_h0 base S0 cs0 p_frame_writer_parts_h0_2 (u_frame_writer_parts_h0_2 (frame_writer_parts_h0_2)) :=
  JSound.join hfin.2 (o_frame_writer_parts_h0_3 hfin) ks_frame_writer_parts_h0 100000 (by rw [frame_writer_parts_h0_2_eq]; intro x; kernel_rfl)
noncomputable def x_frame_writer_parts_h0_2 : Cfg → Option (Option R_frame_writer_parts_h0) := cut p_frame_writer_parts_h0_2 (u_frame_writer_parts_h0_2 (frame_writer_parts_h0_2)) (x_frame_writer_parts_h0_3)
theorem o_frame_writer_parts_h0_2 {base S0 cs0} (hfin : H_frame_writer_parts_h0 base S0) : O_frame_writer_parts_h0 base S0 cs0 (x_frame_writer_parts_h0_2) := OSound.cut (o_frame_writer_parts_h0_3 hfin) (Nat.le_of_eq hfin.1) (s_frame_writer_parts_h0_2 hfin)
@[reducible] noncomputable def p_frame_writer_parts_h0_1 : CPat := ⟨⟨75, [1, 1, 0, 1, 0, 1, 1, 1, 1, 0], none, [.ptr 0 0, .any, .any, .any, .all 2, .any, .any, .any, .any, .any, .any, .any, .any, .any, .any, .any, .any, .any, .any, .any, .any, .any, .any, .any, .any, .any, .any, .any, .any, .any, .any, .any, .any, .any, .any, .any, .any, .any, .any, .sl 2, .int .i64, .int .i64], 141⟩, [], [.cells 132 [.ptr 0 0, .all 3], .dead, .row T_ranges_Range, .row (.byt 5)], 2⟩
@[reducible] noncomputable def u_frame_writer_parts_h0_1 (k : Nat → Nat → Int → Int → (List D_ranges_Range) → (List Int) → Option R_frame_writer_parts_h0) : denC p_frame_writer_parts_h0_1 → Option R_frame_writer_parts_h0 := fun x => k x.1.2.2.2.2.2.2.2.2.2.2.2.2.2.2.2.2.2.2.2.2.2.2.2.2.2.2.2.2.2.2.2.2.2.2.2.2.2.2.2.1.1 x.1.2.2.2.2.2.2.2.2.2.2.2.2.2.2.2.2.2.2.2.2.2.2.2.2.2.2.2.2.2.2.2.2.2.2.2.2.2.2.2.1.2 x.1.2.2.2.2.2.2.2.2.2.2.2.2.2.2.2.2.2.2.2.2.2.2.2.2.2.2.2.2.2.2.2.2.2.2.2.2.2.2.2.2.1 x.1.2.2.2.2.2.2.2.2.2.2.2.2.2.2.2.2.2.2.2.2.2.2.2.2.2.2.2.2.2.2.2.2.2.2.2.2.2.2.2.2.2.1 x.2.2.2.2.1 x.2.2.2.2.2.1
noncomputable def t_frame_writer_parts_h0_1 (k1 : Nat → Nat → Int → Int → (List D_ranges_Range) → (List Int) → Option R_frame_writer_parts_h0) (o72 : Nat) (k73 : Nat) (i74 : Int) (i75 : Int) (l76 : (List D_ranges_Range)) (l77 : (List Int)) : Option R_frame_writer_parts_h0 :=
  let b78 : Bool := (decide (i75 < i74))
  bif b78 then
    bif (decide (((0 : Int) ≤ i75) ∧ (i75 < ((k73 : Nat) : Int)))) then
      let i79 : Nat := (o72 + (Int.toNat i75))
      let n80 : Int := (List.getD l76 i79 (Ty.dflt T_ranges_Range)).1
      let n81 : Int := (List.getD l76 i79 (Ty.dflt T_ranges_Range)).2.1
      bif (decide (((0 : Int) ≤ i75) ∧ (i75 < (((List.length l76) : Nat) : Int)))) then
        let i82 : Nat := (Int.toNat i75)
        let n83 : Int := (List.getD l76 i82 (Ty.dflt T_ranges_Range)).1
        let n84 : Int := (Go.IntKind.wrap Go.IntKind.u64 (n83 - n81))
        let n85 : Int := (Go.IntKind.wrap Go.IntKind.u64 (n84 - (2 : Int)))
        let n86 : Int := (Go.IntKind.wrap Go.IntKind.u64 (n81 - n80))
        obind (frame_writer_numbers_h1 (n85 :: (n86 :: ([] : List Int))) l77) fun y87 =>
        let n88 : Int := (Go.IntKind.wrap Go.IntKind.i64 (i75 + (1 : Int)))
        k1 o72 k73 i74 n88 l76 y87.2.1
      else none
    else none
  else
    some (l77, ())
noncomputable def frame_writer_parts_h0_1 : Nat → Nat → Nat → Int → Int → (List D_ranges_Range) → (List Int) → Option R_frame_writer_parts_h0
  | 0 => fun _ _ _ _ _ _ => none
  | m + 1 => t_frame_writer_parts_h0_1 (frame_writer_parts_h0_1 m)
noncomputable def b_frame_writer_parts_h0_1' (o72 : Nat) (k73 : Nat) (i74 : Int) (i75 : Int) (l76 : (List D_ranges_Range)) (l77 : (List Int)) : Option R_frame_writer_parts_h0 := frame_writer_parts_h0_1 (Int.toNat (i74 - i75) + 2) o72 k73 i74 i75 l76 l77
theorem ex_frame_writer_parts_h0_1' : ∃ f, f = @b_frame_writer_parts_h0_1' := ⟨_, rfl⟩
noncomputable def frame_writer_parts_h0_1' := Classical.choose ex_frame_writer_parts_h0_1'
theorem frame_writer_parts_h0_1'_eq : @frame_writer_parts_h0_1' = @b_frame_writer_parts_h0_1' := Classical.choose_spec ex_frame_writer_parts_h0_1'
theorem s_frame_writer_parts_h0_1 {base S0 cs0} (hfin : H_frame_writer_parts_h0 base S0) : ∀ m, J_frame_writer_parts_h0 base S0 cs0 p_frame_writer_parts_h0_1 (u_frame_writer_parts_h0_1 (frame_writer_parts_h0_1 m)) :=
  JSound.loop' hfin.2 ks_frame_writer_parts_h0 100000 u_frame_writer_parts_h0_1 (fun k1 => cut p_frame_writer_parts_h0_1 (u_frame_writer_parts_h0_1 k1) (x_frame_writer_parts_h0_2)) (fun k1 h1 => OSound.cut (o_frame_writer_parts_h0_2 hfin) (Nat.le_of_eq hfin.1) h1) (frame_writer_parts_h0_1) (by intro x; rfl) (by intro m x; kernel_rfl)
theorem s_frame_writer_parts_h0_1' {base S0 cs0} (hfin : H_frame_writer_parts_h0 base S0) : J_frame_writer_parts_h0 base S0 cs0 p_frame_writer_parts_h0_1 (u_frame_writer_parts_h0_1 (frame_writer_parts_h0_1')) := by
  rw [frame_writer_parts_h0_1'_eq]; exact fun x r hx => s_frame_writer_parts_h0_1 hfin _ x r hx
noncomputable def x_frame_writer_parts_h0_1 : Cfg → Option (Option R_frame_writer_parts_h0) := cut p_frame_writer_parts_h0_1 (u_frame_writer_parts_h0_1 (frame_writer_parts_h0_1')) (x_frame_writer_parts_h0_2)
theorem o_frame_writer_parts_h0_1 {base S0 cs0} (hfin : H_frame_writer_parts_h0 base S0) : O_frame_writer_parts_h0 base S0 cs0 (x_frame_writer_parts_h0_1) := OSound.cut (o_frame_writer_parts_h0_2 hfin) (Nat.le_of_eq hfin.1) (s_frame_writer_parts_h0_1' hfin)
@[reducible] noncomputable def p_frame_writer_parts_h0_0 : CPat := ⟨⟨117, [1, 0], none, [.all 2, .any, .int .i64, .int .i64], 24⟩, [⟨75, [1, 1, 0, 1, 0, 1, 0], (some 1), [.ptr 0 0, .any, .any, .ptr 3 0, .all 2], 178⟩], [.cells 132 [.ptr 0 0, .all 1], .row (.byt 5), .row T_ranges_Range, .dat 34 T_frame_Frame], 2⟩
@[reducible] noncomputable def u_frame_writer_parts_h0_0 (k : Int → Int → (List Int) → (List D_ranges_Range) → D_frame_Frame → Option R_frame_writer_parts_h0) : denC p_frame_writer_parts_h0_0 → Option R_frame_writer_parts_h0 := fun x => k x.1.2.2.1 x.1.2.2.2.1 x.2.2.2.1 x.2.2.2.2.1 x.2.2.2.2.2.1
noncomputable def t_frame_writer_parts_h0_0 (k0 : Int → Int → (List Int) → (List D_ranges_Range) → D_frame_Frame → Option R_frame_writer_parts_h0) (i30 : Int) (i31 : Int) (l32 : (List Int)) (l33 : (List D_ranges_Range)) (d34 : D_frame_Frame) : Option R_frame_writer_parts_h0 :=
  let b35 : Bool := (decide (i30 < i31))
  bif b35 then
    bif (decide (((0 : Int) ≤ i31) ∧ (i31 < (((List.length l33) : Nat) : Int)))) then
      let i36 : Nat := (Int.toNat i31)
      let n37 : Int := (List.getD l33 i36 (Ty.dflt T_ranges_Range)).1
      let n38 : Int := (List.getD l33 i36 (Ty.dflt T_ranges_Range)).2.1
      bif (decide (((0 : Int) ≤ i30) ∧ (i30 < (((List.length l33) : Nat) : Int)))) then
        let i39 : Nat := (Int.toNat i30)
        let n40 : Int := (List.getD l33 i39 (Ty.dflt T_ranges_Range)).1
        let n41 : Int := (List.getD l33 i39 (Ty.dflt T_ranges_Range)).2.1
        bif (decide (((0 : Int) ≤ i30) ∧ (i30 < (((List.length l33) : Nat) : Int)))) then
          let i42 : Nat := (Int.toNat i30)
          let l43 : (List D_ranges_Range) := (List.set l33 i42 (n37, (n38, ())))
          bif (decide (((0 : Int) ≤ i31) ∧ (i31 < (((List.length l43) : Nat) : Int)))) then
            let i44 : Nat := (Int.toNat i31)
            let l45 : (List D_ranges_Range) := (List.set l43 i44 (n40, (n41, ())))
            let n46 : Int := (Go.IntKind.wrap Go.IntKind.i64 (i30 + (1 : Int)))
            let n47 : Int := (Go.IntKind.wrap Go.IntKind.i64 (i31 - (1 : Int)))
            k0 n46 n47 l32 l45 d34
          else none
        else none
      else none
    else none
  else
    bif (decide (((0 : Int) ≤ (0 : Int)) ∧ ((0 : Int) < (((List.length l33) : Nat) : Int)))) then
      let n48 : Int := (List.getD l33 0 (Ty.dflt T_ranges_Range)).2.1
      let n49 : Int := (((List.length l33) : Nat) : Int)
      let n50 : Int := (Go.IntKind.wrap Go.IntKind.i64 (n49 - (1 : Int)))
      let n51 : Int := (Go.IntKind.wrap Go.IntKind.u64 n50)
      bif (decide (((0 : Int) ≤ (0 : Int)) ∧ ((0 : Int) < (((List.length l33) : Nat) : Int)))) then
        let n52 : Int := (List.getD l33 0 (Ty.dflt T_ranges_Range)).2.1
        bif (decide (((0 : Int) ≤ (0 : Int)) ∧ ((0 : Int) < (((List.length l33) : Nat) : Int)))) then
          let n53 : Int := (List.getD l33 0 (Ty.dflt T_ranges_Range)).1
          let n54 : Int := (Go.IntKind.wrap Go.IntKind.u64 (n52 - n53))
          obind (frame_writer_numbers_h1 (n48 :: (d34.2.2.2.2.2.2.2.1 :: (n51 :: (n54 :: ([] : List Int))))) l32) fun y55 =>
          bif (decide (((0 : Int) ≤ (1 : Int)) ∧ (((1 : Int) ≤ (((List.length l33) : Nat) : Int)) ∧ ((((List.length l33) : Nat) : Int) ≤ (((List.length l33) : Nat) : Int))))) then
            let k56 : Nat := ((Int.toNat (((List.length l33) : Nat) : Int)) - 1)
            let n57 : Int := ((k56 : Nat) : Int)
            frame_writer_parts_h0_1' 1 k56 n57 (0 : Int) l33 y55.2.1
          else none
        else none
      else none
    else none
noncomputable def frame_writer_parts_h0_0 : Nat → Int → Int → (List Int) → (List D_ranges_Range) → D_frame_Frame → Option R_frame_writer_parts_h0
  | 0 => fun _ _ _ _ _ => none
  | m + 1 => t_frame_writer_parts_h0_0 (frame_writer_parts_h0_0 m)
noncomputable def b_frame_writer_parts_h0_0' (i30 : Int) (i31 : Int) (l32 : (List Int)) (l33 : (List D_ranges_Range)) (d34 : D_frame_Frame) : Option R_frame_writer_parts_h0 := frame_writer_parts_h0_0 (Int.toNat (i31 - i30) + 2) i30 i31 l32 l33 d34
theorem ex_frame_writer_parts_h0_0' : ∃ f, f = @b_frame_writer_parts_h0_0' := ⟨_, rfl⟩
noncomputable def frame_writer_parts_h0_0' := Classical.choose ex_frame_writer_parts_h0_0'
theorem frame_writer_parts_h0_0'_eq : @frame_writer_parts_h0_0' = @b_frame_writer_parts_h0_0' := Classical.choose_spec ex_frame_writer_parts_h0_0'
theorem s_frame_writer_parts_h0_0 {base S0 cs0} (hfin : H_frame_writer_parts_h0 base S0) : ∀ m, J_frame_writer_parts_h0 base S0 cs0 p_frame_writer_parts_h0_0 (u_frame_writer_parts_h0_0 (frame_writer_parts_h0_0 m)) :=
  JSound.loop' hfin.2 ks_frame_writer_parts_h0 100000 u_frame_writer_parts_h0_0 (fun k0 => cut p_frame_writer_parts_h0_0 (u_frame_writer_parts_h0_0 k0) (x_frame_writer_parts_h0_1)) (fun k0 h0 => OSound.cut (o_frame_writer_parts_h0_1 hfin) (Nat.le_of_eq hfin.1) h0) (frame_writer_parts_h0_0) (by intro x; rfl) (by intro m x; kernel_rfl)
theorem s_frame_writer_parts_h0_0' {base S0 cs0} (hfin : H_frame_writer_parts_h0 base S0) : J_frame_writer_parts_h0 base S0 cs0 p_frame_writer_parts_h0_0 (u_frame_writer_parts_h0_0 (frame_writer_parts_h0_0')) := by
  rw [frame_writer_parts_h0_0'_eq]; exact fun x r hx => s_frame_writer_parts_h0_0 hfin _ x r hx
noncomputable def x_frame_writer_parts_h0_0 : Cfg → Option (Option R_frame_writer_parts_h0) := cut p_frame_writer_parts_h0_0 (u_frame_writer_parts_h0_0 (frame_writer_parts_h0_0')) (x_frame_writer_parts_h0_1)
theorem o_frame_writer_parts_h0_0 {base S0 cs0} (hfin : H_frame_writer_parts_h0 base S0) : O_frame_writer_parts_h0 base S0 cs0 (x_frame_writer_parts_h0_0) := OSound.cut (o_frame_writer_parts_h0_1 hfin) (Nat.le_of_eq hfin.1) (s_frame_writer_parts_h0_0' hfin)
noncomputable def b_frame_writer_parts_h0 (d0 : D_frame_Frame) (l1 : (List Int)) : Option R_frame_writer_parts_h0 :=
  let b2 : Bool := (d0.1 == (2 : Int))
  bif b2 then
    obind (slices_Clone_ranges_Range d0.2.2.2.2.2.2.2.2.2.2.2.2.1) fun y3 =>
    let n4 : Int := (((List.length y3) : Nat) : Int)
    let n5 : Int := (Go.IntKind.wrap Go.IntKind.i64 (n4 - (1 : Int)))
    frame_writer_parts_h0_0' (0 : Int) n5 l1 y3 d0
  else
    let b89 : Bool := (d0.1 == (4 : Int))
    bif b89 then
      obind (frame_writer_numbers_h1 (d0.2.1 :: (d0.2.2.2.2.1 :: (d0.2.2.2.1 :: ([] : List Int)))) l1) fun y90 =>
      some (y90.2.1, ())
    else
      let b91 : Bool := (d0.1 == (5 : Int))
      bif b91 then
        obind (frame_writer_numbers_h1 (d0.2.1 :: (d0.2.2.2.2.1 :: ([] : List Int))) l1) fun y92 =>
        some (y92.2.1, ())
      else
        let b93 : Bool := (d0.1 == (6 : Int))
        bif b93 then
          obind (frame_writer_numbers_h1 (d0.2.2.1 :: ([] : List Int)) l1) fun y94 =>
          obind (frame_writer_long_h0 d0.2.2.2.2.2.2.2.2.2.1 y94.2.1) fun y95 =>
          some (y95.1, ())
        else
          let b96 : Bool := (d0.1 == (16 : Int))
          bif b96 then
            frame_writer_parts_h0_2 d0.1 true l1 d0
          else
            let b97 : Bool := (d0.1 == (18 : Int))
            bif b97 then
              frame_writer_parts_h0_2 d0.1 true l1 d0
            else
              let b98 : Bool := (d0.1 == (19 : Int))
              bif b98 then
                frame_writer_parts_h0_2 d0.1 true l1 d0
              else
                let b99 : Bool := (d0.1 == (20 : Int))
                bif b99 then
                  frame_writer_parts_h0_2 d0.1 true l1 d0
                else
                  let b100 : Bool := (d0.1 == (22 : Int))
                  bif b100 then
                    frame_writer_parts_h0_2 d0.1 true l1 d0
                  else
                    let b101 : Bool := (d0.1 == (23 : Int))
                    frame_writer_parts_h0_2 d0.1 b101 l1 d0
theorem ex_frame_writer_parts_h0 : ∃ f, f = @b_frame_writer_parts_h0 := ⟨_, rfl⟩
noncomputable def frame_writer_parts_h0 := Classical.choose ex_frame_writer_parts_h0
theorem frame_writer_parts_h0_eq : @frame_writer_parts_h0 = @b_frame_writer_parts_h0 := Classical.choose_spec ex_frame_writer_parts_h0
noncomputable def hb_frame_writer_parts_h0 : HCon := HCon.mk0 pa_frame_writer_parts_h0 pH_frame_writer_parts_h0 qa_frame_writer_parts_h0 qH_frame_writer_parts_h0 R_frame_writer_parts_h0 (fun x => b_frame_writer_parts_h0 x.1.2.1 x.2.2.1) (fun r => ((), (((), ((), ())), ((), (r.1, ()))))) (fun y => (y.2.2.2.1, ())) (fun _ => rfl)
noncomputable def h_frame_writer_parts_h0 : HCon := HCon.mk0 pa_frame_writer_parts_h0 pH_frame_writer_parts_h0 qa_frame_writer_parts_h0 qH_frame_writer_parts_h0 R_frame_writer_parts_h0 (fun x => frame_writer_parts_h0 x.1.2.1 x.2.2.1) (fun r => ((), (((), ((), ())), ((), (r.1, ()))))) (fun y => (y.2.2.2.1, ())) (fun _ => rfl)
theorem hb_frame_writer_parts_h0_ok : hb_frame_writer_parts_h0.Sound prog Inv gInv 75 :=
  hcon_run (M := m_frame_writer_parts_h0) (f := f75) rfl ks_frame_writer_parts_h0 100000 (X := x_frame_writer_parts_h0_0) (fun base S0 cs0 hn hf => have hfin : H_frame_writer_parts_h0 base S0 := ⟨hn, hf⟩; o_frame_writer_parts_h0_0 hfin) (by intro x; kernel_rfl)
theorem h_frame_writer_parts_h0_ok : h_frame_writer_parts_h0.Sound prog Inv gInv 75 := by
  have e : h_frame_writer_parts_h0 = hb_frame_writer_parts_h0 := by unfold h_frame_writer_parts_h0 hb_frame_writer_parts_h0; rw [frame_writer_parts_h0_eq]
  rw [e]; exact hb_frame_writer_parts_h0_ok
end Go.Proofs.YtjdjlijjolibkaaDoor.V
namespace Go.Proofs.YtjdjlijjolibkaaDoor.V
open Go.RowKit Go.Proofs.Tryd
set_option maxRecDepth 100000
set_option linter.unusedVariables false
noncomputable def m_frame_Put : Mach prog Inv gInv := mach bas [(31, f31), (73, f73), (74, f74), (75, f75), (76, f76), (113, f113), (115, f115), (117, f117), (118, f118), (147, f147)] ⟨ok31, ok73, ok74, ok75, ok76, ok113, ok115, ok117, ok118, ok147, trivial⟩ [(34, c_frame_May), (114, c_varint_Puts)] ⟨⟨c_frame_May_ok, FnOk.callable ok34⟩, ⟨c_varint_Puts_ok, FnOk.callable ok114⟩, trivial⟩ [(116, c_slices_Clone_ranges_Range)] ⟨⟨c_slices_Clone_ranges_Range_ok, FnOk.callable ok116⟩, trivial⟩ [(147, h_strings_Builder_copyCheck_h0), (147, h_strings_Builder_copyCheck_h1), (147, h_strings_Builder_copyCheck_h2), (74, h_frame_writer_numbers_h0), (147, h_strings_Builder_copyCheck_h3), (74, h_frame_writer_numbers_h1), (113, h_frame_writer_long_h0), (73, h_frame_writer_stream_h0), (115, h_strings_Builder_WriteString_h0), (118, h_strings_Builder_WriteByte_h0), (75, h_frame_writer_parts_h0)] ⟨⟨h_strings_Builder_copyCheck_h0_ok, FnOk.callable ok147⟩, ⟨h_strings_Builder_copyCheck_h1_ok, FnOk.callable ok147⟩, ⟨h_strings_Builder_copyCheck_h2_ok, FnOk.callable ok147⟩, ⟨h_frame_writer_numbers_h0_ok, FnOk.callable ok74⟩, ⟨h_strings_Builder_copyCheck_h3_ok, FnOk.callable ok147⟩, ⟨h_frame_writer_numbers_h1_ok, FnOk.callable ok74⟩, ⟨h_frame_writer_long_h0_ok, FnOk.callable ok113⟩, ⟨h_frame_writer_stream_h0_ok, FnOk.callable ok73⟩, ⟨h_strings_Builder_WriteString_h0_ok, FnOk.callable ok115⟩, ⟨h_strings_Builder_WriteByte_h0_ok, FnOk.callable ok118⟩, ⟨h_frame_writer_parts_h0_ok, FnOk.callable ok75⟩, trivial⟩
/-! ### domino/frame.Put -/
@[reducible] def r_frame_Put : List Ty := [.str, (.int .i64)]
def ks_frame_Put : List Nat := [31, 73, 74, 75, 76, 113, 115, 117, 118, 147]
noncomputable def b_frame_Put (a0 : D_frame_Frame) : Option (ByteArray × Int × Unit) :=
  let s1 : ByteArray := (ByteArray.mk (List.toArray ([] : List UInt8)))
  obind (frame_May a0) fun y2 =>
  let b3 : Bool := (!y2.1)
  bif b3 then
    let s4 : ByteArray := (ByteArray.mk (List.toArray ([] : List UInt8)))
    some (s4, ((1 : Int), ()))
  else
    let b5 : Bool := (a0.1 == (8 : Int))
    bif b5 then
      obind (frame_writer_stream_h0 a0) fun y6 =>
      let s15 : ByteArray := (ByteArray.mk (List.toArray ([] : List UInt8)))
      let n16 : Int := (((List.length y6.1) : Nat) : Int)
      bif (decide ((n16 = (((List.length y6.1) : Nat) : Int)) ∧ (n16 ≤ (4294967296 : Int)))) then
        let s17 : ByteArray := (bytesStr y6.1)
        some (s17, ((0 : Int), ()))
      else none
    else
      obind (frame_writer_numbers_h0 (a0.1 :: ([] : List Int))) fun y7 =>
      obind (frame_writer_parts_h0 a0 y7.2.1) fun y8 =>
      let s12 : ByteArray := (ByteArray.mk (List.toArray ([] : List UInt8)))
      let n13 : Int := (((List.length y8.1) : Nat) : Int)
      bif (decide ((n13 = (((List.length y8.1) : Nat) : Int)) ∧ (n13 ≤ (4294967296 : Int)))) then
        let s14 : ByteArray := (bytesStr y8.1)
        some (s14, ((0 : Int), ()))
      else none
theorem ex_frame_Put : ∃ f, f = @b_frame_Put := ⟨_, rfl⟩
noncomputable def frame_Put := Classical.choose ex_frame_Put
theorem frame_Put_eq : @frame_Put = @b_frame_Put := Classical.choose_spec ex_frame_Put
noncomputable def cb_frame_Put : Con := ⟨[T_frame_Frame], r_frame_Put, fun x => b_frame_Put x.1⟩
noncomputable def c_frame_Put : Con := ⟨[T_frame_Frame], r_frame_Put, fun x => frame_Put x.1⟩
theorem cb_frame_Put_ok : cb_frame_Put.Sound prog Inv gInv 31 :=
  con_run (M := m_frame_Put) inv_g (f := f31) rfl ks_frame_Put 100000 (X := nowhere) (fun base S0 cs0 hn hf => OSound.nowhere) (by intro x; kernel_rfl)
theorem c_frame_Put_ok : c_frame_Put.Sound prog Inv gInv 31 := by
  have e : c_frame_Put = cb_frame_Put := by unfold c_frame_Put cb_frame_Put; rw [frame_Put_eq]
  rw [e]; exact cb_frame_Put_ok
end Go.Proofs.YtjdjlijjolibkaaDoor.V
/- What frame.Put answers, in plain Lean. -/
namespace Go.Proofs.YtjdjlijjolibkaaDoor.V
open Go.RowKit
def In62 (n : Int) : Prop := 0 ≤ n ∧ n < 4611686018427387904
theorem num0_is (l : List Int) (hl : l.length ≤ 1000) (h : ∀ n ∈ l, In62 n) : frame_writer_numbers_h0 l = some (l, vbs l, ()) := by
  rw [frame_writer_numbers_h0_eq, b_frame_writer_numbers_h0, puts_is l (by omega) h]
  simp only [obind_some, strings_Builder_copyCheck_h2_eq, b_strings_Builder_copyCheck_h2, strBytes_bytesStr (vbs_range l h)]
  have := vbs_len l
  have : (vbs l).length ≤ 4294967296 := by omega
  simp only [this, decide_true, cond_true]
theorem num1_is (l acc : List Int) (hl : l.length ≤ 1000) (ha : acc.length ≤ 1000000) (h : ∀ n ∈ l, In62 n) : frame_writer_numbers_h1 l acc = some (l, acc ++ vbs l, ()) := by
  rw [frame_writer_numbers_h1_eq, b_frame_writer_numbers_h1, puts_is l (by omega) h]
  simp only [obind_some, strings_Builder_copyCheck_h3_eq, b_strings_Builder_copyCheck_h3, strBytes_bytesStr (vbs_range l h)]
  have := vbs_len l
  have : acc.length + (vbs l).length ≤ 4294967296 := by omega
  simp only [this, decide_true, cond_true]
def textL (s : ByteArray) : List Int := vb ((s.size : Nat) : Int) ++ strBytes s
theorem long_is (s : ByteArray) (acc : List Int) (hs : s.size ≤ 100000) (ha : acc.length ≤ 900000) : frame_writer_long_h0 s acc = some (acc ++ textL s, ()) := by
  rw [frame_writer_long_h0_eq, b_frame_writer_long_h0]
  rw [wrap_u64 _ (by omega) (by omega), num1_is _ _ (by simp) (by omega) (by intro n hn; simp at hn; subst hn; unfold In62; omega)]
  simp only [obind_some, strings_Builder_copyCheck_h3_eq, b_strings_Builder_copyCheck_h3]
  have h1 := vbs_len [((s.size : Nat) : Int)]
  have h2 := strBytes_len s
  simp only [List.length_cons, List.length_nil] at h1
  have : (acc ++ vbs [((s.size : Nat) : Int)]).length + (strBytes s).length ≤ 4294967296 := by rw [List.length_append]; omega
  simp only [this, decide_true, cond_true]
  simp only [textL, vbs, List.flatMap_cons, List.flatMap_nil, List.append_nil, List.append_assoc]
theorem wstr_is (s : ByteArray) (acc : List Int) (hs : s.size ≤ 100000) (ha : acc.length ≤ 1000000) : strings_Builder_WriteString_h0 s acc = some (((s.size : Nat) : Int), acc ++ strBytes s, ()) := by
  rw [strings_Builder_WriteString_h0_eq, b_strings_Builder_WriteString_h0]
  simp only [obind_some, strings_Builder_copyCheck_h3_eq, b_strings_Builder_copyCheck_h3]
  have h2 := strBytes_len s
  have : acc.length + (strBytes s).length ≤ 4294967296 := by omega
  simp only [this, decide_true, cond_true]
theorem wbyte_is (n : Int) (acc : List Int) (ha : acc.length ≤ 1000000) : strings_Builder_WriteByte_h0 n acc = some (acc ++ [n], ()) := by
  rw [strings_Builder_WriteByte_h0_eq, b_strings_Builder_WriteByte_h0]
  simp only [obind_some, strings_Builder_copyCheck_h3_eq, b_strings_Builder_copyCheck_h3]
  have : acc.length + [n].length ≤ 4294967296 := by simp; omega
  simp only [this, decide_true, cond_true]
/-! ### an Ack's ranges -/
def descR : Int → List D_ranges_Range → Prop
  | _, [] => True
  | lo, r :: l => 0 ≤ r.1 ∧ r.1 ≤ r.2.1 ∧ r.2.1 + 2 ≤ lo ∧ descR r.1 l
theorem descR.mono {a b : Int} (h : a ≤ b) : ∀ {l : List D_ranges_Range}, descR a l → descR b l
  | [], _ => trivial
  | r :: l, k => ⟨k.1, k.2.1, by have := k.2.2.1; omega, k.2.2.2⟩
def endR : Int → List D_ranges_Range → Int
  | e, [] => e
  | _, r :: l => endR (r.2.1 + 2) l
theorem desc_rev : ∀ (l acc : List D_ranges_Range) (e : Int), mayR e l = true → 0 ≤ e → (∀ r ∈ l, 0 ≤ r.1) → descR e acc → descR (endR e l) (l.reverse ++ acc)
  | [], acc, e, _, _, _, h => h
  | r :: l, acc, e, hm, he, h0, h => by
    simp only [mayR, Bool.and_eq_true, decide_eq_true_eq] at hm
    obtain ⟨⟨⟨m1, m2⟩, m3⟩, m4⟩ := hm
    have hr := h0 r (by simp)
    have := desc_rev l (r :: acc) (r.2.1 + 2) m4 (by omega) (fun x hx => h0 x (by simp [hx])) ⟨hr, m1, by omega, h.mono m3⟩
    simpa [endR] using this
theorem endR_last : ∀ (l : List D_ranges_Range) (e : Int), l ≠ [] → endR e l = lastHi l + 2
  | [], _, h => absurd rfl h
  | [r], _, _ => by simp [endR, lastHi]
  | r :: s :: l, e, _ => by
    have := endR_last (s :: l) (r.2.1 + 2) (by simp)
    simp only [endR] at this ⊢
    rw [this]
    simp [lastHi]
def ackGaps : Int → List D_ranges_Range → List Int
  | _, [] => []
  | lo, r :: l => vb (lo - r.2.1 - 2) ++ vb (r.2.1 - r.1) ++ ackGaps r.1 l
theorem ackGaps_len : ∀ (l : List D_ranges_Range) (lo : Int), (ackGaps lo l).length ≤ 16 * l.length
  | [], _ => by simp [ackGaps]
  | r :: l, lo => by
    have := ackGaps_len l r.1
    have := vb_len (lo - r.2.1 - 2)
    have := vb_len (r.2.1 - r.1)
    simp only [ackGaps, List.length_append, List.length_cons]
    omega
def ackL (delay : Int) : List D_ranges_Range → List Int
  | [] => []
  | r :: l => vb r.2.1 ++ vb delay ++ vb ((l.length : Nat) : Int) ++ vb (r.2.1 - r.1) ++ ackGaps r.1 l
theorem getD_mid1 {α : Type} (pre : List α) (x y : α) (suf : List α) (d : α) : (pre ++ x :: y :: suf).getD (1 + pre.length) d = y := by
  rw [show pre ++ x :: y :: suf = (pre ++ [x]) ++ y :: suf by simp, show 1 + pre.length = (pre ++ [x]).length by simp; omega, getD_mid]
theorem gaps_loop : ∀ (suf pre : List D_ranges_Range) (a : D_ranges_Range) (acc : List Int) (m k : Nat), suf.length < m → (pre ++ a :: suf).length ≤ 1000 → acc.length + 16 * suf.length ≤ 100000 → descR a.1 suf → a.1 < 4611686018427387904 → k = pre.length + suf.length →
    frame_writer_parts_h0_1 m 1 k ((k : Nat) : Int) ((pre.length : Nat) : Int) (pre ++ a :: suf) acc = some (acc ++ ackGaps a.1 suf, ()) := by
  intro suf
  induction suf with
  | nil =>
    intro pre a acc m k hm _ _ _ _ hk
    obtain ⟨m, rfl⟩ : ∃ k, m = k + 1 := ⟨m - 1, by omega⟩
    have : ¬ ((pre.length : Nat) : Int) < ((k : Nat) : Int) := by subst hk; simp
    simp only [frame_writer_parts_h0_1, t_frame_writer_parts_h0_1, this, decide_false, cond_false, ackGaps, List.append_nil]
  | cons r suf ih =>
    intro pre a acc m k hm hl ha hd hlt hk
    obtain ⟨m, rfl⟩ : ∃ k, m = k + 1 := ⟨m - 1, by omega⟩
    obtain ⟨d1, d2, d3, d4⟩ := hd
    have c1 : ((pre.length : Nat) : Int) < ((k : Nat) : Int) := by subst hk; simp; omega
    simp only [frame_writer_parts_h0_1, t_frame_writer_parts_h0_1, c1, nn, and_true, mid_lt, decide_true, cond_true, toNat_len, getD_mid, getD_mid1]
    rw [wrap_u64 (a.1 - r.2.1) (by omega) (by omega), wrap_u64 (a.1 - r.2.1 - 2) (by omega) (by omega), wrap_u64 (r.2.1 - r.1) (by omega) (by omega)]
    rw [num1_is _ _ (by simp) (by omega) (by intro n hn; simp at hn; unfold In62; omega)]
    simp only [obind_some]
    have hv := vbs_len [a.1 - r.2.1 - 2, r.2.1 - r.1]
    simp only [List.length_cons, List.length_nil] at hv
    rw [mid_next pre a a (r :: suf) (by omega), snoc_app pre a (r :: suf), ih (pre ++ [a]) r _ m k (by simp at hm; omega) (by simpa using hl) (by simp at ha ⊢; omega) d4 (by omega) (by subst hk; simp; omega)]
    simp [ackGaps, vbs]
theorem set_mid2 {α : Type} (pre m : List α) (x y z : α) (suf : List α) : (pre ++ x :: (m ++ y :: suf)).set (pre.length + 1 + m.length) z = pre ++ x :: (m ++ z :: suf) := by
  rw [show pre ++ x :: (m ++ y :: suf) = (pre ++ x :: m) ++ y :: suf by simp, show pre.length + 1 + m.length = (pre ++ x :: m).length by simp; omega, set_mid]; simp
theorem getD_mid2 {α : Type} (pre m : List α) (x y : α) (suf : List α) (d : α) : (pre ++ x :: (m ++ y :: suf)).getD (pre.length + 1 + m.length) d = y := by
  rw [show pre ++ x :: (m ++ y :: suf) = (pre ++ x :: m) ++ y :: suf by simp, show pre.length + 1 + m.length = (pre ++ x :: m).length by simp; omega, getD_mid]
theorem rev_loop (acc : List Int) (f : D_frame_Frame) : ∀ (n : Nat) (mid pre suf : List D_ranges_Range) (m : Nat), mid.length ≤ n → n < m → (pre ++ (mid ++ suf)).length ≤ 1000 →
    frame_writer_parts_h0_0 m ((pre.length : Nat) : Int) (((pre.length : Nat) : Int) + ((mid.length : Nat) : Int) - 1) acc (pre ++ (mid ++ suf)) f = frame_writer_parts_h0_0 1 0 0 acc (pre ++ (mid.reverse ++ suf)) f := by
  intro n
  induction n using Nat.strongRecOn with
  | _ n ih =>
    intro mid pre suf m hn hm hl
    obtain ⟨m, rfl⟩ : ∃ k, m = k + 1 := ⟨m - 1, by omega⟩
    have done : mid.length ≤ 1 → mid.reverse = mid := by
      intro h
      match mid, h with
      | [], _ => rfl
      | [x], _ => rfl
    by_cases h1 : mid.length ≤ 1
    · have c : ¬ ((pre.length : Nat) : Int) < ((pre.length : Nat) : Int) + ((mid.length : Nat) : Int) - 1 := by omega
      rw [done h1]
      simp only [frame_writer_parts_h0_0, t_frame_writer_parts_h0_0, c, decide_false, cond_false, Int.lt_irrefl]
    · obtain ⟨x, r, rfl⟩ : ∃ x r, mid = x :: r := by
        cases mid with
        | nil => simp at h1
        | cons x r => exact ⟨x, r, rfl⟩
      obtain ⟨md, y, rfl⟩ : ∃ md y, r = md ++ [y] := by
        rcases List.eq_nil_or_concat r with e | ⟨md, y, e⟩
        · subst e; simp at h1
        · exact ⟨md, y, by simpa using e⟩
      have ej : ((pre.length : Nat) : Int) + (((x :: (md ++ [y])).length : Nat) : Int) - 1 = ((pre.length + 1 + md.length : Nat) : Int) := by simp; omega
      have eL : pre ++ ((x :: (md ++ [y])) ++ suf) = pre ++ x :: (md ++ y :: suf) := by simp
      rw [ej, eL]
      have c : ((pre.length : Nat) : Int) < ((pre.length + 1 + md.length : Nat) : Int) := by omega
      have c1 : ((pre.length + 1 + md.length : Nat) : Int) < (((pre ++ x :: (md ++ y :: suf)).length : Nat) : Int) := by simp; omega
      have c2 : ((pre.length + 1 + md.length : Nat) : Int) < (((pre ++ y :: (md ++ y :: suf)).length : Nat) : Int) := by simp; omega
      have ey : ((y.1, (y.2.1, ())) : D_ranges_Range) = y := rfl
      have ex : ((x.1, (x.2.1, ())) : D_ranges_Range) = x := rfl
      rw [frame_writer_parts_h0_0]
      simp only [t_frame_writer_parts_h0_0, c, c1, c2, mid_lt, nn, and_self, decide_true, cond_true, Int.toNat_natCast, getD_mid, getD_mid2, set_mid, set_mid2, ey, ex]
      have w1 : IntKind.wrap .i64 (((pre.length : Nat) : Int) + 1) = (((pre ++ [y]).length : Nat) : Int) := by rw [wrap_i64 _ (by simp at hl; omega) (by simp at hl; omega)]; simp
      have w2 : IntKind.wrap .i64 (((pre.length + 1 + md.length : Nat) : Int) - 1) = (((pre ++ [y]).length : Nat) : Int) + ((md.length : Nat) : Int) - 1 := by rw [wrap_i64 _ (by simp at hl; omega) (by simp at hl; omega)]; simp
      rw [w1, w2, show pre ++ y :: (md ++ x :: suf) = (pre ++ [y]) ++ (md ++ (x :: suf)) by simp]
      simp at hn
      rw [ih (n - 2) (by omega) md (pre ++ [y]) (x :: suf) m (by omega) (by omega) (by simp at hl ⊢; omega)]
      simp
/-! ### the parts of a frame -/
def partsL (f : D_frame_Frame) : List Int :=
  let k := f.1
  bif k == 2 then ackL f.2.2.2.2.2.2.2.1 f.2.2.2.2.2.2.2.2.2.2.2.2.1.reverse
  else bif k == 4 then vbs [f.2.1, f.2.2.2.2.1, f.2.2.2.1]
  else bif k == 5 then vbs [f.2.1, f.2.2.2.2.1]
  else bif k == 6 then vbs [f.2.2.1] ++ textL f.2.2.2.2.2.2.2.2.2.1
  else bif k == 16 || k == 18 || k == 19 || k == 20 || k == 22 || k == 23 then vbs [f.2.2.2.1]
  else bif k == 17 || k == 21 then vbs [f.2.1, f.2.2.2.1]
  else bif k == 24 then vbs [f.2.2.2.2.2.1, f.2.2.2.2.2.2.1] ++ [8] ++ (strBytes f.2.2.2.2.2.2.2.2.2.2.1 ++ strBytes f.2.2.2.2.2.2.2.2.2.2.2.1)
  else bif k == 25 then vbs [f.2.2.2.2.2.1]
  else bif k == 26 || k == 27 then strBytes f.2.2.2.2.2.2.2.2.2.2.2.1
  else bif k == 28 then vbs [f.2.2.2.2.1, f.2.2.2.2.2.2.2.1] ++ textL f.2.2.2.2.2.2.2.2.2.1
  else bif k == 29 then vbs [f.2.2.2.2.1] ++ textL f.2.2.2.2.2.2.2.2.2.1
  else []
def streamK (f : D_frame_Frame) : Int := 10 + (bif f.2.2.1 == 0 then 0 else 4) + (bif f.2.2.2.2.2.2.2.2.1 then 1 else 0)
def putL (f : D_frame_Frame) : List Int :=
  bif f.1 == 8 then vbs [streamK f, f.2.1] ++ (bif f.2.2.1 == 0 then [] else vbs [f.2.2.1]) ++ textL f.2.2.2.2.2.2.2.2.2.1
  else vbs [f.1] ++ partsL f
theorem nums62 {f : D_frame_Frame} (h : FrOk f) (hn : numsOk f = true) : In62 f.2.1 ∧ In62 f.2.2.1 ∧ In62 f.2.2.2.1 ∧ In62 f.2.2.2.2.1 ∧ In62 f.2.2.2.2.2.1 ∧ In62 f.2.2.2.2.2.2.1 ∧ In62 f.2.2.2.2.2.2.2.1 := by
  simp only [numsOk, decide_eq_true_eq] at hn
  obtain ⟨n1, n2, n3, n4, n5, n6, n7⟩ := hn
  have a1 := h.id; have a2 := h.off; have a3 := h.max; have a4 := h.code; have a5 := h.seq; have a6 := h.prior; have a7 := h.delay
  unfold In62
  refine ⟨?_, ?_, ?_, ?_, ?_, ?_, ?_⟩ <;> omega
theorem mayFr_parts {f : D_frame_Frame} (h : mayFr f = true) : kindB f.1 = true ∧ f = onlyF f ∧ numsOk f = true ∧ f.2.2.2.2.2.2.2.2.2.1.size ≤ 1200 ∧ extraF f = true := by
  simp only [mayFr, Bool.and_eq_true, decide_eq_true_eq] at h
  exact ⟨h.1.1.1.1, h.1.1.1.2, h.1.1.2, h.1.2, h.2⟩
theorem parts_is (f : D_frame_Frame) (acc : List Int) (h : FrOk f) (hm : mayFr f = true) (h8 : f.1 ≠ 8) (ha : acc.length ≤ 8) : frame_writer_parts_h0 f acc = some (acc ++ partsL f, ()) := by
  obtain ⟨hk, ho, hn, hd, he⟩ := mayFr_parts hm
  obtain ⟨n1, n2, n3, n4, n5, n6, n7⟩ := nums62 h hn
  have hset := h.set
  obtain ⟨k, id, off, mx, code, seq, prior, delay, fin, data, cid, tok, set, ⟨⟩⟩ := f
  simp only at *
  have L1 : ∀ a, In62 a → frame_writer_numbers_h1 [a] acc = some ([a], acc ++ vbs [a], ()) := fun a h => num1_is _ _ (by simp) (by omega) (by intro n hn; simp at hn; subst hn; exact h)
  have L2 : ∀ a b, In62 a → In62 b → frame_writer_numbers_h1 [a, b] acc = some ([a, b], acc ++ vbs [a, b], ()) := fun a b h k => num1_is _ _ (by simp) (by omega) (by intro n hn; simp at hn; rcases hn with rfl | rfl <;> assumption)
  have L3 : ∀ a b c, In62 a → In62 b → In62 c → frame_writer_numbers_h1 [a, b, c] acc = some ([a, b, c], acc ++ vbs [a, b, c], ()) := fun a b c h k l => num1_is _ _ (by simp) (by omega) (by intro n hn; simp at hn; rcases hn with rfl | rfl | rfl <;> assumption)
  have V1 : ∀ a, (acc ++ vbs [a]).length ≤ 100 := fun a => by have := vbs_len [a]; simp at this ⊢; omega
  have V2 : ∀ a b, (acc ++ vbs [a, b]).length ≤ 100 := fun a b => by have := vbs_len [a, b]; simp at this ⊢; omega
  have T1 : ∀ a, frame_writer_long_h0 data (acc ++ vbs [a]) = some ((acc ++ vbs [a]) ++ textL data, ()) := fun a => long_is _ _ (by omega) (by have := V1 a; omega)
  have T2 : ∀ a b, frame_writer_long_h0 data (acc ++ vbs [a, b]) = some ((acc ++ vbs [a, b]) ++ textL data, ()) := fun a b => long_is _ _ (by omega) (by have := V2 a b; omega)
  rw [frame_writer_parts_h0_eq, b_frame_writer_parts_h0]
  simp only [frame_writer_parts_h0_2_eq, b_frame_writer_parts_h0_2, frame_writer_parts_h0_3_eq, b_frame_writer_parts_h0_3, frame_writer_parts_h0_4_eq, b_frame_writer_parts_h0_4]
  rcases kinds hk with rfl | rfl | rfl | rfl | rfl | rfl | rfl | rfl | rfl | rfl | rfl | rfl | rfl | rfl | rfl | rfl | rfl | rfl | rfl | rfl | rfl | rfl
  case inr.inr.inl =>
    simp only [extraF, beq_self_eq_true, cond_true, Bool.and_eq_true, decide_eq_true_eq] at he
    obtain ⟨⟨⟨e1, e2⟩, e3⟩, e4⟩ := he
    have hne : set ≠ [] := by rintro rfl; simp at e2
    have hdesc := desc_rev set [] 0 e1 (by omega) (fun r hr => (hset r hr).1.1) trivial
    rw [endR_last set 0 hne, List.append_nil] at hdesc
    have hrl : set.reverse.length = set.length := by simp
    have clone : slices_Clone_ranges_Range set = some set := by unfold slices_Clone_ranges_Range; rw [decide_eq_true (by omega)]; rfl
    simp only [beq_self_eq_true, cond_true, clone, obind_some, partsL]
    rw [frame_writer_parts_h0_0'_eq, b_frame_writer_parts_h0_0', wrap_i64 _ (by omega) (by omega)]
    have hrev := rev_loop acc (2, id, off, mx, code, seq, prior, delay, fin, data, cid, tok, set, ()) set.length set [] [] (Int.toNat (((set.length : Nat) : Int) - 1 - 0) + 2) (by omega) (by omega) (by simp; omega)
    simp only [List.nil_append, List.append_nil, List.length_nil] at hrev
    rw [show ((0 : Nat) : Int) + ((set.length : Nat) : Int) - 1 = ((set.length : Nat) : Int) - 1 by omega, show ((0 : Nat) : Int) = 0 from rfl] at hrev
    rw [hrev]
    generalize set.reverse = L at *
    cases L with
    | nil => simp at hrl; omega
    | cons r l =>
      obtain ⟨d1, d2, d3, d4⟩ := hdesc
      simp only [List.length_cons] at hrl
      have c0 : (0 : Int) < (((r :: l).length : Nat) : Int) := by simp
      have c1 : (1 : Int) ≤ (((r :: l).length : Nat) : Int) := by simp; omega
      have w1 : IntKind.wrap .i64 ((((r :: l).length : Nat) : Int) - 1) = ((l.length : Nat) : Int) := by rw [wrap_i64 _ (by simp only [List.length_cons]; omega) (by simp only [List.length_cons]; omega)]; simp
      have w2 : IntKind.wrap .u64 ((l.length : Nat) : Int) = ((l.length : Nat) : Int) := wrap_u64 _ (by omega) (by omega)
      have w3 : IntKind.wrap .u64 (r.2.1 - r.1) = r.2.1 - r.1 := wrap_u64 _ (by omega) (by omega)
      have c2 : (0 : Int) ≤ 1 := by omega
      rw [frame_writer_parts_h0_0]
      simp only [t_frame_writer_parts_h0_0, Int.lt_irrefl, decide_false, cond_false, c0, c1, c2, Int.le_refl, and_self, decide_true, cond_true, List.getD_cons_zero, w1, w2, w3]
      rw [num1_is _ _ (by simp) (by omega) (by intro n hn; simp at hn; unfold In62 at *; omega)]
      simp only [obind_some]
      rw [frame_writer_parts_h0_1'_eq, b_frame_writer_parts_h0_1']
      have hv := vbs_len [r.2.1, delay, ((l.length : Nat) : Int), r.2.1 - r.1]
      simp only [List.length_cons, List.length_nil] at hv
      have hk1 : Int.toNat (((r :: l).length : Nat) : Int) - 1 = l.length := by simp
      rw [hk1]
      have := gaps_loop l [] r (acc ++ vbs [r.2.1, delay, ((l.length : Nat) : Int), r.2.1 - r.1]) (Int.toNat (((l.length : Nat) : Int) - 0) + 2) l.length (by omega) (by simp; omega) (by simp at hv ⊢; omega) d4 (by omega) (by simp)
      simp only [List.nil_append, List.length_nil] at this
      rw [show ((0 : Nat) : Int) = 0 from rfl] at this
      rw [this]
      simp [ackL, vbs]
  case inr.inr.inr.inr.inr.inr.inl => exact absurd rfl h8
  case inr.inr.inr.inr.inr.inr.inr.inr.inr.inr.inr.inr.inr.inr.inr.inl =>
    simp only [extraF] at he
    have hc : cid.size = 8 ∧ tok.size = 16 := by
      simp [show ((24 : Int) == 2) = false from rfl] at he
      omega
    have w1 : IntKind.wrap .u8 ((cid.size : Nat) : Int) = 8 := by rw [hc.1, wrap_u8]; rfl
    have c1 : cid.size + tok.size ≤ 9223372036854775807 := by omega
    have e1 : frame_writer_numbers_h1 [seq, prior] acc = some ([seq, prior], acc ++ vbs [seq, prior], ()) := L2 _ _ n5 n6
    have hV := V2 seq prior
    have e2 : strings_Builder_WriteByte_h0 8 (acc ++ vbs [seq, prior]) = some ((acc ++ vbs [seq, prior]) ++ [8], ()) := wbyte_is _ _ (by omega)
    have hs : (cid ++ tok).size ≤ 100000 := by rw [ByteArray.size_append]; omega
    have e3 : strings_Builder_WriteString_h0 (cid ++ tok) ((acc ++ vbs [seq, prior]) ++ [8]) = some ((((cid ++ tok).size : Nat) : Int), ((acc ++ vbs [seq, prior]) ++ [8]) ++ strBytes (cid ++ tok), ()) := wstr_is _ _ hs (by simp at hV ⊢; omega)
    simp only [List.append_assoc] at e2 e3
    simp [e1, e2, e3, w1, c1, partsL, strBytes_app]
  case inr.inr.inr.inr.inr.inr.inr.inr.inr.inr.inr.inr.inr.inr.inr.inr.inr.inl =>
    simp only [extraF] at he
    have hc : tok.size = 8 := by
      simp at he
      omega
    have e3 : strings_Builder_WriteString_h0 tok acc = some (((tok.size : Nat) : Int), acc ++ strBytes tok, ()) := wstr_is _ _ (by omega) (by omega)
    simp [e3, partsL]
  case inr.inr.inr.inr.inr.inr.inr.inr.inr.inr.inr.inr.inr.inr.inr.inr.inr.inr.inl =>
    simp only [extraF] at he
    have hc : tok.size = 8 := by
      simp at he
      omega
    have e3 : strings_Builder_WriteString_h0 tok acc = some (((tok.size : Nat) : Int), acc ++ strBytes tok, ()) := wstr_is _ _ (by omega) (by omega)
    simp [e3, partsL]
  all_goals simp [partsL, L1, L2, L3, T1, T2, n1, n2, n3, n4, n5, n6, n7]
theorem stream_is (f : D_frame_Frame) (h : FrOk f) (hm : mayFr f = true) (h8 : f.1 = 8) : frame_writer_stream_h0 f = some (putL f, ()) := by
  obtain ⟨hk, ho, hn, hd, he⟩ := mayFr_parts hm
  obtain ⟨n1, n2, n3, n4, n5, n6, n7⟩ := nums62 h hn
  have b14 : bits .or .u64 10 4 = 14 := by rw [bits_or_u64 _ _ (by omega) (by omega)]; decide
  have b15 : bits .or .u64 14 1 = 15 := by rw [bits_or_u64 _ _ (by omega) (by omega)]; decide
  have b11 : bits .or .u64 10 1 = 11 := by rw [bits_or_u64 _ _ (by omega) (by omega)]; decide
  obtain ⟨k, id, off, mx, code, seq, prior, delay, fin, data, cid, tok, set, ⟨⟩⟩ := f
  simp only at *
  subst h8
  have L2 : ∀ a b, In62 a → In62 b → frame_writer_numbers_h0 [a, b] = some ([a, b], vbs [a, b], ()) := fun a b h k => num0_is _ (by simp) (by intro n hn; simp at hn; rcases hn with rfl | rfl <;> assumption)
  have V2 : ∀ a b, (vbs [a, b]).length ≤ 100 := fun a b => by have := vbs_len [a, b]; simp at this ⊢; omega
  have V3 : ∀ a b c, (vbs [a, b] ++ vbs [c]).length ≤ 100 := fun a b c => by have := vbs_len [a, b]; have := vbs_len [c]; simp at *; omega
  have L1 : ∀ a b c, In62 c → frame_writer_numbers_h1 [c] (vbs [a, b]) = some ([c], vbs [a, b] ++ vbs [c], ()) := fun a b c h => num1_is _ _ (by simp) (by have := V2 a b; omega) (by intro n hn; simp at hn; subst hn; exact h)
  have T2 : ∀ a b, frame_writer_long_h0 data (vbs [a, b]) = some (vbs [a, b] ++ textL data, ()) := fun a b => long_is _ _ (by omega) (by have := V2 a b; omega)
  have T3 : ∀ a b c, frame_writer_long_h0 data (vbs [a, b] ++ vbs [c]) = some ((vbs [a, b] ++ vbs [c]) ++ textL data, ()) := fun a b c => long_is _ _ (by omega) (by have := V3 a b c; omega)
  have i1 : In62 10 := by unfold In62; omega
  have i2 : In62 11 := by unfold In62; omega
  have i3 : In62 14 := by unfold In62; omega
  have i4 : In62 15 := by unfold In62; omega
  rw [frame_writer_stream_h0_eq, b_frame_writer_stream_h0]
  simp only [frame_writer_stream_h0_0_eq, b_frame_writer_stream_h0_0, frame_writer_stream_h0_1_eq, b_frame_writer_stream_h0_1, frame_writer_stream_h0_2_eq, b_frame_writer_stream_h0_2, putL, streamK]
  by_cases h0 : off = 0
  · subst h0
    cases fin <;> simp [b11, L2, T2, n1, i1, i2]
  · have : (off == 0) = false := beq_false_of_ne h0
    cases fin <;> simp [bne, this, b14, b15, L2, L1, T3, n1, n2, i3, i4]
theorem size62 {s : ByteArray} (h : s.size ≤ 100000) : In62 ((s.size : Nat) : Int) := by unfold In62; omega
theorem textL_range {s : ByteArray} (h : s.size ≤ 100000) : ∀ x ∈ textL s, 0 ≤ x ∧ x ≤ 255 := by
  intro x hx
  rcases List.mem_append.mp hx with hx | hx
  · exact vb_range _ (size62 h).1 (size62 h).2 x hx
  · exact strBytes_range s x hx
theorem vbs1_range {a : Int} (h : In62 a) : ∀ x ∈ vbs [a], 0 ≤ x ∧ x ≤ 255 := vbs_range _ (by intro n hn; simp at hn; subst hn; exact h)
theorem ackGaps_range : ∀ (l : List D_ranges_Range) (lo : Int), descR lo l → lo < 4611686018427387904 → ∀ x ∈ ackGaps lo l, 0 ≤ x ∧ x ≤ 255
  | [], _, _, _ => by simp [ackGaps]
  | r :: l, lo, ⟨d1, d2, d3, d4⟩, hlo => by
    intro x hx
    simp only [ackGaps, List.mem_append] at hx
    rcases hx with (hx | hx) | hx
    · exact vb_range _ (by omega) (by omega) x hx
    · exact vb_range _ (by omega) (by omega) x hx
    · exact ackGaps_range l r.1 d4 (by omega) x hx
theorem app_range {a b : List Int} (h : ∀ x ∈ a, 0 ≤ x ∧ x ≤ 255) (k : ∀ x ∈ b, 0 ≤ x ∧ x ≤ 255) : ∀ x ∈ a ++ b, 0 ≤ x ∧ x ≤ 255 := by
  intro x hx
  rcases List.mem_append.mp hx with hx | hx
  · exact h x hx
  · exact k x hx
theorem ack_desc {set : List D_ranges_Range} (hs : ∀ r ∈ set, 0 ≤ r.1) (e1 : mayR 0 set = true) (e2 : 0 < set.length) (e4 : lastHi set ≤ 4611686018427387903) :
    ∃ r l, set.reverse = r :: l ∧ l.length + 1 = set.length ∧ 0 ≤ r.1 ∧ r.1 ≤ r.2.1 ∧ r.2.1 ≤ 4611686018427387903 ∧ descR r.1 l := by
  have hne : set ≠ [] := by rintro rfl; simp at e2
  have hdesc := desc_rev set [] 0 e1 (by omega) hs trivial
  rw [endR_last set 0 hne, List.append_nil] at hdesc
  have hrl : set.reverse.length = set.length := by simp
  generalize set.reverse = L at *
  cases L with
  | nil => simp at hrl; omega
  | cons r l =>
    obtain ⟨d1, d2, d3, d4⟩ := hdesc
    exact ⟨r, l, rfl, by simpa using hrl, d1, d2, by omega, d4⟩
theorem put_ok (f : D_frame_Frame) (h : FrOk f) (hm : mayFr f = true) : (∀ x ∈ putL f, 0 ≤ x ∧ x ≤ 255) ∧ (putL f).length ≤ 5000 ∧ 1 ≤ (putL f).length := by
  obtain ⟨hk, ho, hn, hd, he⟩ := mayFr_parts hm
  obtain ⟨n1, n2, n3, n4, n5, n6, n7⟩ := nums62 h hn
  have hset := h.set
  obtain ⟨k, id, off, mx, code, seq, prior, delay, fin, data, cid, tok, set, u⟩ := f
  simp only at *
  have R1 : ∀ a, In62 a → ∀ x ∈ vbs [a], 0 ≤ x ∧ x ≤ 255 := fun a h => vbs1_range h
  have R2 : ∀ a b, In62 a → In62 b → ∀ x ∈ vbs [a, b], 0 ≤ x ∧ x ≤ 255 := fun a b h k => vbs_range _ (by intro n hn; simp at hn; rcases hn with rfl | rfl <;> assumption)
  have R3 : ∀ a b c, In62 a → In62 b → In62 c → ∀ x ∈ vbs [a, b, c], 0 ≤ x ∧ x ≤ 255 := fun a b c h k l => vbs_range _ (by intro n hn; simp at hn; rcases hn with rfl | rfl | rfl <;> assumption)
  have RT : ∀ x ∈ textL data, 0 ≤ x ∧ x ≤ 255 := textL_range (by omega)
  have V1 : ∀ a, 1 ≤ (vbs [a]).length ∧ (vbs [a]).length ≤ 8 := fun a => by simp only [vbs, List.flatMap_cons, List.flatMap_nil, List.append_nil]; exact vb_len a
  have V2 : ∀ a b, 1 ≤ (vbs [a, b]).length ∧ (vbs [a, b]).length ≤ 16 := fun a b => by have := vb_len a; have := vb_len b; simp only [vbs, List.flatMap_cons, List.flatMap_nil, List.append_nil, List.length_append]; omega
  have V3 : ∀ a b c, (vbs [a, b, c]).length ≤ 24 := fun a b c => by have := vbs_len [a, b, c]; simpa using this
  have LT : (textL data).length ≤ 1208 := by have := vb_len ((data.size : Nat) : Int); have := strBytes_len data; simp only [textL, List.length_append]; omega
  have K : In62 k := by rcases kinds hk with rfl | rfl | rfl | rfl | rfl | rfl | rfl | rfl | rfl | rfl | rfl | rfl | rfl | rfl | rfl | rfl | rfl | rfl | rfl | rfl | rfl | rfl <;> (unfold In62; omega)
  by_cases h8 : k = 8
  · subst h8
    have hs : In62 (streamK (8, id, off, mx, code, seq, prior, delay, fin, data, cid, tok, set, u)) := by
      unfold streamK In62
      cases fin <;> cases (off == 0) <;> simp
    simp only [putL, beq_self_eq_true, cond_true]
    have v1 := V1 off
    have v2 := V2 (streamK (8, id, off, mx, code, seq, prior, delay, fin, data, cid, tok, set, u)) id
    refine ⟨app_range (app_range (R2 _ _ hs n1) ?_) RT, ?_, ?_⟩
    · cases (off == 0)
      · exact R1 _ n2
      · simp
    · cases (off == 0) <;> simp only [cond_true, cond_false, List.length_append, List.length_nil] <;> omega
    · cases (off == 0) <;> simp only [cond_true, cond_false, List.length_append, List.length_nil] <;> omega
  · have hb : (k == 8) = false := beq_false_of_ne h8
    simp only [putL, hb, cond_false]
    have v1 := V1 k
    suffices hp : (∀ x ∈ partsL (k, id, off, mx, code, seq, prior, delay, fin, data, cid, tok, set, u), 0 ≤ x ∧ x ≤ 255) ∧ (partsL (k, id, off, mx, code, seq, prior, delay, fin, data, cid, tok, set, u)).length ≤ 4000 by
      refine ⟨app_range (R1 _ K) hp.1, ?_, ?_⟩ <;> rw [List.length_append] <;> omega
    by_cases h2 : k = 2
    · subst h2
      simp only [extraF, beq_self_eq_true, cond_true, Bool.and_eq_true, decide_eq_true_eq] at he
      obtain ⟨⟨⟨e1, e2⟩, e3⟩, e4⟩ := he
      obtain ⟨r, l, er, el, d1, d2, d3, d4⟩ := ack_desc (fun r hr => (hset r hr).1.1) e1 e2 e4
      simp only [partsL, beq_self_eq_true, cond_true, er, ackL]
      have g1 := vb_len r.2.1
      have g2 := vb_len delay
      have g3 := vb_len ((l.length : Nat) : Int)
      have g4 := vb_len (r.2.1 - r.1)
      have g5 := ackGaps_len l r.1
      constructor
      · refine app_range (app_range (app_range (app_range (vb_range _ (by omega) (by omega)) (vb_range _ n7.1 n7.2)) (vb_range _ (by omega) (by omega))) (vb_range _ (by omega) (by omega))) (ackGaps_range l r.1 d4 (by omega))
      · simp only [List.length_append]; omega
    · by_cases h24 : k = 24
      · subst h24
        have hc : cid.size = 8 ∧ tok.size = 16 := by
          simp [extraF] at he
          omega
        have e : partsL (24, id, off, mx, code, seq, prior, delay, fin, data, cid, tok, set, u) = vbs [seq, prior] ++ [8] ++ (strBytes cid ++ strBytes tok) := rfl
        rw [e]
        have l1 := strBytes_len cid
        have l2 := strBytes_len tok
        have v2 := V2 seq prior
        refine ⟨app_range (app_range (R2 _ _ n5 n6) (by simp)) (app_range (strBytes_range cid) (strBytes_range tok)), ?_⟩
        simp only [List.length_append, List.length_cons, List.length_nil]; omega
      · have htok : ∀ (h : k = 26 ∨ k = 27), tok.size = 8 := by
          rintro (rfl | rfl) <;> simp [extraF] at he <;> omega
        have l2 := strBytes_len tok
        have W1 : ∀ a, (vbs [a]).length ≤ 4000 := fun a => by have := V1 a; omega
        have W2 : ∀ a b, (vbs [a, b]).length ≤ 4000 := fun a b => by have := V2 a b; omega
        have W3 : ∀ a b c, (vbs [a, b, c]).length ≤ 4000 := fun a b c => by have := V3 a b c; omega
        have T1 : ∀ a, In62 a → (∀ x ∈ vbs [a] ++ textL data, 0 ≤ x ∧ x ≤ 255) ∧ (vbs [a] ++ textL data).length ≤ 4000 := fun a h => ⟨app_range (R1 _ h) RT, by have := V1 a; rw [List.length_append]; omega⟩
        have T2 : ∀ a b, In62 a → In62 b → (∀ x ∈ vbs [a, b] ++ textL data, 0 ≤ x ∧ x ≤ 255) ∧ (vbs [a, b] ++ textL data).length ≤ 4000 := fun a b h k => ⟨app_range (R2 _ _ h k) RT, by have := V2 a b; rw [List.length_append]; omega⟩
        rcases kinds hk with rfl | rfl | rfl | rfl | rfl | rfl | rfl | rfl | rfl | rfl | rfl | rfl | rfl | rfl | rfl | rfl | rfl | rfl | rfl | rfl | rfl | rfl
        · exact ⟨by simp [partsL], by simp [partsL]⟩
        · exact ⟨by simp [partsL], by simp [partsL]⟩
        · exact absurd rfl h2
        · exact ⟨R3 _ _ _ n1 n4 n3, W3 _ _ _⟩
        · exact ⟨R2 _ _ n1 n4, W2 _ _⟩
        · exact T1 _ n2
        · exact absurd rfl h8
        · exact ⟨R1 _ n3, W1 _⟩
        · exact ⟨R2 _ _ n1 n3, W2 _ _⟩
        · exact ⟨R1 _ n3, W1 _⟩
        · exact ⟨R1 _ n3, W1 _⟩
        · exact ⟨R1 _ n3, W1 _⟩
        · exact ⟨R2 _ _ n1 n3, W2 _ _⟩
        · exact ⟨R1 _ n3, W1 _⟩
        · exact ⟨R1 _ n3, W1 _⟩
        · exact absurd rfl h24
        · exact ⟨R1 _ n5, W1 _⟩
        · have := htok (.inl rfl)
          exact ⟨strBytes_range tok, by show (strBytes tok).length ≤ 4000; omega⟩
        · have := htok (.inr rfl)
          exact ⟨strBytes_range tok, by show (strBytes tok).length ≤ 4000; omega⟩
        · exact T2 _ _ n4 n7
        · exact T1 _ n4
        · exact ⟨by simp [partsL], by simp [partsL]⟩
theorem put_is (f : D_frame_Frame) (h : FrOk f) : frame_Put f = some (if mayFr f = true then (bytesStr (putL f), 0, ()) else (⟨#[]⟩, 1, ())) := by
  rw [frame_Put_eq, b_frame_Put, may_is_fr f h]
  simp only [obind_some]
  by_cases hm : mayFr f = true
  · obtain ⟨o1, o2, o3⟩ := put_ok f h hm
    have c : (((putL f).length : Nat) : Int) ≤ 4294967296 := by omega
    simp only [hm, Bool.not_true, cond_false, if_true]
    by_cases h8 : f.1 = 8
    · simp only [beq_of h8, cond_true, stream_is f h hm h8, obind_some, c, and_self, decide_true]
    · have hb : (f.1 == 8) = false := beq_false_of_ne h8
      have e1 : frame_writer_numbers_h0 [f.1] = some ([f.1], vbs [f.1], ()) := num0_is _ (by simp) (by
        intro n hn; simp at hn; subst hn
        rcases kinds (mayFr_parts hm).1 with e | e | e | e | e | e | e | e | e | e | e | e | e | e | e | e | e | e | e | e | e | e <;> (rw [e]; unfold In62; omega))
      have l1 : (vbs [f.1]).length ≤ 8 := by have := vbs_len [f.1]; simpa using this
      have e2 : putL f = vbs [f.1] ++ partsL f := by simp only [putL, hb, cond_false]
      simp only [hb, cond_false, e1, obind_some, parts_is f _ h hm h8 l1]
      rw [← e2]
      simp only [c, and_self, decide_true, cond_true]
  · have : mayFr f = false := by simpa using hm
    simp only [this, Bool.not_false, cond_true, Bool.false_eq_true, if_false]
end Go.Proofs.YtjdjlijjolibkaaDoor.V
namespace Go.Proofs.YtjdjlijjolibkaaDoor.V
open Go.RowKit Go.Proofs.Tryd
set_option maxRecDepth 100000
set_option linter.unusedVariables false
noncomputable def m_ids_First : Mach prog Inv gInv := mach bas [(95, f95)] ⟨ok95, trivial⟩ [(135, c_ideal_Id)] ⟨⟨c_ideal_Id_ok, FnOk.callable ok135⟩, trivial⟩ [] trivial [] trivial
/-! ### domino/ids.First -/
@[reducible] def r_ids_First : List Ty := [.str]
def ks_ids_First : List Nat := [95]
noncomputable def b_ids_First (a0 : Int) (a1 : Int) : Option (ByteArray × Unit) :=
  let s2 : ByteArray := (ByteArray.mk (List.toArray ([] : List UInt8)))
  let n3 : Int := (Go.IntKind.wrap Go.IntKind.u64 a1)
  let n4 : Int := (Go.IntKind.wrap Go.IntKind.u64 (n3 * (4294967296 : Int)))
  obind (ideal_Id a0 n4) fun y5 =>
  some y5
theorem ex_ids_First : ∃ f, f = @b_ids_First := ⟨_, rfl⟩
noncomputable def ids_First := Classical.choose ex_ids_First
theorem ids_First_eq : @ids_First = @b_ids_First := Classical.choose_spec ex_ids_First
noncomputable def cb_ids_First : Con := ⟨[(.int .u64), (.int .i64)], r_ids_First, fun x => b_ids_First x.1 x.2.1⟩
noncomputable def c_ids_First : Con := ⟨[(.int .u64), (.int .i64)], r_ids_First, fun x => ids_First x.1 x.2.1⟩
theorem cb_ids_First_ok : cb_ids_First.Sound prog Inv gInv 95 :=
  con_run (M := m_ids_First) inv_g (f := f95) rfl ks_ids_First 100000 (X := nowhere) (fun base S0 cs0 hn hf => OSound.nowhere) (by intro x; kernel_rfl)
theorem c_ids_First_ok : c_ids_First.Sound prog Inv gInv 95 := by
  have e : c_ids_First = cb_ids_First := by unfold c_ids_First cb_ids_First; rw [ids_First_eq]
  rw [e]; exact cb_ids_First_ok
end Go.Proofs.YtjdjlijjolibkaaDoor.V
namespace Go.Proofs.YtjdjlijjolibkaaDoor.V
open Go.RowKit Go.Proofs.Tryd
set_option maxRecDepth 100000
set_option linter.unusedVariables false
noncomputable def m_ids_New : Mach prog Inv gInv := mach bas [(48, f48)] ⟨ok48, trivial⟩ [(95, c_ids_First)] ⟨⟨c_ids_First_ok, FnOk.callable ok95⟩, trivial⟩ [] trivial [] trivial
/-! ### domino/ids.New -/
@[reducible] def r_ids_New : List Ty := [T_ids_State]
def ks_ids_New : List Nat := [48]
noncomputable def b_ids_New (a0 : Int) (a1 : Int) : Option (D_ids_State × Unit) :=
  obind (ids_First a0 a1) fun y2 =>
  let s3 : ByteArray := (ByteArray.mk (List.toArray ([] : List UInt8)))
  let e4 : (Int × (ByteArray × (ByteArray × (Bool × (Bool × Unit))))) := ((0 : Int), (y2.1, (s3, (false, (false, ())))))
  let n5 : Int := (Go.IntKind.wrap Go.IntKind.i64 ((1 : Int) - a1))
  obind (ids_First a0 n5) fun y6 =>
  let s7 : ByteArray := (ByteArray.mk (List.toArray ([] : List UInt8)))
  let e8 : (Int × (ByteArray × (ByteArray × (Bool × (Bool × (Bool × Unit)))))) := ((0 : Int), (y6.1, (s7, (true, (false, (false, ()))))))
  some ((a0, (a1, ((2 : Int), ((e4 :: ([] : List D_ids_Own)), ((e8 :: ([] : List D_ids_Given)), ((0 : Int), ((0 : Int), ()))))))), ())
theorem ex_ids_New : ∃ f, f = @b_ids_New := ⟨_, rfl⟩
noncomputable def ids_New := Classical.choose ex_ids_New
theorem ids_New_eq : @ids_New = @b_ids_New := Classical.choose_spec ex_ids_New
noncomputable def cb_ids_New : Con := ⟨[(.int .u64), (.int .i64)], r_ids_New, fun x => b_ids_New x.1 x.2.1⟩
noncomputable def c_ids_New : Con := ⟨[(.int .u64), (.int .i64)], r_ids_New, fun x => ids_New x.1 x.2.1⟩
theorem cb_ids_New_ok : cb_ids_New.Sound prog Inv gInv 48 :=
  con_run (M := m_ids_New) inv_g (f := f48) rfl ks_ids_New 100000 (X := nowhere) (fun base S0 cs0 hn hf => OSound.nowhere) (by intro x; kernel_rfl)
theorem c_ids_New_ok : c_ids_New.Sound prog Inv gInv 48 := by
  have e : c_ids_New = cb_ids_New := by unfold c_ids_New cb_ids_New; rw [ids_New_eq]
  rw [e]; exact cb_ids_New_ok
end Go.Proofs.YtjdjlijjolibkaaDoor.V
namespace Go.Proofs.YtjdjlijjolibkaaDoor.V
open Go.RowKit Go.Proofs.Tryd
set_option maxRecDepth 100000
set_option linter.unusedVariables false
noncomputable def m_ids_Cid : Mach prog Inv gInv := mach bas [(49, f49), (96, f96), (101, f101), (136, f136), (141, f141)] ⟨ok49, ok96, ok101, ok136, ok141, trivial⟩ [] trivial [] trivial [] trivial
/-! ### domino/ids.Cid -/
@[reducible] def r_ids_Cid : List Ty := [.str]
def ks_ids_Cid : List Nat := [49, 96, 101, 136, 141]
abbrev H_ids_Cid (base : Base) (S0 : Nat → Prop) := base.n = 0 ∧ FinOk (finR r_ids_Cid) base S0 (Post r_ids_Cid S0)
abbrev J_ids_Cid (base : Base) (S0 : Nat → Prop) (cs0 : List Go.Frame) (p : CPat) (J : denC p → Option (denL r_ids_Cid)) := JSound m_ids_Cid base S0 cs0 (Post r_ids_Cid S0) p J
abbrev O_ids_Cid (base : Base) (S0 : Nat → Prop) (cs0 : List Go.Frame) (X : Cfg → Option (Option (denL r_ids_Cid))) := OSound m_ids_Cid base S0 cs0 (Post r_ids_Cid S0) X
@[reducible] noncomputable def p_ids_Cid_1 : CPat := ⟨⟨101, [1, 0], (some 3), [.any, .any, .any, .any, .any, .any, .any, .any, .any, .int .i64], 3⟩, [⟨96, [1, 0], (some 5), [], 12⟩, ⟨49, [1, 0], (some 0), [.any, .ptr 0 0], 15⟩], [.dat 89 T_ids_State], 0⟩
@[reducible] noncomputable def u_ids_Cid_1 (k : Int → D_ids_State → Option (ByteArray × Unit)) : denC p_ids_Cid_1 → Option (ByteArray × Unit) := fun x => k x.1.2.2.2.2.2.2.2.2.2.1 x.2.2.1
noncomputable def b_ids_Cid_1 (i19 : Int) (d20 : D_ids_State) : Option (ByteArray × Unit) :=
  let b21 : Bool := (decide (i19 ≥ (0 : Int)))
  let b22 : Bool := (!b21)
  bif b22 then
    let s23 : ByteArray := (ByteArray.mk (List.toArray ([] : List UInt8)))
    some (s23, ())
  else
    bif (decide (((0 : Int) ≤ i19) ∧ (i19 < (((List.length d20.2.2.2.2.1) : Nat) : Int)))) then
      let x24 : D_ids_Given := (List.getD d20.2.2.2.2.1 (Int.toNat i19) (Ty.dflt T_ids_Given))
      some (x24.2.1, ())
    else none
theorem ex_ids_Cid_1 : ∃ f, f = @b_ids_Cid_1 := ⟨_, rfl⟩
noncomputable def ids_Cid_1 := Classical.choose ex_ids_Cid_1
theorem ids_Cid_1_eq : @ids_Cid_1 = @b_ids_Cid_1 := Classical.choose_spec ex_ids_Cid_1
theorem s_ids_Cid_1 {base S0 cs0} (hfin : H_ids_Cid base S0) : J_ids_Cid base S0 cs0 p_ids_Cid_1 (u_ids_Cid_1 (ids_Cid_1)) :=
  JSound.join hfin.2 (OSound.nowhere) ks_ids_Cid 100000 (by rw [ids_Cid_1_eq]; intro x; kernel_rfl)
noncomputable def x_ids_Cid_1 : Cfg → Option (Option (ByteArray × Unit)) := cut p_ids_Cid_1 (u_ids_Cid_1 (ids_Cid_1)) (nowhere)
theorem o_ids_Cid_1 {base S0 cs0} (hfin : H_ids_Cid base S0) : O_ids_Cid base S0 cs0 (x_ids_Cid_1) := OSound.cut (OSound.nowhere) (Nat.le_of_eq hfin.1) (s_ids_Cid_1 hfin)
@[reducible] noncomputable def p_ids_Cid_0 : CPat := ⟨⟨141, [1, 0, 1, 0], none, [.rows T_ids_Given false, .func 136 [] [.ptr 0 0], .any, .any, .any, .any, .any, .int .i64, .int .i64], 10⟩, [⟨101, [1, 0], (some 2), [], 13⟩, ⟨96, [1, 0], (some 5), [], 12⟩, ⟨49, [1, 0], (some 0), [.any, .ptr 1 0], 15⟩], [.cells 167 [.ptr 1 0], .dat 89 T_ids_State], 0⟩
@[reducible] noncomputable def u_ids_Cid_0 (k : (List D_ids_Given) → Int → Int → D_ids_State → Option (ByteArray × Unit)) : denC p_ids_Cid_0 → Option (ByteArray × Unit) := fun x => k x.1.1 x.1.2.2.2.2.2.2.2.1 x.1.2.2.2.2.2.2.2.2.1 x.2.2.2.1
noncomputable def t_ids_Cid_0 (k0 : (List D_ids_Given) → Int → Int → D_ids_State → Option (ByteArray × Unit)) (l9 : (List D_ids_Given)) (i10 : Int) (i11 : Int) (d12 : D_ids_State) : Option (ByteArray × Unit) :=
  let b13 : Bool := (decide (i11 < i10))
  bif b13 then
    bif (decide (((0 : Int) ≤ i11) ∧ (i11 < (((List.length l9) : Nat) : Int)))) then
      let x14 : D_ids_Given := (List.getD l9 (Int.toNat i11) (Ty.dflt T_ids_Given))
      let b15 : Bool := (x14.1 == d12.2.2.2.2.2.2.1)
      bif b15 then
        ids_Cid_1 i11 d12
      else
        let n16 : Int := (Go.IntKind.wrap Go.IntKind.i64 (i11 + (1 : Int)))
        k0 l9 i10 n16 d12
    else none
  else
    ids_Cid_1 (-1 : Int) d12
noncomputable def ids_Cid_0 : Nat → (List D_ids_Given) → Int → Int → D_ids_State → Option (ByteArray × Unit)
  | 0 => fun _ _ _ _ => none
  | m + 1 => t_ids_Cid_0 (ids_Cid_0 m)
noncomputable def b_ids_Cid_0' (l9 : (List D_ids_Given)) (i10 : Int) (i11 : Int) (d12 : D_ids_State) : Option (ByteArray × Unit) := ids_Cid_0 (Int.toNat (i10 - i11) + 2) l9 i10 i11 d12
theorem ex_ids_Cid_0' : ∃ f, f = @b_ids_Cid_0' := ⟨_, rfl⟩
noncomputable def ids_Cid_0' := Classical.choose ex_ids_Cid_0'
theorem ids_Cid_0'_eq : @ids_Cid_0' = @b_ids_Cid_0' := Classical.choose_spec ex_ids_Cid_0'
theorem s_ids_Cid_0 {base S0 cs0} (hfin : H_ids_Cid base S0) : ∀ m, J_ids_Cid base S0 cs0 p_ids_Cid_0 (u_ids_Cid_0 (ids_Cid_0 m)) :=
  JSound.loop' hfin.2 ks_ids_Cid 100000 u_ids_Cid_0 (fun k0 => cut p_ids_Cid_0 (u_ids_Cid_0 k0) (x_ids_Cid_1)) (fun k0 h0 => OSound.cut (o_ids_Cid_1 hfin) (Nat.le_of_eq hfin.1) h0) (ids_Cid_0) (by intro x; rfl) (by intro m x; kernel_rfl)
theorem s_ids_Cid_0' {base S0 cs0} (hfin : H_ids_Cid base S0) : J_ids_Cid base S0 cs0 p_ids_Cid_0 (u_ids_Cid_0 (ids_Cid_0')) := by
  rw [ids_Cid_0'_eq]; exact fun x r hx => s_ids_Cid_0 hfin _ x r hx
noncomputable def x_ids_Cid_0 : Cfg → Option (Option (ByteArray × Unit)) := cut p_ids_Cid_0 (u_ids_Cid_0 (ids_Cid_0')) (x_ids_Cid_1)
theorem o_ids_Cid_0 {base S0 cs0} (hfin : H_ids_Cid base S0) : O_ids_Cid base S0 cs0 (x_ids_Cid_0) := OSound.cut (o_ids_Cid_1 hfin) (Nat.le_of_eq hfin.1) (s_ids_Cid_0' hfin)
noncomputable def b_ids_Cid (a0 : D_ids_State) : Option (ByteArray × Unit) :=
  let s1 : ByteArray := (ByteArray.mk (List.toArray ([] : List UInt8)))
  let n2 : Int := (((List.length a0.2.2.2.2.1) : Nat) : Int)
  ids_Cid_0' a0.2.2.2.2.1 n2 (0 : Int) a0
theorem ex_ids_Cid : ∃ f, f = @b_ids_Cid := ⟨_, rfl⟩
noncomputable def ids_Cid := Classical.choose ex_ids_Cid
theorem ids_Cid_eq : @ids_Cid = @b_ids_Cid := Classical.choose_spec ex_ids_Cid
noncomputable def cb_ids_Cid : Con := ⟨[T_ids_State], r_ids_Cid, fun x => b_ids_Cid x.1⟩
noncomputable def c_ids_Cid : Con := ⟨[T_ids_State], r_ids_Cid, fun x => ids_Cid x.1⟩
theorem cb_ids_Cid_ok : cb_ids_Cid.Sound prog Inv gInv 49 :=
  con_run (M := m_ids_Cid) inv_g (f := f49) rfl ks_ids_Cid 100000 (X := x_ids_Cid_0) (fun base S0 cs0 hn hf => have hfin : H_ids_Cid base S0 := ⟨hn, hf⟩; o_ids_Cid_0 hfin) (by intro x; kernel_rfl)
theorem c_ids_Cid_ok : c_ids_Cid.Sound prog Inv gInv 49 := by
  have e : c_ids_Cid = cb_ids_Cid := by unfold c_ids_Cid cb_ids_Cid; rw [ids_Cid_eq]
  rw [e]; exact cb_ids_Cid_ok
end Go.Proofs.YtjdjlijjolibkaaDoor.V
namespace Go.Proofs.YtjdjlijjolibkaaDoor.V
open Go.RowKit Go.Proofs.Tryd
set_option maxRecDepth 100000
set_option linter.unusedVariables false
noncomputable def m_ids_Is : Mach prog Inv gInv := mach bas [(55, f55), (107, f107), (108, f108), (142, f142)] ⟨ok55, ok107, ok108, ok142, trivial⟩ [] trivial [] trivial [] trivial
/-! ### domino/ids.Is -/
@[reducible] def r_ids_Is : List Ty := [.bool]
def ks_ids_Is : List Nat := [55, 107, 108, 142]
abbrev H_ids_Is (base : Base) (S0 : Nat → Prop) := base.n = 0 ∧ FinOk (finR r_ids_Is) base S0 (Post r_ids_Is S0)
abbrev J_ids_Is (base : Base) (S0 : Nat → Prop) (cs0 : List Go.Frame) (p : CPat) (J : denC p → Option (denL r_ids_Is)) := JSound m_ids_Is base S0 cs0 (Post r_ids_Is S0) p J
abbrev O_ids_Is (base : Base) (S0 : Nat → Prop) (cs0 : List Go.Frame) (X : Cfg → Option (Option (denL r_ids_Is))) := OSound m_ids_Is base S0 cs0 (Post r_ids_Is S0) X
@[reducible] noncomputable def p_ids_Is_0 : CPat := ⟨⟨142, [1, 0, 1, 0], none, [.rows T_ids_Own false, .func 108 [] [.ptr 0 0], .any, .any, .any, .any, .any, .int .i64, .int .i64], 10⟩, [⟨107, [1, 0], (some 2), [], 9⟩, ⟨55, [1, 0], (some 3), [], 9⟩], [.cells 9 [.str]], 0⟩
@[reducible] noncomputable def u_ids_Is_0 (k : (List D_ids_Own) → Int → Int → ByteArray → Option (Bool × Unit)) : denC p_ids_Is_0 → Option (Bool × Unit) := fun x => k x.1.1 x.1.2.2.2.2.2.2.2.1 x.1.2.2.2.2.2.2.2.2.1 x.2.2.1.1
@[reducible] noncomputable def p_ids_Is_2 : CPat := ⟨⟨142, [1, 0, 1, 0, 0, 1, 1, 0, 0, 1, 1, 1], none, [.rows T_ids_Own false, .func 108 [] [.ptr 0 0], .any, .any, .any, .any, .any, .int .i64, .int .i64], 10⟩, [⟨107, [1, 0], (some 2), [], 9⟩, ⟨55, [1, 0], (some 3), [], 9⟩], [.cells 9 [.str]], 0⟩
@[reducible] noncomputable def u_ids_Is_2 (k : (List D_ids_Own) → Int → Int → ByteArray → Option (Bool × Unit)) : denC p_ids_Is_2 → Option (Bool × Unit) := fun x => k x.1.1 x.1.2.2.2.2.2.2.2.1 x.1.2.2.2.2.2.2.2.2.1 x.2.2.1.1
noncomputable def b_ids_Is_2 (k0 : (List D_ids_Own) → Int → Int → ByteArray → Option (Bool × Unit)) (l22 : (List D_ids_Own)) (i23 : Int) (i24 : Int) (s25 : ByteArray) : Option (Bool × Unit) :=
  let n26 : Int := (Go.IntKind.wrap Go.IntKind.i64 (i24 + (1 : Int)))
  k0 l22 i23 n26 s25
theorem ex_ids_Is_2 : ∃ f, f = @b_ids_Is_2 := ⟨_, rfl⟩
noncomputable def ids_Is_2 := Classical.choose ex_ids_Is_2
theorem ids_Is_2_eq : @ids_Is_2 = @b_ids_Is_2 := Classical.choose_spec ex_ids_Is_2
theorem s_ids_Is_2 {base S0 cs0} (hfin : H_ids_Is base S0) (k0) (h0 : J_ids_Is base S0 cs0 p_ids_Is_0 (u_ids_Is_0 k0)) : J_ids_Is base S0 cs0 p_ids_Is_2 (u_ids_Is_2 (ids_Is_2 k0)) :=
  JSound.join hfin.2 (OSound.cut (OSound.nowhere) (Nat.le_of_eq hfin.1) h0) ks_ids_Is 100000 (by rw [ids_Is_2_eq]; intro x; kernel_rfl)
noncomputable def x_ids_Is_2 (k0 : (List D_ids_Own) → Int → Int → ByteArray → Option (Bool × Unit)) : Cfg → Option (Option (Bool × Unit)) := cut p_ids_Is_2 (u_ids_Is_2 (ids_Is_2 k0)) (cut p_ids_Is_0 (u_ids_Is_0 k0) (nowhere))
theorem o_ids_Is_2 {base S0 cs0} (hfin : H_ids_Is base S0) (k0) (h0 : J_ids_Is base S0 cs0 p_ids_Is_0 (u_ids_Is_0 k0)) : O_ids_Is base S0 cs0 (x_ids_Is_2 k0) := OSound.cut (OSound.cut (OSound.nowhere) (Nat.le_of_eq hfin.1) h0) (Nat.le_of_eq hfin.1) (s_ids_Is_2 hfin k0 h0)
noncomputable def t_ids_Is_0 (k0 : (List D_ids_Own) → Int → Int → ByteArray → Option (Bool × Unit)) (l13 : (List D_ids_Own)) (i14 : Int) (i15 : Int) (s16 : ByteArray) : Option (Bool × Unit) :=
  let b17 : Bool := (decide (i15 < i14))
  bif b17 then
    bif (decide (((0 : Int) ≤ i15) ∧ (i15 < (((List.length l13) : Nat) : Int)))) then
      let x18 : D_ids_Own := (List.getD l13 (Int.toNat i15) (Ty.dflt T_ids_Own))
      let b19 : Bool := ((ByteArray.toList x18.2.1) == (ByteArray.toList s16))
      bif b19 then
        let b20 : Bool := (!x18.2.2.2.2.1)
        bif b20 then
          let b28 : Bool := (decide (i15 ≥ (0 : Int)))
          some (b28, ())
        else
          ids_Is_2 k0 l13 i14 i15 s16
      else
        ids_Is_2 k0 l13 i14 i15 s16
    else none
  else
    some (false, ())
noncomputable def ids_Is_0 : Nat → (List D_ids_Own) → Int → Int → ByteArray → Option (Bool × Unit)
  | 0 => fun _ _ _ _ => none
  | m + 1 => t_ids_Is_0 (ids_Is_0 m)
noncomputable def b_ids_Is_0' (l13 : (List D_ids_Own)) (i14 : Int) (i15 : Int) (s16 : ByteArray) : Option (Bool × Unit) := ids_Is_0 (Int.toNat (i14 - i15) + 2) l13 i14 i15 s16
theorem ex_ids_Is_0' : ∃ f, f = @b_ids_Is_0' := ⟨_, rfl⟩
noncomputable def ids_Is_0' := Classical.choose ex_ids_Is_0'
theorem ids_Is_0'_eq : @ids_Is_0' = @b_ids_Is_0' := Classical.choose_spec ex_ids_Is_0'
theorem s_ids_Is_0 {base S0 cs0} (hfin : H_ids_Is base S0) : ∀ m, J_ids_Is base S0 cs0 p_ids_Is_0 (u_ids_Is_0 (ids_Is_0 m)) :=
  JSound.loop' hfin.2 ks_ids_Is 100000 u_ids_Is_0 (fun k0 => x_ids_Is_2 k0) (fun k0 h0 => o_ids_Is_2 hfin k0 h0) (ids_Is_0) (by intro x; rfl) (by intro m x; kernel_rfl)
theorem s_ids_Is_0' {base S0 cs0} (hfin : H_ids_Is base S0) : J_ids_Is base S0 cs0 p_ids_Is_0 (u_ids_Is_0 (ids_Is_0')) := by
  rw [ids_Is_0'_eq]; exact fun x r hx => s_ids_Is_0 hfin _ x r hx
noncomputable def x_ids_Is_0 : Cfg → Option (Option (Bool × Unit)) := cut p_ids_Is_0 (u_ids_Is_0 (ids_Is_0')) (nowhere)
theorem o_ids_Is_0 {base S0 cs0} (hfin : H_ids_Is base S0) : O_ids_Is base S0 cs0 (x_ids_Is_0) := OSound.cut (OSound.nowhere) (Nat.le_of_eq hfin.1) (s_ids_Is_0' hfin)
noncomputable def b_ids_Is (a0 : D_ids_State) (a1 : ByteArray) : Option (Bool × Unit) :=
  let n2 : Int := (((List.length a0.2.2.2.1) : Nat) : Int)
  ids_Is_0' a0.2.2.2.1 n2 (0 : Int) a1
theorem ex_ids_Is : ∃ f, f = @b_ids_Is := ⟨_, rfl⟩
noncomputable def ids_Is := Classical.choose ex_ids_Is
theorem ids_Is_eq : @ids_Is = @b_ids_Is := Classical.choose_spec ex_ids_Is
noncomputable def cb_ids_Is : Con := ⟨[T_ids_State, .str], r_ids_Is, fun x => b_ids_Is x.1 x.2.1⟩
noncomputable def c_ids_Is : Con := ⟨[T_ids_State, .str], r_ids_Is, fun x => ids_Is x.1 x.2.1⟩
theorem cb_ids_Is_ok : cb_ids_Is.Sound prog Inv gInv 55 :=
  con_run (M := m_ids_Is) inv_g (f := f55) rfl ks_ids_Is 100000 (X := x_ids_Is_0) (fun base S0 cs0 hn hf => have hfin : H_ids_Is base S0 := ⟨hn, hf⟩; o_ids_Is_0 hfin) (by intro x; kernel_rfl)
theorem c_ids_Is_ok : c_ids_Is.Sound prog Inv gInv 55 := by
  have e : c_ids_Is = cb_ids_Is := by unfold c_ids_Is cb_ids_Is; rw [ids_Is_eq]
  rw [e]; exact cb_ids_Is_ok
end Go.Proofs.YtjdjlijjolibkaaDoor.V
namespace Go.Proofs.YtjdjlijjolibkaaDoor.V
open Go.RowKit Go.Proofs.Tryd
set_option maxRecDepth 100000
set_option linter.unusedVariables false
noncomputable def m_slices_Clone_ids_Own : Mach prog Inv gInv := mach bas [(137, f137)] ⟨ok137, trivial⟩ [] trivial [] trivial [] trivial
/-! ### slices.Clone: a row of the caller's own -/
@[reducible] def t_slices_Clone_ids_Own : Ty := T_ids_Own
def slices_Clone_ids_Own (l : List t_slices_Clone_ids_Own.den) : Option (List t_slices_Clone_ids_Own.den) := bif decide (l.length ≤ 4294967296) then some l else none
noncomputable def c_slices_Clone_ids_Own : OCon := ⟨[.slice t_slices_Clone_ids_Own], t_slices_Clone_ids_Own, fun x => slices_Clone_ids_Own x.1⟩
@[reducible] noncomputable def p_slices_Clone_ids_Own : CPat := ⟨⟨137, [1, 0, 0], some 1, [.rows t_slices_Clone_ids_Own false, .any, .nilSlice, .rows t_slices_Clone_ids_Own false], 4⟩, [], [], 0⟩
def j_slices_Clone_ids_Own (a b : List t_slices_Clone_ids_Own.den) : Option (List t_slices_Clone_ids_Own.den) := match b with
  | [] => match a with
    | [] => some []
    | _ :: _ => none
  | _ :: _ => slices_Clone_ids_Own a
theorem y_slices_Clone_ids_Own (x : denC p_slices_Clone_ids_Own) : runB m_slices_Clone_ids_Own (finO t_slices_Clone_ids_Own) [137] nowhere 1000 (adv (instC p_slices_Clone_ids_Own x) 1 (some 4) (.val (.bool true)) (instC p_slices_Clone_ids_Own x).H ⟨[], [], []⟩) = some [] := by kernel_rfl
theorem n_slices_Clone_ids_Own (x : denC p_slices_Clone_ids_Own) : runB m_slices_Clone_ids_Own (finO t_slices_Clone_ids_Own) [137] nowhere 1000 (adv (instC p_slices_Clone_ids_Own x) 1 (some 4) (.val (.bool false)) (instC p_slices_Clone_ids_Own x).H ⟨[], [], []⟩) = bif decide (0 + x.1.1.length ≤ 4294967296) then some x.1.1 else none := by kernel_rfl
theorem s_slices_Clone_ids_Own {base S0 cs0} (hfin : FinOk (finO t_slices_Clone_ids_Own) base S0 (OPost t_slices_Clone_ids_Own base S0)) : JSound m_slices_Clone_ids_Own base S0 cs0 (OPost t_slices_Clone_ids_Own base S0) p_slices_Clone_ids_Own (fun x => j_slices_Clone_ids_Own x.1.1 x.1.2.2.2.1) := by
  intro x r h
  change j_slices_Clone_ids_Own x.1.1 x.1.2.2.2.1 = some r at h
  have yes : x.1.2.2.2.1 = [] → j_slices_Clone_ids_Own x.1.1 x.1.2.2.2.1 = some r → runB m_slices_Clone_ids_Own (finO t_slices_Clone_ids_Own) [137] nowhere 1000 (adv (instC p_slices_Clone_ids_Own x) 1 (some 4) (.val (.bool true)) (instC p_slices_Clone_ids_Own x).H ⟨[], [], []⟩) = some r := by
    intro hb hj
    rw [hb] at hj
    have e := y_slices_Clone_ids_Own x
    rw [e]
    generalize x.1.1 = a at hj
    cases a with
    | nil => exact hj
    | cons _ _ => cases hj
  have no : runB m_slices_Clone_ids_Own (finO t_slices_Clone_ids_Own) [137] nowhere 1000 (adv (instC p_slices_Clone_ids_Own x) 1 (some 4) (.val (.bool false)) (instC p_slices_Clone_ids_Own x).H ⟨[], [], []⟩) = some r := by
    have e := n_slices_Clone_ids_Own x
    rw [e, Nat.zero_add]
    show slices_Clone_ids_Own x.1.1 = some r
    generalize x.1.1 = a at *
    generalize x.1.2.2.2.1 = b at *
    cases b with
    | nil => cases a with
      | nil => rw [← h]; rfl
      | cons _ _ => cases h
    | cons _ _ => exact h
  exact nil_sound (M := m_slices_Clone_ids_Own) (f := f137) (T := 86) (e := 104) (x := .tmp 3) (t := t_slices_Clone_ids_Own) (l := x.1.2.2.2.1) (cl := false) rfl rfl rfl rfl rfl rfl rfl rfl underlying86 rfl
    (fun hb => run_sound hfin OSound.nowhere (yes hb h)) (run_sound hfin OSound.nowhere no)
theorem c_slices_Clone_ids_Own_ok : c_slices_Clone_ids_Own.Sound prog Inv gInv 137 := by
  refine ocon_sound (M := m_slices_Clone_ids_Own) inv_g (f := f137) rfl fun x y h base S0 cs0 hn => ?_
  have hfin := finO_ok t_slices_Clone_ids_Own base S0
  refine run_sound hfin (X := cut p_slices_Clone_ids_Own (fun x => j_slices_Clone_ids_Own x.1.1 x.1.2.2.2.1) nowhere) (OSound.cut OSound.nowhere (Nat.le_of_eq hn) (s_slices_Clone_ids_Own hfin)) (Ks := [137]) (n := 1000) ?_
  have e : runB m_slices_Clone_ids_Own (finO t_slices_Clone_ids_Own) [137] (cut p_slices_Clone_ids_Own (fun x => j_slices_Clone_ids_Own x.1.1 x.1.2.2.2.1) nowhere) 1000 (startP 137 f137.ntmps (pvsOf c_slices_Clone_ids_Own.params x)) = j_slices_Clone_ids_Own x.1 x.1 := by kernel_rfl
  refine e.trans (Eq.trans ?_ h)
  show j_slices_Clone_ids_Own x.1 x.1 = slices_Clone_ids_Own x.1
  generalize x.1 = l
  cases l with
  | nil => rfl
  | cons _ _ => rfl
end Go.Proofs.YtjdjlijjolibkaaDoor.V
namespace Go.Proofs.YtjdjlijjolibkaaDoor.V
open Go.RowKit Go.Proofs.Tryd
set_option maxRecDepth 100000
set_option linter.unusedVariables false
noncomputable def m_slices_Clone_ids_Given : Mach prog Inv gInv := mach bas [(138, f138)] ⟨ok138, trivial⟩ [] trivial [] trivial [] trivial
/-! ### slices.Clone: a row of the caller's own -/
@[reducible] def t_slices_Clone_ids_Given : Ty := T_ids_Given
def slices_Clone_ids_Given (l : List t_slices_Clone_ids_Given.den) : Option (List t_slices_Clone_ids_Given.den) := bif decide (l.length ≤ 4294967296) then some l else none
noncomputable def c_slices_Clone_ids_Given : OCon := ⟨[.slice t_slices_Clone_ids_Given], t_slices_Clone_ids_Given, fun x => slices_Clone_ids_Given x.1⟩
@[reducible] noncomputable def p_slices_Clone_ids_Given : CPat := ⟨⟨138, [1, 0, 0], some 1, [.rows t_slices_Clone_ids_Given false, .any, .nilSlice, .rows t_slices_Clone_ids_Given false], 4⟩, [], [], 0⟩
def j_slices_Clone_ids_Given (a b : List t_slices_Clone_ids_Given.den) : Option (List t_slices_Clone_ids_Given.den) := match b with
  | [] => match a with
    | [] => some []
    | _ :: _ => none
  | _ :: _ => slices_Clone_ids_Given a
theorem y_slices_Clone_ids_Given (x : denC p_slices_Clone_ids_Given) : runB m_slices_Clone_ids_Given (finO t_slices_Clone_ids_Given) [138] nowhere 1000 (adv (instC p_slices_Clone_ids_Given x) 1 (some 4) (.val (.bool true)) (instC p_slices_Clone_ids_Given x).H ⟨[], [], []⟩) = some [] := by kernel_rfl
theorem n_slices_Clone_ids_Given (x : denC p_slices_Clone_ids_Given) : runB m_slices_Clone_ids_Given (finO t_slices_Clone_ids_Given) [138] nowhere 1000 (adv (instC p_slices_Clone_ids_Given x) 1 (some 4) (.val (.bool false)) (instC p_slices_Clone_ids_Given x).H ⟨[], [], []⟩) = bif decide (0 + x.1.1.length ≤ 4294967296) then some x.1.1 else none := by kernel_rfl
theorem s_slices_Clone_ids_Given {base S0 cs0} (hfin : FinOk (finO t_slices_Clone_ids_Given) base S0 (OPost t_slices_Clone_ids_Given base S0)) : JSound m_slices_Clone_ids_Given base S0 cs0 (OPost t_slices_Clone_ids_Given base S0) p_slices_Clone_ids_Given (fun x => j_slices_Clone_ids_Given x.1.1 x.1.2.2.2.1) := by
  intro x r h
  change j_slices_Clone_ids_Given x.1.1 x.1.2.2.2.1 = some r at h
  have yes : x.1.2.2.2.1 = [] → j_slices_Clone_ids_Given x.1.1 x.1.2.2.2.1 = some r → runB m_slices_Clone_ids_Given (finO t_slices_Clone_ids_Given) [138] nowhere 1000 (adv (instC p_slices_Clone_ids_Given x) 1 (some 4) (.val (.bool true)) (instC p_slices_Clone_ids_Given x).H ⟨[], [], []⟩) = some r := by
    intro hb hj
    rw [hb] at hj
    have e := y_slices_Clone_ids_Given x
    rw [e]
    generalize x.1.1 = a at hj
    cases a with
    | nil => exact hj
    | cons _ _ => cases hj
  have no : runB m_slices_Clone_ids_Given (finO t_slices_Clone_ids_Given) [138] nowhere 1000 (adv (instC p_slices_Clone_ids_Given x) 1 (some 4) (.val (.bool false)) (instC p_slices_Clone_ids_Given x).H ⟨[], [], []⟩) = some r := by
    have e := n_slices_Clone_ids_Given x
    rw [e, Nat.zero_add]
    show slices_Clone_ids_Given x.1.1 = some r
    generalize x.1.1 = a at *
    generalize x.1.2.2.2.1 = b at *
    cases b with
    | nil => cases a with
      | nil => rw [← h]; rfl
      | cons _ _ => cases h
    | cons _ _ => exact h
  exact nil_sound (M := m_slices_Clone_ids_Given) (f := f138) (T := 87) (e := 102) (x := .tmp 3) (t := t_slices_Clone_ids_Given) (l := x.1.2.2.2.1) (cl := false) rfl rfl rfl rfl rfl rfl rfl rfl underlying87 rfl
    (fun hb => run_sound hfin OSound.nowhere (yes hb h)) (run_sound hfin OSound.nowhere no)
theorem c_slices_Clone_ids_Given_ok : c_slices_Clone_ids_Given.Sound prog Inv gInv 138 := by
  refine ocon_sound (M := m_slices_Clone_ids_Given) inv_g (f := f138) rfl fun x y h base S0 cs0 hn => ?_
  have hfin := finO_ok t_slices_Clone_ids_Given base S0
  refine run_sound hfin (X := cut p_slices_Clone_ids_Given (fun x => j_slices_Clone_ids_Given x.1.1 x.1.2.2.2.1) nowhere) (OSound.cut OSound.nowhere (Nat.le_of_eq hn) (s_slices_Clone_ids_Given hfin)) (Ks := [138]) (n := 1000) ?_
  have e : runB m_slices_Clone_ids_Given (finO t_slices_Clone_ids_Given) [138] (cut p_slices_Clone_ids_Given (fun x => j_slices_Clone_ids_Given x.1.1 x.1.2.2.2.1) nowhere) 1000 (startP 138 f138.ntmps (pvsOf c_slices_Clone_ids_Given.params x)) = j_slices_Clone_ids_Given x.1 x.1 := by kernel_rfl
  refine e.trans (Eq.trans ?_ h)
  show j_slices_Clone_ids_Given x.1 x.1 = slices_Clone_ids_Given x.1
  generalize x.1 = l
  cases l with
  | nil => rfl
  | cons _ _ => rfl
end Go.Proofs.YtjdjlijjolibkaaDoor.V
namespace Go.Proofs.YtjdjlijjolibkaaDoor.V
open Go.RowKit Go.Proofs.Tryd
set_option maxRecDepth 100000
set_option linter.unusedVariables false
noncomputable def m_ids_State_drawn_h0 : Mach prog Inv gInv := mach bas [(98, f98)] ⟨ok98, trivial⟩ [(135, c_ideal_Id), (139, c_ideal_Draw)] ⟨⟨c_ideal_Id_ok, FnOk.callable ok135⟩, ⟨c_ideal_Draw_ok, FnOk.callable ok139⟩, trivial⟩ [] trivial [] trivial
@[reducible] noncomputable def pa_ids_State_drawn_h0 : List Pat := [.pin T_ids_State 0, .int .u64]
@[reducible] noncomputable def pH_ids_State_drawn_h0 : List HPat := []
/-! ### (*domino/ids.State).drawn -/
abbrev R_ids_State_drawn_h0 : Type := D_ids_Own × Unit
@[reducible] noncomputable def qa_ids_State_drawn_h0 : List Pat := [.dat T_ids_Own]
@[reducible] noncomputable def qH_ids_State_drawn_h0 : List HPat := []
def ks_ids_State_drawn_h0 : List Nat := [98]
noncomputable def b_ids_State_drawn_h0 (x0 : D_ids_State) (i1 : Int) : Option R_ids_State_drawn_h0 :=
  let s2 : ByteArray := (ByteArray.mk (List.toArray ([] : List UInt8)))
  let n3 : Int := (Go.IntKind.wrap Go.IntKind.u64 x0.2.1)
  let n4 : Int := (Go.IntKind.wrap Go.IntKind.u64 (n3 * (4294967296 : Int)))
  let n5 : Int := (Go.IntKind.wrap Go.IntKind.u64 (n4 + i1))
  obind (ideal_Id x0.1 n5) fun y6 =>
  let n7 : Int := (Go.IntKind.wrap Go.IntKind.u64 (n5 + (1099511627776 : Int)))
  obind (ideal_Draw x0.1 n7 (16 : Int)) fun y8 =>
  some ((i1, (y6.1, (y8.1, (true, (false, ()))))), ())
theorem ex_ids_State_drawn_h0 : ∃ f, f = @b_ids_State_drawn_h0 := ⟨_, rfl⟩
noncomputable def ids_State_drawn_h0 := Classical.choose ex_ids_State_drawn_h0
theorem ids_State_drawn_h0_eq : @ids_State_drawn_h0 = @b_ids_State_drawn_h0 := Classical.choose_spec ex_ids_State_drawn_h0
noncomputable def hb_ids_State_drawn_h0 : HCon := HCon.mk0 pa_ids_State_drawn_h0 pH_ids_State_drawn_h0 qa_ids_State_drawn_h0 qH_ids_State_drawn_h0 R_ids_State_drawn_h0 (fun x => b_ids_State_drawn_h0 x.1.1 x.1.2.1) (fun r => ((r.1, ()), ())) (fun y => (y.1.1, ())) (fun _ => rfl)
noncomputable def h_ids_State_drawn_h0 : HCon := HCon.mk0 pa_ids_State_drawn_h0 pH_ids_State_drawn_h0 qa_ids_State_drawn_h0 qH_ids_State_drawn_h0 R_ids_State_drawn_h0 (fun x => ids_State_drawn_h0 x.1.1 x.1.2.1) (fun r => ((r.1, ()), ())) (fun y => (y.1.1, ())) (fun _ => rfl)
theorem hb_ids_State_drawn_h0_ok : hb_ids_State_drawn_h0.Sound prog Inv gInv 98 :=
  hcon_run (M := m_ids_State_drawn_h0) (f := f98) rfl ks_ids_State_drawn_h0 100000 (X := nowhere) (fun base S0 cs0 hn hf => OSound.nowhere) (by intro x; kernel_rfl)
theorem h_ids_State_drawn_h0_ok : h_ids_State_drawn_h0.Sound prog Inv gInv 98 := by
  have e : h_ids_State_drawn_h0 = hb_ids_State_drawn_h0 := by unfold h_ids_State_drawn_h0 hb_ids_State_drawn_h0; rw [ids_State_drawn_h0_eq]
  rw [e]; exact hb_ids_State_drawn_h0_ok
end Go.Proofs.YtjdjlijjolibkaaDoor.V
namespace Go.Proofs.YtjdjlijjolibkaaDoor.V
open Go.RowKit Go.Proofs.Tryd
set_option maxRecDepth 100000
set_option linter.unusedVariables false
noncomputable def m_ids_Fill : Mach prog Inv gInv := mach bas [(50, f50), (97, f97), (98, f98)] ⟨ok50, ok97, ok98, trivial⟩ [(135, c_ideal_Id), (139, c_ideal_Draw)] ⟨⟨c_ideal_Id_ok, FnOk.callable ok135⟩, ⟨c_ideal_Draw_ok, FnOk.callable ok139⟩, trivial⟩ [(137, c_slices_Clone_ids_Own), (138, c_slices_Clone_ids_Given)] ⟨⟨c_slices_Clone_ids_Own_ok, FnOk.callable ok137⟩, ⟨c_slices_Clone_ids_Given_ok, FnOk.callable ok138⟩, trivial⟩ [(98, h_ids_State_drawn_h0)] ⟨⟨h_ids_State_drawn_h0_ok, FnOk.callable ok98⟩, trivial⟩
/-! ### domino/ids.Fill -/
@[reducible] def r_ids_Fill : List Ty := [T_ids_State]
def ks_ids_Fill : List Nat := [50, 97, 98]
abbrev H_ids_Fill (base : Base) (S0 : Nat → Prop) := base.n = 0 ∧ FinOk (finR r_ids_Fill) base S0 (Post r_ids_Fill S0)
abbrev J_ids_Fill (base : Base) (S0 : Nat → Prop) (cs0 : List Go.Frame) (p : CPat) (J : denC p → Option (denL r_ids_Fill)) := JSound m_ids_Fill base S0 cs0 (Post r_ids_Fill S0) p J
abbrev O_ids_Fill (base : Base) (S0 : Nat → Prop) (cs0 : List Go.Frame) (X : Cfg → Option (Option (denL r_ids_Fill))) := OSound m_ids_Fill base S0 cs0 (Post r_ids_Fill S0) X
@[reducible] noncomputable def p_ids_Fill_3 : CPat := ⟨⟨50, [1, 1, 1, 1, 1, 0, 0], none, [.any, .any, .any, .any, .ptr 0 0, .ptr 1 0, .int .i64], 53⟩, [], [.dat 89 T_ids_State, .cells 89 [.int .u64, .int .i64, .int .i64, .all 2, .all 3, .int .u64, .int .u64], .row T_ids_Own, .row T_ids_Given], 0⟩
@[reducible] noncomputable def u_ids_Fill_3 (k : Int → D_ids_State → Int → Int → Int → Int → Int → (List D_ids_Own) → (List D_ids_Given) → Option (D_ids_State × Unit)) : denC p_ids_Fill_3 → Option (D_ids_State × Unit) := fun x => k x.1.2.2.2.2.2.2.1 x.2.2.1 x.2.2.2.1.1 x.2.2.2.1.2.1 x.2.2.2.1.2.2.1 x.2.2.2.1.2.2.2.2.2.1 x.2.2.2.1.2.2.2.2.2.2.1 x.2.2.2.2.1 x.2.2.2.2.2.1
noncomputable def t_ids_Fill_3 (k3 : Int → D_ids_State → Int → Int → Int → Int → Int → (List D_ids_Own) → (List D_ids_Given) → Option (D_ids_State × Unit)) (i68 : Int) (d69 : D_ids_State) (i70 : Int) (i71 : Int) (i72 : Int) (i73 : Int) (i74 : Int) (l75 : (List D_ids_Own)) (l76 : (List D_ids_Given)) : Option (D_ids_State × Unit) :=
  let b77 : Bool := (decide (i68 < i72))
  bif b77 then
    let n78 : Int := (((List.length l75) : Nat) : Int)
    let n79 : Int := (Go.IntKind.wrap Go.IntKind.u64 n78)
    obind (ids_State_drawn_h0 (i70, (i71, (i72, (l75, (l76, (i73, (i74, ()))))))) n79) fun y80 =>
    let e81 : (Int × (ByteArray × (ByteArray × (Bool × (Bool × Unit))))) := (y80.1.1, (y80.1.2.1, (y80.1.2.2.1, (y80.1.2.2.2.1, (y80.1.2.2.2.2.1, ())))))
    bif (decide (((List.length l75) + (List.length (e81 :: ([] : List D_ids_Own)))) ≤ 4294967296)) then
      let l82 : (List D_ids_Own) := (l75 ++ (e81 :: ([] : List D_ids_Own)))
      let n83 : Int := (Go.IntKind.wrap Go.IntKind.i64 (i68 + (1 : Int)))
      k3 n83 d69 i70 i71 i72 i73 i74 l82 l76
    else none
  else
    some ((i70, (i71, (i72, (l75, (l76, (i73, (i74, ()))))))), ())
noncomputable def ids_Fill_3 : Nat → Int → D_ids_State → Int → Int → Int → Int → Int → (List D_ids_Own) → (List D_ids_Given) → Option (D_ids_State × Unit)
  | 0 => fun _ _ _ _ _ _ _ _ _ => none
  | m + 1 => t_ids_Fill_3 (ids_Fill_3 m)
noncomputable def b_ids_Fill_3' (i68 : Int) (d69 : D_ids_State) (i70 : Int) (i71 : Int) (i72 : Int) (i73 : Int) (i74 : Int) (l75 : (List D_ids_Own)) (l76 : (List D_ids_Given)) : Option (D_ids_State × Unit) := ids_Fill_3 (Int.toNat (i72 - i68) + 2) i68 d69 i70 i71 i72 i73 i74 l75 l76
theorem ex_ids_Fill_3' : ∃ f, f = @b_ids_Fill_3' := ⟨_, rfl⟩
noncomputable def ids_Fill_3' := Classical.choose ex_ids_Fill_3'
theorem ids_Fill_3'_eq : @ids_Fill_3' = @b_ids_Fill_3' := Classical.choose_spec ex_ids_Fill_3'
theorem s_ids_Fill_3 {base S0 cs0} (hfin : H_ids_Fill base S0) : ∀ m, J_ids_Fill base S0 cs0 p_ids_Fill_3 (u_ids_Fill_3 (ids_Fill_3 m)) :=
  JSound.loop' hfin.2 ks_ids_Fill 100000 u_ids_Fill_3 (fun k3 => cut p_ids_Fill_3 (u_ids_Fill_3 k3) (nowhere)) (fun k3 h3 => OSound.cut (OSound.nowhere) (Nat.le_of_eq hfin.1) h3) (ids_Fill_3) (by intro x; rfl) (by intro m x; kernel_rfl)
theorem s_ids_Fill_3' {base S0 cs0} (hfin : H_ids_Fill base S0) : J_ids_Fill base S0 cs0 p_ids_Fill_3 (u_ids_Fill_3 (ids_Fill_3')) := by
  rw [ids_Fill_3'_eq]; exact fun x r hx => s_ids_Fill_3 hfin _ x r hx
noncomputable def x_ids_Fill_3 : Cfg → Option (Option (D_ids_State × Unit)) := cut p_ids_Fill_3 (u_ids_Fill_3 (ids_Fill_3')) (nowhere)
theorem o_ids_Fill_3 {base S0 cs0} (hfin : H_ids_Fill base S0) : O_ids_Fill base S0 cs0 (x_ids_Fill_3) := OSound.cut (OSound.nowhere) (Nat.le_of_eq hfin.1) (s_ids_Fill_3' hfin)
@[reducible] noncomputable def p_ids_Fill_0 : CPat := ⟨⟨50, [1, 1, 1, 1, 0, 1, 0], none, [.any, .any, .any, .any, .ptr 0 0, .ptr 1 0, .int .i64, .any, .any, .any, .any, .any, .any, .any, .any, .any, .any, .any, .any, .any, .all 2, .int .i64, .int .i64], 37⟩, [], [.dat 89 T_ids_State, .cells 89 [.int .u64, .int .i64, .int .i64, .all 2, .all 3, .int .u64, .int .u64], .row T_ids_Own, .row T_ids_Given], 0⟩
@[reducible] noncomputable def u_ids_Fill_0 (k : Int → Int → Int → D_ids_State → Int → Int → Int → Int → Int → (List D_ids_Own) → (List D_ids_Given) → Option (D_ids_State × Unit)) : denC p_ids_Fill_0 → Option (D_ids_State × Unit) := fun x => k x.1.2.2.2.2.2.2.1 x.1.2.2.2.2.2.2.2.2.2.2.2.2.2.2.2.2.2.2.2.2.2.1 x.1.2.2.2.2.2.2.2.2.2.2.2.2.2.2.2.2.2.2.2.2.2.2.1 x.2.2.1 x.2.2.2.1.1 x.2.2.2.1.2.1 x.2.2.2.1.2.2.1 x.2.2.2.1.2.2.2.2.2.1 x.2.2.2.1.2.2.2.2.2.2.1 x.2.2.2.2.1 x.2.2.2.2.2.1
@[reducible] noncomputable def p_ids_Fill_2 : CPat := ⟨⟨50, [1, 1, 1, 1, 0, 1, 0, 0, 1, 1, 1], none, [.any, .any, .any, .any, .ptr 0 0, .ptr 1 0, .int .i64, .any, .any, .any, .any, .any, .any, .any, .any, .any, .any, .any, .any, .any, .all 2, .int .i64, .int .i64], 37⟩, [], [.dat 89 T_ids_State, .cells 89 [.int .u64, .int .i64, .int .i64, .all 2, .all 3, .int .u64, .int .u64], .row T_ids_Own, .row T_ids_Given], 0⟩
@[reducible] noncomputable def u_ids_Fill_2 (k : Int → Int → Int → D_ids_State → Int → Int → Int → Int → Int → (List D_ids_Own) → (List D_ids_Given) → Option (D_ids_State × Unit)) : denC p_ids_Fill_2 → Option (D_ids_State × Unit) := fun x => k x.1.2.2.2.2.2.2.1 x.1.2.2.2.2.2.2.2.2.2.2.2.2.2.2.2.2.2.2.2.2.2.1 x.1.2.2.2.2.2.2.2.2.2.2.2.2.2.2.2.2.2.2.2.2.2.2.1 x.2.2.1 x.2.2.2.1.1 x.2.2.2.1.2.1 x.2.2.2.1.2.2.1 x.2.2.2.1.2.2.2.2.2.1 x.2.2.2.1.2.2.2.2.2.2.1 x.2.2.2.2.1 x.2.2.2.2.2.1
noncomputable def b_ids_Fill_2 (k0 : Int → Int → Int → D_ids_State → Int → Int → Int → Int → Int → (List D_ids_Own) → (List D_ids_Given) → Option (D_ids_State × Unit)) (i56 : Int) (i57 : Int) (i58 : Int) (d59 : D_ids_State) (i60 : Int) (i61 : Int) (i62 : Int) (i63 : Int) (i64 : Int) (l65 : (List D_ids_Own)) (l66 : (List D_ids_Given)) : Option (D_ids_State × Unit) :=
  let n67 : Int := (Go.IntKind.wrap Go.IntKind.i64 (i58 + (1 : Int)))
  k0 i56 i57 n67 d59 i60 i61 i62 i63 i64 l65 l66
theorem ex_ids_Fill_2 : ∃ f, f = @b_ids_Fill_2 := ⟨_, rfl⟩
noncomputable def ids_Fill_2 := Classical.choose ex_ids_Fill_2
theorem ids_Fill_2_eq : @ids_Fill_2 = @b_ids_Fill_2 := Classical.choose_spec ex_ids_Fill_2
theorem s_ids_Fill_2 {base S0 cs0} (hfin : H_ids_Fill base S0) (k0) (h0 : J_ids_Fill base S0 cs0 p_ids_Fill_0 (u_ids_Fill_0 k0)) : J_ids_Fill base S0 cs0 p_ids_Fill_2 (u_ids_Fill_2 (ids_Fill_2 k0)) :=
  JSound.join hfin.2 (OSound.cut (o_ids_Fill_3 hfin) (Nat.le_of_eq hfin.1) h0) ks_ids_Fill 100000 (by rw [ids_Fill_2_eq]; intro x; kernel_rfl)
noncomputable def x_ids_Fill_2 (k0 : Int → Int → Int → D_ids_State → Int → Int → Int → Int → Int → (List D_ids_Own) → (List D_ids_Given) → Option (D_ids_State × Unit)) : Cfg → Option (Option (D_ids_State × Unit)) := cut p_ids_Fill_2 (u_ids_Fill_2 (ids_Fill_2 k0)) (cut p_ids_Fill_0 (u_ids_Fill_0 k0) (x_ids_Fill_3))
theorem o_ids_Fill_2 {base S0 cs0} (hfin : H_ids_Fill base S0) (k0) (h0 : J_ids_Fill base S0 cs0 p_ids_Fill_0 (u_ids_Fill_0 k0)) : O_ids_Fill base S0 cs0 (x_ids_Fill_2 k0) := OSound.cut (OSound.cut (o_ids_Fill_3 hfin) (Nat.le_of_eq hfin.1) h0) (Nat.le_of_eq hfin.1) (s_ids_Fill_2 hfin k0 h0)
noncomputable def t_ids_Fill_0 (k0 : Int → Int → Int → D_ids_State → Int → Int → Int → Int → Int → (List D_ids_Own) → (List D_ids_Given) → Option (D_ids_State × Unit)) (i34 : Int) (i35 : Int) (i36 : Int) (d37 : D_ids_State) (i38 : Int) (i39 : Int) (i40 : Int) (i41 : Int) (i42 : Int) (l43 : (List D_ids_Own)) (l44 : (List D_ids_Given)) : Option (D_ids_State × Unit) :=
  let b45 : Bool := (decide (i36 < i35))
  bif b45 then
    bif (decide (((0 : Int) ≤ i36) ∧ (i36 < (((List.length l43) : Nat) : Int)))) then
      let i46 : Nat := (Int.toNat i36)
      let n47 : Int := (List.getD l43 i46 (Ty.dflt T_ids_Own)).1
      let s48 : ByteArray := (List.getD l43 i46 (Ty.dflt T_ids_Own)).2.1
      let s49 : ByteArray := (List.getD l43 i46 (Ty.dflt T_ids_Own)).2.2.1
      let b50 : Bool := (List.getD l43 i46 (Ty.dflt T_ids_Own)).2.2.2.1
      let b51 : Bool := (List.getD l43 i46 (Ty.dflt T_ids_Own)).2.2.2.2.1
      let s52 : ByteArray := (ByteArray.mk (List.toArray ([] : List UInt8)))
      let b53 : Bool := (!b51)
      bif b53 then
        let n54 : Int := (Go.IntKind.wrap Go.IntKind.i64 (i34 + (1 : Int)))
        ids_Fill_2 k0 n54 i35 i36 d37 i38 i39 i40 i41 i42 l43 l44
      else
        ids_Fill_2 k0 i34 i35 i36 d37 i38 i39 i40 i41 i42 l43 l44
    else none
  else
    ids_Fill_3' i34 d37 i38 i39 i40 i41 i42 l43 l44
noncomputable def ids_Fill_0 : Nat → Int → Int → Int → D_ids_State → Int → Int → Int → Int → Int → (List D_ids_Own) → (List D_ids_Given) → Option (D_ids_State × Unit)
  | 0 => fun _ _ _ _ _ _ _ _ _ _ _ => none
  | m + 1 => t_ids_Fill_0 (ids_Fill_0 m)
noncomputable def b_ids_Fill_0' (i34 : Int) (i35 : Int) (i36 : Int) (d37 : D_ids_State) (i38 : Int) (i39 : Int) (i40 : Int) (i41 : Int) (i42 : Int) (l43 : (List D_ids_Own)) (l44 : (List D_ids_Given)) : Option (D_ids_State × Unit) := ids_Fill_0 (Int.toNat (i35 - i36) + 2) i34 i35 i36 d37 i38 i39 i40 i41 i42 l43 l44
theorem ex_ids_Fill_0' : ∃ f, f = @b_ids_Fill_0' := ⟨_, rfl⟩
noncomputable def ids_Fill_0' := Classical.choose ex_ids_Fill_0'
theorem ids_Fill_0'_eq : @ids_Fill_0' = @b_ids_Fill_0' := Classical.choose_spec ex_ids_Fill_0'
theorem s_ids_Fill_0 {base S0 cs0} (hfin : H_ids_Fill base S0) : ∀ m, J_ids_Fill base S0 cs0 p_ids_Fill_0 (u_ids_Fill_0 (ids_Fill_0 m)) :=
  JSound.loop' hfin.2 ks_ids_Fill 100000 u_ids_Fill_0 (fun k0 => x_ids_Fill_2 k0) (fun k0 h0 => o_ids_Fill_2 hfin k0 h0) (ids_Fill_0) (by intro x; rfl) (by intro m x; kernel_rfl)
theorem s_ids_Fill_0' {base S0 cs0} (hfin : H_ids_Fill base S0) : J_ids_Fill base S0 cs0 p_ids_Fill_0 (u_ids_Fill_0 (ids_Fill_0')) := by
  rw [ids_Fill_0'_eq]; exact fun x r hx => s_ids_Fill_0 hfin _ x r hx
noncomputable def x_ids_Fill_0 : Cfg → Option (Option (D_ids_State × Unit)) := cut p_ids_Fill_0 (u_ids_Fill_0 (ids_Fill_0')) (x_ids_Fill_3)
theorem o_ids_Fill_0 {base S0 cs0} (hfin : H_ids_Fill base S0) : O_ids_Fill base S0 cs0 (x_ids_Fill_0) := OSound.cut (o_ids_Fill_3 hfin) (Nat.le_of_eq hfin.1) (s_ids_Fill_0' hfin)
noncomputable def b_ids_Fill (a0 : D_ids_State) (a1 : Int) : Option (D_ids_State × Unit) :=
  obind (slices_Clone_ids_Own a0.2.2.2.1) fun y2 =>
  obind (slices_Clone_ids_Given a0.2.2.2.2.1) fun y3 =>
  let n4 : Int := (if ((4 : Int) < a1) then (4 : Int) else a1)
  let n5 : Int := (if (n4 > (2 : Int)) then n4 else (2 : Int))
  let n6 : Int := (((List.length y2) : Nat) : Int)
  ids_Fill_0' (0 : Int) n6 (0 : Int) ((0 : Int), ((0 : Int), ((0 : Int), (([] : List D_ids_Own), (([] : List D_ids_Given), ((0 : Int), ((0 : Int), ()))))))) a0.1 a0.2.1 n5 a0.2.2.2.2.2.1 a0.2.2.2.2.2.2.1 y2 y3
theorem ex_ids_Fill : ∃ f, f = @b_ids_Fill := ⟨_, rfl⟩
noncomputable def ids_Fill := Classical.choose ex_ids_Fill
theorem ids_Fill_eq : @ids_Fill = @b_ids_Fill := Classical.choose_spec ex_ids_Fill
noncomputable def cb_ids_Fill : Con := ⟨[T_ids_State, (.int .i64)], r_ids_Fill, fun x => b_ids_Fill x.1 x.2.1⟩
noncomputable def c_ids_Fill : Con := ⟨[T_ids_State, (.int .i64)], r_ids_Fill, fun x => ids_Fill x.1 x.2.1⟩
theorem cb_ids_Fill_ok : cb_ids_Fill.Sound prog Inv gInv 50 :=
  con_run (M := m_ids_Fill) inv_g (f := f50) rfl ks_ids_Fill 100000 (X := x_ids_Fill_0) (fun base S0 cs0 hn hf => have hfin : H_ids_Fill base S0 := ⟨hn, hf⟩; o_ids_Fill_0 hfin) (by intro x; kernel_rfl)
theorem c_ids_Fill_ok : c_ids_Fill.Sound prog Inv gInv 50 := by
  have e : c_ids_Fill = cb_ids_Fill := by unfold c_ids_Fill cb_ids_Fill; rw [ids_Fill_eq]
  rw [e]; exact cb_ids_Fill_ok
end Go.Proofs.YtjdjlijjolibkaaDoor.V
namespace Go.Proofs.YtjdjlijjolibkaaDoor.V
open Go.RowKit Go.Proofs.Tryd
set_option maxRecDepth 100000
set_option linter.unusedVariables false
noncomputable def m_ids_State_fresh_l1 : Mach prog Inv gInv := mach bas [(157, f157)] ⟨ok157, trivial⟩ [] trivial [] trivial [] trivial
/-! ### (*domino/ids.State).fresh$1 -/
@[reducible] def r_ids_State_fresh_l1 : List Ty := [.bool]
def ks_ids_State_fresh_l1 : List Nat := [157]
noncomputable def b_ids_State_fresh_l1 (a0 : D_ids_Given) : Option (Bool × Unit) :=
  let b1 : Bool := (!a0.2.2.2.1)
  bif b1 then
    let b2 : Bool := (!a0.2.2.2.2.1)
    some (b2, ())
  else
    some (false, ())
theorem ex_ids_State_fresh_l1 : ∃ f, f = @b_ids_State_fresh_l1 := ⟨_, rfl⟩
noncomputable def ids_State_fresh_l1 := Classical.choose ex_ids_State_fresh_l1
theorem ids_State_fresh_l1_eq : @ids_State_fresh_l1 = @b_ids_State_fresh_l1 := Classical.choose_spec ex_ids_State_fresh_l1
noncomputable def cb_ids_State_fresh_l1 : Con := ⟨[T_ids_Given], r_ids_State_fresh_l1, fun x => b_ids_State_fresh_l1 x.1⟩
noncomputable def c_ids_State_fresh_l1 : Con := ⟨[T_ids_Given], r_ids_State_fresh_l1, fun x => ids_State_fresh_l1 x.1⟩
theorem cb_ids_State_fresh_l1_ok : cb_ids_State_fresh_l1.Sound prog Inv gInv 157 :=
  con_run (M := m_ids_State_fresh_l1) inv_g (f := f157) rfl ks_ids_State_fresh_l1 100000 (X := nowhere) (fun base S0 cs0 hn hf => OSound.nowhere) (by intro x; kernel_rfl)
theorem c_ids_State_fresh_l1_ok : c_ids_State_fresh_l1.Sound prog Inv gInv 157 := by
  have e : c_ids_State_fresh_l1 = cb_ids_State_fresh_l1 := by unfold c_ids_State_fresh_l1 cb_ids_State_fresh_l1; rw [ids_State_fresh_l1_eq]
  rw [e]; exact cb_ids_State_fresh_l1_ok
end Go.Proofs.YtjdjlijjolibkaaDoor.V
namespace Go.Proofs.YtjdjlijjolibkaaDoor.V
open Go.RowKit Go.Proofs.Tryd
set_option maxRecDepth 100000
set_option linter.unusedVariables false
noncomputable def m_ids_Take : Mach prog Inv gInv := mach bas [(51, f51), (96, f96), (97, f97), (99, f99), (100, f100), (101, f101), (136, f136), (140, f140), (141, f141)] ⟨ok51, ok96, ok97, ok99, ok100, ok101, ok136, ok140, ok141, trivial⟩ [(157, c_ids_State_fresh_l1)] ⟨⟨c_ids_State_fresh_l1_ok, FnOk.callable ok157⟩, trivial⟩ [(137, c_slices_Clone_ids_Own), (138, c_slices_Clone_ids_Given)] ⟨⟨c_slices_Clone_ids_Own_ok, FnOk.callable ok137⟩, ⟨c_slices_Clone_ids_Given_ok, FnOk.callable ok138⟩, trivial⟩ [] trivial
/-! ### domino/ids.Take -/
@[reducible] def r_ids_Take : List Ty := [T_ids_State, (.int .i64)]
def ks_ids_Take : List Nat := [51, 96, 97, 99, 100, 101, 136, 140, 141]
abbrev H_ids_Take (base : Base) (S0 : Nat → Prop) := base.n = 0 ∧ FinOk (finR r_ids_Take) base S0 (Post r_ids_Take S0)
abbrev J_ids_Take (base : Base) (S0 : Nat → Prop) (cs0 : List Go.Frame) (p : CPat) (J : denC p → Option (denL r_ids_Take)) := JSound m_ids_Take base S0 cs0 (Post r_ids_Take S0) p J
abbrev O_ids_Take (base : Base) (S0 : Nat → Prop) (cs0 : List Go.Frame) (X : Cfg → Option (Option (denL r_ids_Take))) := OSound m_ids_Take base S0 cs0 (Post r_ids_Take S0) X
@[reducible] noncomputable def p_ids_Take_4 : CPat := ⟨⟨99, [1, 1, 1], none, [.any, .any, .any, .any, .bool], 25⟩, [⟨51, [1, 1, 1, 0, 0], (some 1), [.any, .ptr 0 0, .ptr 1 0, .any, .ptr 2 0, .int .i64], 22⟩], [.dat 89 T_ids_State, .dat 89 T_ids_State, .cells 89 [.int .u64, .int .i64, .int .i64, .all 3, .all 4, .int .u64, .int .u64], .row T_ids_Own, .row T_ids_Given], 0⟩
@[reducible] noncomputable def u_ids_Take_4 (k : Bool → Int → D_ids_State → D_ids_State → Int → Int → Int → Int → Int → (List D_ids_Own) → (List D_ids_Given) → Option (D_ids_State × Int × Unit)) : denC p_ids_Take_4 → Option (D_ids_State × Int × Unit) := fun x => k x.1.2.2.2.2.1 x.2.1.1.2.2.2.2.2.1 x.2.2.1 x.2.2.2.1 x.2.2.2.2.1.1 x.2.2.2.2.1.2.1 x.2.2.2.2.1.2.2.1 x.2.2.2.2.1.2.2.2.2.2.1 x.2.2.2.2.1.2.2.2.2.2.2.1 x.2.2.2.2.2.1 x.2.2.2.2.2.2.1
noncomputable def b_ids_Take_4 (b116 : Bool) (i117 : Int) (d118 : D_ids_State) (d119 : D_ids_State) (i120 : Int) (i121 : Int) (i122 : Int) (i123 : Int) (i124 : Int) (l125 : (List D_ids_Own)) (l126 : (List D_ids_Given)) : Option (D_ids_State × Int × Unit) :=
  let b127 : Bool := (!b116)
  bif b127 then
    some (d118, ((181 : Int), ()))
  else
    bif (decide (((0 : Int) ≤ i117) ∧ (i117 < (((List.length l126) : Nat) : Int)))) then
      let i128 : Nat := (Int.toNat i117)
      let b129 : Bool := (List.getD l126 i128 (Ty.dflt T_ids_Given)).2.2.2.2.1
      let b130 : Bool := (!b129)
      bif b130 then
        let l131 : (List D_ids_Given) := (List.set l126 i128 ((List.getD l126 i128 (Ty.dflt T_ids_Given)).1, ((List.getD l126 i128 (Ty.dflt T_ids_Given)).2.1, ((List.getD l126 i128 (Ty.dflt T_ids_Given)).2.2.1, ((List.getD l126 i128 (Ty.dflt T_ids_Given)).2.2.2.1, (true, ((List.getD l126 i128 (Ty.dflt T_ids_Given)).2.2.2.2.2.1, ())))))))
        let l132 : (List D_ids_Given) := (List.set l131 i128 ((List.getD l131 i128 (Ty.dflt T_ids_Given)).1, ((List.getD l131 i128 (Ty.dflt T_ids_Given)).2.1, ((List.getD l131 i128 (Ty.dflt T_ids_Given)).2.2.1, ((List.getD l131 i128 (Ty.dflt T_ids_Given)).2.2.2.1, ((List.getD l131 i128 (Ty.dflt T_ids_Given)).2.2.2.2.1, (true, ())))))))
        some ((i120, (i121, (i122, (l125, (l132, (i123, (i124, ()))))))), ((0 : Int), ()))
      else
        some ((i120, (i121, (i122, (l125, (l126, (i123, (i124, ()))))))), ((0 : Int), ()))
    else none
theorem ex_ids_Take_4 : ∃ f, f = @b_ids_Take_4 := ⟨_, rfl⟩
noncomputable def ids_Take_4 := Classical.choose ex_ids_Take_4
theorem ids_Take_4_eq : @ids_Take_4 = @b_ids_Take_4 := Classical.choose_spec ex_ids_Take_4
theorem s_ids_Take_4 {base S0 cs0} (hfin : H_ids_Take base S0) : J_ids_Take base S0 cs0 p_ids_Take_4 (u_ids_Take_4 (ids_Take_4)) :=
  JSound.join hfin.2 (OSound.nowhere) ks_ids_Take 100000 (by rw [ids_Take_4_eq]; intro x; kernel_rfl)
noncomputable def x_ids_Take_4 : Cfg → Option (Option (D_ids_State × Int × Unit)) := cut p_ids_Take_4 (u_ids_Take_4 (ids_Take_4)) (nowhere)
theorem o_ids_Take_4 {base S0 cs0} (hfin : H_ids_Take base S0) : O_ids_Take base S0 cs0 (x_ids_Take_4) := OSound.cut (OSound.nowhere) (Nat.le_of_eq hfin.1) (s_ids_Take_4 hfin)
@[reducible] noncomputable def p_ids_Take_3 : CPat := ⟨⟨101, [1, 0], (some 3), [.any, .any, .any, .any, .any, .any, .any, .any, .any, .int .i64], 3⟩, [⟨140, [1, 0], (some 4), [], 11⟩, ⟨99, [1, 0], (some 1), [.ptr 0 0], 29⟩, ⟨51, [1, 1, 1, 0, 0], (some 1), [.any, .ptr 1 0, .ptr 2 0, .any, .ptr 0 0, .int .i64], 22⟩], [.cells 89 [.int .u64, .int .i64, .int .i64, .all 3, .all 4, .int .u64, .int .u64], .dat 89 T_ids_State, .dat 89 T_ids_State, .row T_ids_Own, .row T_ids_Given], 0⟩
@[reducible] noncomputable def u_ids_Take_3 (k : Int → Int → Int → Int → Int → Int → Int → D_ids_State → D_ids_State → (List D_ids_Own) → (List D_ids_Given) → Option (D_ids_State × Int × Unit)) : denC p_ids_Take_3 → Option (D_ids_State × Int × Unit) := fun x => k x.1.2.2.2.2.2.2.2.2.2.1 x.2.1.2.2.1.2.2.2.2.2.1 x.2.2.1.1 x.2.2.1.2.1 x.2.2.1.2.2.1 x.2.2.1.2.2.2.2.2.1 x.2.2.1.2.2.2.2.2.2.1 x.2.2.2.1 x.2.2.2.2.1 x.2.2.2.2.2.1 x.2.2.2.2.2.2.1
noncomputable def b_ids_Take_3 (i99 : Int) (i100 : Int) (i101 : Int) (i102 : Int) (i103 : Int) (i104 : Int) (i105 : Int) (d106 : D_ids_State) (d107 : D_ids_State) (l108 : (List D_ids_Own)) (l109 : (List D_ids_Given)) : Option (D_ids_State × Int × Unit) :=
  let b110 : Bool := (decide (i99 ≥ (0 : Int)))
  bif b110 then
    bif (decide (((0 : Int) ≤ i99) ∧ (i99 < (((List.length l109) : Nat) : Int)))) then
      let i111 : Nat := (Int.toNat i99)
      let n112 : Int := (List.getD l109 i111 (Ty.dflt T_ids_Given)).1
      bif (decide (((0 : Int) ≤ i99) ∧ (i99 < (((List.length l109) : Nat) : Int)))) then
        let i113 : Nat := (Int.toNat i99)
        let l114 : (List D_ids_Given) := (List.set l109 i113 ((List.getD l109 i113 (Ty.dflt T_ids_Given)).1, ((List.getD l109 i113 (Ty.dflt T_ids_Given)).2.1, ((List.getD l109 i113 (Ty.dflt T_ids_Given)).2.2.1, (true, ((List.getD l109 i113 (Ty.dflt T_ids_Given)).2.2.2.2.1, ((List.getD l109 i113 (Ty.dflt T_ids_Given)).2.2.2.2.2.1, ())))))))
        ids_Take_4 b110 i100 d106 d107 i101 i102 i103 i104 n112 l108 l114
      else none
    else none
  else
    ids_Take_4 b110 i100 d106 d107 i101 i102 i103 i104 i105 l108 l109
theorem ex_ids_Take_3 : ∃ f, f = @b_ids_Take_3 := ⟨_, rfl⟩
noncomputable def ids_Take_3 := Classical.choose ex_ids_Take_3
theorem ids_Take_3_eq : @ids_Take_3 = @b_ids_Take_3 := Classical.choose_spec ex_ids_Take_3
theorem s_ids_Take_3 {base S0 cs0} (hfin : H_ids_Take base S0) : J_ids_Take base S0 cs0 p_ids_Take_3 (u_ids_Take_3 (ids_Take_3)) :=
  JSound.join hfin.2 (o_ids_Take_4 hfin) ks_ids_Take 100000 (by rw [ids_Take_3_eq]; intro x; kernel_rfl)
noncomputable def x_ids_Take_3 : Cfg → Option (Option (D_ids_State × Int × Unit)) := cut p_ids_Take_3 (u_ids_Take_3 (ids_Take_3)) (x_ids_Take_4)
theorem o_ids_Take_3 {base S0 cs0} (hfin : H_ids_Take base S0) : O_ids_Take base S0 cs0 (x_ids_Take_3) := OSound.cut (o_ids_Take_4 hfin) (Nat.le_of_eq hfin.1) (s_ids_Take_3 hfin)
@[reducible] noncomputable def p_ids_Take_2 : CPat := ⟨⟨141, [1, 0, 1, 0], none, [.all 0, .func 157 [] [], .any, .any, .any, .any, .any, .int .i64, .int .i64], 10⟩, [⟨101, [1, 0], (some 2), [], 13⟩, ⟨140, [1, 0], (some 4), [], 11⟩, ⟨99, [1, 0], (some 1), [.ptr 1 0], 29⟩, ⟨51, [1, 1, 1, 0, 0], (some 1), [.any, .ptr 2 0, .ptr 3 0, .any, .ptr 1 0, .int .i64], 22⟩], [.row T_ids_Given, .cells 89 [.int .u64, .int .i64, .int .i64, .all 4, .all 0, .int .u64, .int .u64], .dat 89 T_ids_State, .dat 89 T_ids_State, .row T_ids_Own], 0⟩
@[reducible] noncomputable def u_ids_Take_2 (k : Int → Int → Int → (List D_ids_Given) → Int → Int → Int → Int → Int → D_ids_State → D_ids_State → (List D_ids_Own) → Option (D_ids_State × Int × Unit)) : denC p_ids_Take_2 → Option (D_ids_State × Int × Unit) := fun x => k x.1.2.2.2.2.2.2.2.1 x.1.2.2.2.2.2.2.2.2.1 x.2.1.2.2.2.1.2.2.2.2.2.1 x.2.2.1 x.2.2.2.1.1 x.2.2.2.1.2.1 x.2.2.2.1.2.2.1 x.2.2.2.1.2.2.2.2.2.1 x.2.2.2.1.2.2.2.2.2.2.1 x.2.2.2.2.1 x.2.2.2.2.2.1 x.2.2.2.2.2.2.1
noncomputable def t_ids_Take_2 (k2 : Int → Int → Int → (List D_ids_Given) → Int → Int → Int → Int → Int → D_ids_State → D_ids_State → (List D_ids_Own) → Option (D_ids_State × Int × Unit)) (i76 : Int) (i77 : Int) (i78 : Int) (l79 : (List D_ids_Given)) (i80 : Int) (i81 : Int) (i82 : Int) (i83 : Int) (i84 : Int) (d85 : D_ids_State) (d86 : D_ids_State) (l87 : (List D_ids_Own)) : Option (D_ids_State × Int × Unit) :=
  let b88 : Bool := (decide (i77 < i76))
  bif b88 then
    bif (decide (((0 : Int) ≤ i77) ∧ (i77 < (((List.length l79) : Nat) : Int)))) then
      let i89 : Nat := (Int.toNat i77)
      let n90 : Int := (List.getD l79 i89 (Ty.dflt T_ids_Given)).1
      let s91 : ByteArray := (List.getD l79 i89 (Ty.dflt T_ids_Given)).2.1
      let s92 : ByteArray := (List.getD l79 i89 (Ty.dflt T_ids_Given)).2.2.1
      let b93 : Bool := (List.getD l79 i89 (Ty.dflt T_ids_Given)).2.2.2.1
      let b94 : Bool := (List.getD l79 i89 (Ty.dflt T_ids_Given)).2.2.2.2.1
      let b95 : Bool := (List.getD l79 i89 (Ty.dflt T_ids_Given)).2.2.2.2.2.1
      obind (ids_State_fresh_l1 (n90, (s91, (s92, (b93, (b94, (b95, ()))))))) fun y96 =>
      bif y96.1 then
        ids_Take_3 i77 i78 i80 i81 i82 i83 i84 d85 d86 l87 l79
      else
        let n97 : Int := (Go.IntKind.wrap Go.IntKind.i64 (i77 + (1 : Int)))
        k2 i76 n97 i78 l79 i80 i81 i82 i83 i84 d85 d86 l87
    else none
  else
    ids_Take_3 (-1 : Int) i78 i80 i81 i82 i83 i84 d85 d86 l87 l79
noncomputable def ids_Take_2 : Nat → Int → Int → Int → (List D_ids_Given) → Int → Int → Int → Int → Int → D_ids_State → D_ids_State → (List D_ids_Own) → Option (D_ids_State × Int × Unit)
  | 0 => fun _ _ _ _ _ _ _ _ _ _ _ _ => none
  | m + 1 => t_ids_Take_2 (ids_Take_2 m)
noncomputable def b_ids_Take_2' (i76 : Int) (i77 : Int) (i78 : Int) (l79 : (List D_ids_Given)) (i80 : Int) (i81 : Int) (i82 : Int) (i83 : Int) (i84 : Int) (d85 : D_ids_State) (d86 : D_ids_State) (l87 : (List D_ids_Own)) : Option (D_ids_State × Int × Unit) := ids_Take_2 (Int.toNat (i76 - i77) + 2) i76 i77 i78 l79 i80 i81 i82 i83 i84 d85 d86 l87
theorem ex_ids_Take_2' : ∃ f, f = @b_ids_Take_2' := ⟨_, rfl⟩
noncomputable def ids_Take_2' := Classical.choose ex_ids_Take_2'
theorem ids_Take_2'_eq : @ids_Take_2' = @b_ids_Take_2' := Classical.choose_spec ex_ids_Take_2'
theorem s_ids_Take_2 {base S0 cs0} (hfin : H_ids_Take base S0) : ∀ m, J_ids_Take base S0 cs0 p_ids_Take_2 (u_ids_Take_2 (ids_Take_2 m)) :=
  JSound.loop' hfin.2 ks_ids_Take 100000 u_ids_Take_2 (fun k2 => cut p_ids_Take_2 (u_ids_Take_2 k2) (x_ids_Take_3)) (fun k2 h2 => OSound.cut (o_ids_Take_3 hfin) (Nat.le_of_eq hfin.1) h2) (ids_Take_2) (by intro x; rfl) (by intro m x; kernel_rfl)
theorem s_ids_Take_2' {base S0 cs0} (hfin : H_ids_Take base S0) : J_ids_Take base S0 cs0 p_ids_Take_2 (u_ids_Take_2 (ids_Take_2')) := by
  rw [ids_Take_2'_eq]; exact fun x r hx => s_ids_Take_2 hfin _ x r hx
noncomputable def x_ids_Take_2 : Cfg → Option (Option (D_ids_State × Int × Unit)) := cut p_ids_Take_2 (u_ids_Take_2 (ids_Take_2')) (x_ids_Take_3)
theorem o_ids_Take_2 {base S0 cs0} (hfin : H_ids_Take base S0) : O_ids_Take base S0 cs0 (x_ids_Take_2) := OSound.cut (o_ids_Take_3 hfin) (Nat.le_of_eq hfin.1) (s_ids_Take_2' hfin)
@[reducible] noncomputable def p_ids_Take_1 : CPat := ⟨⟨101, [1, 0], (some 3), [.any, .any, .any, .any, .any, .any, .any, .any, .any, .int .i64], 3⟩, [⟨96, [1, 0], (some 5), [], 12⟩, ⟨51, [1, 1, 0], (some 1), [.any, .ptr 0 0, .ptr 1 0, .any, .ptr 2 0], 23⟩], [.dat 89 T_ids_State, .dat 89 T_ids_State, .cells 89 [.int .u64, .int .i64, .int .i64, .all 3, .all 4, .int .u64, .int .u64], .row T_ids_Own, .row T_ids_Given], 0⟩
@[reducible] noncomputable def u_ids_Take_1 (k : Int → D_ids_State → D_ids_State → Int → Int → Int → Int → Int → (List D_ids_Own) → (List D_ids_Given) → Option (D_ids_State × Int × Unit)) : denC p_ids_Take_1 → Option (D_ids_State × Int × Unit) := fun x => k x.1.2.2.2.2.2.2.2.2.2.1 x.2.2.1 x.2.2.2.1 x.2.2.2.2.1.1 x.2.2.2.2.1.2.1 x.2.2.2.2.1.2.2.1 x.2.2.2.2.1.2.2.2.2.2.1 x.2.2.2.2.1.2.2.2.2.2.2.1 x.2.2.2.2.2.1 x.2.2.2.2.2.2.1
noncomputable def b_ids_Take_1 (i45 : Int) (d46 : D_ids_State) (d47 : D_ids_State) (i48 : Int) (i49 : Int) (i50 : Int) (i51 : Int) (i52 : Int) (l53 : (List D_ids_Own)) (l54 : (List D_ids_Given)) : Option (D_ids_State × Int × Unit) :=
  let b55 : Bool := (decide (i45 ≥ (0 : Int)))
  let n56 : Int := (((List.length l54) : Nat) : Int)
  ids_Take_2' n56 (0 : Int) i45 l54 i48 i49 i50 i51 i52 d46 d47 l53
theorem ex_ids_Take_1 : ∃ f, f = @b_ids_Take_1 := ⟨_, rfl⟩
noncomputable def ids_Take_1 := Classical.choose ex_ids_Take_1
theorem ids_Take_1_eq : @ids_Take_1 = @b_ids_Take_1 := Classical.choose_spec ex_ids_Take_1
theorem s_ids_Take_1 {base S0 cs0} (hfin : H_ids_Take base S0) : J_ids_Take base S0 cs0 p_ids_Take_1 (u_ids_Take_1 (ids_Take_1)) :=
  JSound.join hfin.2 (o_ids_Take_2 hfin) ks_ids_Take 100000 (by rw [ids_Take_1_eq]; intro x; kernel_rfl)
noncomputable def x_ids_Take_1 : Cfg → Option (Option (D_ids_State × Int × Unit)) := cut p_ids_Take_1 (u_ids_Take_1 (ids_Take_1)) (x_ids_Take_2)
theorem o_ids_Take_1 {base S0 cs0} (hfin : H_ids_Take base S0) : O_ids_Take base S0 cs0 (x_ids_Take_1) := OSound.cut (o_ids_Take_2 hfin) (Nat.le_of_eq hfin.1) (s_ids_Take_1 hfin)
@[reducible] noncomputable def p_ids_Take_0 : CPat := ⟨⟨141, [1, 0, 1, 0], none, [.all 0, .func 136 [] [.ptr 1 0], .any, .any, .any, .any, .any, .int .i64, .int .i64], 10⟩, [⟨101, [1, 0], (some 2), [], 13⟩, ⟨96, [1, 0], (some 5), [], 12⟩, ⟨51, [1, 1, 0], (some 1), [.any, .ptr 2 0, .ptr 3 0, .any, .ptr 4 0], 23⟩], [.row T_ids_Given, .cells 167 [.ptr 4 0], .dat 89 T_ids_State, .dat 89 T_ids_State, .cells 89 [.int .u64, .int .i64, .int .i64, .all 5, .all 0, .int .u64, .int .u64], .row T_ids_Own], 0⟩
@[reducible] noncomputable def u_ids_Take_0 (k : Int → Int → (List D_ids_Given) → D_ids_State → D_ids_State → Int → Int → Int → Int → Int → (List D_ids_Own) → Option (D_ids_State × Int × Unit)) : denC p_ids_Take_0 → Option (D_ids_State × Int × Unit) := fun x => k x.1.2.2.2.2.2.2.2.1 x.1.2.2.2.2.2.2.2.2.1 x.2.2.1 x.2.2.2.2.1 x.2.2.2.2.2.1 x.2.2.2.2.2.2.1.1 x.2.2.2.2.2.2.1.2.1 x.2.2.2.2.2.2.1.2.2.1 x.2.2.2.2.2.2.1.2.2.2.2.2.1 x.2.2.2.2.2.2.1.2.2.2.2.2.2.1 x.2.2.2.2.2.2.2.1
noncomputable def t_ids_Take_0 (k0 : Int → Int → (List D_ids_Given) → D_ids_State → D_ids_State → Int → Int → Int → Int → Int → (List D_ids_Own) → Option (D_ids_State × Int × Unit)) (i22 : Int) (i23 : Int) (l24 : (List D_ids_Given)) (d25 : D_ids_State) (d26 : D_ids_State) (i27 : Int) (i28 : Int) (i29 : Int) (i30 : Int) (i31 : Int) (l32 : (List D_ids_Own)) : Option (D_ids_State × Int × Unit) :=
  let b33 : Bool := (decide (i23 < i22))
  bif b33 then
    bif (decide (((0 : Int) ≤ i23) ∧ (i23 < (((List.length l24) : Nat) : Int)))) then
      let i34 : Nat := (Int.toNat i23)
      let n35 : Int := (List.getD l24 i34 (Ty.dflt T_ids_Given)).1
      let s36 : ByteArray := (List.getD l24 i34 (Ty.dflt T_ids_Given)).2.1
      let s37 : ByteArray := (List.getD l24 i34 (Ty.dflt T_ids_Given)).2.2.1
      let b38 : Bool := (List.getD l24 i34 (Ty.dflt T_ids_Given)).2.2.2.1
      let b39 : Bool := (List.getD l24 i34 (Ty.dflt T_ids_Given)).2.2.2.2.1
      let b40 : Bool := (List.getD l24 i34 (Ty.dflt T_ids_Given)).2.2.2.2.2.1
      let b41 : Bool := (n35 == i31)
      bif b41 then
        ids_Take_1 i23 d25 d26 i27 i28 i29 i30 i31 l32 l24
      else
        let n42 : Int := (Go.IntKind.wrap Go.IntKind.i64 (i23 + (1 : Int)))
        k0 i22 n42 l24 d25 d26 i27 i28 i29 i30 i31 l32
    else none
  else
    ids_Take_1 (-1 : Int) d25 d26 i27 i28 i29 i30 i31 l32 l24
noncomputable def ids_Take_0 : Nat → Int → Int → (List D_ids_Given) → D_ids_State → D_ids_State → Int → Int → Int → Int → Int → (List D_ids_Own) → Option (D_ids_State × Int × Unit)
  | 0 => fun _ _ _ _ _ _ _ _ _ _ _ => none
  | m + 1 => t_ids_Take_0 (ids_Take_0 m)
noncomputable def b_ids_Take_0' (i22 : Int) (i23 : Int) (l24 : (List D_ids_Given)) (d25 : D_ids_State) (d26 : D_ids_State) (i27 : Int) (i28 : Int) (i29 : Int) (i30 : Int) (i31 : Int) (l32 : (List D_ids_Own)) : Option (D_ids_State × Int × Unit) := ids_Take_0 (Int.toNat (i22 - i23) + 2) i22 i23 l24 d25 d26 i27 i28 i29 i30 i31 l32
theorem ex_ids_Take_0' : ∃ f, f = @b_ids_Take_0' := ⟨_, rfl⟩
noncomputable def ids_Take_0' := Classical.choose ex_ids_Take_0'
theorem ids_Take_0'_eq : @ids_Take_0' = @b_ids_Take_0' := Classical.choose_spec ex_ids_Take_0'
theorem s_ids_Take_0 {base S0 cs0} (hfin : H_ids_Take base S0) : ∀ m, J_ids_Take base S0 cs0 p_ids_Take_0 (u_ids_Take_0 (ids_Take_0 m)) :=
  JSound.loop' hfin.2 ks_ids_Take 100000 u_ids_Take_0 (fun k0 => cut p_ids_Take_0 (u_ids_Take_0 k0) (x_ids_Take_1)) (fun k0 h0 => OSound.cut (o_ids_Take_1 hfin) (Nat.le_of_eq hfin.1) h0) (ids_Take_0) (by intro x; rfl) (by intro m x; kernel_rfl)
theorem s_ids_Take_0' {base S0 cs0} (hfin : H_ids_Take base S0) : J_ids_Take base S0 cs0 p_ids_Take_0 (u_ids_Take_0 (ids_Take_0')) := by
  rw [ids_Take_0'_eq]; exact fun x r hx => s_ids_Take_0 hfin _ x r hx
noncomputable def x_ids_Take_0 : Cfg → Option (Option (D_ids_State × Int × Unit)) := cut p_ids_Take_0 (u_ids_Take_0 (ids_Take_0')) (x_ids_Take_1)
theorem o_ids_Take_0 {base S0 cs0} (hfin : H_ids_Take base S0) : O_ids_Take base S0 cs0 (x_ids_Take_0) := OSound.cut (o_ids_Take_1 hfin) (Nat.le_of_eq hfin.1) (s_ids_Take_0' hfin)
noncomputable def b_ids_Take (a0 : D_ids_State) : Option (D_ids_State × Int × Unit) :=
  obind (slices_Clone_ids_Own a0.2.2.2.1) fun y1 =>
  obind (slices_Clone_ids_Given a0.2.2.2.2.1) fun y2 =>
  let n3 : Int := (((List.length y2) : Nat) : Int)
  ids_Take_0' n3 (0 : Int) y2 a0 ((0 : Int), ((0 : Int), ((0 : Int), (([] : List D_ids_Own), (([] : List D_ids_Given), ((0 : Int), ((0 : Int), ()))))))) a0.1 a0.2.1 a0.2.2.1 a0.2.2.2.2.2.1 a0.2.2.2.2.2.2.1 y1
theorem ex_ids_Take : ∃ f, f = @b_ids_Take := ⟨_, rfl⟩
noncomputable def ids_Take := Classical.choose ex_ids_Take
theorem ids_Take_eq : @ids_Take = @b_ids_Take := Classical.choose_spec ex_ids_Take
noncomputable def cb_ids_Take : Con := ⟨[T_ids_State], r_ids_Take, fun x => b_ids_Take x.1⟩
noncomputable def c_ids_Take : Con := ⟨[T_ids_State], r_ids_Take, fun x => ids_Take x.1⟩
theorem cb_ids_Take_ok : cb_ids_Take.Sound prog Inv gInv 51 :=
  con_run (M := m_ids_Take) inv_g (f := f51) rfl ks_ids_Take 100000 (X := x_ids_Take_0) (fun base S0 cs0 hn hf => have hfin : H_ids_Take base S0 := ⟨hn, hf⟩; o_ids_Take_0 hfin) (by intro x; kernel_rfl)
theorem c_ids_Take_ok : c_ids_Take.Sound prog Inv gInv 51 := by
  have e : c_ids_Take = cb_ids_Take := by unfold c_ids_Take cb_ids_Take; rw [ids_Take_eq]
  rw [e]; exact cb_ids_Take_ok
end Go.Proofs.YtjdjlijjolibkaaDoor.V
namespace Go.Proofs.YtjdjlijjolibkaaDoor.V
open Go.RowKit Go.Proofs.Tryd
set_option maxRecDepth 100000
set_option linter.unusedVariables false
noncomputable def m_ids_Next_l1 : Mach prog Inv gInv := mach bas [(102, f102)] ⟨ok102, trivial⟩ [] trivial [] trivial [] trivial
/-! ### domino/ids.Next$1 -/
@[reducible] def r_ids_Next_l1 : List Ty := [.bool]
def ks_ids_Next_l1 : List Nat := [102]
noncomputable def b_ids_Next_l1 (a0 : D_ids_Given) : Option (Bool × Unit) :=
  some a0.2.2.2.2.2
theorem ex_ids_Next_l1 : ∃ f, f = @b_ids_Next_l1 := ⟨_, rfl⟩
noncomputable def ids_Next_l1 := Classical.choose ex_ids_Next_l1
theorem ids_Next_l1_eq : @ids_Next_l1 = @b_ids_Next_l1 := Classical.choose_spec ex_ids_Next_l1
noncomputable def cb_ids_Next_l1 : Con := ⟨[T_ids_Given], r_ids_Next_l1, fun x => b_ids_Next_l1 x.1⟩
noncomputable def c_ids_Next_l1 : Con := ⟨[T_ids_Given], r_ids_Next_l1, fun x => ids_Next_l1 x.1⟩
theorem cb_ids_Next_l1_ok : cb_ids_Next_l1.Sound prog Inv gInv 102 :=
  con_run (M := m_ids_Next_l1) inv_g (f := f102) rfl ks_ids_Next_l1 100000 (X := nowhere) (fun base S0 cs0 hn hf => OSound.nowhere) (by intro x; kernel_rfl)
theorem c_ids_Next_l1_ok : c_ids_Next_l1.Sound prog Inv gInv 102 := by
  have e : c_ids_Next_l1 = cb_ids_Next_l1 := by unfold c_ids_Next_l1 cb_ids_Next_l1; rw [ids_Next_l1_eq]
  rw [e]; exact cb_ids_Next_l1_ok
end Go.Proofs.YtjdjlijjolibkaaDoor.V
namespace Go.Proofs.YtjdjlijjolibkaaDoor.V
open Go.RowKit Go.Proofs.Tryd
set_option maxRecDepth 100000
set_option linter.unusedVariables false
noncomputable def m_ids_fits : Mach prog Inv gInv := mach bas [(103, f103)] ⟨ok103, trivial⟩ [(31, c_frame_Put)] ⟨⟨c_frame_Put_ok, FnOk.callable ok31⟩, trivial⟩ [] trivial [] trivial
/-! ### domino/ids.fits -/
@[reducible] def r_ids_fits : List Ty := [.bool]
def ks_ids_fits : List Nat := [103]
noncomputable def b_ids_fits (a0 : D_frame_Frame) (a1 : Int) : Option (Bool × Unit) :=
  obind (frame_Put a0) fun y2 =>
  let b3 : Bool := (y2.2.1 == (0 : Int))
  bif b3 then
    let n4 : Int := (((ByteArray.size y2.1) : Nat) : Int)
    let b5 : Bool := (decide (n4 ≤ a1))
    some (b5, ())
  else
    some (false, ())
theorem ex_ids_fits : ∃ f, f = @b_ids_fits := ⟨_, rfl⟩
noncomputable def ids_fits := Classical.choose ex_ids_fits
theorem ids_fits_eq : @ids_fits = @b_ids_fits := Classical.choose_spec ex_ids_fits
noncomputable def cb_ids_fits : Con := ⟨[T_frame_Frame, (.int .i64)], r_ids_fits, fun x => b_ids_fits x.1 x.2.1⟩
noncomputable def c_ids_fits : Con := ⟨[T_frame_Frame, (.int .i64)], r_ids_fits, fun x => ids_fits x.1 x.2.1⟩
theorem cb_ids_fits_ok : cb_ids_fits.Sound prog Inv gInv 103 :=
  con_run (M := m_ids_fits) inv_g (f := f103) rfl ks_ids_fits 100000 (X := nowhere) (fun base S0 cs0 hn hf => OSound.nowhere) (by intro x; kernel_rfl)
theorem c_ids_fits_ok : c_ids_fits.Sound prog Inv gInv 103 := by
  have e : c_ids_fits = cb_ids_fits := by unfold c_ids_fits cb_ids_fits; rw [ids_fits_eq]
  rw [e]; exact cb_ids_fits_ok
end Go.Proofs.YtjdjlijjolibkaaDoor.V
namespace Go.Proofs.YtjdjlijjolibkaaDoor.V
open Go.RowKit Go.Proofs.Tryd
set_option maxRecDepth 100000
set_option linter.unusedVariables false
noncomputable def m_ids_Next_l2 : Mach prog Inv gInv := mach bas [(105, f105)] ⟨ok105, trivial⟩ [] trivial [] trivial [] trivial
/-! ### domino/ids.Next$2 -/
@[reducible] def r_ids_Next_l2 : List Ty := [.bool]
def ks_ids_Next_l2 : List Nat := [105]
noncomputable def b_ids_Next_l2 (a0 : D_ids_Own) : Option (Bool × Unit) :=
  some (a0.2.2.2.1, ())
theorem ex_ids_Next_l2 : ∃ f, f = @b_ids_Next_l2 := ⟨_, rfl⟩
noncomputable def ids_Next_l2 := Classical.choose ex_ids_Next_l2
theorem ids_Next_l2_eq : @ids_Next_l2 = @b_ids_Next_l2 := Classical.choose_spec ex_ids_Next_l2
noncomputable def cb_ids_Next_l2 : Con := ⟨[T_ids_Own], r_ids_Next_l2, fun x => b_ids_Next_l2 x.1⟩
noncomputable def c_ids_Next_l2 : Con := ⟨[T_ids_Own], r_ids_Next_l2, fun x => ids_Next_l2 x.1⟩
theorem cb_ids_Next_l2_ok : cb_ids_Next_l2.Sound prog Inv gInv 105 :=
  con_run (M := m_ids_Next_l2) inv_g (f := f105) rfl ks_ids_Next_l2 100000 (X := nowhere) (fun base S0 cs0 hn hf => OSound.nowhere) (by intro x; kernel_rfl)
theorem c_ids_Next_l2_ok : c_ids_Next_l2.Sound prog Inv gInv 105 := by
  have e : c_ids_Next_l2 = cb_ids_Next_l2 := by unfold c_ids_Next_l2 cb_ids_Next_l2; rw [ids_Next_l2_eq]
  rw [e]; exact cb_ids_Next_l2_ok
end Go.Proofs.YtjdjlijjolibkaaDoor.V
namespace Go.Proofs.YtjdjlijjolibkaaDoor.V
open Go.RowKit Go.Proofs.Tryd
set_option maxRecDepth 100000
set_option linter.unusedVariables false
noncomputable def m_ids_Next : Mach prog Inv gInv := mach bas [(52, f52), (97, f97), (101, f101), (104, f104), (141, f141), (142, f142)] ⟨ok52, ok97, ok101, ok104, ok141, ok142, trivial⟩ [(102, c_ids_Next_l1), (103, c_ids_fits), (105, c_ids_Next_l2)] ⟨⟨c_ids_Next_l1_ok, FnOk.callable ok102⟩, ⟨c_ids_fits_ok, FnOk.callable ok103⟩, ⟨c_ids_Next_l2_ok, FnOk.callable ok105⟩, trivial⟩ [(137, c_slices_Clone_ids_Own), (138, c_slices_Clone_ids_Given)] ⟨⟨c_slices_Clone_ids_Own_ok, FnOk.callable ok137⟩, ⟨c_slices_Clone_ids_Given_ok, FnOk.callable ok138⟩, trivial⟩ [] trivial
/-! ### domino/ids.Next -/
@[reducible] def r_ids_Next : List Ty := [T_ids_State, T_frame_Frame, .bool]
def ks_ids_Next : List Nat := [52, 97, 101, 104, 141, 142]
abbrev H_ids_Next (base : Base) (S0 : Nat → Prop) := base.n = 0 ∧ FinOk (finR r_ids_Next) base S0 (Post r_ids_Next S0)
abbrev J_ids_Next (base : Base) (S0 : Nat → Prop) (cs0 : List Go.Frame) (p : CPat) (J : denC p → Option (denL r_ids_Next)) := JSound m_ids_Next base S0 cs0 (Post r_ids_Next S0) p J
abbrev O_ids_Next (base : Base) (S0 : Nat → Prop) (cs0 : List Go.Frame) (X : Cfg → Option (Option (denL r_ids_Next))) := OSound m_ids_Next base S0 cs0 (Post r_ids_Next S0) X
@[reducible] noncomputable def p_ids_Next_4 : CPat := ⟨⟨104, [1, 0], (some 3), [.any, .any, .any, .any, .any, .any, .any, .any, .any, .int .i64], 3⟩, [⟨52, [1, 1, 1, 0, 0], (some 4), [.any, .int .i64, .ptr 0 0, .any, .ptr 1 0, .ptr 2 0, .any, .ptr 3 0], 81⟩], [.dat 89 T_ids_State, .dat 89 T_ids_State, .dat 34 T_frame_Frame, .cells 89 [.int .u64, .int .i64, .int .i64, .all 4, .all 5, .int .u64, .int .u64], .row T_ids_Own, .row T_ids_Given], 0⟩
@[reducible] noncomputable def u_ids_Next_4 (k : Int → Int → D_ids_State → D_ids_State → D_frame_Frame → Int → Int → Int → Int → Int → (List D_ids_Own) → (List D_ids_Given) → Option (D_ids_State × D_frame_Frame × Bool × Unit)) : denC p_ids_Next_4 → Option (D_ids_State × D_frame_Frame × Bool × Unit) := fun x => k x.1.2.2.2.2.2.2.2.2.2.1 x.2.1.1.2.1 x.2.2.1 x.2.2.2.1 x.2.2.2.2.1 x.2.2.2.2.2.1.1 x.2.2.2.2.2.1.2.1 x.2.2.2.2.2.1.2.2.1 x.2.2.2.2.2.1.2.2.2.2.2.1 x.2.2.2.2.2.1.2.2.2.2.2.2.1 x.2.2.2.2.2.2.1 x.2.2.2.2.2.2.2.1
noncomputable def b_ids_Next_4 (i125 : Int) (i126 : Int) (d127 : D_ids_State) (d128 : D_ids_State) (d129 : D_frame_Frame) (i130 : Int) (i131 : Int) (i132 : Int) (i133 : Int) (i134 : Int) (l135 : (List D_ids_Own)) (l136 : (List D_ids_Given)) : Option (D_ids_State × D_frame_Frame × Bool × Unit) :=
  let b137 : Bool := (decide (i125 ≥ (0 : Int)))
  bif b137 then
    bif (decide (((0 : Int) ≤ i125) ∧ (i125 < (((List.length l135) : Nat) : Int)))) then
      let i138 : Nat := (Int.toNat i125)
      let n139 : Int := (List.getD l135 i138 (Ty.dflt T_ids_Own)).1
      let s140 : ByteArray := (List.getD l135 i138 (Ty.dflt T_ids_Own)).2.1
      let s141 : ByteArray := (List.getD l135 i138 (Ty.dflt T_ids_Own)).2.2.1
      let s142 : ByteArray := (ByteArray.mk (List.toArray ([] : List UInt8)))
      let s143 : ByteArray := (ByteArray.mk (List.toArray ([] : List UInt8)))
      obind (ids_fits ((24 : Int), ((0 : Int), ((0 : Int), ((0 : Int), ((0 : Int), (n139, ((0 : Int), ((0 : Int), (false, (s142, (s140, (s141, (([] : List D_ranges_Range), ()))))))))))))) i126) fun y144 =>
      bif y144.1 then
        let l145 : (List D_ids_Own) := (List.set l135 i138 ((List.getD l135 i138 (Ty.dflt T_ids_Own)).1, ((List.getD l135 i138 (Ty.dflt T_ids_Own)).2.1, ((List.getD l135 i138 (Ty.dflt T_ids_Own)).2.2.1, (false, ((List.getD l135 i138 (Ty.dflt T_ids_Own)).2.2.2.2.1, ()))))))
        some ((i130, (i131, (i132, (l145, (l136, (i133, (i134, ()))))))), (((24 : Int), ((0 : Int), ((0 : Int), ((0 : Int), ((0 : Int), (n139, ((0 : Int), ((0 : Int), (false, (s142, (s140, (s141, (([] : List D_ranges_Range), ()))))))))))))), (true, ())))
      else
        let s148 : ByteArray := (ByteArray.mk (List.toArray ([] : List UInt8)))
        some (d127, (((0 : Int), ((0 : Int), ((0 : Int), ((0 : Int), ((0 : Int), ((0 : Int), ((0 : Int), ((0 : Int), (false, (s148, (s148, (s148, (([] : List D_ranges_Range), ()))))))))))))), (false, ())))
    else none
  else
    let s147 : ByteArray := (ByteArray.mk (List.toArray ([] : List UInt8)))
    some (d127, (((0 : Int), ((0 : Int), ((0 : Int), ((0 : Int), ((0 : Int), ((0 : Int), ((0 : Int), ((0 : Int), (false, (s147, (s147, (s147, (([] : List D_ranges_Range), ()))))))))))))), (false, ())))
theorem ex_ids_Next_4 : ∃ f, f = @b_ids_Next_4 := ⟨_, rfl⟩
noncomputable def ids_Next_4 := Classical.choose ex_ids_Next_4
theorem ids_Next_4_eq : @ids_Next_4 = @b_ids_Next_4 := Classical.choose_spec ex_ids_Next_4
theorem s_ids_Next_4 {base S0 cs0} (hfin : H_ids_Next base S0) : J_ids_Next base S0 cs0 p_ids_Next_4 (u_ids_Next_4 (ids_Next_4)) :=
  JSound.join hfin.2 (OSound.nowhere) ks_ids_Next 100000 (by rw [ids_Next_4_eq]; intro x; kernel_rfl)
noncomputable def x_ids_Next_4 : Cfg → Option (Option (D_ids_State × D_frame_Frame × Bool × Unit)) := cut p_ids_Next_4 (u_ids_Next_4 (ids_Next_4)) (nowhere)
theorem o_ids_Next_4 {base S0 cs0} (hfin : H_ids_Next base S0) : O_ids_Next base S0 cs0 (x_ids_Next_4) := OSound.cut (OSound.nowhere) (Nat.le_of_eq hfin.1) (s_ids_Next_4 hfin)
@[reducible] noncomputable def p_ids_Next_3 : CPat := ⟨⟨142, [1, 0, 1, 0], none, [.all 0, .func 105 [] [], .any, .any, .any, .any, .any, .int .i64, .int .i64], 10⟩, [⟨104, [1, 0], (some 2), [], 13⟩, ⟨52, [1, 1, 1, 0, 0], (some 4), [.any, .int .i64, .ptr 1 0, .any, .ptr 2 0, .ptr 3 0, .any, .ptr 4 0], 81⟩], [.row T_ids_Own, .dat 89 T_ids_State, .dat 89 T_ids_State, .dat 34 T_frame_Frame, .cells 89 [.int .u64, .int .i64, .int .i64, .all 0, .all 5, .int .u64, .int .u64], .row T_ids_Given], 0⟩
@[reducible] noncomputable def u_ids_Next_3 (k : Int → Int → Int → (List D_ids_Own) → D_ids_State → D_ids_State → D_frame_Frame → Int → Int → Int → Int → Int → (List D_ids_Given) → Option (D_ids_State × D_frame_Frame × Bool × Unit)) : denC p_ids_Next_3 → Option (D_ids_State × D_frame_Frame × Bool × Unit) := fun x => k x.1.2.2.2.2.2.2.2.1 x.1.2.2.2.2.2.2.2.2.1 x.2.1.2.1.2.1 x.2.2.1 x.2.2.2.1 x.2.2.2.2.1 x.2.2.2.2.2.1 x.2.2.2.2.2.2.1.1 x.2.2.2.2.2.2.1.2.1 x.2.2.2.2.2.2.1.2.2.1 x.2.2.2.2.2.2.1.2.2.2.2.2.1 x.2.2.2.2.2.2.1.2.2.2.2.2.2.1 x.2.2.2.2.2.2.2.1
noncomputable def t_ids_Next_3 (k3 : Int → Int → Int → (List D_ids_Own) → D_ids_State → D_ids_State → D_frame_Frame → Int → Int → Int → Int → Int → (List D_ids_Given) → Option (D_ids_State × D_frame_Frame × Bool × Unit)) (i102 : Int) (i103 : Int) (i104 : Int) (l105 : (List D_ids_Own)) (d106 : D_ids_State) (d107 : D_ids_State) (d108 : D_frame_Frame) (i109 : Int) (i110 : Int) (i111 : Int) (i112 : Int) (i113 : Int) (l114 : (List D_ids_Given)) : Option (D_ids_State × D_frame_Frame × Bool × Unit) :=
  let b115 : Bool := (decide (i103 < i102))
  bif b115 then
    bif (decide (((0 : Int) ≤ i103) ∧ (i103 < (((List.length l105) : Nat) : Int)))) then
      let i116 : Nat := (Int.toNat i103)
      let n117 : Int := (List.getD l105 i116 (Ty.dflt T_ids_Own)).1
      let s118 : ByteArray := (List.getD l105 i116 (Ty.dflt T_ids_Own)).2.1
      let s119 : ByteArray := (List.getD l105 i116 (Ty.dflt T_ids_Own)).2.2.1
      let b120 : Bool := (List.getD l105 i116 (Ty.dflt T_ids_Own)).2.2.2.1
      let b121 : Bool := (List.getD l105 i116 (Ty.dflt T_ids_Own)).2.2.2.2.1
      obind (ids_Next_l2 (n117, (s118, (s119, (b120, (b121, ())))))) fun y122 =>
      bif y122.1 then
        ids_Next_4 i103 i104 d106 d107 d108 i109 i110 i111 i112 i113 l105 l114
      else
        let n123 : Int := (Go.IntKind.wrap Go.IntKind.i64 (i103 + (1 : Int)))
        k3 i102 n123 i104 l105 d106 d107 d108 i109 i110 i111 i112 i113 l114
    else none
  else
    ids_Next_4 (-1 : Int) i104 d106 d107 d108 i109 i110 i111 i112 i113 l105 l114
noncomputable def ids_Next_3 : Nat → Int → Int → Int → (List D_ids_Own) → D_ids_State → D_ids_State → D_frame_Frame → Int → Int → Int → Int → Int → (List D_ids_Given) → Option (D_ids_State × D_frame_Frame × Bool × Unit)
  | 0 => fun _ _ _ _ _ _ _ _ _ _ _ _ _ => none
  | m + 1 => t_ids_Next_3 (ids_Next_3 m)
noncomputable def b_ids_Next_3' (i102 : Int) (i103 : Int) (i104 : Int) (l105 : (List D_ids_Own)) (d106 : D_ids_State) (d107 : D_ids_State) (d108 : D_frame_Frame) (i109 : Int) (i110 : Int) (i111 : Int) (i112 : Int) (i113 : Int) (l114 : (List D_ids_Given)) : Option (D_ids_State × D_frame_Frame × Bool × Unit) := ids_Next_3 (Int.toNat (i102 - i103) + 2) i102 i103 i104 l105 d106 d107 d108 i109 i110 i111 i112 i113 l114
theorem ex_ids_Next_3' : ∃ f, f = @b_ids_Next_3' := ⟨_, rfl⟩
noncomputable def ids_Next_3' := Classical.choose ex_ids_Next_3'
theorem ids_Next_3'_eq : @ids_Next_3' = @b_ids_Next_3' := Classical.choose_spec ex_ids_Next_3'
theorem s_ids_Next_3 {base S0 cs0} (hfin : H_ids_Next base S0) : ∀ m, J_ids_Next base S0 cs0 p_ids_Next_3 (u_ids_Next_3 (ids_Next_3 m)) :=
  JSound.loop' hfin.2 ks_ids_Next 100000 u_ids_Next_3 (fun k3 => cut p_ids_Next_3 (u_ids_Next_3 k3) (x_ids_Next_4)) (fun k3 h3 => OSound.cut (o_ids_Next_4 hfin) (Nat.le_of_eq hfin.1) h3) (ids_Next_3) (by intro x; rfl) (by intro m x; kernel_rfl)
theorem s_ids_Next_3' {base S0 cs0} (hfin : H_ids_Next base S0) : J_ids_Next base S0 cs0 p_ids_Next_3 (u_ids_Next_3 (ids_Next_3')) := by
  rw [ids_Next_3'_eq]; exact fun x r hx => s_ids_Next_3 hfin _ x r hx
noncomputable def x_ids_Next_3 : Cfg → Option (Option (D_ids_State × D_frame_Frame × Bool × Unit)) := cut p_ids_Next_3 (u_ids_Next_3 (ids_Next_3')) (x_ids_Next_4)
theorem o_ids_Next_3 {base S0 cs0} (hfin : H_ids_Next base S0) : O_ids_Next base S0 cs0 (x_ids_Next_3) := OSound.cut (o_ids_Next_4 hfin) (Nat.le_of_eq hfin.1) (s_ids_Next_3' hfin)
@[reducible] noncomputable def p_ids_Next_2 : CPat := ⟨⟨52, [1, 1, 1], none, [.any, .int .i64, .ptr 0 0, .any, .ptr 1 0, .ptr 2 0, .any, .ptr 3 0], 81⟩, [], [.dat 89 T_ids_State, .dat 89 T_ids_State, .dat 34 T_frame_Frame, .cells 89 [.int .u64, .int .i64, .int .i64, .all 4, .all 5, .int .u64, .int .u64], .row T_ids_Own, .row T_ids_Given], 0⟩
@[reducible] noncomputable def u_ids_Next_2 (k : Int → D_ids_State → D_ids_State → D_frame_Frame → Int → Int → Int → Int → Int → (List D_ids_Own) → (List D_ids_Given) → Option (D_ids_State × D_frame_Frame × Bool × Unit)) : denC p_ids_Next_2 → Option (D_ids_State × D_frame_Frame × Bool × Unit) := fun x => k x.1.2.1 x.2.2.1 x.2.2.2.1 x.2.2.2.2.1 x.2.2.2.2.2.1.1 x.2.2.2.2.2.1.2.1 x.2.2.2.2.2.1.2.2.1 x.2.2.2.2.2.1.2.2.2.2.2.1 x.2.2.2.2.2.1.2.2.2.2.2.2.1 x.2.2.2.2.2.2.1 x.2.2.2.2.2.2.2.1
noncomputable def b_ids_Next_2 (i71 : Int) (d72 : D_ids_State) (d73 : D_ids_State) (d74 : D_frame_Frame) (i75 : Int) (i76 : Int) (i77 : Int) (i78 : Int) (i79 : Int) (l80 : (List D_ids_Own)) (l81 : (List D_ids_Given)) : Option (D_ids_State × D_frame_Frame × Bool × Unit) :=
  let n82 : Int := (((List.length l80) : Nat) : Int)
  ids_Next_3' n82 (0 : Int) i71 l80 d72 d73 d74 i75 i76 i77 i78 i79 l81
theorem ex_ids_Next_2 : ∃ f, f = @b_ids_Next_2 := ⟨_, rfl⟩
noncomputable def ids_Next_2 := Classical.choose ex_ids_Next_2
theorem ids_Next_2_eq : @ids_Next_2 = @b_ids_Next_2 := Classical.choose_spec ex_ids_Next_2
theorem s_ids_Next_2 {base S0 cs0} (hfin : H_ids_Next base S0) : J_ids_Next base S0 cs0 p_ids_Next_2 (u_ids_Next_2 (ids_Next_2)) :=
  JSound.join hfin.2 (o_ids_Next_3 hfin) ks_ids_Next 100000 (by rw [ids_Next_2_eq]; intro x; kernel_rfl)
noncomputable def x_ids_Next_2 : Cfg → Option (Option (D_ids_State × D_frame_Frame × Bool × Unit)) := cut p_ids_Next_2 (u_ids_Next_2 (ids_Next_2)) (x_ids_Next_3)
theorem o_ids_Next_2 {base S0 cs0} (hfin : H_ids_Next base S0) : O_ids_Next base S0 cs0 (x_ids_Next_2) := OSound.cut (o_ids_Next_3 hfin) (Nat.le_of_eq hfin.1) (s_ids_Next_2 hfin)
@[reducible] noncomputable def p_ids_Next_1 : CPat := ⟨⟨101, [1, 0], (some 3), [.any, .any, .any, .any, .any, .any, .any, .any, .any, .int .i64], 3⟩, [⟨52, [1, 1, 0, 0], (some 4), [.any, .int .i64, .ptr 0 0, .any, .ptr 1 0, .ptr 2 0, .any, .ptr 3 0], 81⟩], [.dat 89 T_ids_State, .dat 89 T_ids_State, .dat 34 T_frame_Frame, .cells 89 [.int .u64, .int .i64, .int .i64, .all 4, .all 5, .int .u64, .int .u64], .row T_ids_Own, .row T_ids_Given], 0⟩
@[reducible] noncomputable def u_ids_Next_1 (k : Int → Int → D_ids_State → D_ids_State → D_frame_Frame → Int → Int → Int → Int → Int → (List D_ids_Own) → (List D_ids_Given) → Option (D_ids_State × D_frame_Frame × Bool × Unit)) : denC p_ids_Next_1 → Option (D_ids_State × D_frame_Frame × Bool × Unit) := fun x => k x.1.2.2.2.2.2.2.2.2.2.1 x.2.1.1.2.1 x.2.2.1 x.2.2.2.1 x.2.2.2.2.1 x.2.2.2.2.2.1.1 x.2.2.2.2.2.1.2.1 x.2.2.2.2.2.1.2.2.1 x.2.2.2.2.2.1.2.2.2.2.2.1 x.2.2.2.2.2.1.2.2.2.2.2.2.1 x.2.2.2.2.2.2.1 x.2.2.2.2.2.2.2.1
noncomputable def b_ids_Next_1 (i50 : Int) (i51 : Int) (d52 : D_ids_State) (d53 : D_ids_State) (d54 : D_frame_Frame) (i55 : Int) (i56 : Int) (i57 : Int) (i58 : Int) (i59 : Int) (l60 : (List D_ids_Own)) (l61 : (List D_ids_Given)) : Option (D_ids_State × D_frame_Frame × Bool × Unit) :=
  let b62 : Bool := (decide (i50 ≥ (0 : Int)))
  bif b62 then
    bif (decide (((0 : Int) ≤ i50) ∧ (i50 < (((List.length l61) : Nat) : Int)))) then
      let i63 : Nat := (Int.toNat i50)
      let n64 : Int := (List.getD l61 i63 (Ty.dflt T_ids_Given)).1
      let s65 : ByteArray := (ByteArray.mk (List.toArray ([] : List UInt8)))
      let s66 : ByteArray := (ByteArray.mk (List.toArray ([] : List UInt8)))
      obind (ids_fits ((25 : Int), ((0 : Int), ((0 : Int), ((0 : Int), ((0 : Int), (n64, ((0 : Int), ((0 : Int), (false, (s65, (s65, (s65, (([] : List D_ranges_Range), ()))))))))))))) i51) fun y67 =>
      bif y67.1 then
        bif (decide (((0 : Int) ≤ i50) ∧ (i50 < (((List.length l61) : Nat) : Int)))) then
          let i68 : Nat := (Int.toNat i50)
          let l69 : (List D_ids_Given) := (List.set l61 i68 ((List.getD l61 i68 (Ty.dflt T_ids_Given)).1, ((List.getD l61 i68 (Ty.dflt T_ids_Given)).2.1, ((List.getD l61 i68 (Ty.dflt T_ids_Given)).2.2.1, ((List.getD l61 i68 (Ty.dflt T_ids_Given)).2.2.2.1, ((List.getD l61 i68 (Ty.dflt T_ids_Given)).2.2.2.2.1, (false, ())))))))
          some ((i55, (i56, (i57, (l60, (l69, (i58, (i59, ()))))))), (((25 : Int), ((0 : Int), ((0 : Int), ((0 : Int), ((0 : Int), (n64, ((0 : Int), ((0 : Int), (false, (s65, (s65, (s65, (([] : List D_ranges_Range), ()))))))))))))), (true, ())))
        else none
      else
        ids_Next_2 i51 d52 d53 d54 i55 i56 i57 i58 i59 l60 l61
    else none
  else
    ids_Next_2 i51 d52 d53 d54 i55 i56 i57 i58 i59 l60 l61
theorem ex_ids_Next_1 : ∃ f, f = @b_ids_Next_1 := ⟨_, rfl⟩
noncomputable def ids_Next_1 := Classical.choose ex_ids_Next_1
theorem ids_Next_1_eq : @ids_Next_1 = @b_ids_Next_1 := Classical.choose_spec ex_ids_Next_1
theorem s_ids_Next_1 {base S0 cs0} (hfin : H_ids_Next base S0) : J_ids_Next base S0 cs0 p_ids_Next_1 (u_ids_Next_1 (ids_Next_1)) :=
  JSound.join hfin.2 (o_ids_Next_2 hfin) ks_ids_Next 100000 (by rw [ids_Next_1_eq]; intro x; kernel_rfl)
noncomputable def x_ids_Next_1 : Cfg → Option (Option (D_ids_State × D_frame_Frame × Bool × Unit)) := cut p_ids_Next_1 (u_ids_Next_1 (ids_Next_1)) (x_ids_Next_2)
theorem o_ids_Next_1 {base S0 cs0} (hfin : H_ids_Next base S0) : O_ids_Next base S0 cs0 (x_ids_Next_1) := OSound.cut (o_ids_Next_2 hfin) (Nat.le_of_eq hfin.1) (s_ids_Next_1 hfin)
@[reducible] noncomputable def p_ids_Next_0 : CPat := ⟨⟨141, [1, 0, 1, 0], none, [.all 0, .func 102 [] [], .any, .any, .any, .any, .any, .int .i64, .int .i64], 10⟩, [⟨101, [1, 0], (some 2), [], 13⟩, ⟨52, [1, 1, 0, 0], (some 4), [.any, .int .i64, .ptr 1 0, .any, .ptr 2 0, .ptr 3 0, .any, .ptr 4 0], 81⟩], [.row T_ids_Given, .dat 89 T_ids_State, .dat 89 T_ids_State, .dat 34 T_frame_Frame, .cells 89 [.int .u64, .int .i64, .int .i64, .all 5, .all 0, .int .u64, .int .u64], .row T_ids_Own], 0⟩
@[reducible] noncomputable def u_ids_Next_0 (k : Int → Int → Int → (List D_ids_Given) → D_ids_State → D_ids_State → D_frame_Frame → Int → Int → Int → Int → Int → (List D_ids_Own) → Option (D_ids_State × D_frame_Frame × Bool × Unit)) : denC p_ids_Next_0 → Option (D_ids_State × D_frame_Frame × Bool × Unit) := fun x => k x.1.2.2.2.2.2.2.2.1 x.1.2.2.2.2.2.2.2.2.1 x.2.1.2.1.2.1 x.2.2.1 x.2.2.2.1 x.2.2.2.2.1 x.2.2.2.2.2.1 x.2.2.2.2.2.2.1.1 x.2.2.2.2.2.2.1.2.1 x.2.2.2.2.2.2.1.2.2.1 x.2.2.2.2.2.2.1.2.2.2.2.2.1 x.2.2.2.2.2.2.1.2.2.2.2.2.2.1 x.2.2.2.2.2.2.2.1
noncomputable def t_ids_Next_0 (k0 : Int → Int → Int → (List D_ids_Given) → D_ids_State → D_ids_State → D_frame_Frame → Int → Int → Int → Int → Int → (List D_ids_Own) → Option (D_ids_State × D_frame_Frame × Bool × Unit)) (i26 : Int) (i27 : Int) (i28 : Int) (l29 : (List D_ids_Given)) (d30 : D_ids_State) (d31 : D_ids_State) (d32 : D_frame_Frame) (i33 : Int) (i34 : Int) (i35 : Int) (i36 : Int) (i37 : Int) (l38 : (List D_ids_Own)) : Option (D_ids_State × D_frame_Frame × Bool × Unit) :=
  let b39 : Bool := (decide (i27 < i26))
  bif b39 then
    bif (decide (((0 : Int) ≤ i27) ∧ (i27 < (((List.length l29) : Nat) : Int)))) then
      let i40 : Nat := (Int.toNat i27)
      let n41 : Int := (List.getD l29 i40 (Ty.dflt T_ids_Given)).1
      let s42 : ByteArray := (List.getD l29 i40 (Ty.dflt T_ids_Given)).2.1
      let s43 : ByteArray := (List.getD l29 i40 (Ty.dflt T_ids_Given)).2.2.1
      let b44 : Bool := (List.getD l29 i40 (Ty.dflt T_ids_Given)).2.2.2.1
      let b45 : Bool := (List.getD l29 i40 (Ty.dflt T_ids_Given)).2.2.2.2.1
      let b46 : Bool := (List.getD l29 i40 (Ty.dflt T_ids_Given)).2.2.2.2.2.1
      obind (ids_Next_l1 (n41, (s42, (s43, (b44, (b45, (b46, ()))))))) fun y47 =>
      bif y47.1 then
        ids_Next_1 i27 i28 d30 d31 d32 i33 i34 i35 i36 i37 l38 l29
      else
        let n48 : Int := (Go.IntKind.wrap Go.IntKind.i64 (i27 + (1 : Int)))
        k0 i26 n48 i28 l29 d30 d31 d32 i33 i34 i35 i36 i37 l38
    else none
  else
    ids_Next_1 (-1 : Int) i28 d30 d31 d32 i33 i34 i35 i36 i37 l38 l29
noncomputable def ids_Next_0 : Nat → Int → Int → Int → (List D_ids_Given) → D_ids_State → D_ids_State → D_frame_Frame → Int → Int → Int → Int → Int → (List D_ids_Own) → Option (D_ids_State × D_frame_Frame × Bool × Unit)
  | 0 => fun _ _ _ _ _ _ _ _ _ _ _ _ _ => none
  | m + 1 => t_ids_Next_0 (ids_Next_0 m)
noncomputable def b_ids_Next_0' (i26 : Int) (i27 : Int) (i28 : Int) (l29 : (List D_ids_Given)) (d30 : D_ids_State) (d31 : D_ids_State) (d32 : D_frame_Frame) (i33 : Int) (i34 : Int) (i35 : Int) (i36 : Int) (i37 : Int) (l38 : (List D_ids_Own)) : Option (D_ids_State × D_frame_Frame × Bool × Unit) := ids_Next_0 (Int.toNat (i26 - i27) + 2) i26 i27 i28 l29 d30 d31 d32 i33 i34 i35 i36 i37 l38
theorem ex_ids_Next_0' : ∃ f, f = @b_ids_Next_0' := ⟨_, rfl⟩
noncomputable def ids_Next_0' := Classical.choose ex_ids_Next_0'
theorem ids_Next_0'_eq : @ids_Next_0' = @b_ids_Next_0' := Classical.choose_spec ex_ids_Next_0'
theorem s_ids_Next_0 {base S0 cs0} (hfin : H_ids_Next base S0) : ∀ m, J_ids_Next base S0 cs0 p_ids_Next_0 (u_ids_Next_0 (ids_Next_0 m)) :=
  JSound.loop' hfin.2 ks_ids_Next 100000 u_ids_Next_0 (fun k0 => cut p_ids_Next_0 (u_ids_Next_0 k0) (x_ids_Next_1)) (fun k0 h0 => OSound.cut (o_ids_Next_1 hfin) (Nat.le_of_eq hfin.1) h0) (ids_Next_0) (by intro x; rfl) (by intro m x; kernel_rfl)
theorem s_ids_Next_0' {base S0 cs0} (hfin : H_ids_Next base S0) : J_ids_Next base S0 cs0 p_ids_Next_0 (u_ids_Next_0 (ids_Next_0')) := by
  rw [ids_Next_0'_eq]; exact fun x r hx => s_ids_Next_0 hfin _ x r hx
noncomputable def x_ids_Next_0 : Cfg → Option (Option (D_ids_State × D_frame_Frame × Bool × Unit)) := cut p_ids_Next_0 (u_ids_Next_0 (ids_Next_0')) (x_ids_Next_1)
theorem o_ids_Next_0 {base S0 cs0} (hfin : H_ids_Next base S0) : O_ids_Next base S0 cs0 (x_ids_Next_0) := OSound.cut (o_ids_Next_1 hfin) (Nat.le_of_eq hfin.1) (s_ids_Next_0' hfin)
noncomputable def b_ids_Next (a0 : D_ids_State) (a1 : Int) : Option (D_ids_State × D_frame_Frame × Bool × Unit) :=
  let s2 : ByteArray := (ByteArray.mk (List.toArray ([] : List UInt8)))
  obind (slices_Clone_ids_Own a0.2.2.2.1) fun y3 =>
  obind (slices_Clone_ids_Given a0.2.2.2.2.1) fun y4 =>
  let n5 : Int := (((List.length y4) : Nat) : Int)
  ids_Next_0' n5 (0 : Int) a1 y4 a0 ((0 : Int), ((0 : Int), ((0 : Int), (([] : List D_ids_Own), (([] : List D_ids_Given), ((0 : Int), ((0 : Int), ()))))))) ((0 : Int), ((0 : Int), ((0 : Int), ((0 : Int), ((0 : Int), ((0 : Int), ((0 : Int), ((0 : Int), (false, (s2, (s2, (s2, (([] : List D_ranges_Range), ()))))))))))))) a0.1 a0.2.1 a0.2.2.1 a0.2.2.2.2.2.1 a0.2.2.2.2.2.2.1 y3
theorem ex_ids_Next : ∃ f, f = @b_ids_Next := ⟨_, rfl⟩
noncomputable def ids_Next := Classical.choose ex_ids_Next
theorem ids_Next_eq : @ids_Next = @b_ids_Next := Classical.choose_spec ex_ids_Next
noncomputable def cb_ids_Next : Con := ⟨[T_ids_State, (.int .i64)], r_ids_Next, fun x => b_ids_Next x.1 x.2.1⟩
noncomputable def c_ids_Next : Con := ⟨[T_ids_State, (.int .i64)], r_ids_Next, fun x => ids_Next x.1 x.2.1⟩
theorem cb_ids_Next_ok : cb_ids_Next.Sound prog Inv gInv 52 :=
  con_run (M := m_ids_Next) inv_g (f := f52) rfl ks_ids_Next 100000 (X := x_ids_Next_0) (fun base S0 cs0 hn hf => have hfin : H_ids_Next base S0 := ⟨hn, hf⟩; o_ids_Next_0 hfin) (by intro x; kernel_rfl)
theorem c_ids_Next_ok : c_ids_Next.Sound prog Inv gInv 52 := by
  have e : c_ids_Next = cb_ids_Next := by unfold c_ids_Next cb_ids_Next; rw [ids_Next_eq]
  rw [e]; exact cb_ids_Next_ok
end Go.Proofs.YtjdjlijjolibkaaDoor.V
/- Connection IDs: the printed functions New, Cid, Is, Fill, Take, Next are those over any strings. -/
namespace Go.Proofs.YtjdjlijjolibkaaDoor.V
open Go.RowKit
def ixP {γ : Type} (p : γ → Bool) : Int → List γ → Int
  | _, [] => -1
  | k, x :: l => if p x then k else ixP p (k + 1) l
theorem ixP_is {γ : Type} (p : γ → Bool) : ∀ (l : List γ) (k : Int), ixP p k l = if l.findIdx p < l.length then k + ((l.findIdx p : Nat) : Int) else -1
  | [], _ => rfl
  | x :: l, k => by
    unfold ixP
    cases h : p x with
    | true => simp [List.findIdx_cons, h]
    | false =>
      rw [if_neg (by simp), ixP_is p l (k + 1)]
      simp only [List.findIdx_cons, h, cond_false, List.length_cons, Nat.add_lt_add_iff_right]
      split
      · omega
      · rfl
theorem clone_own (l : List D_ids_Own) (h : l.length ≤ 4294967296) : slices_Clone_ids_Own l = some l := by
  unfold slices_Clone_ids_Own; simp [h]
theorem clone_given (l : List D_ids_Given) (h : l.length ≤ 4294967296) : slices_Clone_ids_Given l = some l := by
  unfold slices_Clone_ids_Given; simp [h]
/-! #### what is drawn -/
def placeId (side seq : Int) : Int := ((side % 18446744073709551616) * 4294967296 + seq) % 18446744073709551616
def drF (seed side : Int) (seq : Int) : D_ids_Own := (seq, idF seed (placeId side seq), drawF seed ((placeId side seq + 1099511627776) % 18446744073709551616), true, false, ())
def InU (n : Int) : Prop := 0 ≤ n ∧ n < 18446744073709551616
theorem first_is (seed side : Int) : ids_First seed side = some (idF seed (placeId side 0), ()) := by
  rw [ids_First_eq, b_ids_First]
  simp only [wrap_u64', id_is, obind_some]
  have e : side % 18446744073709551616 * 4294967296 % 18446744073709551616 = placeId side 0 := by unfold placeId; omega
  rw [e]
theorem drawn_is (s : D_ids_State) (seq : Int) (hs : InU s.1) : ids_State_drawn_h0 s seq = some (drF s.1 s.2.1 seq, ()) := by
  rw [ids_State_drawn_h0_eq, b_ids_State_drawn_h0]
  simp only [wrap_u64', id_is, obind_some]
  have e : (s.2.1 % 18446744073709551616 * 4294967296 % 18446744073709551616 + seq) % 18446744073709551616 = placeId s.2.1 seq := by unfold placeId; omega
  rw [e, draw_is _ _ hs]
  rfl
def newF (seed side other : Int) : D_ids_State := (seed, side, 2, [(0, idF seed (placeId side 0), ⟨#[]⟩, false, false, ())], [(0, idF seed (placeId other 0), ⟨#[]⟩, true, false, false, ())], 0, 0, ())
theorem new0_is (seed : Int) : ids_New seed 0 = some (newF seed 0 1, ()) := by
  rw [ids_New_eq, b_ids_New]
  have w : IntKind.wrap .i64 ((1 : Int) - 0) = 1 := rfl
  simp only [first_is, obind_some, w]
  rfl
theorem new1_is (seed : Int) : ids_New seed 1 = some (newF seed 1 0, ()) := by
  rw [ids_New_eq, b_ids_New]
  have w : IntKind.wrap .i64 ((1 : Int) - 1) = 0 := rfl
  simp only [first_is, obind_some, w]
  rfl
/-! #### Cid, Is -/
def isNow (now : Int) (g : D_ids_Given) : Bool := g.1 == now
theorem cid_loop (d : D_ids_State) : ∀ (suf pre : List D_ids_Given) (m : Nat), suf.length < m → (pre ++ suf).length ≤ 4294967296 →
    ids_Cid_0 m (pre ++ suf) (((pre ++ suf).length : Nat) : Int) ((pre.length : Nat) : Int) d = ids_Cid_1 (ixP (isNow d.2.2.2.2.2.2.1) ((pre.length : Nat) : Int) suf) d := by
  intro suf
  induction suf with
  | nil =>
    intro pre m hm _
    obtain ⟨m, rfl⟩ : ∃ k, m = k + 1 := ⟨m - 1, by omega⟩
    simp only [ids_Cid_0, t_ids_Cid_0, mid_end, decide_false, cond_false, ixP]
  | cons x suf ih =>
    intro pre m hm hl
    obtain ⟨m, rfl⟩ : ∃ k, m = k + 1 := ⟨m - 1, by omega⟩
    simp only [ids_Cid_0, t_ids_Cid_0, mid_lt, nn, and_true, decide_true, cond_true, toNat_len, getD_mid, ixP, isNow]
    by_cases h : x.1 = d.2.2.2.2.2.2.1
    · simp only [beq_of h, cond_true, if_true]
    · simp only [beq_false_of_ne h, cond_false, Bool.false_eq_true, if_false]
      rw [mid_next pre x x suf hl, snoc_app]
      have e : ((pre.length : Nat) : Int) + 1 = (((pre ++ [x]).length : Nat) : Int) := by simp
      rw [e]
      exact ih (pre ++ [x]) m (by simp at hm; omega) (by simpa using hl)
theorem cid_is (s : D_ids_State) (hl : s.2.2.2.2.1.length ≤ 4294967296) : ids_Cid s = some (match s.2.2.2.2.1[nowI s.2.2.2.2.1 s.2.2.2.2.2.2.1]? with | some g => g.2.1 | none => ⟨#[]⟩, ()) := by
  rw [ids_Cid_eq, b_ids_Cid, ids_Cid_0'_eq, b_ids_Cid_0']
  have h := cid_loop s s.2.2.2.2.1 [] (Int.toNat ((s.2.2.2.2.1.length : Int) - 0) + 2) (by simp) hl
  simp only [List.nil_append, List.length_nil] at h
  refine h.trans ?_
  rw [ids_Cid_1_eq, b_ids_Cid_1, ixP_is]
  have e : nowI s.2.2.2.2.1 s.2.2.2.2.2.2.1 = s.2.2.2.2.1.findIdx (isNow s.2.2.2.2.2.2.1) := rfl
  rw [e]
  generalize s.2.2.2.2.1.findIdx (isNow s.2.2.2.2.2.2.1) = i
  by_cases hi : i < s.2.2.2.2.1.length
  · have c1 : ((((0 : Nat) : Int) + (i : Int)) ≥ 0) = True := by simp
    have c2 : ((0 : Int) ≤ ((0 : Nat) : Int) + (i : Int) ∧ (((0 : Nat) : Int) + (i : Int)) < ((s.2.2.2.2.1.length : Nat) : Int)) = True := by simp; omega
    have c3 : Int.toNat (((0 : Nat) : Int) + (i : Int)) = i := by omega
    simp only [if_pos hi, c1, decide_true, Bool.not_true, cond_false, c3, List.getElem?_eq_getElem hi]
    simp [List.getD, hi]
  · have c1 : ((-1 : Int) ≥ 0) = False := by simp
    simp only [if_neg hi, c1, decide_false, Bool.not_false, cond_true]
    rw [List.getElem?_eq_none (by omega)]
def goodO (c : ByteArray) (o : D_ids_Own) : Bool := decide (o.2.1 = c) && !o.2.2.2.2.1
theorem is_loop (c : ByteArray) : ∀ (suf pre : List D_ids_Own) (m : Nat), suf.length < m → (pre ++ suf).length ≤ 4294967296 →
    ids_Is_0 m (pre ++ suf) (((pre ++ suf).length : Nat) : Int) ((pre.length : Nat) : Int) c = some (suf.any (goodO c), ()) := by
  intro suf
  induction suf with
  | nil =>
    intro pre m hm _
    obtain ⟨m, rfl⟩ : ∃ k, m = k + 1 := ⟨m - 1, by omega⟩
    simp only [ids_Is_0, t_ids_Is_0, mid_end, decide_false, cond_false, List.any_nil]
  | cons x suf ih =>
    intro pre m hm hl
    obtain ⟨m, rfl⟩ : ∃ k, m = k + 1 := ⟨m - 1, by omega⟩
    simp only [ids_Is_0, t_ids_Is_0, mid_lt, nn, and_true, decide_true, cond_true, toNat_len, getD_mid, toList_beq, List.any_cons, goodO, ge_iff_le]
    have next : ids_Is_0 m (pre ++ x :: suf) (((pre ++ x :: suf).length : Nat) : Int) (IntKind.wrap .i64 (((pre.length : Nat) : Int) + 1)) c = some (suf.any (goodO c), ()) := by
      rw [mid_next pre x x suf hl, snoc_app]
      exact ih (pre ++ [x]) m (by simp at hm; omega) (by simpa using hl)
    by_cases h : x.2.1 = c
    · cases hg : x.2.2.2.2.1 with
      | false => simp only [h, decide_true, cond_true, Bool.not_false, Bool.and_self, Bool.true_or]
      | true =>
        simp only [h, decide_true, cond_true, Bool.not_true, cond_false, Bool.and_false, Bool.false_or, ids_Is_2_eq, b_ids_Is_2]
        exact next
    · simp only [h, decide_false, cond_false, Bool.false_and, Bool.false_or, ids_Is_2_eq, b_ids_Is_2]
      exact next
theorem is_is (s : D_ids_State) (c : ByteArray) (hl : s.2.2.2.1.length ≤ 4294967296) : ids_Is s c = some (s.2.2.2.1.any (goodO c), ()) := by
  rw [ids_Is_eq, b_ids_Is, ids_Is_0'_eq, b_ids_Is_0']
  exact is_loop c s.2.2.2.1 [] _ (by simp) hl
/-! #### Fill -/
theorem fill_grow (d : D_ids_State) (seed side m prior now : Int) (pool : List D_ids_Given) (hseed : InU seed) (hm : m ≤ 4) : ∀ (k : Nat) (fuel : Nat) (live : Int) (l : List D_ids_Own), k < fuel → (m - live).toNat = k → 0 ≤ live → l.length + k ≤ 1000000 →
    ids_Fill_3 fuel live d seed side m prior now l pool = some ((seed, side, m, l ++ (List.range k).map (fun j => drF seed side ((l.length + j : Nat) : Int)), pool, prior, now, ()), ()) := by
  intro k
  induction k with
  | zero =>
    intro fuel live l hf hk h0 _
    obtain ⟨fuel, rfl⟩ : ∃ k, fuel = k + 1 := ⟨fuel - 1, by omega⟩
    have c : decide (live < m) = false := by simp; omega
    simp only [ids_Fill_3, t_ids_Fill_3, c, cond_false, List.range_zero, List.map_nil, List.append_nil]
  | succ k ih =>
    intro fuel live l hf hk h0 hl
    obtain ⟨fuel, rfl⟩ : ∃ k, fuel = k + 1 := ⟨fuel - 1, by omega⟩
    have c : decide (live < m) = true := by simp; omega
    simp only [ids_Fill_3, t_ids_Fill_3, c, cond_true]
    rw [wrap_u64 _ (by omega) (by omega), drawn_is _ _ hseed]
    simp only [obind_some]
    have c2 : l.length + [drF seed side ((l.length : Nat) : Int)].length ≤ 4294967296 := by simp; omega
    have e : ((drF seed side ((l.length : Nat) : Int)).1, (drF seed side ((l.length : Nat) : Int)).2.1, (drF seed side ((l.length : Nat) : Int)).2.2.1, (drF seed side ((l.length : Nat) : Int)).2.2.2.1, (drF seed side ((l.length : Nat) : Int)).2.2.2.2.1, ()) = drF seed side ((l.length : Nat) : Int) := rfl
    simp only [e, c2, decide_true, cond_true]
    rw [wrap_i64 _ (by omega) (by omega), ih fuel (live + 1) _ (by omega) (by omega) (by omega) (by simp; omega)]
    have key : (List.range k).map (fun j => drF seed side (((l ++ [drF seed side ((l.length : Nat) : Int)]).length + j : Nat) : Int)) = (List.range k).map ((fun j => drF seed side ((l.length + j : Nat) : Int)) ∘ Nat.succ) := by
      apply List.map_congr_left
      intro j _
      simp only [Function.comp, List.length_append, List.length_singleton]
      congr 2
      omega
    rw [List.range_succ_eq_map, List.map_cons, List.map_map, ← key, List.append_assoc, List.singleton_append, Nat.add_zero]
theorem fill_count (d : D_ids_State) (seed side m prior now : Int) (pool : List D_ids_Given) : ∀ (suf pre : List D_ids_Own) (fuel : Nat) (live : Int), suf.length < fuel → (pre ++ suf).length ≤ 1000000 → 0 ≤ live → live ≤ pre.length →
    ids_Fill_0 fuel live (((pre ++ suf).length : Nat) : Int) ((pre.length : Nat) : Int) d seed side m prior now (pre ++ suf) pool = ids_Fill_3' (live + ((liveO suf : Nat) : Int)) d seed side m prior now (pre ++ suf) pool := by
  intro suf
  induction suf with
  | nil =>
    intro pre fuel live hm _ _ _
    obtain ⟨fuel, rfl⟩ : ∃ k, fuel = k + 1 := ⟨fuel - 1, by omega⟩
    simp only [ids_Fill_0, t_ids_Fill_0, mid_end, decide_false, cond_false, liveO, List.filter_nil, List.length_nil, Int.natCast_zero, Int.add_zero]
  | cons x suf ih =>
    intro pre fuel live hm hl h0 h1
    obtain ⟨fuel, rfl⟩ : ∃ k, fuel = k + 1 := ⟨fuel - 1, by omega⟩
    simp only [ids_Fill_0, t_ids_Fill_0, mid_lt, nn, and_true, decide_true, cond_true, toNat_len, getD_mid, ids_Fill_2_eq, b_ids_Fill_2]
    have hpl : pre.length ≤ 1000000 := by simp at hl; omega
    have next : ∀ live' : Int, 0 ≤ live' → live' ≤ pre.length + 1 → ids_Fill_0 fuel live' (((pre ++ x :: suf).length : Nat) : Int) (IntKind.wrap .i64 (((pre.length : Nat) : Int) + 1)) d seed side m prior now (pre ++ x :: suf) pool = ids_Fill_3' (live' + ((liveO suf : Nat) : Int)) d seed side m prior now (pre ++ x :: suf) pool := by
      intro live' g0 g1
      rw [mid_next pre x x suf (by omega), snoc_app]
      exact ih (pre ++ [x]) fuel live' (by simp at hm; omega) (by simpa using hl) g0 (by simp; omega)
    cases hg : x.2.2.2.2.1 with
    | false =>
      have e : liveO (x :: suf) = liveO suf + 1 := by simp [liveO, hg]
      simp only [Bool.not_false, cond_true]
      rw [wrap_i64 (live + 1) (by omega) (by omega), e]
      have := next (live + 1) (by omega) (by omega)
      rw [show live + ((liveO suf + 1 : Nat) : Int) = live + 1 + ((liveO suf : Nat) : Int) by omega]
      exact this
    | true =>
      have e : liveO (x :: suf) = liveO suf := by simp [liveO, hg]
      simp only [Bool.not_true, cond_false]
      rw [e]
      exact next live h0 (by omega)
theorem liveO_le (l : List D_ids_Own) : liveO l ≤ l.length := by unfold liveO; exact List.length_filter_le _ _
theorem fill_is (s : D_ids_State) (many : Int) (hseed : InU s.1) (hl : s.2.2.2.1.length ≤ 100000) (hp : s.2.2.2.2.1.length ≤ 100000) : ids_Fill s many = some (fillId (drF s.1 s.2.1) s many, ()) := by
  obtain ⟨seed, side, most, l, pool, prior, now, u⟩ := s
  simp only at hseed hl hp
  rw [ids_Fill_eq, b_ids_Fill]
  rw [clone_own _ (by simp only; omega), clone_given _ (by simp only; omega)]
  simp only [obind_some]
  have em : (if ((if (4 : Int) < many then (4 : Int) else many) > 2) then (if (4 : Int) < many then (4 : Int) else many) else 2) = max 2 (min many 4) := by
    split <;> split <;> omega
  rw [em, ids_Fill_0'_eq, b_ids_Fill_0']
  have h := fill_count (0, 0, 0, [], [], 0, 0, ()) seed side (max 2 (min many 4)) prior now pool l [] (Int.toNat ((l.length : Int) - 0) + 2) 0 (by simp) (by simp; omega) (by omega) (by simp)
  simp only [List.nil_append, List.length_nil, Int.natCast_zero] at h
  refine h.trans ?_
  rw [ids_Fill_3'_eq, b_ids_Fill_3', Int.zero_add]
  have hlo := liveO_le l
  have h4 : max 2 (min many 4) ≤ 4 := by omega
  have h2 : 2 ≤ max 2 (min many 4) := by omega
  have g := fill_grow (0, 0, 0, [], [], 0, 0, ()) seed side (max 2 (min many 4)) prior now pool hseed h4 ((max 2 (min many 4)).toNat - liveO l) (Int.toNat (max 2 (min many 4) - ((liveO l : Nat) : Int)) + 2) ((liveO l : Nat) : Int) l (by omega) (by omega) (by omega) (by omega)
  exact g
end Go.Proofs.YtjdjlijjolibkaaDoor.V
