/- The law FrameGets, part 4 of 6: what is proved: for every input that can be read the call of FrameGets returns true and leaves its arguments alone. No conditions but the listed tables of the card. -/
import Derived.Defers
import Derived.Recover
import Derived.Test.YtjdjlijjolibkaaDoorZ3
namespace Go.Proofs.YtjdjlijjolibkaaDoor.V
open Go.RowKit Go.Proofs.Tryd
set_option maxRecDepth 100000
set_option linter.unusedVariables false
noncomputable def m_strings_Builder_WriteString_h0 : Mach prog Inv gInv := mach bas [(115, f115), (147, f147)] ⟨ok115, ok147, trivial⟩ [] trivial [] trivial [(147, h_strings_Builder_copyCheck_h0), (147, h_strings_Builder_copyCheck_h1), (147, h_strings_Builder_copyCheck_h2), (147, h_strings_Builder_copyCheck_h3)] ⟨⟨h_strings_Builder_copyCheck_h0_ok, FnOk.callable ok147⟩, ⟨h_strings_Builder_copyCheck_h1_ok, FnOk.callable ok147⟩, ⟨h_strings_Builder_copyCheck_h2_ok, FnOk.callable ok147⟩, ⟨h_strings_Builder_copyCheck_h3_ok, FnOk.callable ok147⟩, trivial⟩
@[reducible] noncomputable def pa_strings_Builder_WriteString_h0 : List Pat := [.ptr 0 0, .str]
@[reducible] noncomputable def pH_strings_Builder_WriteString_h0 : List HPat := [.cells 132 [.ptr 0 0, .all 1], .row (.byt 5)]
/-! ### (*strings.Builder).WriteString -/
abbrev R_strings_Builder_WriteString_h0 : Type := Int × (List Int) × Unit
@[reducible] noncomputable def qa_strings_Builder_WriteString_h0 : List Pat := [.int .i64, .nilIface]
@[reducible] noncomputable def qH_strings_Builder_WriteString_h0 : List HPat := [.cells 132 [.ptr 0 0, .all 2], .dead, .row (.byt 5)]
def ks_strings_Builder_WriteString_h0 : List Nat := [115, 147]
noncomputable def b_strings_Builder_WriteString_h0 (s0 : ByteArray) (l1 : (List Int)) : Option R_strings_Builder_WriteString_h0 :=
 obind (strings_Builder_copyCheck_h3 l1) fun y2 =>
 bif (decide (((List.length y2.1) + (List.length (strBytes s0))) ≤ 4294967296)) then
  let l3 : (List Int) := (y2.1 ++ (strBytes s0))
  let n4 : Int := (((ByteArray.size s0) : Nat) : Int)
  some (n4, (l3, ()))
 else none
theorem ex_strings_Builder_WriteString_h0 : ∃ f, f = @b_strings_Builder_WriteString_h0 := ⟨_, rfl⟩
noncomputable def strings_Builder_WriteString_h0 := Classical.choose ex_strings_Builder_WriteString_h0
theorem strings_Builder_WriteString_h0_eq : @strings_Builder_WriteString_h0 = @b_strings_Builder_WriteString_h0 := Classical.choose_spec ex_strings_Builder_WriteString_h0
noncomputable def hb_strings_Builder_WriteString_h0 : HCon := HCon.mk0 pa_strings_Builder_WriteString_h0 pH_strings_Builder_WriteString_h0 qa_strings_Builder_WriteString_h0 qH_strings_Builder_WriteString_h0 R_strings_Builder_WriteString_h0 (fun x => b_strings_Builder_WriteString_h0 x.1.2.1 x.2.2.1) (fun r => ((r.1, ((), ())), (((), ((), ())), ((), (r.2.1, ()))))) (fun y => (y.1.1, y.2.2.2.1, ())) (fun _ => rfl)
noncomputable def h_strings_Builder_WriteString_h0 : HCon := HCon.mk0 pa_strings_Builder_WriteString_h0 pH_strings_Builder_WriteString_h0 qa_strings_Builder_WriteString_h0 qH_strings_Builder_WriteString_h0 R_strings_Builder_WriteString_h0 (fun x => strings_Builder_WriteString_h0 x.1.2.1 x.2.2.1) (fun r => ((r.1, ((), ())), (((), ((), ())), ((), (r.2.1, ()))))) (fun y => (y.1.1, y.2.2.2.1, ())) (fun _ => rfl)
theorem hb_strings_Builder_WriteString_h0_ok : hb_strings_Builder_WriteString_h0.Sound prog Inv gInv 115 :=
 hcon_run (M := m_strings_Builder_WriteString_h0) (f := f115) rfl ks_strings_Builder_WriteString_h0 100000 (X := nowhere) (fun base S0 cs0 hn hf => OSound.nowhere) (by intro x; kernel_rfl)
theorem h_strings_Builder_WriteString_h0_ok : h_strings_Builder_WriteString_h0.Sound prog Inv gInv 115 := by
 have e : h_strings_Builder_WriteString_h0 = hb_strings_Builder_WriteString_h0 := by unfold h_strings_Builder_WriteString_h0 hb_strings_Builder_WriteString_h0; rw [strings_Builder_WriteString_h0_eq]
 rw [e]; exact hb_strings_Builder_WriteString_h0_ok
noncomputable def m_strings_Builder_WriteByte_h0 : Mach prog Inv gInv := mach bas [(118, f118), (147, f147)] ⟨ok118, ok147, trivial⟩ [] trivial [] trivial [(147, h_strings_Builder_copyCheck_h0), (147, h_strings_Builder_copyCheck_h1), (147, h_strings_Builder_copyCheck_h2), (147, h_strings_Builder_copyCheck_h3)] ⟨⟨h_strings_Builder_copyCheck_h0_ok, FnOk.callable ok147⟩, ⟨h_strings_Builder_copyCheck_h1_ok, FnOk.callable ok147⟩, ⟨h_strings_Builder_copyCheck_h2_ok, FnOk.callable ok147⟩, ⟨h_strings_Builder_copyCheck_h3_ok, FnOk.callable ok147⟩, trivial⟩
@[reducible] noncomputable def pa_strings_Builder_WriteByte_h0 : List Pat := [.ptr 0 0, .int .u8]
@[reducible] noncomputable def pH_strings_Builder_WriteByte_h0 : List HPat := [.cells 132 [.ptr 0 0, .all 1], .row (.byt 5)]
/-! ### (*strings.Builder).WriteByte -/
abbrev R_strings_Builder_WriteByte_h0 : Type := (List Int) × Unit
@[reducible] noncomputable def qa_strings_Builder_WriteByte_h0 : List Pat := [.nilIface]
@[reducible] noncomputable def qH_strings_Builder_WriteByte_h0 : List HPat := [.cells 132 [.ptr 0 0, .all 2], .dead, .row (.byt 5)]
def ks_strings_Builder_WriteByte_h0 : List Nat := [118, 147]
noncomputable def b_strings_Builder_WriteByte_h0 (i0 : Int) (l1 : (List Int)) : Option R_strings_Builder_WriteByte_h0 :=
 obind (strings_Builder_copyCheck_h3 l1) fun y2 =>
 bif (decide (((List.length y2.1) + (List.length (i0 :: ([] : List Int)))) ≤ 4294967296)) then
  let l3 : (List Int) := (y2.1 ++ (i0 :: ([] : List Int)))
  some (l3, ())
 else none
theorem ex_strings_Builder_WriteByte_h0 : ∃ f, f = @b_strings_Builder_WriteByte_h0 := ⟨_, rfl⟩
noncomputable def strings_Builder_WriteByte_h0 := Classical.choose ex_strings_Builder_WriteByte_h0
theorem strings_Builder_WriteByte_h0_eq : @strings_Builder_WriteByte_h0 = @b_strings_Builder_WriteByte_h0 := Classical.choose_spec ex_strings_Builder_WriteByte_h0
noncomputable def hb_strings_Builder_WriteByte_h0 : HCon := HCon.mk0 pa_strings_Builder_WriteByte_h0 pH_strings_Builder_WriteByte_h0 qa_strings_Builder_WriteByte_h0 qH_strings_Builder_WriteByte_h0 R_strings_Builder_WriteByte_h0 (fun x => b_strings_Builder_WriteByte_h0 x.1.2.1 x.2.2.1) (fun r => (((), ()), (((), ((), ())), ((), (r.1, ()))))) (fun y => (y.2.2.2.1, ())) (fun _ => rfl)
noncomputable def h_strings_Builder_WriteByte_h0 : HCon := HCon.mk0 pa_strings_Builder_WriteByte_h0 pH_strings_Builder_WriteByte_h0 qa_strings_Builder_WriteByte_h0 qH_strings_Builder_WriteByte_h0 R_strings_Builder_WriteByte_h0 (fun x => strings_Builder_WriteByte_h0 x.1.2.1 x.2.2.1) (fun r => (((), ()), (((), ((), ())), ((), (r.1, ()))))) (fun y => (y.2.2.2.1, ())) (fun _ => rfl)
theorem hb_strings_Builder_WriteByte_h0_ok : hb_strings_Builder_WriteByte_h0.Sound prog Inv gInv 118 :=
 hcon_run (M := m_strings_Builder_WriteByte_h0) (f := f118) rfl ks_strings_Builder_WriteByte_h0 100000 (X := nowhere) (fun base S0 cs0 hn hf => OSound.nowhere) (by intro x; kernel_rfl)
theorem h_strings_Builder_WriteByte_h0_ok : h_strings_Builder_WriteByte_h0.Sound prog Inv gInv 118 := by
 have e : h_strings_Builder_WriteByte_h0 = hb_strings_Builder_WriteByte_h0 := by unfold h_strings_Builder_WriteByte_h0 hb_strings_Builder_WriteByte_h0; rw [strings_Builder_WriteByte_h0_eq]
 rw [e]; exact hb_strings_Builder_WriteByte_h0_ok
noncomputable def m_frame_writer_parts_h0 : Mach prog Inv gInv := mach bas [(75, f75), (74, f74), (113, f113), (115, f115), (117, f117), (118, f118), (147, f147)] ⟨ok75, ok74, ok113, ok115, ok117, ok118, ok147, trivial⟩ [(114, c_varint_Puts)] ⟨⟨c_varint_Puts_ok, FnOk.callable ok114⟩, trivial⟩ [(116, c_slices_Clone_ranges_Range)] ⟨⟨c_slices_Clone_ranges_Range_ok, FnOk.callable ok116⟩, trivial⟩ [(147, h_strings_Builder_copyCheck_h0), (147, h_strings_Builder_copyCheck_h1), (147, h_strings_Builder_copyCheck_h2), (74, h_frame_writer_numbers_h0), (147, h_strings_Builder_copyCheck_h3), (74, h_frame_writer_numbers_h1), (113, h_frame_writer_long_h0), (115, h_strings_Builder_WriteString_h0), (118, h_strings_Builder_WriteByte_h0)] ⟨⟨h_strings_Builder_copyCheck_h0_ok, FnOk.callable ok147⟩, ⟨h_strings_Builder_copyCheck_h1_ok, FnOk.callable ok147⟩, ⟨h_strings_Builder_copyCheck_h2_ok, FnOk.callable ok147⟩, ⟨h_frame_writer_numbers_h0_ok, FnOk.callable ok74⟩, ⟨h_strings_Builder_copyCheck_h3_ok, FnOk.callable ok147⟩, ⟨h_frame_writer_numbers_h1_ok, FnOk.callable ok74⟩, ⟨h_frame_writer_long_h0_ok, FnOk.callable ok113⟩, ⟨h_strings_Builder_WriteString_h0_ok, FnOk.callable ok115⟩, ⟨h_strings_Builder_WriteByte_h0_ok, FnOk.callable ok118⟩, trivial⟩
@[reducible] noncomputable def pa_frame_writer_parts_h0 : List Pat := [.ptr 0 0, .dat T_frame_Frame]
@[reducible] noncomputable def pH_frame_writer_parts_h0 : List HPat := [.cells 132 [.ptr 0 0, .all 1], .row (.byt 5)]
/-! ### (*domino/frame.writer).parts -/
abbrev R_frame_writer_parts_h0 : Type := (List Int) × Unit
@[reducible] noncomputable def qa_frame_writer_parts_h0 : List Pat := []
@[reducible] noncomputable def qH_frame_writer_parts_h0 : List HPat := [.cells 132 [.ptr 0 0, .all 2], .dead, .row (.byt 5)]
noncomputable def g_frame_writer_parts_h0 : HCon := HCon.mk0 pa_frame_writer_parts_h0 pH_frame_writer_parts_h0 qa_frame_writer_parts_h0 qH_frame_writer_parts_h0 R_frame_writer_parts_h0 (fun _ => none) (fun r => ((), (((), ((), ())), ((), (r.1, ()))))) (fun y => (y.2.2.2.1, ())) (fun _ => rfl)
def ks_frame_writer_parts_h0 : List Nat := [75, 74, 113, 115, 117, 118, 147]
abbrev H_frame_writer_parts_h0 (base : Base) (S0 : Nat → Prop) := base.n = 2 ∧ FinOk (finH g_frame_writer_parts_h0) base S0 (HPost g_frame_writer_parts_h0 base S0)
abbrev J_frame_writer_parts_h0 (base : Base) (S0 : Nat → Prop) (cs0 : List Go.Frame) (p : CPat) (J : denC p → Option R_frame_writer_parts_h0) := JSound m_frame_writer_parts_h0 base S0 cs0 (HPost g_frame_writer_parts_h0 base S0) p J
abbrev O_frame_writer_parts_h0 (base : Base) (S0 : Nat → Prop) (cs0 : List Go.Frame) (X : Cfg → Option (Option R_frame_writer_parts_h0)) := OSound m_frame_writer_parts_h0 base S0 cs0 (HPost g_frame_writer_parts_h0 base S0) X
@[reducible] noncomputable def p_frame_writer_parts_h0_4 : CPat := ⟨⟨75, [1, 1, 0, 1, 1, 1, 1, 1, 1, 1, 1, 1, 1, 1, 1, 1, 1, 1, 1, 1], none, [.ptr 0 0, .any, .any, .ptr 2 0, .any, .any, .any, .any, .int .u64, .any, .any, .any, .any, .any, .any, .any, .any, .any, .any, .any, .any, .any, .any, .any, .any, .any, .any, .any, .any, .any, .any, .any, .any, .any, .any, .any, .any, .any, .any, .any, .any, .any, .any, .any, .any, .any, .any, .any, .any, .any, .any, .any, .any, .any, .any, .any, .any, .any, .any, .any, .any, .any, .any, .any, .any, .any, .any, .any, .any, .any, .any, .any, .any, .any, .any, .any, .any, .any, .any, .any, .any, .any, .any, .any, .any, .any, .any, .any, .any, .any, .any, .any, .any, .any, .any, .any, .any, .any, .any, .any, .any, .any, .any, .any, .any, .any, .any, .any, .any, .any, .any, .any, .any, .any, .any, .any, .any, .any, .any, .any, .any, .any, .any, .any, .any, .any, .any, .any, .any, .any, .any, .any, .any, .any, .any, .any, .any, .any, .any, .any, .any, .any, .any, .any, .any, .any, .any, .any, .any, .any, .bool], 32⟩, [], [.cells 132 [.ptr 0 0, .all 1], .row (.byt 5), .dat 34 T_frame_Frame], 2⟩
@[reducible] noncomputable def u_frame_writer_parts_h0_4 (k : Int → Bool → (List Int) → D_frame_Frame → Option R_frame_writer_parts_h0) : denC p_frame_writer_parts_h0_4 → Option R_frame_writer_parts_h0 := fun x => k x.1.2.2.2.2.2.2.2.2.1 x.1.2.2.2.2.2.2.2.2.2.2.2.2.2.2.2.2.2.2.2.2.2.2.2.2.2.2.2.2.2.2.2.2.2.2.2.2.2.2.2.2.2.2.2.2.2.2.2.2.2.2.2.2.2.2.2.2.2.2.2.2.2.2.2.2.2.2.2.2.2.2.2.2.2.2.2.2.2.2.2.2.2.2.2.2.2.2.2.2.2.2.2.2.2.2.2.2.2.2.2.2.2.2.2.2.2.2.2.2.2.2.2.2.2.2.2.2.2.2.2.2.2.2.2.2.2.2.2.2.2.2.2.2.2.2.2.2.2.2.2.2.2.2.2.2.2.2.2.2.2.2.1 x.2.2.2.1 x.2.2.2.2.1
noncomputable def b_frame_writer_parts_h0_4 (i125 : Int) (b126 : Bool) (l127 : (List Int)) (d128 : D_frame_Frame) : Option R_frame_writer_parts_h0 :=
 bif b126 then
  obind (strings_Builder_WriteString_h0 d128.2.2.2.2.2.2.2.2.2.2.2.1 l127) fun y129 =>
  some (y129.2.1, ())
 else
  let b130 : Bool := (i125 == (28 : Int))
  bif b130 then
   obind (frame_writer_numbers_h1 (d128.2.2.2.2.1 :: (d128.2.2.2.2.2.2.2.1 :: ([] : List Int))) l127) fun y131 =>
   obind (frame_writer_long_h0 d128.2.2.2.2.2.2.2.2.2.1 y131.2.1) fun y132 =>
   some (y132.1, ())
  else
   let b133 : Bool := (i125 == (29 : Int))
   bif b133 then
    obind (frame_writer_numbers_h1 (d128.2.2.2.2.1 :: ([] : List Int)) l127) fun y134 =>
    obind (frame_writer_long_h0 d128.2.2.2.2.2.2.2.2.2.1 y134.2.1) fun y135 =>
    some (y135.1, ())
   else
    some (l127, ())
theorem ex_frame_writer_parts_h0_4 : ∃ f, f = @b_frame_writer_parts_h0_4 := ⟨_, rfl⟩
noncomputable def frame_writer_parts_h0_4 := Classical.choose ex_frame_writer_parts_h0_4
theorem frame_writer_parts_h0_4_eq : @frame_writer_parts_h0_4 = @b_frame_writer_parts_h0_4 := Classical.choose_spec ex_frame_writer_parts_h0_4
theorem s_frame_writer_parts_h0_4 {base S0 cs0} (hfin : H_frame_writer_parts_h0 base S0) : J_frame_writer_parts_h0 base S0 cs0 p_frame_writer_parts_h0_4 (u_frame_writer_parts_h0_4 (frame_writer_parts_h0_4)) :=
 JSound.join hfin.2 (OSound.nowhere) ks_frame_writer_parts_h0 100000 (by rw [frame_writer_parts_h0_4_eq]; intro x; kernel_rfl)
noncomputable def x_frame_writer_parts_h0_4 : Cfg → Option (Option R_frame_writer_parts_h0) := cut p_frame_writer_parts_h0_4 (u_frame_writer_parts_h0_4 (frame_writer_parts_h0_4)) (nowhere)
theorem o_frame_writer_parts_h0_4 {base S0 cs0} (hfin : H_frame_writer_parts_h0 base S0) : O_frame_writer_parts_h0 base S0 cs0 (x_frame_writer_parts_h0_4) := OSound.cut (OSound.nowhere) (Nat.le_of_eq hfin.1) (s_frame_writer_parts_h0_4 hfin)
@[reducible] noncomputable def p_frame_writer_parts_h0_3 : CPat := ⟨⟨75, [1, 1, 0, 1, 1, 1, 1, 1, 1, 1, 1, 1, 1, 1], none, [.ptr 0 0, .any, .any, .ptr 2 0, .any, .any, .any, .any, .int .u64, .any, .any, .any, .any, .any, .any, .any, .any, .any, .any, .any, .any, .any, .any, .any, .any, .any, .any, .any, .any, .any, .any, .any, .any, .any, .any, .any, .any, .any, .any, .any, .any, .any, .any, .any, .any, .any, .any, .any, .any, .any, .any, .any, .any, .any, .any, .any, .any, .any, .any, .any, .any, .any, .any, .any, .any, .any, .any, .any, .any, .any, .any, .any, .any, .any, .any, .any, .any, .any, .any, .any, .any, .any, .any, .any, .any, .any, .any, .any, .any, .any, .any, .any, .any, .any, .any, .any, .any, .any, .any, .any, .any, .any, .any, .any, .any, .any, .any, .bool], 75⟩, [], [.cells 132 [.ptr 0 0, .all 1], .row (.byt 5), .dat 34 T_frame_Frame], 2⟩
@[reducible] noncomputable def u_frame_writer_parts_h0_3 (k : Int → Bool → (List Int) → D_frame_Frame → Option R_frame_writer_parts_h0) : denC p_frame_writer_parts_h0_3 → Option R_frame_writer_parts_h0 := fun x => k x.1.2.2.2.2.2.2.2.2.1 x.1.2.2.2.2.2.2.2.2.2.2.2.2.2.2.2.2.2.2.2.2.2.2.2.2.2.2.2.2.2.2.2.2.2.2.2.2.2.2.2.2.2.2.2.2.2.2.2.2.2.2.2.2.2.2.2.2.2.2.2.2.2.2.2.2.2.2.2.2.2.2.2.2.2.2.2.2.2.2.2.2.2.2.2.2.2.2.2.2.2.2.2.2.2.2.2.2.2.2.2.2.2.2.2.2.2.2.2.1 x.2.2.2.1 x.2.2.2.2.1
noncomputable def b_frame_writer_parts_h0_3 (i109 : Int) (b110 : Bool) (l111 : (List Int)) (d112 : D_frame_Frame) : Option R_frame_writer_parts_h0 :=
 bif b110 then
  obind (frame_writer_numbers_h1 (d112.2.1 :: (d112.2.2.2.1 :: ([] : List Int))) l111) fun y113 =>
  some (y113.2.1, ())
 else
  let b114 : Bool := (i109 == (24 : Int))
  bif b114 then
   obind (frame_writer_numbers_h1 (d112.2.2.2.2.2.1 :: (d112.2.2.2.2.2.2.1 :: ([] : List Int))) l111) fun y115 =>
   let n116 : Int := (((ByteArray.size d112.2.2.2.2.2.2.2.2.2.2.1) : Nat) : Int)
   let n117 : Int := (Go.IntKind.wrap Go.IntKind.u8 n116)
   obind (strings_Builder_WriteByte_h0 n117 y115.2.1) fun y118 =>
   bif (decide (((ByteArray.size d112.2.2.2.2.2.2.2.2.2.2.1) + (ByteArray.size d112.2.2.2.2.2.2.2.2.2.2.2.1)) ≤ 9223372036854775807)) then
    let s119 : ByteArray := (d112.2.2.2.2.2.2.2.2.2.2.1 ++ d112.2.2.2.2.2.2.2.2.2.2.2.1)
    obind (strings_Builder_WriteString_h0 s119 y118.1) fun y120 =>
    some (y120.2.1, ())
   else none
  else
   let b121 : Bool := (i109 == (25 : Int))
   bif b121 then
    obind (frame_writer_numbers_h1 (d112.2.2.2.2.2.1 :: ([] : List Int)) l111) fun y122 =>
    some (y122.2.1, ())
   else
    let b123 : Bool := (i109 == (26 : Int))
    bif b123 then
     frame_writer_parts_h0_4 i109 true l111 d112
    else
     let b124 : Bool := (i109 == (27 : Int))
     frame_writer_parts_h0_4 i109 b124 l111 d112
theorem ex_frame_writer_parts_h0_3 : ∃ f, f = @b_frame_writer_parts_h0_3 := ⟨_, rfl⟩
noncomputable def frame_writer_parts_h0_3 := Classical.choose ex_frame_writer_parts_h0_3
theorem frame_writer_parts_h0_3_eq : @frame_writer_parts_h0_3 = @b_frame_writer_parts_h0_3 := Classical.choose_spec ex_frame_writer_parts_h0_3
theorem s_frame_writer_parts_h0_3 {base S0 cs0} (hfin : H_frame_writer_parts_h0 base S0) : J_frame_writer_parts_h0 base S0 cs0 p_frame_writer_parts_h0_3 (u_frame_writer_parts_h0_3 (frame_writer_parts_h0_3)) :=
 JSound.join hfin.2 (o_frame_writer_parts_h0_4 hfin) ks_frame_writer_parts_h0 100000 (by rw [frame_writer_parts_h0_3_eq]; intro x; kernel_rfl)
noncomputable def x_frame_writer_parts_h0_3 : Cfg → Option (Option R_frame_writer_parts_h0) := cut p_frame_writer_parts_h0_3 (u_frame_writer_parts_h0_3 (frame_writer_parts_h0_3)) (x_frame_writer_parts_h0_4)
theorem o_frame_writer_parts_h0_3 {base S0 cs0} (hfin : H_frame_writer_parts_h0 base S0) : O_frame_writer_parts_h0 base S0 cs0 (x_frame_writer_parts_h0_3) := OSound.cut (o_frame_writer_parts_h0_4 hfin) (Nat.le_of_eq hfin.1) (s_frame_writer_parts_h0_3 hfin)
@[reducible] noncomputable def p_frame_writer_parts_h0_2 : CPat := ⟨⟨75, [1, 1, 0, 1, 1, 1, 1, 1, 1, 1, 1, 1], none, [.ptr 0 0, .any, .any, .ptr 2 0, .any, .any, .any, .any, .int .u64, .any, .any, .any, .any, .any, .any, .any, .any, .any, .any, .any, .any, .any, .any, .any, .any, .any, .any, .any, .any, .any, .any, .any, .any, .any, .any, .any, .any, .any, .any, .any, .any, .any, .any, .any, .any, .any, .any, .any, .any, .any, .any, .any, .any, .any, .any, .any, .any, .any, .any, .any, .any, .any, .any, .any, .any, .any, .any, .any, .any, .any, .any, .any, .any, .any, .any, .any, .any, .any, .any, .any, .any, .any, .any, .any, .any, .any, .any, .any, .any, .any, .any, .any, .any, .any, .any, .bool], 87⟩, [], [.cells 132 [.ptr 0 0, .all 1], .row (.byt 5), .dat 34 T_frame_Frame], 2⟩
@[reducible] noncomputable def u_frame_writer_parts_h0_2 (k : Int → Bool → (List Int) → D_frame_Frame → Option R_frame_writer_parts_h0) : denC p_frame_writer_parts_h0_2 → Option R_frame_writer_parts_h0 := fun x => k x.1.2.2.2.2.2.2.2.2.1 x.1.2.2.2.2.2.2.2.2.2.2.2.2.2.2.2.2.2.2.2.2.2.2.2.2.2.2.2.2.2.2.2.2.2.2.2.2.2.2.2.2.2.2.2.2.2.2.2.2.2.2.2.2.2.2.2.2.2.2.2.2.2.2.2.2.2.2.2.2.2.2.2.2.2.2.2.2.2.2.2.2.2.2.2.2.2.2.2.2.2.2.2.2.2.2.2.1 x.2.2.2.1 x.2.2.2.2.1
noncomputable def b_frame_writer_parts_h0_2 (i102 : Int) (b103 : Bool) (l104 : (List Int)) (d105 : D_frame_Frame) : Option R_frame_writer_parts_h0 :=
 bif b103 then
  obind (frame_writer_numbers_h1 (d105.2.2.2.1 :: ([] : List Int)) l104) fun y106 =>
  some (y106.2.1, ())
 else
  let b107 : Bool := (i102 == (17 : Int))
  bif b107 then
   frame_writer_parts_h0_3 i102 true l104 d105
  else
   let b108 : Bool := (i102 == (21 : Int))
   frame_writer_parts_h0_3 i102 b108 l104 d105
theorem ex_frame_writer_parts_h0_2 : ∃ f, f = @b_frame_writer_parts_h0_2 := ⟨_, rfl⟩
noncomputable def frame_writer_parts_h0_2 := Classical.choose ex_frame_writer_parts_h0_2
theorem frame_writer_parts_h0_2_eq : @frame_writer_parts_h0_2 = @b_frame_writer_parts_h0_2 := Classical.choose_spec ex_frame_writer_parts_h0_2
theorem s_frame_writer_parts_h0_2 {base S0 cs0} (hfin : H_frame_writer_parts_h0 base S0) : J_frame_writer_parts_h0 base S0 cs0 p_frame_writer_parts_h0_2 (u_frame_writer_parts_h0_2 (frame_writer_parts_h0_2)) :=
 JSound.join hfin.2 (o_frame_writer_parts_h0_3 hfin) ks_frame_writer_parts_h0 100000 (by rw [frame_writer_parts_h0_2_eq]; intro x; kernel_rfl)
noncomputable def x_frame_writer_parts_h0_2 : Cfg → Option (Option R_frame_writer_parts_h0) := cut p_frame_writer_parts_h0_2 (u_frame_writer_parts_h0_2 (frame_writer_parts_h0_2)) (x_frame_writer_parts_h0_3)
theorem o_frame_writer_parts_h0_2 {base S0 cs0} (hfin : H_frame_writer_parts_h0 base S0) : O_frame_writer_parts_h0 base S0 cs0 (x_frame_writer_parts_h0_2) := OSound.cut (o_frame_writer_parts_h0_3 hfin) (Nat.le_of_eq hfin.1) (s_frame_writer_parts_h0_2 hfin)
@[reducible] noncomputable def p_frame_writer_parts_h0_1 : CPat := ⟨⟨75, [1, 1, 0, 1, 0, 1, 1, 1, 1, 0], none, [.ptr 0 0, .any, .any, .any, .all 2, .any, .any, .any, .any, .any, .any, .any, .any, .any, .any, .any, .any, .any, .any, .any, .any, .any, .any, .any, .any, .any, .any, .any, .any, .any, .any, .any, .any, .any, .any, .any, .any, .any, .any, .sl 2, .int .i64, .int .i64], 141⟩, [], [.cells 132 [.ptr 0 0, .all 3], .dead, .row T_ranges_Range, .row (.byt 5)], 2⟩
@[reducible] noncomputable def u_frame_writer_parts_h0_1 (k : Nat → Nat → Int → Int → (List D_ranges_Range) → (List Int) → Option R_frame_writer_parts_h0) : denC p_frame_writer_parts_h0_1 → Option R_frame_writer_parts_h0 := fun x => k x.1.2.2.2.2.2.2.2.2.2.2.2.2.2.2.2.2.2.2.2.2.2.2.2.2.2.2.2.2.2.2.2.2.2.2.2.2.2.2.2.1.1 x.1.2.2.2.2.2.2.2.2.2.2.2.2.2.2.2.2.2.2.2.2.2.2.2.2.2.2.2.2.2.2.2.2.2.2.2.2.2.2.2.1.2 x.1.2.2.2.2.2.2.2.2.2.2.2.2.2.2.2.2.2.2.2.2.2.2.2.2.2.2.2.2.2.2.2.2.2.2.2.2.2.2.2.2.1 x.1.2.2.2.2.2.2.2.2.2.2.2.2.2.2.2.2.2.2.2.2.2.2.2.2.2.2.2.2.2.2.2.2.2.2.2.2.2.2.2.2.2.1 x.2.2.2.2.1 x.2.2.2.2.2.1
noncomputable def t_frame_writer_parts_h0_1 (k1 : Nat → Nat → Int → Int → (List D_ranges_Range) → (List Int) → Option R_frame_writer_parts_h0) (o72 : Nat) (k73 : Nat) (i74 : Int) (i75 : Int) (l76 : (List D_ranges_Range)) (l77 : (List Int)) : Option R_frame_writer_parts_h0 :=
 let b78 : Bool := (decide (i75 < i74))
 bif b78 then
  bif (decide (((0 : Int) ≤ i75) ∧ (i75 < ((k73 : Nat) : Int)))) then
   let i79 : Nat := (o72 + (Int.toNat i75))
   let n80 : Int := (List.getD l76 i79 (Ty.dflt T_ranges_Range)).1
   let n81 : Int := (List.getD l76 i79 (Ty.dflt T_ranges_Range)).2.1
   bif (decide (((0 : Int) ≤ i75) ∧ (i75 < (((List.length l76) : Nat) : Int)))) then
    let i82 : Nat := (Int.toNat i75)
    let n83 : Int := (List.getD l76 i82 (Ty.dflt T_ranges_Range)).1
    let n84 : Int := (Go.IntKind.wrap Go.IntKind.u64 (n83 - n81))
    let n85 : Int := (Go.IntKind.wrap Go.IntKind.u64 (n84 - (2 : Int)))
    let n86 : Int := (Go.IntKind.wrap Go.IntKind.u64 (n81 - n80))
    obind (frame_writer_numbers_h1 (n85 :: (n86 :: ([] : List Int))) l77) fun y87 =>
    let n88 : Int := (Go.IntKind.wrap Go.IntKind.i64 (i75 + (1 : Int)))
    k1 o72 k73 i74 n88 l76 y87.2.1
   else none
  else none
 else
  some (l77, ())
noncomputable def frame_writer_parts_h0_1 : Nat → Nat → Nat → Int → Int → (List D_ranges_Range) → (List Int) → Option R_frame_writer_parts_h0
 | 0 => fun _ _ _ _ _ _ => none
 | m + 1 => t_frame_writer_parts_h0_1 (frame_writer_parts_h0_1 m)
noncomputable def b_frame_writer_parts_h0_1' (o72 : Nat) (k73 : Nat) (i74 : Int) (i75 : Int) (l76 : (List D_ranges_Range)) (l77 : (List Int)) : Option R_frame_writer_parts_h0 := frame_writer_parts_h0_1 (Int.toNat (i74 - i75) + 2) o72 k73 i74 i75 l76 l77
theorem ex_frame_writer_parts_h0_1' : ∃ f, f = @b_frame_writer_parts_h0_1' := ⟨_, rfl⟩
noncomputable def frame_writer_parts_h0_1' := Classical.choose ex_frame_writer_parts_h0_1'
theorem frame_writer_parts_h0_1'_eq : @frame_writer_parts_h0_1' = @b_frame_writer_parts_h0_1' := Classical.choose_spec ex_frame_writer_parts_h0_1'
theorem s_frame_writer_parts_h0_1 {base S0 cs0} (hfin : H_frame_writer_parts_h0 base S0) : ∀ m, J_frame_writer_parts_h0 base S0 cs0 p_frame_writer_parts_h0_1 (u_frame_writer_parts_h0_1 (frame_writer_parts_h0_1 m)) :=
 JSound.loop' hfin.2 ks_frame_writer_parts_h0 100000 u_frame_writer_parts_h0_1 (fun k1 => cut p_frame_writer_parts_h0_1 (u_frame_writer_parts_h0_1 k1) (x_frame_writer_parts_h0_2)) (fun k1 h1 => OSound.cut (o_frame_writer_parts_h0_2 hfin) (Nat.le_of_eq hfin.1) h1) (frame_writer_parts_h0_1) (by intro x; rfl) (by intro m x; kernel_rfl)
theorem s_frame_writer_parts_h0_1' {base S0 cs0} (hfin : H_frame_writer_parts_h0 base S0) : J_frame_writer_parts_h0 base S0 cs0 p_frame_writer_parts_h0_1 (u_frame_writer_parts_h0_1 (frame_writer_parts_h0_1')) := by
 rw [frame_writer_parts_h0_1'_eq]; exact fun x r hx => s_frame_writer_parts_h0_1 hfin _ x r hx
noncomputable def x_frame_writer_parts_h0_1 : Cfg → Option (Option R_frame_writer_parts_h0) := cut p_frame_writer_parts_h0_1 (u_frame_writer_parts_h0_1 (frame_writer_parts_h0_1')) (x_frame_writer_parts_h0_2)
theorem o_frame_writer_parts_h0_1 {base S0 cs0} (hfin : H_frame_writer_parts_h0 base S0) : O_frame_writer_parts_h0 base S0 cs0 (x_frame_writer_parts_h0_1) := OSound.cut (o_frame_writer_parts_h0_2 hfin) (Nat.le_of_eq hfin.1) (s_frame_writer_parts_h0_1' hfin)
@[reducible] noncomputable def p_frame_writer_parts_h0_0 : CPat := ⟨⟨117, [1, 0], none, [.all 2, .any, .int .i64, .int .i64], 24⟩, [⟨75, [1, 1, 0, 1, 0, 1, 0], (some 1), [.ptr 0 0, .any, .any, .ptr 3 0, .all 2], 178⟩], [.cells 132 [.ptr 0 0, .all 1], .row (.byt 5), .row T_ranges_Range, .dat 34 T_frame_Frame], 2⟩
@[reducible] noncomputable def u_frame_writer_parts_h0_0 (k : Int → Int → (List Int) → (List D_ranges_Range) → D_frame_Frame → Option R_frame_writer_parts_h0) : denC p_frame_writer_parts_h0_0 → Option R_frame_writer_parts_h0 := fun x => k x.1.2.2.1 x.1.2.2.2.1 x.2.2.2.1 x.2.2.2.2.1 x.2.2.2.2.2.1
noncomputable def t_frame_writer_parts_h0_0 (k0 : Int → Int → (List Int) → (List D_ranges_Range) → D_frame_Frame → Option R_frame_writer_parts_h0) (i30 : Int) (i31 : Int) (l32 : (List Int)) (l33 : (List D_ranges_Range)) (d34 : D_frame_Frame) : Option R_frame_writer_parts_h0 :=
 let b35 : Bool := (decide (i30 < i31))
 bif b35 then
  bif (decide (((0 : Int) ≤ i31) ∧ (i31 < (((List.length l33) : Nat) : Int)))) then
   let i36 : Nat := (Int.toNat i31)
   let n37 : Int := (List.getD l33 i36 (Ty.dflt T_ranges_Range)).1
   let n38 : Int := (List.getD l33 i36 (Ty.dflt T_ranges_Range)).2.1
   bif (decide (((0 : Int) ≤ i30) ∧ (i30 < (((List.length l33) : Nat) : Int)))) then
    let i39 : Nat := (Int.toNat i30)
    let n40 : Int := (List.getD l33 i39 (Ty.dflt T_ranges_Range)).1
    let n41 : Int := (List.getD l33 i39 (Ty.dflt T_ranges_Range)).2.1
    bif (decide (((0 : Int) ≤ i30) ∧ (i30 < (((List.length l33) : Nat) : Int)))) then
     let i42 : Nat := (Int.toNat i30)
     let l43 : (List D_ranges_Range) := (List.set l33 i42 (n37, (n38, ())))
     bif (decide (((0 : Int) ≤ i31) ∧ (i31 < (((List.length l43) : Nat) : Int)))) then
      let i44 : Nat := (Int.toNat i31)
      let l45 : (List D_ranges_Range) := (List.set l43 i44 (n40, (n41, ())))
      let n46 : Int := (Go.IntKind.wrap Go.IntKind.i64 (i30 + (1 : Int)))
      let n47 : Int := (Go.IntKind.wrap Go.IntKind.i64 (i31 - (1 : Int)))
      k0 n46 n47 l32 l45 d34
     else none
    else none
   else none
  else none
 else
  bif (decide (((0 : Int) ≤ (0 : Int)) ∧ ((0 : Int) < (((List.length l33) : Nat) : Int)))) then
   let n48 : Int := (List.getD l33 0 (Ty.dflt T_ranges_Range)).2.1
   let n49 : Int := (((List.length l33) : Nat) : Int)
   let n50 : Int := (Go.IntKind.wrap Go.IntKind.i64 (n49 - (1 : Int)))
   let n51 : Int := (Go.IntKind.wrap Go.IntKind.u64 n50)
   bif (decide (((0 : Int) ≤ (0 : Int)) ∧ ((0 : Int) < (((List.length l33) : Nat) : Int)))) then
    let n52 : Int := (List.getD l33 0 (Ty.dflt T_ranges_Range)).2.1
    bif (decide (((0 : Int) ≤ (0 : Int)) ∧ ((0 : Int) < (((List.length l33) : Nat) : Int)))) then
     let n53 : Int := (List.getD l33 0 (Ty.dflt T_ranges_Range)).1
     let n54 : Int := (Go.IntKind.wrap Go.IntKind.u64 (n52 - n53))
     obind (frame_writer_numbers_h1 (n48 :: (d34.2.2.2.2.2.2.2.1 :: (n51 :: (n54 :: ([] : List Int))))) l32) fun y55 =>
     bif (decide (((0 : Int) ≤ (1 : Int)) ∧ (((1 : Int) ≤ (((List.length l33) : Nat) : Int)) ∧ ((((List.length l33) : Nat) : Int) ≤ (((List.length l33) : Nat) : Int))))) then
      let k56 : Nat := ((Int.toNat (((List.length l33) : Nat) : Int)) - 1)
      let n57 : Int := ((k56 : Nat) : Int)
      frame_writer_parts_h0_1' 1 k56 n57 (0 : Int) l33 y55.2.1
     else none
    else none
   else none
  else none
noncomputable def frame_writer_parts_h0_0 : Nat → Int → Int → (List Int) → (List D_ranges_Range) → D_frame_Frame → Option R_frame_writer_parts_h0
 | 0 => fun _ _ _ _ _ => none
 | m + 1 => t_frame_writer_parts_h0_0 (frame_writer_parts_h0_0 m)
noncomputable def b_frame_writer_parts_h0_0' (i30 : Int) (i31 : Int) (l32 : (List Int)) (l33 : (List D_ranges_Range)) (d34 : D_frame_Frame) : Option R_frame_writer_parts_h0 := frame_writer_parts_h0_0 (Int.toNat (i31 - i30) + 2) i30 i31 l32 l33 d34
theorem ex_frame_writer_parts_h0_0' : ∃ f, f = @b_frame_writer_parts_h0_0' := ⟨_, rfl⟩
noncomputable def frame_writer_parts_h0_0' := Classical.choose ex_frame_writer_parts_h0_0'
theorem frame_writer_parts_h0_0'_eq : @frame_writer_parts_h0_0' = @b_frame_writer_parts_h0_0' := Classical.choose_spec ex_frame_writer_parts_h0_0'
theorem s_frame_writer_parts_h0_0 {base S0 cs0} (hfin : H_frame_writer_parts_h0 base S0) : ∀ m, J_frame_writer_parts_h0 base S0 cs0 p_frame_writer_parts_h0_0 (u_frame_writer_parts_h0_0 (frame_writer_parts_h0_0 m)) :=
 JSound.loop' hfin.2 ks_frame_writer_parts_h0 100000 u_frame_writer_parts_h0_0 (fun k0 => cut p_frame_writer_parts_h0_0 (u_frame_writer_parts_h0_0 k0) (x_frame_writer_parts_h0_1)) (fun k0 h0 => OSound.cut (o_frame_writer_parts_h0_1 hfin) (Nat.le_of_eq hfin.1) h0) (frame_writer_parts_h0_0) (by intro x; rfl) (by intro m x; kernel_rfl)
theorem s_frame_writer_parts_h0_0' {base S0 cs0} (hfin : H_frame_writer_parts_h0 base S0) : J_frame_writer_parts_h0 base S0 cs0 p_frame_writer_parts_h0_0 (u_frame_writer_parts_h0_0 (frame_writer_parts_h0_0')) := by
 rw [frame_writer_parts_h0_0'_eq]; exact fun x r hx => s_frame_writer_parts_h0_0 hfin _ x r hx
noncomputable def x_frame_writer_parts_h0_0 : Cfg → Option (Option R_frame_writer_parts_h0) := cut p_frame_writer_parts_h0_0 (u_frame_writer_parts_h0_0 (frame_writer_parts_h0_0')) (x_frame_writer_parts_h0_1)
theorem o_frame_writer_parts_h0_0 {base S0 cs0} (hfin : H_frame_writer_parts_h0 base S0) : O_frame_writer_parts_h0 base S0 cs0 (x_frame_writer_parts_h0_0) := OSound.cut (o_frame_writer_parts_h0_1 hfin) (Nat.le_of_eq hfin.1) (s_frame_writer_parts_h0_0' hfin)
noncomputable def b_frame_writer_parts_h0 (d0 : D_frame_Frame) (l1 : (List Int)) : Option R_frame_writer_parts_h0 :=
 let b2 : Bool := (d0.1 == (2 : Int))
 bif b2 then
  obind (slices_Clone_ranges_Range d0.2.2.2.2.2.2.2.2.2.2.2.2.1) fun y3 =>
  let n4 : Int := (((List.length y3) : Nat) : Int)
  let n5 : Int := (Go.IntKind.wrap Go.IntKind.i64 (n4 - (1 : Int)))
  frame_writer_parts_h0_0' (0 : Int) n5 l1 y3 d0
 else
  let b89 : Bool := (d0.1 == (4 : Int))
  bif b89 then
   obind (frame_writer_numbers_h1 (d0.2.1 :: (d0.2.2.2.2.1 :: (d0.2.2.2.1 :: ([] : List Int)))) l1) fun y90 =>
   some (y90.2.1, ())
  else
   let b91 : Bool := (d0.1 == (5 : Int))
   bif b91 then
    obind (frame_writer_numbers_h1 (d0.2.1 :: (d0.2.2.2.2.1 :: ([] : List Int))) l1) fun y92 =>
    some (y92.2.1, ())
   else
    let b93 : Bool := (d0.1 == (6 : Int))
    bif b93 then
     obind (frame_writer_numbers_h1 (d0.2.2.1 :: ([] : List Int)) l1) fun y94 =>
     obind (frame_writer_long_h0 d0.2.2.2.2.2.2.2.2.2.1 y94.2.1) fun y95 =>
     some (y95.1, ())
    else
     let b96 : Bool := (d0.1 == (16 : Int))
     bif b96 then
      frame_writer_parts_h0_2 d0.1 true l1 d0
     else
      let b97 : Bool := (d0.1 == (18 : Int))
      bif b97 then
       frame_writer_parts_h0_2 d0.1 true l1 d0
      else
       let b98 : Bool := (d0.1 == (19 : Int))
       bif b98 then
        frame_writer_parts_h0_2 d0.1 true l1 d0
       else
        let b99 : Bool := (d0.1 == (20 : Int))
        bif b99 then
         frame_writer_parts_h0_2 d0.1 true l1 d0
        else
         let b100 : Bool := (d0.1 == (22 : Int))
         bif b100 then
          frame_writer_parts_h0_2 d0.1 true l1 d0
         else
          let b101 : Bool := (d0.1 == (23 : Int))
          frame_writer_parts_h0_2 d0.1 b101 l1 d0
theorem ex_frame_writer_parts_h0 : ∃ f, f = @b_frame_writer_parts_h0 := ⟨_, rfl⟩
noncomputable def frame_writer_parts_h0 := Classical.choose ex_frame_writer_parts_h0
theorem frame_writer_parts_h0_eq : @frame_writer_parts_h0 = @b_frame_writer_parts_h0 := Classical.choose_spec ex_frame_writer_parts_h0
noncomputable def hb_frame_writer_parts_h0 : HCon := HCon.mk0 pa_frame_writer_parts_h0 pH_frame_writer_parts_h0 qa_frame_writer_parts_h0 qH_frame_writer_parts_h0 R_frame_writer_parts_h0 (fun x => b_frame_writer_parts_h0 x.1.2.1 x.2.2.1) (fun r => ((), (((), ((), ())), ((), (r.1, ()))))) (fun y => (y.2.2.2.1, ())) (fun _ => rfl)
noncomputable def h_frame_writer_parts_h0 : HCon := HCon.mk0 pa_frame_writer_parts_h0 pH_frame_writer_parts_h0 qa_frame_writer_parts_h0 qH_frame_writer_parts_h0 R_frame_writer_parts_h0 (fun x => frame_writer_parts_h0 x.1.2.1 x.2.2.1) (fun r => ((), (((), ((), ())), ((), (r.1, ()))))) (fun y => (y.2.2.2.1, ())) (fun _ => rfl)
theorem hb_frame_writer_parts_h0_ok : hb_frame_writer_parts_h0.Sound prog Inv gInv 75 :=
 hcon_run (M := m_frame_writer_parts_h0) (f := f75) rfl ks_frame_writer_parts_h0 100000 (X := x_frame_writer_parts_h0_0) (fun base S0 cs0 hn hf => have hfin : H_frame_writer_parts_h0 base S0 := ⟨hn, hf⟩; o_frame_writer_parts_h0_0 hfin) (by intro x; kernel_rfl)
theorem h_frame_writer_parts_h0_ok : h_frame_writer_parts_h0.Sound prog Inv gInv 75 := by
 have e : h_frame_writer_parts_h0 = hb_frame_writer_parts_h0 := by unfold h_frame_writer_parts_h0 hb_frame_writer_parts_h0; rw [frame_writer_parts_h0_eq]
 rw [e]; exact hb_frame_writer_parts_h0_ok
noncomputable def m_frame_Put : Mach prog Inv gInv := mach bas [(31, f31), (73, f73), (74, f74), (75, f75), (76, f76), (113, f113), (115, f115), (117, f117), (118, f118), (147, f147)] ⟨ok31, ok73, ok74, ok75, ok76, ok113, ok115, ok117, ok118, ok147, trivial⟩ [(34, c_frame_May), (114, c_varint_Puts)] ⟨⟨c_frame_May_ok, FnOk.callable ok34⟩, ⟨c_varint_Puts_ok, FnOk.callable ok114⟩, trivial⟩ [(116, c_slices_Clone_ranges_Range)] ⟨⟨c_slices_Clone_ranges_Range_ok, FnOk.callable ok116⟩, trivial⟩ [(147, h_strings_Builder_copyCheck_h0), (147, h_strings_Builder_copyCheck_h1), (147, h_strings_Builder_copyCheck_h2), (74, h_frame_writer_numbers_h0), (147, h_strings_Builder_copyCheck_h3), (74, h_frame_writer_numbers_h1), (113, h_frame_writer_long_h0), (73, h_frame_writer_stream_h0), (115, h_strings_Builder_WriteString_h0), (118, h_strings_Builder_WriteByte_h0), (75, h_frame_writer_parts_h0)] ⟨⟨h_strings_Builder_copyCheck_h0_ok, FnOk.callable ok147⟩, ⟨h_strings_Builder_copyCheck_h1_ok, FnOk.callable ok147⟩, ⟨h_strings_Builder_copyCheck_h2_ok, FnOk.callable ok147⟩, ⟨h_frame_writer_numbers_h0_ok, FnOk.callable ok74⟩, ⟨h_strings_Builder_copyCheck_h3_ok, FnOk.callable ok147⟩, ⟨h_frame_writer_numbers_h1_ok, FnOk.callable ok74⟩, ⟨h_frame_writer_long_h0_ok, FnOk.callable ok113⟩, ⟨h_frame_writer_stream_h0_ok, FnOk.callable ok73⟩, ⟨h_strings_Builder_WriteString_h0_ok, FnOk.callable ok115⟩, ⟨h_strings_Builder_WriteByte_h0_ok, FnOk.callable ok118⟩, ⟨h_frame_writer_parts_h0_ok, FnOk.callable ok75⟩, trivial⟩
/-! ### domino/frame.Put -/
@[reducible] def r_frame_Put : List Ty := [.str, (.int .i64)]
def ks_frame_Put : List Nat := [31, 73, 74, 75, 76, 113, 115, 117, 118, 147]
noncomputable def b_frame_Put (a0 : D_frame_Frame) : Option (ByteArray × Int × Unit) :=
 let s1 : ByteArray := (ByteArray.mk (List.toArray ([] : List UInt8)))
 obind (frame_May a0) fun y2 =>
 let b3 : Bool := (!y2.1)
 bif b3 then
  let s4 : ByteArray := (ByteArray.mk (List.toArray ([] : List UInt8)))
  some (s4, ((1 : Int), ()))
 else
  let b5 : Bool := (a0.1 == (8 : Int))
  bif b5 then
   obind (frame_writer_stream_h0 a0) fun y6 =>
   let s15 : ByteArray := (ByteArray.mk (List.toArray ([] : List UInt8)))
   let n16 : Int := (((List.length y6.1) : Nat) : Int)
   bif (decide ((n16 = (((List.length y6.1) : Nat) : Int)) ∧ (n16 ≤ (4294967296 : Int)))) then
    let s17 : ByteArray := (bytesStr y6.1)
    some (s17, ((0 : Int), ()))
   else none
  else
   obind (frame_writer_numbers_h0 (a0.1 :: ([] : List Int))) fun y7 =>
   obind (frame_writer_parts_h0 a0 y7.2.1) fun y8 =>
   let s12 : ByteArray := (ByteArray.mk (List.toArray ([] : List UInt8)))
   let n13 : Int := (((List.length y8.1) : Nat) : Int)
   bif (decide ((n13 = (((List.length y8.1) : Nat) : Int)) ∧ (n13 ≤ (4294967296 : Int)))) then
    let s14 : ByteArray := (bytesStr y8.1)
    some (s14, ((0 : Int), ()))
   else none
theorem ex_frame_Put : ∃ f, f = @b_frame_Put := ⟨_, rfl⟩
noncomputable def frame_Put := Classical.choose ex_frame_Put
theorem frame_Put_eq : @frame_Put = @b_frame_Put := Classical.choose_spec ex_frame_Put
noncomputable def cb_frame_Put : Con := ⟨[T_frame_Frame], r_frame_Put, fun x => b_frame_Put x.1⟩
noncomputable def c_frame_Put : Con := ⟨[T_frame_Frame], r_frame_Put, fun x => frame_Put x.1⟩
theorem cb_frame_Put_ok : cb_frame_Put.Sound prog Inv gInv 31 :=
 con_run (M := m_frame_Put) inv_g (f := f31) rfl ks_frame_Put 100000 (X := nowhere) (fun base S0 cs0 hn hf => OSound.nowhere) (by intro x; kernel_rfl)
theorem c_frame_Put_ok : c_frame_Put.Sound prog Inv gInv 31 := by
 have e : c_frame_Put = cb_frame_Put := by unfold c_frame_Put cb_frame_Put; rw [frame_Put_eq]
 rw [e]; exact cb_frame_Put_ok
end Go.Proofs.YtjdjlijjolibkaaDoor.V
namespace Go.Proofs.YtjdjlijjolibkaaDoor.V
open Go.RowKit
def In62 (n : Int) : Prop := 0 ≤ n ∧ n < 4611686018427387904
theorem num0_is (l : List Int) (hl : l.length ≤ 1000) (h : ∀ n ∈ l, In62 n) : frame_writer_numbers_h0 l = some (l, vbs l, ()) := by
 rw [frame_writer_numbers_h0_eq, b_frame_writer_numbers_h0, puts_is l (by omega) h]
 simp only [obind_some, strings_Builder_copyCheck_h2_eq, b_strings_Builder_copyCheck_h2, strBytes_bytesStr (vbs_range l h)]
 have := vbs_len l
 have : (vbs l).length ≤ 4294967296 := by omega
 simp only [this, decide_true, cond_true]
theorem num1_is (l acc : List Int) (hl : l.length ≤ 1000) (ha : acc.length ≤ 1000000) (h : ∀ n ∈ l, In62 n) : frame_writer_numbers_h1 l acc = some (l, acc ++ vbs l, ()) := by
 rw [frame_writer_numbers_h1_eq, b_frame_writer_numbers_h1, puts_is l (by omega) h]
 simp only [obind_some, strings_Builder_copyCheck_h3_eq, b_strings_Builder_copyCheck_h3, strBytes_bytesStr (vbs_range l h)]
 have := vbs_len l
 have : acc.length + (vbs l).length ≤ 4294967296 := by omega
 simp only [this, decide_true, cond_true]
def textL (s : ByteArray) : List Int := vb ((s.size : Nat) : Int) ++ strBytes s
theorem long_is (s : ByteArray) (acc : List Int) (hs : s.size ≤ 100000) (ha : acc.length ≤ 900000) : frame_writer_long_h0 s acc = some (acc ++ textL s, ()) := by
 rw [frame_writer_long_h0_eq, b_frame_writer_long_h0]
 rw [wrap_u64 _ (by omega) (by omega), num1_is _ _ (by simp) (by omega) (by intro n hn; simp at hn; subst hn; unfold In62; omega)]
 simp only [obind_some, strings_Builder_copyCheck_h3_eq, b_strings_Builder_copyCheck_h3]
 have h1 := vbs_len [((s.size : Nat) : Int)]
 have h2 := strBytes_len s
 simp only [List.length_cons, List.length_nil] at h1
 have : (acc ++ vbs [((s.size : Nat) : Int)]).length + (strBytes s).length ≤ 4294967296 := by rw [List.length_append]; omega
 simp only [this, decide_true, cond_true]
 simp only [textL, vbs, List.flatMap_cons, List.flatMap_nil, List.append_nil, List.append_assoc]
theorem wstr_is (s : ByteArray) (acc : List Int) (hs : s.size ≤ 100000) (ha : acc.length ≤ 1000000) : strings_Builder_WriteString_h0 s acc = some (((s.size : Nat) : Int), acc ++ strBytes s, ()) := by
 rw [strings_Builder_WriteString_h0_eq, b_strings_Builder_WriteString_h0]
 simp only [obind_some, strings_Builder_copyCheck_h3_eq, b_strings_Builder_copyCheck_h3]
 have h2 := strBytes_len s
 have : acc.length + (strBytes s).length ≤ 4294967296 := by omega
 simp only [this, decide_true, cond_true]
theorem wbyte_is (n : Int) (acc : List Int) (ha : acc.length ≤ 1000000) : strings_Builder_WriteByte_h0 n acc = some (acc ++ [n], ()) := by
 rw [strings_Builder_WriteByte_h0_eq, b_strings_Builder_WriteByte_h0]
 simp only [obind_some, strings_Builder_copyCheck_h3_eq, b_strings_Builder_copyCheck_h3]
 have : acc.length + [n].length ≤ 4294967296 := by simp; omega
 simp only [this, decide_true, cond_true]
/-! ### an Ack's ranges -/
def descR : Int → List D_ranges_Range → Prop
 | _, [] => True
 | lo, r :: l => 0 ≤ r.1 ∧ r.1 ≤ r.2.1 ∧ r.2.1 + 2 ≤ lo ∧ descR r.1 l
theorem descR.mono {a b : Int} (h : a ≤ b) : ∀ {l : List D_ranges_Range}, descR a l → descR b l
 | [], _ => trivial
 | r :: l, k => ⟨k.1, k.2.1, by have := k.2.2.1; omega, k.2.2.2⟩
def endR : Int → List D_ranges_Range → Int
 | e, [] => e
 | _, r :: l => endR (r.2.1 + 2) l
theorem desc_rev : ∀ (l acc : List D_ranges_Range) (e : Int), mayR e l = true → 0 ≤ e → (∀ r ∈ l, 0 ≤ r.1) → descR e acc → descR (endR e l) (l.reverse ++ acc)
 | [], acc, e, _, _, _, h => h
 | r :: l, acc, e, hm, he, h0, h => by
  simp only [mayR, Bool.and_eq_true, decide_eq_true_eq] at hm
  obtain ⟨⟨⟨m1, m2⟩, m3⟩, m4⟩ := hm
  have hr := h0 r (by simp)
  have := desc_rev l (r :: acc) (r.2.1 + 2) m4 (by omega) (fun x hx => h0 x (by simp [hx])) ⟨hr, m1, by omega, h.mono m3⟩
  simpa [endR] using this
theorem endR_last : ∀ (l : List D_ranges_Range) (e : Int), l ≠ [] → endR e l = lastHi l + 2
 | [], _, h => absurd rfl h
 | [r], _, _ => by simp [endR, lastHi]
 | r :: s :: l, e, _ => by
  have := endR_last (s :: l) (r.2.1 + 2) (by simp)
  simp only [endR] at this ⊢
  rw [this]
  simp [lastHi]
def ackGaps : Int → List D_ranges_Range → List Int
 | _, [] => []
 | lo, r :: l => vb (lo - r.2.1 - 2) ++ vb (r.2.1 - r.1) ++ ackGaps r.1 l
theorem ackGaps_len : ∀ (l : List D_ranges_Range) (lo : Int), (ackGaps lo l).length ≤ 16 * l.length
 | [], _ => by simp [ackGaps]
 | r :: l, lo => by
  have := ackGaps_len l r.1
  have := vb_len (lo - r.2.1 - 2)
  have := vb_len (r.2.1 - r.1)
  simp only [ackGaps, List.length_append, List.length_cons]
  omega
def ackL (delay : Int) : List D_ranges_Range → List Int
 | [] => []
 | r :: l => vb r.2.1 ++ vb delay ++ vb ((l.length : Nat) : Int) ++ vb (r.2.1 - r.1) ++ ackGaps r.1 l
theorem getD_mid1 {α : Type} (pre : List α) (x y : α) (suf : List α) (d : α) : (pre ++ x :: y :: suf).getD (1 + pre.length) d = y := by
 rw [show pre ++ x :: y :: suf = (pre ++ [x]) ++ y :: suf by simp, show 1 + pre.length = (pre ++ [x]).length by simp; omega, getD_mid]
theorem gaps_loop : ∀ (suf pre : List D_ranges_Range) (a : D_ranges_Range) (acc : List Int) (m k : Nat), suf.length < m → (pre ++ a :: suf).length ≤ 1000 → acc.length + 16 * suf.length ≤ 100000 → descR a.1 suf → a.1 < 4611686018427387904 → k = pre.length + suf.length →
  frame_writer_parts_h0_1 m 1 k ((k : Nat) : Int) ((pre.length : Nat) : Int) (pre ++ a :: suf) acc = some (acc ++ ackGaps a.1 suf, ()) := by
 intro suf
 induction suf with
 | nil =>
  intro pre a acc m k hm _ _ _ _ hk
  obtain ⟨m, rfl⟩ : ∃ k, m = k + 1 := ⟨m - 1, by omega⟩
  have : ¬ ((pre.length : Nat) : Int) < ((k : Nat) : Int) := by subst hk; simp
  simp only [frame_writer_parts_h0_1, t_frame_writer_parts_h0_1, this, decide_false, cond_false, ackGaps, List.append_nil]
 | cons r suf ih =>
  intro pre a acc m k hm hl ha hd hlt hk
  obtain ⟨m, rfl⟩ : ∃ k, m = k + 1 := ⟨m - 1, by omega⟩
  obtain ⟨d1, d2, d3, d4⟩ := hd
  have c1 : ((pre.length : Nat) : Int) < ((k : Nat) : Int) := by subst hk; simp; omega
  simp only [frame_writer_parts_h0_1, t_frame_writer_parts_h0_1, c1, nn, and_true, mid_lt, decide_true, cond_true, toNat_len, getD_mid, getD_mid1]
  rw [wrap_u64 (a.1 - r.2.1) (by omega) (by omega), wrap_u64 (a.1 - r.2.1 - 2) (by omega) (by omega), wrap_u64 (r.2.1 - r.1) (by omega) (by omega)]
  rw [num1_is _ _ (by simp) (by omega) (by intro n hn; simp at hn; unfold In62; omega)]
  simp only [obind_some]
  have hv := vbs_len [a.1 - r.2.1 - 2, r.2.1 - r.1]
  simp only [List.length_cons, List.length_nil] at hv
  rw [mid_next pre a a (r :: suf) (by omega), snoc_app pre a (r :: suf), ih (pre ++ [a]) r _ m k (by simp at hm; omega) (by simpa using hl) (by simp at ha ⊢; omega) d4 (by omega) (by subst hk; simp; omega)]
  simp [ackGaps, vbs]
theorem set_mid2 {α : Type} (pre m : List α) (x y z : α) (suf : List α) : (pre ++ x :: (m ++ y :: suf)).set (pre.length + 1 + m.length) z = pre ++ x :: (m ++ z :: suf) := by
 rw [show pre ++ x :: (m ++ y :: suf) = (pre ++ x :: m) ++ y :: suf by simp, show pre.length + 1 + m.length = (pre ++ x :: m).length by simp; omega, set_mid]; simp
theorem getD_mid2 {α : Type} (pre m : List α) (x y : α) (suf : List α) (d : α) : (pre ++ x :: (m ++ y :: suf)).getD (pre.length + 1 + m.length) d = y := by
 rw [show pre ++ x :: (m ++ y :: suf) = (pre ++ x :: m) ++ y :: suf by simp, show pre.length + 1 + m.length = (pre ++ x :: m).length by simp; omega, getD_mid]
theorem rev_loop (acc : List Int) (f : D_frame_Frame) : ∀ (n : Nat) (mid pre suf : List D_ranges_Range) (m : Nat), mid.length ≤ n → n < m → (pre ++ (mid ++ suf)).length ≤ 1000 →
  frame_writer_parts_h0_0 m ((pre.length : Nat) : Int) (((pre.length : Nat) : Int) + ((mid.length : Nat) : Int) - 1) acc (pre ++ (mid ++ suf)) f = frame_writer_parts_h0_0 1 0 0 acc (pre ++ (mid.reverse ++ suf)) f := by
 intro n
 induction n using Nat.strongRecOn with
 | _ n ih =>
  intro mid pre suf m hn hm hl
  obtain ⟨m, rfl⟩ : ∃ k, m = k + 1 := ⟨m - 1, by omega⟩
  have done : mid.length ≤ 1 → mid.reverse = mid := by
   intro h
   match mid, h with
   | [], _ => rfl
   | [x], _ => rfl
  by_cases h1 : mid.length ≤ 1
  ·
   have c : ¬ ((pre.length : Nat) : Int) < ((pre.length : Nat) : Int) + ((mid.length : Nat) : Int) - 1 := by omega
   rw [done h1]
   simp only [frame_writer_parts_h0_0, t_frame_writer_parts_h0_0, c, decide_false, cond_false, Int.lt_irrefl]
  ·
   obtain ⟨x, r, rfl⟩ : ∃ x r, mid = x :: r := by
    cases mid with
    | nil => simp at h1
    | cons x r => exact ⟨x, r, rfl⟩
   obtain ⟨md, y, rfl⟩ : ∃ md y, r = md ++ [y] := by
    rcases List.eq_nil_or_concat r with e | ⟨md, y, e⟩
    · subst e; simp at h1
    · exact ⟨md, y, by simpa using e⟩
   have ej : ((pre.length : Nat) : Int) + (((x :: (md ++ [y])).length : Nat) : Int) - 1 = ((pre.length + 1 + md.length : Nat) : Int) := by simp; omega
   have eL : pre ++ ((x :: (md ++ [y])) ++ suf) = pre ++ x :: (md ++ y :: suf) := by simp
   rw [ej, eL]
   have c : ((pre.length : Nat) : Int) < ((pre.length + 1 + md.length : Nat) : Int) := by omega
   have c1 : ((pre.length + 1 + md.length : Nat) : Int) < (((pre ++ x :: (md ++ y :: suf)).length : Nat) : Int) := by simp; omega
   have c2 : ((pre.length + 1 + md.length : Nat) : Int) < (((pre ++ y :: (md ++ y :: suf)).length : Nat) : Int) := by simp; omega
   have ey : ((y.1, (y.2.1, ())) : D_ranges_Range) = y := rfl
   have ex : ((x.1, (x.2.1, ())) : D_ranges_Range) = x := rfl
   rw [frame_writer_parts_h0_0]
   simp only [t_frame_writer_parts_h0_0, c, c1, c2, mid_lt, nn, and_self, decide_true, cond_true, Int.toNat_natCast, getD_mid, getD_mid2, set_mid, set_mid2, ey, ex]
   have w1 : IntKind.wrap .i64 (((pre.length : Nat) : Int) + 1) = (((pre ++ [y]).length : Nat) : Int) := by rw [wrap_i64 _ (by simp at hl; omega) (by simp at hl; omega)]; simp
   have w2 : IntKind.wrap .i64 (((pre.length + 1 + md.length : Nat) : Int) - 1) = (((pre ++ [y]).length : Nat) : Int) + ((md.length : Nat) : Int) - 1 := by rw [wrap_i64 _ (by simp at hl; omega) (by simp at hl; omega)]; simp
   rw [w1, w2, show pre ++ y :: (md ++ x :: suf) = (pre ++ [y]) ++ (md ++ (x :: suf)) by simp]
   simp at hn
   rw [ih (n - 2) (by omega) md (pre ++ [y]) (x :: suf) m (by omega) (by omega) (by simp at hl ⊢; omega)]
   simp
/-! ### the parts of a frame -/
def partsL (f : D_frame_Frame) : List Int :=
 let k := f.1
 bif k == 2 then ackL f.2.2.2.2.2.2.2.1 f.2.2.2.2.2.2.2.2.2.2.2.2.1.reverse
 else bif k == 4 then vbs [f.2.1, f.2.2.2.2.1, f.2.2.2.1]
 else bif k == 5 then vbs [f.2.1, f.2.2.2.2.1]
 else bif k == 6 then vbs [f.2.2.1] ++ textL f.2.2.2.2.2.2.2.2.2.1
 else bif k == 16 || k == 18 || k == 19 || k == 20 || k == 22 || k == 23 then vbs [f.2.2.2.1]
 else bif k == 17 || k == 21 then vbs [f.2.1, f.2.2.2.1]
 else bif k == 24 then vbs [f.2.2.2.2.2.1, f.2.2.2.2.2.2.1] ++ [8] ++ (strBytes f.2.2.2.2.2.2.2.2.2.2.1 ++ strBytes f.2.2.2.2.2.2.2.2.2.2.2.1)
 else bif k == 25 then vbs [f.2.2.2.2.2.1]
 else bif k == 26 || k == 27 then strBytes f.2.2.2.2.2.2.2.2.2.2.2.1
 else bif k == 28 then vbs [f.2.2.2.2.1, f.2.2.2.2.2.2.2.1] ++ textL f.2.2.2.2.2.2.2.2.2.1
 else bif k == 29 then vbs [f.2.2.2.2.1] ++ textL f.2.2.2.2.2.2.2.2.2.1
 else []
def streamK (f : D_frame_Frame) : Int := 10 + (bif f.2.2.1 == 0 then 0 else 4) + (bif f.2.2.2.2.2.2.2.2.1 then 1 else 0)
def putL (f : D_frame_Frame) : List Int :=
 bif f.1 == 8 then vbs [streamK f, f.2.1] ++ (bif f.2.2.1 == 0 then [] else vbs [f.2.2.1]) ++ textL f.2.2.2.2.2.2.2.2.2.1
 else vbs [f.1] ++ partsL f
theorem nums62 {f : D_frame_Frame} (h : FrOk f) (hn : numsOk f = true) : In62 f.2.1 ∧ In62 f.2.2.1 ∧ In62 f.2.2.2.1 ∧ In62 f.2.2.2.2.1 ∧ In62 f.2.2.2.2.2.1 ∧ In62 f.2.2.2.2.2.2.1 ∧ In62 f.2.2.2.2.2.2.2.1 := by
 simp only [numsOk, decide_eq_true_eq] at hn
 obtain ⟨n1, n2, n3, n4, n5, n6, n7⟩ := hn
 have a1 := h.id; have a2 := h.off; have a3 := h.max; have a4 := h.code; have a5 := h.seq; have a6 := h.prior; have a7 := h.delay
 unfold In62
 refine ⟨?_, ?_, ?_, ?_, ?_, ?_, ?_⟩ <;> omega
theorem mayFr_parts {f : D_frame_Frame} (h : mayFr f = true) : kindB f.1 = true ∧ f = onlyF f ∧ numsOk f = true ∧ f.2.2.2.2.2.2.2.2.2.1.size ≤ 1200 ∧ extraF f = true := by
 simp only [mayFr, Bool.and_eq_true, decide_eq_true_eq] at h
 exact ⟨h.1.1.1.1, h.1.1.1.2, h.1.1.2, h.1.2, h.2⟩
theorem parts_is (f : D_frame_Frame) (acc : List Int) (h : FrOk f) (hm : mayFr f = true) (h8 : f.1 ≠ 8) (ha : acc.length ≤ 8) : frame_writer_parts_h0 f acc = some (acc ++ partsL f, ()) := by
 obtain ⟨hk, ho, hn, hd, he⟩ := mayFr_parts hm
 obtain ⟨n1, n2, n3, n4, n5, n6, n7⟩ := nums62 h hn
 have hset := h.set
 obtain ⟨k, id, off, mx, code, seq, prior, delay, fin, data, cid, tok, set, ⟨⟩⟩ := f
 simp only at *
 have L1 : ∀ a, In62 a → frame_writer_numbers_h1 [a] acc = some ([a], acc ++ vbs [a], ()) := fun a h => num1_is _ _ (by simp) (by omega) (by intro n hn; simp at hn; subst hn; exact h)
 have L2 : ∀ a b, In62 a → In62 b → frame_writer_numbers_h1 [a, b] acc = some ([a, b], acc ++ vbs [a, b], ()) := fun a b h k => num1_is _ _ (by simp) (by omega) (by intro n hn; simp at hn; rcases hn with rfl | rfl <;> assumption)
 have L3 : ∀ a b c, In62 a → In62 b → In62 c → frame_writer_numbers_h1 [a, b, c] acc = some ([a, b, c], acc ++ vbs [a, b, c], ()) := fun a b c h k l => num1_is _ _ (by simp) (by omega) (by intro n hn; simp at hn; rcases hn with rfl | rfl | rfl <;> assumption)
 have V1 : ∀ a, (acc ++ vbs [a]).length ≤ 100 := fun a => by have := vbs_len [a]; simp at this ⊢; omega
 have V2 : ∀ a b, (acc ++ vbs [a, b]).length ≤ 100 := fun a b => by have := vbs_len [a, b]; simp at this ⊢; omega
 have T1 : ∀ a, frame_writer_long_h0 data (acc ++ vbs [a]) = some ((acc ++ vbs [a]) ++ textL data, ()) := fun a => long_is _ _ (by omega) (by have := V1 a; omega)
 have T2 : ∀ a b, frame_writer_long_h0 data (acc ++ vbs [a, b]) = some ((acc ++ vbs [a, b]) ++ textL data, ()) := fun a b => long_is _ _ (by omega) (by have := V2 a b; omega)
 rw [frame_writer_parts_h0_eq, b_frame_writer_parts_h0]
 simp only [frame_writer_parts_h0_2_eq, b_frame_writer_parts_h0_2, frame_writer_parts_h0_3_eq, b_frame_writer_parts_h0_3, frame_writer_parts_h0_4_eq, b_frame_writer_parts_h0_4]
 rcases kinds hk with rfl | rfl | rfl | rfl | rfl | rfl | rfl | rfl | rfl | rfl | rfl | rfl | rfl | rfl | rfl | rfl | rfl | rfl | rfl | rfl | rfl | rfl
 case inr.inr.inl =>
  simp only [extraF, beq_self_eq_true, cond_true, Bool.and_eq_true, decide_eq_true_eq] at he
  obtain ⟨⟨⟨e1, e2⟩, e3⟩, e4⟩ := he
  have hne : set ≠ [] := by rintro rfl; simp at e2
  have hdesc := desc_rev set [] 0 e1 (by omega) (fun r hr => (hset r hr).1.1) trivial
  rw [endR_last set 0 hne, List.append_nil] at hdesc
  have hrl : set.reverse.length = set.length := by simp
  have clone : slices_Clone_ranges_Range set = some set := by unfold slices_Clone_ranges_Range; rw [decide_eq_true (by omega)]; rfl
  simp only [beq_self_eq_true, cond_true, clone, obind_some, partsL]
  rw [frame_writer_parts_h0_0'_eq, b_frame_writer_parts_h0_0', wrap_i64 _ (by omega) (by omega)]
  have hrev := rev_loop acc (2, id, off, mx, code, seq, prior, delay, fin, data, cid, tok, set, ()) set.length set [] [] (Int.toNat (((set.length : Nat) : Int) - 1 - 0) + 2) (by omega) (by omega) (by simp; omega)
  simp only [List.nil_append, List.append_nil, List.length_nil] at hrev
  rw [show ((0 : Nat) : Int) + ((set.length : Nat) : Int) - 1 = ((set.length : Nat) : Int) - 1 by omega, show ((0 : Nat) : Int) = 0 from rfl] at hrev
  rw [hrev]
  generalize set.reverse = L at *
  cases L with
  | nil => simp at hrl; omega
  | cons r l =>
   obtain ⟨d1, d2, d3, d4⟩ := hdesc
   simp only [List.length_cons] at hrl
   have c0 : (0 : Int) < (((r :: l).length : Nat) : Int) := by simp
   have c1 : (1 : Int) ≤ (((r :: l).length : Nat) : Int) := by simp; omega
   have w1 : IntKind.wrap .i64 ((((r :: l).length : Nat) : Int) - 1) = ((l.length : Nat) : Int) := by rw [wrap_i64 _ (by simp only [List.length_cons]; omega) (by simp only [List.length_cons]; omega)]; simp
   have w2 : IntKind.wrap .u64 ((l.length : Nat) : Int) = ((l.length : Nat) : Int) := wrap_u64 _ (by omega) (by omega)
   have w3 : IntKind.wrap .u64 (r.2.1 - r.1) = r.2.1 - r.1 := wrap_u64 _ (by omega) (by omega)
   have c2 : (0 : Int) ≤ 1 := by omega
   rw [frame_writer_parts_h0_0]
   simp only [t_frame_writer_parts_h0_0, Int.lt_irrefl, decide_false, cond_false, c0, c1, c2, Int.le_refl, and_self, decide_true, cond_true, List.getD_cons_zero, w1, w2, w3]
   rw [num1_is _ _ (by simp) (by omega) (by intro n hn; simp at hn; unfold In62 at *; omega)]
   simp only [obind_some]
   rw [frame_writer_parts_h0_1'_eq, b_frame_writer_parts_h0_1']
   have hv := vbs_len [r.2.1, delay, ((l.length : Nat) : Int), r.2.1 - r.1]
   simp only [List.length_cons, List.length_nil] at hv
   have hk1 : Int.toNat (((r :: l).length : Nat) : Int) - 1 = l.length := by simp
   rw [hk1]
   have := gaps_loop l [] r (acc ++ vbs [r.2.1, delay, ((l.length : Nat) : Int), r.2.1 - r.1]) (Int.toNat (((l.length : Nat) : Int) - 0) + 2) l.length (by omega) (by simp; omega) (by simp at hv ⊢; omega) d4 (by omega) (by simp)
   simp only [List.nil_append, List.length_nil] at this
   rw [show ((0 : Nat) : Int) = 0 from rfl] at this
   rw [this]
   simp [ackL, vbs]
 case inr.inr.inr.inr.inr.inr.inl => exact absurd rfl h8
 case inr.inr.inr.inr.inr.inr.inr.inr.inr.inr.inr.inr.inr.inr.inr.inl =>
  simp only [extraF] at he
  have hc : cid.size = 8 ∧ tok.size = 16 := by
   simp [show ((24 : Int) == 2) = false from rfl] at he
   omega
  have w1 : IntKind.wrap .u8 ((cid.size : Nat) : Int) = 8 := by rw [hc.1, wrap_u8]; rfl
  have c1 : cid.size + tok.size ≤ 9223372036854775807 := by omega
  have e1 : frame_writer_numbers_h1 [seq, prior] acc = some ([seq, prior], acc ++ vbs [seq, prior], ()) := L2 _ _ n5 n6
  have hV := V2 seq prior
  have e2 : strings_Builder_WriteByte_h0 8 (acc ++ vbs [seq, prior]) = some ((acc ++ vbs [seq, prior]) ++ [8], ()) := wbyte_is _ _ (by omega)
  have hs : (cid ++ tok).size ≤ 100000 := by rw [ByteArray.size_append]; omega
  have e3 : strings_Builder_WriteString_h0 (cid ++ tok) ((acc ++ vbs [seq, prior]) ++ [8]) = some ((((cid ++ tok).size : Nat) : Int), ((acc ++ vbs [seq, prior]) ++ [8]) ++ strBytes (cid ++ tok), ()) := wstr_is _ _ hs (by simp at hV ⊢; omega)
  simp only [List.append_assoc] at e2 e3
  simp [e1, e2, e3, w1, c1, partsL, strBytes_app]
 case inr.inr.inr.inr.inr.inr.inr.inr.inr.inr.inr.inr.inr.inr.inr.inr.inr.inl =>
  simp only [extraF] at he
  have hc : tok.size = 8 := by
   simp at he
   omega
  have e3 : strings_Builder_WriteString_h0 tok acc = some (((tok.size : Nat) : Int), acc ++ strBytes tok, ()) := wstr_is _ _ (by omega) (by omega)
  simp [e3, partsL]
 case inr.inr.inr.inr.inr.inr.inr.inr.inr.inr.inr.inr.inr.inr.inr.inr.inr.inr.inl =>
  simp only [extraF] at he
  have hc : tok.size = 8 := by
   simp at he
   omega
  have e3 : strings_Builder_WriteString_h0 tok acc = some (((tok.size : Nat) : Int), acc ++ strBytes tok, ()) := wstr_is _ _ (by omega) (by omega)
  simp [e3, partsL]
 all_goals simp [partsL, L1, L2, L3, T1, T2, n1, n2, n3, n4, n5, n6, n7]
theorem stream_is (f : D_frame_Frame) (h : FrOk f) (hm : mayFr f = true) (h8 : f.1 = 8) : frame_writer_stream_h0 f = some (putL f, ()) := by
 obtain ⟨hk, ho, hn, hd, he⟩ := mayFr_parts hm
 obtain ⟨n1, n2, n3, n4, n5, n6, n7⟩ := nums62 h hn
 have b14 : bits .or .u64 10 4 = 14 := by rw [bits_or_u64 _ _ (by omega) (by omega)]; decide
 have b15 : bits .or .u64 14 1 = 15 := by rw [bits_or_u64 _ _ (by omega) (by omega)]; decide
 have b11 : bits .or .u64 10 1 = 11 := by rw [bits_or_u64 _ _ (by omega) (by omega)]; decide
 obtain ⟨k, id, off, mx, code, seq, prior, delay, fin, data, cid, tok, set, ⟨⟩⟩ := f
 simp only at *
 subst h8
 have L2 : ∀ a b, In62 a → In62 b → frame_writer_numbers_h0 [a, b] = some ([a, b], vbs [a, b], ()) := fun a b h k => num0_is _ (by simp) (by intro n hn; simp at hn; rcases hn with rfl | rfl <;> assumption)
 have V2 : ∀ a b, (vbs [a, b]).length ≤ 100 := fun a b => by have := vbs_len [a, b]; simp at this ⊢; omega
 have V3 : ∀ a b c, (vbs [a, b] ++ vbs [c]).length ≤ 100 := fun a b c => by have := vbs_len [a, b]; have := vbs_len [c]; simp at *; omega
 have L1 : ∀ a b c, In62 c → frame_writer_numbers_h1 [c] (vbs [a, b]) = some ([c], vbs [a, b] ++ vbs [c], ()) := fun a b c h => num1_is _ _ (by simp) (by have := V2 a b; omega) (by intro n hn; simp at hn; subst hn; exact h)
 have T2 : ∀ a b, frame_writer_long_h0 data (vbs [a, b]) = some (vbs [a, b] ++ textL data, ()) := fun a b => long_is _ _ (by omega) (by have := V2 a b; omega)
 have T3 : ∀ a b c, frame_writer_long_h0 data (vbs [a, b] ++ vbs [c]) = some ((vbs [a, b] ++ vbs [c]) ++ textL data, ()) := fun a b c => long_is _ _ (by omega) (by have := V3 a b c; omega)
 have i1 : In62 10 := by unfold In62; omega
 have i2 : In62 11 := by unfold In62; omega
 have i3 : In62 14 := by unfold In62; omega
 have i4 : In62 15 := by unfold In62; omega
 rw [frame_writer_stream_h0_eq, b_frame_writer_stream_h0]
 simp only [frame_writer_stream_h0_0_eq, b_frame_writer_stream_h0_0, frame_writer_stream_h0_1_eq, b_frame_writer_stream_h0_1, frame_writer_stream_h0_2_eq, b_frame_writer_stream_h0_2, putL, streamK]
 by_cases h0 : off = 0
 ·
  subst h0
  cases fin <;> simp [b11, L2, T2, n1, i1, i2]
 ·
  have : (off == 0) = false := beq_false_of_ne h0
  cases fin <;> simp [bne, this, b14, b15, L2, L1, T3, n1, n2, i3, i4]
theorem size62 {s : ByteArray} (h : s.size ≤ 100000) : In62 ((s.size : Nat) : Int) := by unfold In62; omega
theorem textL_range {s : ByteArray} (h : s.size ≤ 100000) : ∀ x ∈ textL s, 0 ≤ x ∧ x ≤ 255 := by
 intro x hx
 rcases List.mem_append.mp hx with hx | hx
 · exact vb_range _ (size62 h).1 (size62 h).2 x hx
 · exact strBytes_range s x hx
theorem vbs1_range {a : Int} (h : In62 a) : ∀ x ∈ vbs [a], 0 ≤ x ∧ x ≤ 255 := vbs_range _ (by intro n hn; simp at hn; subst hn; exact h)
theorem ackGaps_range : ∀ (l : List D_ranges_Range) (lo : Int), descR lo l → lo < 4611686018427387904 → ∀ x ∈ ackGaps lo l, 0 ≤ x ∧ x ≤ 255
 | [], _, _, _ => by simp [ackGaps]
 | r :: l, lo, ⟨d1, d2, d3, d4⟩, hlo => by
  intro x hx
  simp only [ackGaps, List.mem_append] at hx
  rcases hx with (hx | hx) | hx
  · exact vb_range _ (by omega) (by omega) x hx
  · exact vb_range _ (by omega) (by omega) x hx
  · exact ackGaps_range l r.1 d4 (by omega) x hx
theorem app_range {a b : List Int} (h : ∀ x ∈ a, 0 ≤ x ∧ x ≤ 255) (k : ∀ x ∈ b, 0 ≤ x ∧ x ≤ 255) : ∀ x ∈ a ++ b, 0 ≤ x ∧ x ≤ 255 := by
 intro x hx
 rcases List.mem_append.mp hx with hx | hx
 · exact h x hx
 · exact k x hx
theorem ack_desc {set : List D_ranges_Range} (hs : ∀ r ∈ set, 0 ≤ r.1) (e1 : mayR 0 set = true) (e2 : 0 < set.length) (e4 : lastHi set ≤ 4611686018427387903) :
  ∃ r l, set.reverse = r :: l ∧ l.length + 1 = set.length ∧ 0 ≤ r.1 ∧ r.1 ≤ r.2.1 ∧ r.2.1 ≤ 4611686018427387903 ∧ descR r.1 l := by
 have hne : set ≠ [] := by rintro rfl; simp at e2
 have hdesc := desc_rev set [] 0 e1 (by omega) hs trivial
 rw [endR_last set 0 hne, List.append_nil] at hdesc
 have hrl : set.reverse.length = set.length := by simp
 generalize set.reverse = L at *
 cases L with
 | nil => simp at hrl; omega
 | cons r l =>
  obtain ⟨d1, d2, d3, d4⟩ := hdesc
  exact ⟨r, l, rfl, by simpa using hrl, d1, d2, by omega, d4⟩
theorem put_ok (f : D_frame_Frame) (h : FrOk f) (hm : mayFr f = true) : (∀ x ∈ putL f, 0 ≤ x ∧ x ≤ 255) ∧ (putL f).length ≤ 5000 ∧ 1 ≤ (putL f).length := by
 obtain ⟨hk, ho, hn, hd, he⟩ := mayFr_parts hm
 obtain ⟨n1, n2, n3, n4, n5, n6, n7⟩ := nums62 h hn
 have hset := h.set
 obtain ⟨k, id, off, mx, code, seq, prior, delay, fin, data, cid, tok, set, u⟩ := f
 simp only at *
 have R1 : ∀ a, In62 a → ∀ x ∈ vbs [a], 0 ≤ x ∧ x ≤ 255 := fun a h => vbs1_range h
 have R2 : ∀ a b, In62 a → In62 b → ∀ x ∈ vbs [a, b], 0 ≤ x ∧ x ≤ 255 := fun a b h k => vbs_range _ (by intro n hn; simp at hn; rcases hn with rfl | rfl <;> assumption)
 have R3 : ∀ a b c, In62 a → In62 b → In62 c → ∀ x ∈ vbs [a, b, c], 0 ≤ x ∧ x ≤ 255 := fun a b c h k l => vbs_range _ (by intro n hn; simp at hn; rcases hn with rfl | rfl | rfl <;> assumption)
 have RT : ∀ x ∈ textL data, 0 ≤ x ∧ x ≤ 255 := textL_range (by omega)
 have V1 : ∀ a, 1 ≤ (vbs [a]).length ∧ (vbs [a]).length ≤ 8 := fun a => by simp only [vbs, List.flatMap_cons, List.flatMap_nil, List.append_nil]; exact vb_len a
 have V2 : ∀ a b, 1 ≤ (vbs [a, b]).length ∧ (vbs [a, b]).length ≤ 16 := fun a b => by have := vb_len a; have := vb_len b; simp only [vbs, List.flatMap_cons, List.flatMap_nil, List.append_nil, List.length_append]; omega
 have V3 : ∀ a b c, (vbs [a, b, c]).length ≤ 24 := fun a b c => by have := vbs_len [a, b, c]; simpa using this
 have LT : (textL data).length ≤ 1208 := by have := vb_len ((data.size : Nat) : Int); have := strBytes_len data; simp only [textL, List.length_append]; omega
 have K : In62 k := by rcases kinds hk with rfl | rfl | rfl | rfl | rfl | rfl | rfl | rfl | rfl | rfl | rfl | rfl | rfl | rfl | rfl | rfl | rfl | rfl | rfl | rfl | rfl | rfl <;> (unfold In62; omega)
 by_cases h8 : k = 8
 ·
  subst h8
  have hs : In62 (streamK (8, id, off, mx, code, seq, prior, delay, fin, data, cid, tok, set, u)) := by
   unfold streamK In62
   cases fin <;> cases (off == 0) <;> simp
  simp only [putL, beq_self_eq_true, cond_true]
  have v1 := V1 off
  have v2 := V2 (streamK (8, id, off, mx, code, seq, prior, delay, fin, data, cid, tok, set, u)) id
  refine ⟨app_range (app_range (R2 _ _ hs n1) ?_) RT, ?_, ?_⟩
  ·
   cases (off == 0)
   · exact R1 _ n2
   · simp
  · cases (off == 0) <;> simp only [cond_true, cond_false, List.length_append, List.length_nil] <;> omega
  · cases (off == 0) <;> simp only [cond_true, cond_false, List.length_append, List.length_nil] <;> omega
 ·
  have hb : (k == 8) = false := beq_false_of_ne h8
  simp only [putL, hb, cond_false]
  have v1 := V1 k
  suffices hp : (∀ x ∈ partsL (k, id, off, mx, code, seq, prior, delay, fin, data, cid, tok, set, u), 0 ≤ x ∧ x ≤ 255) ∧ (partsL (k, id, off, mx, code, seq, prior, delay, fin, data, cid, tok, set, u)).length ≤ 4000 by
   refine ⟨app_range (R1 _ K) hp.1, ?_, ?_⟩ <;> rw [List.length_append] <;> omega
  by_cases h2 : k = 2
  ·
   subst h2
   simp only [extraF, beq_self_eq_true, cond_true, Bool.and_eq_true, decide_eq_true_eq] at he
   obtain ⟨⟨⟨e1, e2⟩, e3⟩, e4⟩ := he
   obtain ⟨r, l, er, el, d1, d2, d3, d4⟩ := ack_desc (fun r hr => (hset r hr).1.1) e1 e2 e4
   simp only [partsL, beq_self_eq_true, cond_true, er, ackL]
   have g1 := vb_len r.2.1
   have g2 := vb_len delay
   have g3 := vb_len ((l.length : Nat) : Int)
   have g4 := vb_len (r.2.1 - r.1)
   have g5 := ackGaps_len l r.1
   constructor
   · refine app_range (app_range (app_range (app_range (vb_range _ (by omega) (by omega)) (vb_range _ n7.1 n7.2)) (vb_range _ (by omega) (by omega))) (vb_range _ (by omega) (by omega))) (ackGaps_range l r.1 d4 (by omega))
   · simp only [List.length_append]; omega
  ·
   by_cases h24 : k = 24
   ·
    subst h24
    have hc : cid.size = 8 ∧ tok.size = 16 := by
     simp [extraF] at he
     omega
    have e : partsL (24, id, off, mx, code, seq, prior, delay, fin, data, cid, tok, set, u) = vbs [seq, prior] ++ [8] ++ (strBytes cid ++ strBytes tok) := rfl
    rw [e]
    have l1 := strBytes_len cid
    have l2 := strBytes_len tok
    have v2 := V2 seq prior
    refine ⟨app_range (app_range (R2 _ _ n5 n6) (by simp)) (app_range (strBytes_range cid) (strBytes_range tok)), ?_⟩
    simp only [List.length_append, List.length_cons, List.length_nil]; omega
   ·
    have htok : ∀ (h : k = 26 ∨ k = 27), tok.size = 8 := by
     rintro (rfl | rfl) <;> simp [extraF] at he <;> omega
    have l2 := strBytes_len tok
    have W1 : ∀ a, (vbs [a]).length ≤ 4000 := fun a => by have := V1 a; omega
    have W2 : ∀ a b, (vbs [a, b]).length ≤ 4000 := fun a b => by have := V2 a b; omega
    have W3 : ∀ a b c, (vbs [a, b, c]).length ≤ 4000 := fun a b c => by have := V3 a b c; omega
    have T1 : ∀ a, In62 a → (∀ x ∈ vbs [a] ++ textL data, 0 ≤ x ∧ x ≤ 255) ∧ (vbs [a] ++ textL data).length ≤ 4000 := fun a h => ⟨app_range (R1 _ h) RT, by have := V1 a; rw [List.length_append]; omega⟩
    have T2 : ∀ a b, In62 a → In62 b → (∀ x ∈ vbs [a, b] ++ textL data, 0 ≤ x ∧ x ≤ 255) ∧ (vbs [a, b] ++ textL data).length ≤ 4000 := fun a b h k => ⟨app_range (R2 _ _ h k) RT, by have := V2 a b; rw [List.length_append]; omega⟩
    rcases kinds hk with rfl | rfl | rfl | rfl | rfl | rfl | rfl | rfl | rfl | rfl | rfl | rfl | rfl | rfl | rfl | rfl | rfl | rfl | rfl | rfl | rfl | rfl
    · exact ⟨by simp [partsL], by simp [partsL]⟩
    · exact ⟨by simp [partsL], by simp [partsL]⟩
    · exact absurd rfl h2
    · exact ⟨R3 _ _ _ n1 n4 n3, W3 _ _ _⟩
    · exact ⟨R2 _ _ n1 n4, W2 _ _⟩
    · exact T1 _ n2
    · exact absurd rfl h8
    · exact ⟨R1 _ n3, W1 _⟩
    · exact ⟨R2 _ _ n1 n3, W2 _ _⟩
    · exact ⟨R1 _ n3, W1 _⟩
    · exact ⟨R1 _ n3, W1 _⟩
    · exact ⟨R1 _ n3, W1 _⟩
    · exact ⟨R2 _ _ n1 n3, W2 _ _⟩
    · exact ⟨R1 _ n3, W1 _⟩
    · exact ⟨R1 _ n3, W1 _⟩
    · exact absurd rfl h24
    · exact ⟨R1 _ n5, W1 _⟩
    ·
     have := htok (.inl rfl)
     exact ⟨strBytes_range tok, by show (strBytes tok).length ≤ 4000; omega⟩
    ·
     have := htok (.inr rfl)
     exact ⟨strBytes_range tok, by show (strBytes tok).length ≤ 4000; omega⟩
    · exact T2 _ _ n4 n7
    · exact T1 _ n4
    · exact ⟨by simp [partsL], by simp [partsL]⟩
theorem put_is (f : D_frame_Frame) (h : FrOk f) : frame_Put f = some (if mayFr f = true then (bytesStr (putL f), 0, ()) else (⟨#[]⟩, 1, ())) := by
 rw [frame_Put_eq, b_frame_Put, may_is_fr f h]
 simp only [obind_some]
 by_cases hm : mayFr f = true
 ·
  obtain ⟨o1, o2, o3⟩ := put_ok f h hm
  have c : (((putL f).length : Nat) : Int) ≤ 4294967296 := by omega
  simp only [hm, Bool.not_true, cond_false, if_true]
  by_cases h8 : f.1 = 8
  · simp only [beq_of h8, cond_true, stream_is f h hm h8, obind_some, c, and_self, decide_true]
  ·
   have hb : (f.1 == 8) = false := beq_false_of_ne h8
   have e1 : frame_writer_numbers_h0 [f.1] = some ([f.1], vbs [f.1], ()) := num0_is _ (by simp) (by
    intro n hn; simp at hn; subst hn
    rcases kinds (mayFr_parts hm).1 with e | e | e | e | e | e | e | e | e | e | e | e | e | e | e | e | e | e | e | e | e | e <;> (rw [e]; unfold In62; omega))
   have l1 : (vbs [f.1]).length ≤ 8 := by have := vbs_len [f.1]; simpa using this
   have e2 : putL f = vbs [f.1] ++ partsL f := by simp only [putL, hb, cond_false]
   simp only [hb, cond_false, e1, obind_some, parts_is f _ h hm h8 l1]
   rw [← e2]
   simp only [c, and_self, decide_true, cond_true]
 ·
  have : mayFr f = false := by simpa using hm
  simp only [this, Bool.not_false, cond_true, Bool.false_eq_true, if_false]
end Go.Proofs.YtjdjlijjolibkaaDoor.V
namespace Go.Proofs.YtjdjlijjolibkaaDoor.V
open Go.RowKit Go.Proofs.Tryd
set_option maxRecDepth 100000
set_option linter.unusedVariables false
noncomputable def m_varint_Get : Mach prog Inv gInv := mach bas [(163, f163)] ⟨ok163, trivial⟩ [] trivial [] trivial [] trivial
/-! ### domino/varint.Get -/
@[reducible] def r_varint_Get : List Ty := [(.int .u64), .str, (.int .i64)]
def ks_varint_Get : List Nat := [163]
abbrev H_varint_Get (base : Base) (S0 : Nat → Prop) := base.n = 0 ∧ FinOk (finR r_varint_Get) base S0 (Post r_varint_Get S0)
abbrev J_varint_Get (base : Base) (S0 : Nat → Prop) (cs0 : List Go.Frame) (p : CPat) (J : denC p → Option (denL r_varint_Get)) := JSound m_varint_Get base S0 cs0 (Post r_varint_Get S0) p J
abbrev O_varint_Get (base : Base) (S0 : Nat → Prop) (cs0 : List Go.Frame) (X : Cfg → Option (Option (denL r_varint_Get))) := OSound m_varint_Get base S0 cs0 (Post r_varint_Get S0) X
@[reducible] noncomputable def p_varint_Get_0 : CPat := ⟨⟨163, [1, 1, 1, 1, 1, 0, 1, 0], none, [.str, .any, .any, .any, .any, .int .i64, .int .u64, .int .i64], 30⟩, [], [], 0⟩
@[reducible] noncomputable def u_varint_Get_0 (k : ByteArray → Int → Int → Int → Option (Int × ByteArray × Int × Unit)) : denC p_varint_Get_0 → Option (Int × ByteArray × Int × Unit) := fun x => k x.1.1 x.1.2.2.2.2.2.1 x.1.2.2.2.2.2.2.1 x.1.2.2.2.2.2.2.2.1
noncomputable def t_varint_Get_0 (k0 : ByteArray → Int → Int → Int → Option (Int × ByteArray × Int × Unit)) (s22 : ByteArray) (i23 : Int) (i24 : Int) (i25 : Int) : Option (Int × ByteArray × Int × Unit) :=
 let b26 : Bool := (decide (i25 < i23))
 bif b26 then
  let n27 : Int := (Go.IntKind.wrap Go.IntKind.u64 (i24 * (256 : Int)))
  bif (decide (((0 : Int) ≤ i25) ∧ (i25 < (((ByteArray.size s22) : Nat) : Int)))) then
   let n28 : Int := (byteAt s22 i25)
   let n29 : Int := (Go.IntKind.wrap Go.IntKind.u64 n28)
   let n30 : Int := (bits Go.BinOp.or Go.IntKind.u64 n27 n29)
   let n31 : Int := (Go.IntKind.wrap Go.IntKind.i64 (i25 + (1 : Int)))
   k0 s22 i23 n30 n31
  else none
 else
  bif (decide (((0 : Int) ≤ i23) ∧ ((i23 ≤ (((ByteArray.size s22) : Nat) : Int)) ∧ ((((ByteArray.size s22) : Nat) : Int) ≤ (((ByteArray.size s22) : Nat) : Int))))) then
   let s32 : ByteArray := (ByteArray.extract s22 (Int.toNat i23) (Int.toNat (((ByteArray.size s22) : Nat) : Int)))
   some (i24, (s32, ((0 : Int), ())))
  else none
noncomputable def varint_Get_0 : Nat → ByteArray → Int → Int → Int → Option (Int × ByteArray × Int × Unit)
 | 0 => fun _ _ _ _ => none
 | m + 1 => t_varint_Get_0 (varint_Get_0 m)
noncomputable def b_varint_Get_0' (s22 : ByteArray) (i23 : Int) (i24 : Int) (i25 : Int) : Option (Int × ByteArray × Int × Unit) := varint_Get_0 (Int.toNat (i23 - i25) + 2) s22 i23 i24 i25
theorem ex_varint_Get_0' : ∃ f, f = @b_varint_Get_0' := ⟨_, rfl⟩
noncomputable def varint_Get_0' := Classical.choose ex_varint_Get_0'
theorem varint_Get_0'_eq : @varint_Get_0' = @b_varint_Get_0' := Classical.choose_spec ex_varint_Get_0'
theorem s_varint_Get_0 {base S0 cs0} (hfin : H_varint_Get base S0) : ∀ m, J_varint_Get base S0 cs0 p_varint_Get_0 (u_varint_Get_0 (varint_Get_0 m)) :=
 JSound.loop' hfin.2 ks_varint_Get 100000 u_varint_Get_0 (fun k0 => cut p_varint_Get_0 (u_varint_Get_0 k0) (nowhere)) (fun k0 h0 => OSound.cut (OSound.nowhere) (Nat.le_of_eq hfin.1) h0) (varint_Get_0) (by intro x; rfl) (by intro m x; kernel_rfl)
theorem s_varint_Get_0' {base S0 cs0} (hfin : H_varint_Get base S0) : J_varint_Get base S0 cs0 p_varint_Get_0 (u_varint_Get_0 (varint_Get_0')) := by
 rw [varint_Get_0'_eq]; exact fun x r hx => s_varint_Get_0 hfin _ x r hx
noncomputable def x_varint_Get_0 : Cfg → Option (Option (Int × ByteArray × Int × Unit)) := cut p_varint_Get_0 (u_varint_Get_0 (varint_Get_0')) (nowhere)
theorem o_varint_Get_0 {base S0 cs0} (hfin : H_varint_Get base S0) : O_varint_Get base S0 cs0 (x_varint_Get_0) := OSound.cut (OSound.nowhere) (Nat.le_of_eq hfin.1) (s_varint_Get_0' hfin)
noncomputable def b_varint_Get (a0 : ByteArray) : Option (Int × ByteArray × Int × Unit) :=
 let s1 : ByteArray := (ByteArray.mk (List.toArray ([] : List UInt8)))
 let b2 : Bool := ((ByteArray.toList a0) == (ByteArray.toList (ByteArray.mk (List.toArray ([] : List UInt8)))))
 bif b2 then
  let s3 : ByteArray := (ByteArray.mk (List.toArray ([] : List UInt8)))
  some ((0 : Int), (s3, ((10 : Int), ())))
 else
  bif (decide (((0 : Int) ≤ (0 : Int)) ∧ ((0 : Int) < (((ByteArray.size a0) : Nat) : Int)))) then
   let n4 : Int := (byteAt a0 (0 : Int))
   let n5 : Int := (Int.fdiv n4 (64 : Int))
   bif (decide ((0 : Int) ≤ n5)) then
    let n6 : Int := (Go.IntKind.wrap Go.IntKind.i64 ((1 : Int) * ((2 : Int) ^ (Min.min (Int.toNat n5) 64))))
    let n7 : Int := (((ByteArray.size a0) : Nat) : Int)
    let b8 : Bool := (decide (n7 < n6))
    bif b8 then
     let s9 : ByteArray := (ByteArray.mk (List.toArray ([] : List UInt8)))
     some ((0 : Int), (s9, ((10 : Int), ())))
    else
     bif (decide (((0 : Int) ≤ (0 : Int)) ∧ ((0 : Int) < (((ByteArray.size a0) : Nat) : Int)))) then
      let n10 : Int := (byteAt a0 (0 : Int))
      let n11 : Int := (bits Go.BinOp.and Go.IntKind.u8 n10 (63 : Int))
      let n12 : Int := (Go.IntKind.wrap Go.IntKind.u64 n11)
      varint_Get_0' a0 n6 n12 (1 : Int)
     else none
   else none
  else none
theorem ex_varint_Get : ∃ f, f = @b_varint_Get := ⟨_, rfl⟩
noncomputable def varint_Get := Classical.choose ex_varint_Get
theorem varint_Get_eq : @varint_Get = @b_varint_Get := Classical.choose_spec ex_varint_Get
noncomputable def cb_varint_Get : Con := ⟨[.str], r_varint_Get, fun x => b_varint_Get x.1⟩
noncomputable def c_varint_Get : Con := ⟨[.str], r_varint_Get, fun x => varint_Get x.1⟩
theorem cb_varint_Get_ok : cb_varint_Get.Sound prog Inv gInv 163 :=
 con_run (M := m_varint_Get) inv_g (f := f163) rfl ks_varint_Get 100000 (X := x_varint_Get_0) (fun base S0 cs0 hn hf => have hfin : H_varint_Get base S0 := ⟨hn, hf⟩; o_varint_Get_0 hfin) (by intro x; kernel_rfl)
theorem c_varint_Get_ok : c_varint_Get.Sound prog Inv gInv 163 := by
 have e : c_varint_Get = cb_varint_Get := by unfold c_varint_Get cb_varint_Get; rw [varint_Get_eq]
 rw [e]; exact cb_varint_Get_ok
end Go.Proofs.YtjdjlijjolibkaaDoor.V
namespace Go.Proofs.YtjdjlijjolibkaaDoor.V
open Go.RowKit
def Byt (l : List Int) : Prop := ∀ x ∈ l, 0 ≤ x ∧ x ≤ 255
theorem Byt.app {a b : List Int} : Byt (a ++ b) ↔ Byt a ∧ Byt b := by
 simp only [Byt, List.mem_append]
 exact ⟨fun h => ⟨fun x hx => h x (.inl hx), fun x hx => h x (.inr hx)⟩, fun h x hx => hx.elim (h.1 x) (h.2 x)⟩
theorem Byt.cons {a : Int} {b : List Int} : Byt (a :: b) ↔ (0 ≤ a ∧ a ≤ 255) ∧ Byt b := by simp [Byt]
theorem Byt.nil : Byt [] := by simp [Byt]
def vget : List Int → Option (Int × List Int)
 | [] => none
 | b :: r =>
  if b < 64 then some (b, r)
  else if b < 128 then match r with
   | b1 :: r => some ((b - 64) * 256 + b1, r)
   | _ => none
  else if b < 192 then match r with
   | b1 :: b2 :: b3 :: r => some ((((b - 128) * 256 + b1) * 256 + b2) * 256 + b3, r)
   | _ => none
  else match r with
   | b1 :: b2 :: b3 :: b4 :: b5 :: b6 :: b7 :: r => some ((((((((b - 192) * 256 + b1) * 256 + b2) * 256 + b3) * 256 + b4) * 256 + b5) * 256 + b6) * 256 + b7, r)
   | _ => none
theorem or_byte (a b : Int) (ha : 0 ≤ a) (hb : 0 ≤ b ∧ b ≤ 255) (h : a * 256 < 18446744073709551616) : bits .or .u64 (a * 256) b = a * 256 + b := by
 rw [bits_or_u64 _ _ (by omega) (by omega)]
 have := Nat.two_pow_add_eq_or_of_lt (i := 8) (b := b.toNat) (by omega) a.toNat
 have e : (a * 256).toNat = 2 ^ 8 * a.toNat := by omega
 rw [e, ← this]
 omega
theorem get_loop (s : ByteArray) : ∀ (suf pre tail : List Int) (acc : Int) (m : Nat), suf.length < m → strBytes s = pre ++ (suf ++ tail) → Byt suf → 0 ≤ acc → (acc + 1) * 256 ^ suf.length ≤ 4611686018427387904 → (pre ++ suf).length ≤ 100 →
  varint_Get_0 m s (((pre ++ suf).length : Nat) : Int) acc ((pre.length : Nat) : Int) = some (suf.foldl (fun a b => a * 256 + b) acc, bytesStr tail, 0, ()) := by
 intro suf
 induction suf with
 | nil =>
  intro pre tail acc m hm hs _ _ _ hl
  obtain ⟨m, rfl⟩ : ∃ k, m = k + 1 := ⟨m - 1, by omega⟩
  have hsz : (s.size : Nat) = (pre ++ tail).length := by rw [← strBytes_len, hs]; simp
  have c : ((pre.length : Nat) : Int) ≤ ((s.size : Nat) : Int) := by rw [hsz, List.length_append]; omega
  have e : s.extract (Int.toNat ((pre.length : Nat) : Int)) (Int.toNat ((s.size : Nat) : Int)) = bytesStr tail := by
   rw [← strBytes_inj, strBytes_extract, hs, Int.toNat_natCast, Int.toNat_natCast, strBytes_bytesStr (fun x hx => strBytes_range s x (by rw [hs]; simp [hx]))]
   rw [hsz, List.nil_append, List.take_length, List.drop_left]
  simp only [varint_Get_0, t_varint_Get_0, List.append_nil, Int.lt_irrefl, decide_false, cond_false, nn, true_and, c, Int.le_refl, and_self, decide_true, cond_true, e, List.foldl_nil]
 | cons x suf ih =>
  intro pre tail acc m hm hs hb ha hlt hl
  obtain ⟨m, rfl⟩ : ∃ k, m = k + 1 := ⟨m - 1, by omega⟩
  obtain ⟨hx, hb⟩ := Byt.cons.mp hb
  have hsz : (s.size : Nat) = (pre ++ (x :: suf ++ tail)).length := by rw [← strBytes_len, hs]
  have c1 : ((pre.length : Nat) : Int) < (((pre ++ x :: suf).length : Nat) : Int) := by simp; omega
  have c2 : ((pre.length : Nat) : Int) < ((s.size : Nat) : Int) := by rw [hsz]; simp; omega
  have e : byteAt s ((pre.length : Nat) : Int) = x := by
   rw [byteAt_is, hs, Int.toNat_natCast, List.cons_append, getD_mid]
  have hpos : (1 : Int) ≤ 256 ^ suf.length := Int.pow_pos (by omega)
  have hle : (acc + 1) * 256 ≤ 4611686018427387904 := by
   have h1 : (acc + 1) * 256 ^ (x :: suf).length = (acc + 1) * 256 * 256 ^ suf.length := by rw [List.length_cons, Int.pow_succ]; rw [Int.mul_comm (256 ^ suf.length) 256, ← Int.mul_assoc]
   rw [h1] at hlt
   have := Int.mul_le_mul_of_nonneg_left hpos (show 0 ≤ (acc + 1) * 256 by omega)
   omega
  simp only [varint_Get_0, t_varint_Get_0, c1, c2, nn, and_self, decide_true, cond_true, e]
  rw [wrap_u64 (acc * 256) (by omega) (by omega), wrap_u64 x (by omega) (by omega), or_byte acc x ha hx (by omega)]
  have w : IntKind.wrap .i64 (((pre.length : Nat) : Int) + 1) = (((pre ++ [x]).length : Nat) : Int) := by
   simp at hl; rw [wrap_i64 _ (by omega) (by omega)]; simp
  rw [w, snoc_app, ih (pre ++ [x]) tail _ m (by simp at hm; omega) (by rw [hs]; simp) hb (by omega) ?_ (by simpa using hl)]
  · rfl
  ·
   have h1 : (acc + 1) * 256 ^ (x :: suf).length = (acc + 1) * 256 * 256 ^ suf.length := by rw [List.length_cons, Int.pow_succ]; rw [Int.mul_comm (256 ^ suf.length) 256, ← Int.mul_assoc]
   rw [h1] at hlt
   have := Int.mul_le_mul_of_nonneg_right (show acc * 256 + x + 1 ≤ (acc + 1) * 256 by omega) (show (0 : Int) ≤ 256 ^ suf.length by omega)
   omega
theorem and63 (b : Int) (h : 0 ≤ b ∧ b ≤ 255) : bits .and .u8 b 63 = b % 64 := by
 rw [bits_and_u8 _ _ (by omega) (by omega)]
 have := Nat.and_two_pow_sub_one_eq_mod b.toNat 6
 have e : b.toNat &&& Int.toNat 63 = b.toNat % 64 := this
 rw [e]; omega
theorem vget_is (s : ByteArray) : varint_Get s = some (match vget (strBytes s) with | some (n, r) => (n, bytesStr r, 0, ()) | none => (0, ⟨#[]⟩, 10, ())) := by
 have hr := strBytes_range s
 have hl := strBytes_len s
 rw [varint_Get_eq, b_varint_Get]
 have e0 : ByteArray.mk (List.toArray ([] : List UInt8)) = (⟨#[]⟩ : ByteArray) := rfl
 simp only [toList_beq]
 cases hs : strBytes s with
 | nil =>
  rw [hs] at hl
  have : s = ⟨#[]⟩ := size_zero.mp (by simpa using hl.symm)
  simp only [this, decide_true, cond_true, vget]
 | cons b r =>
  rw [hs] at hl hr
  have hb := hr b (by simp)
  have hB : Byt r := fun x hx => hr x (by simp [hx])
  have hne : ¬ s = ⟨#[]⟩ := fun e => by rw [e] at hl; simp at hl; exact absurd hl (by simp [show (⟨#[]⟩ : ByteArray).size = 0 from rfl])
  have hsz : ((s.size : Nat) : Int) = ((r.length : Nat) : Int) + 1 := by rw [← hl]; simp
  have c0 : (0 : Int) < ((s.size : Nat) : Int) := by omega
  have eb : byteAt s 0 = b := by rw [byteAt_is, hs]; rfl
  simp only [hne, decide_false, cond_false, c0, Int.le_refl, and_self, decide_true, cond_true, eb, and63 b hb]
  rw [wrap_u64 (b % 64) (by omega) (by omega)]
  have hf : Int.fdiv b 64 = b / 64 := Int.fdiv_eq_ediv_of_nonneg b (by omega)
  rw [hf]
  have c1 : (0 : Int) ≤ b / 64 := by omega
  simp only [c1, decide_true, cond_true]
  have go : ∀ (bs tail : List Int), r = bs ++ tail → bs.length ≤ 7 → varint_Get_0' s (((1 + bs.length : Nat) : Nat) : Int) (b % 64) 1 = some (bs.foldl (fun a b => a * 256 + b) (b % 64), bytesStr tail, 0, ()) := by
   intro bs tail e hlen
   subst e
   rw [varint_Get_0'_eq, b_varint_Get_0']
   have := get_loop s bs [b] tail (b % 64) (Int.toNat (((1 + bs.length : Nat) : Int) - 1) + 2) (by omega) (by rw [hs]; simp) (Byt.app.mp hB).1 (by omega) ?_ (by simp; omega)
   ·
    have e1 : (([b] ++ bs).length : Nat) = 1 + bs.length := by simp; omega
    rw [e1] at this
    exact this
   ·
    have h1 : (b % 64 + 1) * 256 ^ bs.length ≤ 64 * 256 ^ bs.length := Int.mul_le_mul_of_nonneg_right (by omega) (Int.le_of_lt (Int.pow_pos (by omega)))
    have h2 : (256 : Int) ^ bs.length ≤ 72057594037927936 := by
     have h3 : ∀ k : _root_.Fin 8, (256 : Int) ^ k.val ≤ 72057594037927936 := by decide
     exact h3 ⟨bs.length, by omega⟩
    omega
  have cases4 : b / 64 = 0 ∨ b / 64 = 1 ∨ b / 64 = 2 ∨ b / 64 = 3 := by omega
  rcases cases4 with e | e | e | e
  ·
   have h1 : b < 64 := by omega
   have w : IntKind.wrap .i64 (1 * 2 ^ min (Int.toNat 0) 64) = ((1 + ([] : List Int).length : Nat) : Int) := by decide
   have cn : ¬ ((s.size : Nat) : Int) < ((1 + ([] : List Int).length : Nat) : Int) := by simp; omega
   rw [e, w]
   simp only [cn, decide_false, cond_false, go [] r rfl (by simp), vget, h1, if_true, List.foldl_nil]
   congr 2; omega
  ·
   have h1 : ¬ b < 64 := by omega
   have h2 : b < 128 := by omega
   have w : IntKind.wrap .i64 (1 * 2 ^ min (Int.toNat 1) 64) = 2 := by decide
   rw [e, w]
   cases r with
   | nil =>
    have cn : ((s.size : Nat) : Int) < 2 := by simp at hsz; omega
    simp only [cn, decide_true, cond_true, vget, h1, h2, if_true, if_false]
   | cons b1 r =>
    have cn : ¬ ((s.size : Nat) : Int) < 2 := by simp at hsz; omega
    have g := go [b1] r rfl (by simp)
    simp only [List.length_cons, List.length_nil, Nat.zero_add, Nat.reduceAdd, List.foldl_cons, List.foldl_nil] at g
    simp only [cn, decide_false, cond_false, vget, h1, h2, if_true, if_false]
    rw [show (2 : Int) = ((2 : Nat) : Int) from rfl, g]
    congr 2; omega
  ·
   have h1 : ¬ b < 64 := by omega
   have h2 : ¬ b < 128 := by omega
   have h3 : b < 192 := by omega
   have w : IntKind.wrap .i64 (1 * 2 ^ min (Int.toNat 2) 64) = 4 := by decide
   rw [e, w]
   rcases r with _ | ⟨b1, _ | ⟨b2, _ | ⟨b3, r⟩⟩⟩
   ·
    have cn : ((s.size : Nat) : Int) < 4 := by simp at hsz; omega
    simp only [cn, decide_true, cond_true, vget, h1, h2, h3, if_true, if_false]
   ·
    have cn : ((s.size : Nat) : Int) < 4 := by simp at hsz; omega
    simp only [cn, decide_true, cond_true, vget, h1, h2, h3, if_true, if_false]
   ·
    have cn : ((s.size : Nat) : Int) < 4 := by simp at hsz; omega
    simp only [cn, decide_true, cond_true, vget, h1, h2, h3, if_true, if_false]
   ·
    have cn : ¬ ((s.size : Nat) : Int) < 4 := by simp at hsz; omega
    have g := go [b1, b2, b3] r rfl (by simp)
    simp only [List.length_cons, List.length_nil, Nat.zero_add, Nat.reduceAdd, List.foldl_cons, List.foldl_nil] at g
    simp only [cn, decide_false, cond_false, vget, h1, h2, h3, if_true, if_false]
    rw [show (4 : Int) = ((4 : Nat) : Int) from rfl, g]
    congr 2; omega
  ·
   have h1 : ¬ b < 64 := by omega
   have h2 : ¬ b < 128 := by omega
   have h3 : ¬ b < 192 := by omega
   have w : IntKind.wrap .i64 (1 * 2 ^ min (Int.toNat 3) 64) = 8 := by decide
   rw [e, w]
   rcases r with _ | ⟨b1, _ | ⟨b2, _ | ⟨b3, _ | ⟨b4, _ | ⟨b5, _ | ⟨b6, _ | ⟨b7, r⟩⟩⟩⟩⟩⟩⟩
   case cons.cons.cons.cons.cons.cons.cons =>
    have cn : ¬ ((s.size : Nat) : Int) < 8 := by simp at hsz; omega
    have g := go [b1, b2, b3, b4, b5, b6, b7] r rfl (by simp)
    simp only [List.length_cons, List.length_nil, Nat.zero_add, Nat.reduceAdd, List.foldl_cons, List.foldl_nil] at g
    simp only [cn, decide_false, cond_false, vget, h1, h2, h3, if_false]
    rw [show (8 : Int) = ((8 : Nat) : Int) from rfl, g]
    congr 2; omega
   all_goals
    have cn : ((s.size : Nat) : Int) < 8 := by simp at hsz; omega
    simp only [cn, decide_true, cond_true, vget, h1, h2, h3, if_false]
section
variable {P : Program} {I : World → Prop} {g : Nat} (M : Mach P I g)
noncomputable def regA (ops : Array Oper) : Nat → Nat → List PV → Heap → Option (List PV × Heap × List (Nat × Ft))
 | 0, i, env, H => match ops[i]? with
  | none => some (env, H, [])
  | some _ => none
 | n + 1, i, env, H => match ops[i]? with
  | none => none
  | some o => match o.guard with
   | some _ => none
   | none => match (opP P o (evalP M.gl env) H).eff with
    | some (true, e) => (regA ops n (i + 1) (putP env o.dst (e.val H.length)) (e.heap H)).map fun r => (r.1, r.2.1, (i, e.ft (readsOf o (evalP M.gl env)) H) :: r.2.2)
    | _ => none
noncomputable def codeA : Nat → Code → List PV → Heap → Option (Bool × List PV × Heap)
 | 0, _, _, _ => none
 | n + 1, c, env, H => match c with
  | .skip => some (false, env, H)
  | .ret => some (true, env, H)
  | .region _ ops draw => match regA M ops ops.size 0 env H with
   | some r => (match draw with
    | true => bif fineB ops r.2.2 && edgesLt ops then some (false, r.1, r.2.1) else none
    | false => some (false, r.1, r.2.1))
   | none => none
  | .seq a b => match codeA n a env H with
   | some (false, env1, H1) => codeA n b env1 H1
   | r => r
  | .cond x a b => match evalP M.gl env x with
   | .val (.bool true) => codeA n a env H
   | .val (.bool false) => codeA n b env H
   | _ => none
  | .block _ c => codeA n c env H
  | _ => none
variable {M} {base : Base} {S0 : Nat → Prop}
theorem regA_trace {ops : Array Oper} : ∀ {n i : Nat} {env : List PV} {H : Heap} {r : List PV × Heap × List (Nat × Ft)}, regA M ops n i env H = some r → OpTrace M ops r.2.2 env H r.1 r.2.1 ∧ r.2.2.map (·.1) = List.range' i n ∧ ops[i + n]? = none
 | 0, i, env, H, r, h => by
  simp only [regA] at h
  split at h
  ·
   rename_i hn
   cases h
   exact ⟨.nil, rfl, hn⟩
  · cases h
 | n + 1, i, env, H, r, h => by
  simp only [regA] at h
  split at h
  · cases h
  ·
   rename_i o ho
   split at h
   · cases h
   ·
    rename_i hg
    split at h
    ·
     rename_i e he
     cases hr : regA M ops n (i + 1) (putP env o.dst (e.val H.length)) (e.heap H) with
     | none => rw [hr] at h; cases h
     | some r' =>
      rw [hr] at h
      simp only [Option.map_some, Option.some.injEq] at h
      subst h
      obtain ⟨t1, t2, t3⟩ := regA_trace hr
      refine ⟨.cons ⟨o, e, ho, OpAct.op (by simp [Wanted, hg]) he, rfl, rfl⟩ t1, ?_, by rw [show i + (n + 1) = i + 1 + n by omega]; exact t3⟩
      rw [List.range'_succ]
      simp [t2]
    · cases h
theorem trace_wp {ops : Array Oper} (hg : Low g base S0) {Q : Exit → Act → World → Prop} : ∀ {l : List (Nat × Ft)} {env : List PV} {H : Heap} {envF : List PV} {HF : Heap} {ρ : Loc} {w : World} {S : Nat → Prop} {a : Act}, OpTrace M ops l env H envF HF →
  I w → HRel base S0 ρ H w S → PRels ρ H w S env a.tmps.toList →
  (∀ ρ' w' S' a', I w' → HRel base S0 ρ' HF w' S' → Ext base ρ H w S ρ' HF w' S' → PRels ρ' HF w' S' envF a'.tmps.toList → a'.defers = a.defers → Q .normal a' w') →
  wpOps P ops Q (l.map (·.1)) a w
 | [], _, _, _, _, ρ, w, S, a, h, hI, hh, he, hQ => by
  cases h
  exact hQ ρ w S a hI hh Ext.refl he rfl
 | (i, ft) :: l, env, H, _, _, ρ, w, S, a, h, hI, hh, he, hQ => by
  cases h with
  | cons h1 h2 =>
   rw [List.map_cons, wpOps_cons]
   exact opstep_wp hg hI hh he h1 (fun ρ' w' S' a' hI' hh' hx' he' hd' => trace_wp hg h2 hI' hh' he'
    (fun ρ2 w2 S2 a2 q1 q2 q3 q4 q5 => hQ ρ2 w2 S2 a2 q1 q2 (hx'.trans q3) q4 (q5.trans hd')))
theorem reg_wp {id : Nat} {ops : Array Oper} {draw : Bool} (hg : Low g base S0) {Q : Exit → Act → World → Prop} {env : List PV} {H : Heap} {r : List PV × Heap × List (Nat × Ft)} {ρ : Loc} {w : World} {S : Nat → Prop} {a : Act}
  (hr : regA M ops ops.size 0 env H = some r) (hdraw : draw = true → fineB ops r.2.2 = true ∧ edgesLt ops = true)
  (hI : I w) (hh : HRel base S0 ρ H w S) (he : PRels ρ H w S env a.tmps.toList)
  (hQ : ∀ ρ' w' S' a', I w' → HRel base S0 ρ' r.2.1 w' S' → Ext base ρ H w S ρ' r.2.1 w' S' → PRels ρ' r.2.1 w' S' r.1 a'.tmps.toList → a'.defers = a.defers → Q .normal a' w') :
  (Code.region id ops draw).wp P Q a w := by
 obtain ⟨t1, t2, _⟩ := regA_trace hr
 cases draw with
 | false =>
  refine wp_region ?_
  have := trace_wp hg t1 hI hh he hQ
  rwa [t2, ← List.range_eq_range'] at this
 | true =>
  obtain ⟨hfine, hedge⟩ := hdraw rfl
  have hdr : HRel base S0 ρ H w.drew S := hh.drew
  have hIw : I w.drew := M.keep _ _ g (Nat.le_refl _) ((Below.refl _ _).drew) hI
  refine wp_region_any M.mixed ?_
  exact trace_any (M := M) (base := base) (S0 := S0) hedge hg ops.size r.2.2 (Array.replicate ops.size false) ρ env H w.drew S a
   (by have := congrArg List.length t2; simp at this; omega) (by simp)
   (fun j => by
    rw [t2, ← List.range_eq_range', List.mem_range]
    by_cases hj : j < ops.size
    · simp [hj]
    · simp [hj])
   (by rw [t2, ← List.range_eq_range']; exact List.pairwise_lt_range)
   (fun c1 o1 _ hl => by
    have hl' : (Array.replicate ops.size false).getD c1 false = true := hl
    by_cases hj : c1 < ops.size
    · simp [hj] at hl'
    · simp [hj] at hl')
   hfine hIw hdr ((Ext.drew hh).rels he) t1
   (fun ρ' w' S' a' q1 q2 q3 q4 q5 => hQ ρ' w' S' a' q1 q2 ((Ext.drew hh).trans q3) q4 q5)
def exitOf : Bool → Exit
 | true => .ret
 | false => .normal
theorem codeA_wp (hg : Low g base S0) : ∀ {n : Nat} {c : Code} {env : List PV} {H : Heap} {e : Bool} {envF : List PV} {HF : Heap} {Q : Exit → Act → World → Prop} {ρ : Loc} {w : World} {S : Nat → Prop} {a : Act}, codeA M n c env H = some (e, envF, HF) →
  I w → HRel base S0 ρ H w S → PRels ρ H w S env a.tmps.toList →
  (∀ ρ' w' S' a', I w' → HRel base S0 ρ' HF w' S' → Ext base ρ H w S ρ' HF w' S' → PRels ρ' HF w' S' envF a'.tmps.toList → a'.defers = a.defers → Q (exitOf e) a' w') → c.wp P Q a w
 | 0, _, _, _, _, _, _, _, _, _, _, _, h, _, _, _, _ => by cases h
 | n + 1, c, env, H, e, envF, HF, Q, ρ, w, S, a, h, hI, hh, he, hQ => by
  cases c with
  | skip =>
   simp only [codeA, Option.some.injEq, Prod.mk.injEq] at h
   obtain ⟨rfl, rfl, rfl⟩ := h
   exact wp_skip (hQ ρ w S a hI hh Ext.refl he rfl)
  | ret =>
   simp only [codeA, Option.some.injEq, Prod.mk.injEq] at h
   obtain ⟨rfl, rfl, rfl⟩ := h
   exact wp_ret (hQ ρ w S a hI hh Ext.refl he rfl)
  | region id ops draw =>
   simp only [codeA] at h
   split at h
   ·
    rename_i r hr
    cases draw with
    | true =>
     simp only at h
     cases hc : fineB ops r.2.2 && edgesLt ops with
     | false => rw [hc] at h; cases h
     | true =>
      rw [hc] at h
      simp only [cond_true, Option.some.injEq, Prod.mk.injEq] at h
      obtain ⟨rfl, rfl, rfl⟩ := h
      simp only [Bool.and_eq_true] at hc
      exact reg_wp hg hr (fun _ => hc) hI hh he hQ
    | false =>
     simp only [Option.some.injEq, Prod.mk.injEq] at h
     obtain ⟨rfl, rfl, rfl⟩ := h
     exact reg_wp hg hr (fun h => by cases h) hI hh he hQ
   · cases h
  | seq x y =>
   simp only [codeA] at h
   cases hx : codeA M n x env H with
   | none => rw [hx] at h; cases h
   | some r =>
    obtain ⟨e1, env1, H1⟩ := r
    rw [hx] at h
    refine wp_seq (codeA_wp hg hx hI hh he (fun ρ' w' S' a' q1 q2 q3 q4 q5 => ?_))
    cases e1 with
    | false => exact codeA_wp hg h q1 q2 q4 (fun ρ2 w2 S2 a2 k1 k2 k3 k4 k5 => hQ ρ2 w2 S2 a2 k1 k2 (q3.trans k3) k4 (k5.trans q5))
    | true =>
     simp only [Option.some.injEq, Prod.mk.injEq] at h
     obtain ⟨rfl, rfl, rfl⟩ := h
     exact hQ ρ' w' S' a' q1 q2 q3 q4 q5
  | cond x y z =>
   simp only [codeA] at h
   have hv := evalP_rel M hg hI hh he x
   split at h
   ·
    rename_i hx
    rw [hx] at hv
    simp only [PRel] at hv
    exact wp_cond_true hv (codeA_wp hg h hI hh he hQ)
   ·
    rename_i hx
    rw [hx] at hv
    simp only [PRel] at hv
    exact wp_cond_false hv (codeA_wp hg h hI hh he hQ)
   · cases h
  | block id c =>
   simp only [codeA] at h
   refine wp_block (codeA_wp hg h hI hh he (fun ρ' w' S' a' q1 q2 q3 q4 q5 => ?_))
   have := hQ ρ' w' S' a' q1 q2 q3 q4 q5
   cases e <;> exact this
  | _ => simp [codeA] at h
theorem HRel.spoilt {ρ : Loc} {H : Heap} {w w' : World} {S : Nat → Prop} (h : HRel base S0 ρ H w S) {b : Nat} {o : AO} {blk n : Nat} (ho : H.at? b = some o) (hm : o.mutable = true) (hr : ρ b = some (blk, n))
  (hs : w.heap.size ≤ w'.heap.size) (hk : ∀ k, k < w.heap.size → k ≠ blk → w'.heap[k]? = w.heap[k]?) (hbel : Below 0 w w') :
  ∃ S', HRel base S0 ρ (H.set b none) w' S' ∧ Ext base ρ H w S ρ (H.set b none) w' S' := by
 obtain ⟨S', h1, x1⟩ := h.kill b
 have hSb : S blk := (h.own blk).mpr (.inr ⟨b, o, n, ho, hm, hr⟩)
 have hfrom := h.from_ b o blk n ho hr
 have hlt := at_lt ho
 have hw : Same S w w' := ⟨hs, fun k hk' hn => hk k hk' (fun e => hn (e ▸ hSb))⟩
 have hx : Ext base ρ H w S ρ (H.set b none) w' S' :=
  ⟨x1.hH, LocExt.refl _ _, hw, fun c hc hs => x1.hS c hc hs, ⟨hbel, fun k hk' => hk k (h.base_le.lt k hk') (fun e => hfrom.1 (e ▸ hk'))⟩⟩
 have g : ∀ c o1, Heap.at? (H.set b none) c = some o1 → b ≠ c ∧ H.at? c = some o1 := by
  intro c o1 h1
  by_cases e : b = c
  · subst e; rw [at_set_same hlt] at h1; cases h1
  · rw [at_set_other e] at h1; exact ⟨e, h1⟩
 refine ⟨S', ⟨h.base_le.ext hx, h.outer, h1.own, fun c o1 blk1 n1 h2 h3 => ?_, h1.inj, fun c o1 h2 => ?_⟩, hx⟩
 ·
  have := h1.from_ c o1 blk1 n1 h2 h3
  exact ⟨this.1, by omega⟩
 ·
  obtain ⟨e, h3⟩ := g c o1 h2
  refine (h.block c o1 h3).mono hx.hH hx.hr hx.hw hx.hS rfl (fun blk1 n1 hb1 => hk blk1 (h.from_ c o1 blk1 n1 h3 hb1).2 (fun e1 => ?_))
  subst e1
  exact e (h.inj _ _ _ _ _ _ _ ho h3 hr hb1)
theorem recov_wp {K : Nat} {f : Func} {id d : Nat} {o : Oper} {rest : Code} {n : Nat} {H : Heap} {env : List PV} {pv : PV} {x : Value} {e : Bool} {envF : List PV} {HF : Heap} {u u' : FrameMode}
  {ρ : Loc} {w : World} {S : Nat → Prop} {args : Array Value} (hf : P.funcs[K]? = some f) (hb : f.body = some (.seq (.region id #[o] false) rest)) (hres : f.results = #[]) (hgd : o.guard = none) (hdst : o.dst = some d)
  (hop : ∀ (a : Act) (w : World), (execOp a.eval o).run P w = .ok .recover w) (hg : Low g base S0)
  (hmode : (u' = u ∧ x = .nilIface ∧ ∀ (c₀ : Frame) (cs : List Frame), c₀.mode = u → recoverD (c₀ :: cs) = none) ∨
   (∀ (c₀ : Frame) (cs : List Frame), c₀.mode = u → recoverD (c₀ :: cs) = some (x, { c₀ with mode := u' } :: cs)))
  (hc : codeA M n rest (env.set d pv) H = some (e, envF, HF)) (hI : I w) (hh : HRel base S0 ρ H w S) (he : PRels ρ H w S env (args ++ Array.replicate (f.ntmps - args.size) undef).toList) (hpv : PRel ρ H w S pv x) :
  CallsD P K args u w fun e u2 w' => (∃ v, e = .returned v) ∧ u2 = u' ∧ ∃ ρ' S', I w' ∧ HRel base S0 ρ' HF w' S' ∧ Ext base ρ H w S ρ' HF w' S' := by
 refine callsD_of_wpS hf hb fun c₀ cs hu => ?_
 refine wpS_seq (wpS_region ?_)
 have hlist : List.range (#[o] : Array Oper).size = [0] := rfl
 rw [hlist]
 have hw : ∀ tmps, Region.wanted o (yielded #[o] tmps) = true := fun tmps => by simp [Region.wanted, hgd]
 have go : ∀ (c' : Frame), c' = { c₀ with mode := u' } → rest.wpS P (bodyPostS P f c₀ cs fun e u2 w' => (∃ v, e = .returned v) ∧ u2 = u' ∧ ∃ ρ' S', I w' ∧ HRel base S0 ρ' HF w' S' ∧ Ext base ρ H w S ρ' HF w' S')
   (Act.put { tmps := args ++ Array.replicate (f.ntmps - args.size) undef, defers := [] } o.dst x) (c' :: cs) w := by
  intro c' hc'
  refine wpS_of_wp (codeA_wp hg hc hI hh ?_ (fun ρ' w' S' a' q1 q2 q3 q4 q5 => ?_))
  ·
   have := putP_rel (a := { tmps := args ++ Array.replicate (f.ntmps - args.size) undef, defers := [] }) he hpv o.dst
   rw [hdst] at this ⊢
   exact this
  ·
   have hr : ∃ v, (results f a'.tmps).run P w' = .ok v w' := by
    obtain ⟨v, h1, _⟩ := results_run (P := P) (f := f) (ps := []) q2 q4 (by simp [resultsP, hres, resList])
    exact ⟨v, h1⟩
   obtain ⟨v, hr⟩ := hr
   have hd : a'.defers = [] := q5.trans (by rw [hdst]; rfl)
   cases e with
   | true => exact ⟨hd, u', by rw [hc'], _, hr, ⟨_, rfl⟩, rfl, ρ', S', q1, q2, q3⟩
   | false => exact ⟨hd, u', by rw [hc'], _, hr, ⟨_, rfl⟩, rfl, ρ', S', q1, q2, q3⟩
 have h0 : (#[o] : Array Oper)[0]? = some o := rfl
 rcases hmode with ⟨rfl, rfl, hmode⟩ | hmode
 ·
  have hm := hmode c₀ cs hu
  have := go c₀ (by subst hu; rfl)
  simp only [wpOpsS, h0, hw, if_true, hop, hm]
  exact this
 ·
  have hm := hmode c₀ cs hu
  have := go _ rfl
  simp only [wpOpsS, h0, hw, if_true, hop, hm]
  exact this
end
section
variable {P : Program} {I : World → Prop} {g : Nat} (M : Mach P I g)
def deferParts (o : Oper) (ev : Operand → PV) : Option (Nat × List PV) :=
 match o.op with
 | .defer c => callParts { o with op := .call c } ev
 | _ => none
noncomputable def plainA (o : Oper) (env : List PV) (H : Heap) : Option (List PV × Heap) :=
 match o.guard with
 | some _ => none
 | none => match (opP P o (evalP M.gl env) H).eff with
  | some (true, e) => some (putP env o.dst (e.val H.length), e.heap H)
  | _ => none
def panPV : Value → Option PV := fun v => some (.val v)
def isRec (o : Oper) : Bool := match o.op with
 | .call c => match c.callee with
  | .builtin .recover => true
  | _ => false
 | _ => false
def spoil (s : Sig) (H : Heap) : Option Heap := match reals s.σ with
 | [b] => match H.at? b with
  | some o => bif o.mutable then some (H.set b none) else none
  | none => none
 | _ => none
noncomputable def lastA (c : Con) (f fd : Func) (n : Nat) (dargs : List PV) (pv : PV) (env : List PV) (H : Heap) : Option (denL c.results) :=
 match fd.body with
 | some (.seq (.region _ ops false) rest) => match ops.toList with
  | [o] => match o.guard, o.dst, isRec o, fd.results.toList with
   | none, some d, true, [] => match codeA M n rest ((dargs ++ List.replicate (fd.ntmps - dargs.length) nothing).set d pv) H with
    | some (_, _, HF) => match resultsP P f env HF with
     | some ps => decArgs c.results ps HF
     | none => none
    | none => none
   | _, _, _, _ => none
  | _ => none
 | _ => none
noncomputable def deferA (c : Con) (f : Func) (n : Nat) (env0 : List PV) : Option (denL c.results) :=
 match f.body with
 | some (.seq g0 (.seq (.region _ ops1 false) (.seq g2 (.seq (.region _ ops3 false) g4)))) =>
  match codeA M n g0 env0 [] with
  | some (false, env1, H1) => match ops1.toList, ops3.toList with
   | [o1, o2], [o3, o4] => match plainA M o1 env1 H1 with
    | none => none
    | some (env2, H2) => match o2.guard, deferParts o2 (evalP M.gl env2) with
     | none, some (Kd, dargs) => match M.fn Kd with
      | none => none
      | some fd => match codeA M n g2 (putP env2 o2.dst nothing) H2 with
       | some (false, env3, H3) => match plainA M o3 env3 H3 with
        | none => none
        | some (env4, H4) => match o4.guard, callParts o4 (evalP M.gl env4) with
         | none, some (K, args) => match hfind (M.hcon K) args H4 with
          | none => none
          | some fo => fo.c.elim fo.x _ (fun v => match panPV v, spoil fo.s H4 with
            | some pv, some H' => lastA M c f fd n dargs pv env4 H'
            | _, _ => none)
           (fun r => match codeA M n g4 (putP env4 o4.dst ((hEff fo.c fo.s r H4).val H4.length)) ((hEff fo.c fo.s r H4).heap H4) with
            | some (_, env5, H5) => lastA M c f fd n dargs (.val .nilIface) env5 H5
            | none => none)
         | _, _ => none
       | _ => none
     | _, _ => none
   | _, _ => none
  | _ => none
 | _ => none
variable {M} {base : Base} {S0 : Nat → Prop} {ρ : Loc} {w : World} {S : Nat → Prop}
theorem panPV_rel {v : Value} {pv : PV} {H : Heap} (h : panPV v = some pv) : PRel ρ H w S pv v := by
 simp only [panPV, Option.some.injEq] at h
 subst h
 simp [PRel]
theorem isRec_run {o : Oper} (h : isRec o = true) (a : Act) (w : World) : (execOp a.eval o).run P w = .ok .recover w := by
 unfold isRec at h
 split at h
 ·
  rename_i c hop
  split at h
  ·
   rename_i hcl
   simp only [execOp, hop, resolve, hcl, Sem.run_bind, Sem.run_pure, Result.andThen_ok, invoke]
   rfl
  · cases h
 · cases h
theorem plain_wp {ops : Array Oper} {i : Nat} {o : Oper} (hg : Low g base S0) (hI : I w) {H H' : Heap} {env env' : List PV} {a : Act} {Q : Exit → Act → World → Prop} {K : Act → World → Prop}
  (hh : HRel base S0 ρ H w S) (he : PRels ρ H w S env a.tmps.toList) (ho : ops[i]? = some o) (h : plainA M o env H = some (env', H'))
  (hK : ∀ ρ' w' S' a', I w' → HRel base S0 ρ' H' w' S' → Ext base ρ H w S ρ' H' w' S' → PRels ρ' H' w' S' env' a'.tmps.toList → a'.defers = a.defers → K a' w') : wpOp P ops Q i K a w := by
 unfold plainA at h
 split at h
 · cases h
 ·
  rename_i hgd
  split at h
  ·
   rename_i e he'
   simp only [Option.some.injEq, Prod.mk.injEq] at h
   obtain ⟨rfl, rfl⟩ := h
   exact opstep_wp (M := M) hg hI hh he ⟨o, e, ho, OpAct.op (by simp [Wanted, hgd]) he', rfl, rfl⟩ hK
  · cases h
theorem defer_run (hg : Low g base S0) (hI : I w) {H : Heap} (hh : HRel base S0 ρ H w S) {o : Oper} {env : List PV} {a : Act} {K : Nat} {args : List PV} (he : PRels ρ H w S env a.tmps.toList) (hc : deferParts o (evalP M.gl env) = some (K, args)) (hk : Callable P K) :
  ∃ fv cap das vs, (execOp a.eval o).run P w = .ok (.defer { target := .fn fv cap, args := das }) w ∧ (∀ w', (invoke (.fn fv cap) das).run P w' = .ok (.enter K vs) w') ∧ PRels ρ H w S args vs.toList := by
 obtain ⟨dst, op, ty, pos, aft, gd⟩ := o
 unfold deferParts at hc
 split at hc
 ·
  rename_i c hop
  simp only at hop
  subst hop
  unfold callParts at hc
  simp only at hc
  split at hc
  ·
   rename_i f hcl
   split at hc
   ·
    rename_i K' first captured hf
    cases hc
    have hfr := evalP_rel M hg hI hh he f
    rw [hf] at hfr
    simp only [PRel] at hfr
    obtain ⟨fa, ca, hfv, h1, h2⟩ := hfr
    obtain ⟨fn, k1, k2, k3⟩ := hk
    refine ⟨.func K, ca, fa ++ c.args.map a.eval, (fa ++ c.args.map a.eval) ++ ca, ?_, fun w' => ?_, ?_⟩
    · simp only [execOp, resolve, hcl, hfv, Deferred.ofValue, Sem.run_bind, Sem.run_pure, Result.andThen_ok]
    ·
     have : fn.body.isNone = false := by cases hb : fn.body <;> simp_all
     simp only [invoke, callFunc, run_program, k1, k2, Sem.run_bind, Result.andThen_ok]
     simp [this]
    ·
     simp only [Array.toList_append, Array.toList_map]
     exact (h1.append (PRels.map (fun x => evalP_rel M hg hI hh he x) c.args.toList)).append h2
   · cases hc
  · cases hc
 · cases hc
theorem last_ok {c : Con} {f fd : Func} {n Kd : Nat} {dargs env : List PV} {pv : PV} {H : Heap} {y : denL c.results} {a : Act} (h : lastA M c f fd n dargs pv env H = some y) (hfd : M.fn Kd = some fd) (hg : Low g base S0) (hI : I w) (hh : HRel base S0 ρ H w S)
  (he : PRels ρ H w S env a.tmps.toList) {vs das cap : Array Value} {fv : Fn} (hargs : PRels ρ H w S dargs vs.toList) {x : Value} (hpv : PRel ρ H w S pv x) {u u' : FrameMode}
  (hmode : (u' = u ∧ x = .nilIface ∧ ∀ (c₀ : Frame) (cs : List Frame), c₀.mode = u → recoverD (c₀ :: cs) = none) ∨
   (∀ (c₀ : Frame) (cs : List Frame), c₀.mode = u → recoverD (c₀ :: cs) = some (x, { c₀ with mode := u' } :: cs)))
  (hset : settle u' = .returning) (hu : u ≠ .run) (hinv : ∀ w', (invoke (.fn fv cap) das).run P w' = .ok (.enter Kd vs) w') {R : Ending → World → Prop}
  (hR : ∀ w' v, RepRes w' S0 c.results y v → Keeps base.B w w' → R (.returned v) w') : Leaves P f a.tmps R [{ target := .fn fv cap, args := das }] u w := by
 unfold lastA at h
 split at h
 case h_2 => cases h
 rename_i id ops rest hb
 split at h
 case h_2 => cases h
 rename_i o hops
 split at h
 case h_2 => cases h
 rename_i d hgd hdst hrec hres
 split at h
 case h_2 => cases h
 rename_i e envF HF hc
 split at h
 case h_2 => cases h
 rename_i ps hps
 have hops' : ops = #[o] := by cases ops; simp at hops; rw [hops]
 have hres' : fd.results = #[] := by have := hres; rcases fd with ⟨_⟩; simp at this; simpa using this
 subst hops'
 obtain ⟨hfn, _, _⟩ := M.fn_ok _ _ hfd
 have hlen : dargs.length = vs.size := by have := hargs.length; simpa using this
 refine leaves_cons hu (hinv w) ((recov_wp (M := M) hfn hb hres' hgd hdst (isRec_run hrec) hg hmode hc hI hh ?_ hpv).mono ?_)
 ·
  have e : (vs ++ Array.replicate (fd.ntmps - vs.size) undef).toList = vs.toList ++ List.replicate (fd.ntmps - dargs.length) undef := by simp [hlen]
  rw [e]
  exact hargs.append (PRels.replicate _)
 ·
  rintro e u2 w' ⟨⟨v, rfl⟩, rfl, ρ', S', q1, q2, q3⟩
  show Leaves P f a.tmps R [] (settle u2) w'
  rw [hset]
  obtain ⟨v', hv, hv2⟩ := results_run q2 (q3.rels he) hps
  obtain ⟨v'', hv3, hv4⟩ := (finP_ok c base S0).ret _ _ _ _ _ _ _ h q2 hv2
  cases hv3
  exact ⟨v', hv, hR w' v' hv4 q3.below⟩
theorem spoil_rel {s : Sig} {H H' : Heap} {w' : World} (h : spoil s H = some H') (hh : HRel base S0 ρ H w S) (hbel : Below 0 w w')
  (hk : ∀ k, k < w.heap.size → (∀ b n, b ∈ reals s.σ → ρ b ≠ some (k, n)) → w'.heap[k]? = w.heap[k]?) :
  ∃ S', HRel base S0 ρ H' w' S' ∧ Ext base ρ H w S ρ H' w' S' := by
 unfold spoil at h
 split at h
 case h_2 => cases h
 rename_i b hr
 split at h
 case h_2 => cases h
 rename_i o ho
 cases hm : o.mutable with
 | false => rw [hm] at h; cases h
 | true =>
  rw [hm] at h
  simp only [cond_true, Option.some.injEq] at h
  subst h
  cases hb : ρ b with
  | some x =>
   obtain ⟨blk, n⟩ := x
   refine hh.spoilt ho hm hb hbel.size (fun k h1 h2 => hk k h1 fun b' n' hb' e => ?_) hbel
   rw [hr] at hb'
   simp only [List.mem_singleton] at hb'
   subst hb'
   rw [hb] at e
   cases e
   exact h2 rfl
  | none =>
   obtain ⟨S1, k1, k2⟩ := hh.kill b
   have hall : ∀ k, k < w.heap.size → w'.heap[k]? = w.heap[k]? := fun k h1 => hk k h1 fun b' n' hb' e => by
    rw [hr] at hb'
    simp only [List.mem_singleton] at hb'
    subst hb'
    rw [hb] at e
    cases e
   have hb2 : Below w.heap.size w w' := ⟨hbel.os, hbel.tape, hbel.output, hbel.size, hall⟩
   exact ⟨S1, k1.later hbel.size hall, k2.trans (Ext.later k1.base_le hb2)⟩
theorem oppan_wp2 (hg : Low g base S0) (hI : I w) {H : Heap} (hh : HRel base S0 ρ H w S) {ops : Array Oper} {env : List PV} {a : Act} {i : Nat} {Q : Exit → Act → World → Prop} {K : Act → World → Prop} {pv : Value}
  {o : Oper} {Kf : Nat} {args : List PV} {c : HCon} {x : denPs c.pa × denBs c.pH} {s : Sig} {r : c.R}
  (he : PRels ρ H w S env a.tmps.toList) (ho : ops[i]? = some o) (hw : o.guard = none) (hc : callParts o (evalP M.gl env) = some (Kf, args)) (hk : c ∈ M.hcon Kf) (hm : hmatch c args H = some (x, s)) (hF : c.F x = some r) (hbad : c.bad r = some pv)
  (hQ : ∀ w', Keeps base.B w w' → (∀ k, k < w.heap.size → (∀ b n, b ∈ reals s.σ → ρ b ≠ some (k, n)) → w'.heap[k]? = w.heap[k]?) → Q (.panic [{ v := pv, recovered := false }]) a w') : wpOp P ops Q i K a w := by
 unfold wpOp
 simp only [ho]
 have : Region.wanted o (yielded ops a.tmps) = true := by simp [Region.wanted, hw]
 rw [this]
 simp only [if_true]
 left
 obtain ⟨hsound, hcall⟩ := M.hcon_ok _ _ hk
 obtain ⟨vs, hrun, hargs⟩ := call_run hg hI hh he hc hcall
 unfold Oper.wp
 rw [hrun]
 show Calls P Kf vs w _
 obtain ⟨B', S0', ρ', S', g1, g2, g3, ⟨gB, gk⟩, g4⟩ := hcall_rel hg hh hm hargs
 refine (hsound x r hF B' S0' ρ' w S' vs hI g3 g1 g2).mono ?_
 rintro e w' ⟨hb, _⟩
 obtain ⟨rfl, hk⟩ := hb pv hbad
 exact hQ w' ⟨hk.low, fun b hb => hk.block b (gB b hb)⟩ (fun k h1 h2 => hk.block k (gk k h1 h2))
theorem recoverD_ret {c₀ : Frame} {cs : List Frame} (h : c₀.mode = .returning) : recoverD (c₀ :: cs) = none := by
 simp [recoverD, h]
theorem defer_wp {ops : Array Oper} {i : Nat} {o : Oper} {a : Act} {Q : Exit → Act → World → Prop} {K : Act → World → Prop} {d : Deferred} (ho : ops[i]? = some o) (hgd : o.guard = none)
  (hrun : (execOp a.eval o).run P w = .ok (.defer d) w) (hK : K (Act.put { a with defers := d :: a.defers } o.dst undef) w) : wpOp P ops Q i K a w := by
 unfold wpOp
 simp only [ho]
 have : Region.wanted o (yielded ops a.tmps) = true := by simp [Region.wanted, hgd]
 rw [this]
 simp only [if_true]
 left
 unfold Oper.wp
 rw [hrun, Oper.upon_defer]
 exact hK
theorem defer_con (hgI : ∀ w, I w → g ≤ w.heap.size) {K : Nat} {c : Con} {f : Func} (hf : M.fn K = some f) (n : Nat)
  (h : ∀ x, c.F x = deferA M c f n (pvsOf c.params x ++ List.replicate (f.ntmps - (pvsOf c.params x).length) nothing)) : c.Sound P I g K := by
 intro x y hxy w S args hI hS hargs
 rw [h x] at hxy
 obtain ⟨hfn, _, _⟩ := M.fn_ok _ _ hf
 have hlen : (pvsOf c.params x).length = args.size := by rw [pvsOf_length]; have := hargs.length; simp at this; omega
 have hg : Low g (Base.all w) S := ⟨fun b hb => Nat.lt_of_lt_of_le hb (hgI w hI), fun b hb => (hS b hb).1⟩
 have hh0 : HRel (Base.all w) S (fun _ => none) [] w S := HRel.empty fun b hb => (hS b hb).2
 have he0 : PRels (fun _ => none) [] w S (pvsOf c.params x ++ List.replicate (f.ntmps - (pvsOf c.params x).length) nothing) (args ++ Array.replicate (f.ntmps - args.size) undef).toList := by
  have e : (args ++ Array.replicate (f.ntmps - args.size) undef).toList = args.toList ++ List.replicate (f.ntmps - (pvsOf c.params x).length) undef := by simp [hlen]
  rw [e]
  exact (pvsOf_rel hargs).append (PRels.replicate _)
 generalize (fun _ => none : Loc) = ρ0 at hh0 he0
 generalize hR : (fun (e : Ending) (w' : World) => ∃ v, e = .returned v ∧ RepRes w' S c.results y v ∧ Below w.heap.size w w') = R
 have hRi : ∀ w' v, RepRes w' S c.results y v → Keeps (Base.all w).B w w' → R (.returned v) w' := fun w' v h1 h2 => by
  rw [← hR]; exact ⟨v, rfl, h1, h2.all⟩
 unfold deferA at hxy
 split at hxy
 case h_2 => cases hxy
 rename_i g0 id1 ops1 g2 id3 ops3 g4 hb
 split at hxy
 case h_2 => cases hxy
 rename_i env1 H1 hg0
 split at hxy
 case h_2 => cases hxy
 rename_i o1 o2 o3 o4 hops1 hops3
 split at hxy
 case h_1 => cases hxy
 rename_i env2 H2 ho1
 split at hxy
 case h_2 => cases hxy
 rename_i Kd dargs hgd2 hdp
 split at hxy
 case h_1 => cases hxy
 rename_i fd hfd
 split at hxy
 case h_2 => cases hxy
 rename_i env3 H3 hg2
 split at hxy
 case h_1 => cases hxy
 rename_i env4 H4 ho3
 split at hxy
 case h_2 => cases hxy
 rename_i K4 args4 hgd4 hcp
 split at hxy
 case h_1 => cases hxy
 rename_i fo hfo
 obtain ⟨hmem, hmatch'⟩ := hfind_ok hfo
 have hops1' : ops1 = #[o1, o2] := by cases ops1; simp at hops1; rw [hops1]
 have hops3' : ops3 = #[o3, o4] := by cases ops3; simp at hops3; rw [hops3]
 subst hops1' hops3'
 obtain ⟨hfdn, hfdnm, hfdb⟩ := M.fn_ok _ _ hfd
 refine calls_of_wp_defers hfn hb (wp_seq (codeA_wp (M := M) hg hg0 hI hh0 he0 fun ρ1 w1 S1 a1 I1 h1 x1 e1 d1 => ?_))
 refine wp_seq (wp_region ?_)
 show wpOps P _ _ [0, 1] a1 w1
 rw [wpOps_cons]
 refine plain_wp (M := M) hg I1 h1 e1 rfl ho1 fun ρ2 w2 S2 a2 I2 h2 x2 e2 d2 => ?_
 rw [wpOps_cons]
 obtain ⟨fv, cap, das, vs, hrun, hinv, hdargs⟩ := defer_run (M := M) hg I2 h2 e2 hdp ⟨fd, hfdn, hfdnm, hfdb⟩
 refine defer_wp rfl hgd2 hrun ?_
 show Code.wp P _ _ _ _
 have e2' : PRels ρ2 H2 w2 S2 (putP env2 o2.dst nothing) (Act.put { a2 with defers := { target := .fn fv cap, args := das } :: a2.defers } o2.dst undef).tmps.toList :=
  putP_rel (a := { a2 with defers := { target := .fn fv cap, args := das } :: a2.defers }) e2 (by simp [PRel, nothing, undef]) o2.dst
 refine wp_seq (codeA_wp (M := M) hg hg2 I2 h2 e2' fun ρ3 w3 S3 a3 I3 h3 x3 e3 d3 => ?_)
 have dfs : a3.defers = [{ target := .fn fv cap, args := das }] := by
  rw [d3, put_defers', d2, d1]
 refine wp_seq (wp_region ?_)
 show wpOps P _ _ [0, 1] a3 w3
 rw [wpOps_cons]
 refine plain_wp (M := M) hg I3 h3 e3 rfl ho3 fun ρ4 w4 S4 a4 I4 h4 x4 e4 d4 => ?_
 rw [wpOps_cons]
 have k4 : Keeps (Base.all w).B w w4 := (((x1.trans x2).trans x3).trans x4).below
 have da4 : PRels ρ4 H4 w4 S4 dargs vs.toList := (x3.trans x4).rels hdargs
 obtain ⟨r, hF, hend⟩ := fo.c.elim_is _ _ _ _ _ hxy
 rcases hend with ⟨v, hbad, hl⟩ | ⟨hgood, hl⟩
 ·
  split at hl
  case h_2 => cases hl
  rename_i pv H' hpv hsp
  refine oppan_wp2 (M := M) hg I4 h4 e4 rfl hgd4 hcp hmem hmatch' hF hbad fun w5 k5 hk5 => ?_
  obtain ⟨S5, h5, x5⟩ := spoil_rel hsp h4 k5.low hk5
  show Leaves P f a4.tmps R a4.defers (.panicking [{ v, recovered := false }]) w5
  rw [d4, dfs]
  have I5 : I w5 := M.keep _ _ g (Nat.le_refl _) (k5.below hg.1) I4
  exact last_ok (M := M) (u' := .panicking [{ v, recovered := true }]) hl hfd hg I5 h5 (x5.rels e4) (x5.rels da4) (panPV_rel hpv) (.inr fun c₀ cs hc => by simp only [recoverD, hc]) rfl (by simp) hinv
   (fun w' v h6 k6 => hRi w' v h6 ((k4.trans k5).trans k6))
 ·
  split at hl
  case h_2 => cases hl
  rename_i eX env5 H5 hg4
  refine opstep_wp (M := M) hg I4 h4 e4 ⟨o4, _, rfl, OpAct.hcall (by simp [Wanted, hgd4]) hcp hmem hmatch' hF hgood, rfl, rfl⟩ fun ρ5 w5 S5 a5 I5 h5 x5 e5 d5 => ?_
  show Code.wp P _ _ _ _
  refine codeA_wp (M := M) hg hg4 I5 h5 e5 fun ρ6 w6 S6 a6 I6 h6 x6 e6 d6 => ?_
  have fin : Leaves P f a6.tmps R a6.defers .returning w6 := by
   rw [d6, d5, d4, dfs]
   exact last_ok (M := M) (u' := .returning) (x := .nilIface) hl hfd hg I6 h6 e6 ((x5.trans x6).rels da4) (by simp [PRel]) (.inl ⟨rfl, rfl, fun c₀ cs hc => recoverD_ret hc⟩) rfl (by simp) hinv
    (fun w' v h7 k7 => hRi w' v h7 ((k4.trans (x5.trans x6).below).trans k7))
  cases eX <;> exact fin
end
end Go.Proofs.YtjdjlijjolibkaaDoor.V
namespace Go.Proofs.YtjdjlijjolibkaaDoor.V
open Go.RowKit Go.Proofs.Tryd
set_option maxRecDepth 100000
set_option linter.unusedVariables false
noncomputable def m_frame_reader_need_h0 : Mach prog Inv gInv := mach bas [(123, f123)] ⟨ok123, trivial⟩ [] trivial [] trivial [] trivial
@[reducible] noncomputable def pa_frame_reader_need_h0 : List Pat := [.ptr 0 0, .bool]
@[reducible] noncomputable def pH_frame_reader_need_h0 : List HPat := [.dat 154 T_frame_framer]
/-! ### (*domino/frame.reader).need -/
abbrev R_frame_reader_need_h0 : Type := D_frame_framer × Unit
@[reducible] noncomputable def qa_frame_reader_need_h0 : List Pat := []
@[reducible] noncomputable def qH_frame_reader_need_h0 : List HPat := [.dat 154 T_frame_framer]
def ks_frame_reader_need_h0 : List Nat := [123]
noncomputable def b_frame_reader_need_h0 (b0 : Bool) (d1 : D_frame_framer) : Option (Option R_frame_reader_need_h0) :=
 let b2 : Bool := (!b0)
 bif b2 then
  some none
 else
  some (some (d1, ()))
theorem ex_frame_reader_need_h0 : ∃ f, f = @b_frame_reader_need_h0 := ⟨_, rfl⟩
noncomputable def frame_reader_need_h0 := Classical.choose ex_frame_reader_need_h0
theorem frame_reader_need_h0_eq : @frame_reader_need_h0 = @b_frame_reader_need_h0 := Classical.choose_spec ex_frame_reader_need_h0
noncomputable def hb_frame_reader_need_h0 : HCon := HCon.mkP 149 pa_frame_reader_need_h0 pH_frame_reader_need_h0 qa_frame_reader_need_h0 qH_frame_reader_need_h0 R_frame_reader_need_h0 default (fun x => b_frame_reader_need_h0 x.1.2.1 x.2.1) (fun r => ((), (r.1, ()))) (fun y => (y.2.1, ())) (fun _ => rfl)
noncomputable def h_frame_reader_need_h0 : HCon := HCon.mkP 149 pa_frame_reader_need_h0 pH_frame_reader_need_h0 qa_frame_reader_need_h0 qH_frame_reader_need_h0 R_frame_reader_need_h0 default (fun x => frame_reader_need_h0 x.1.2.1 x.2.1) (fun r => ((), (r.1, ()))) (fun y => (y.2.1, ())) (fun _ => rfl)
theorem hb_frame_reader_need_h0_ok : hb_frame_reader_need_h0.Sound prog Inv gInv 123 :=
 hcon_run (M := m_frame_reader_need_h0) (f := f123) rfl ks_frame_reader_need_h0 100000 (X := nowhere) (fun base S0 cs0 hn hf => OSound.nowhere) (by intro x; kernel_rfl)
theorem h_frame_reader_need_h0_ok : h_frame_reader_need_h0.Sound prog Inv gInv 123 := by
 have e : h_frame_reader_need_h0 = hb_frame_reader_need_h0 := by unfold h_frame_reader_need_h0 hb_frame_reader_need_h0; rw [frame_reader_need_h0_eq]
 rw [e]; exact hb_frame_reader_need_h0_ok
noncomputable def m_frame_reader_number_h0 : Mach prog Inv gInv := mach bas [(149, f149), (123, f123)] ⟨ok149, ok123, trivial⟩ [(163, c_varint_Get)] ⟨⟨c_varint_Get_ok, FnOk.callable ok163⟩, trivial⟩ [] trivial [(123, h_frame_reader_need_h0)] ⟨⟨h_frame_reader_need_h0_ok, FnOk.callable ok123⟩, trivial⟩
@[reducible] noncomputable def pa_frame_reader_number_h0 : List Pat := [.ptr 0 0]
@[reducible] noncomputable def pH_frame_reader_number_h0 : List HPat := [.dat 154 T_frame_framer]
/-! ### (*domino/frame.reader).number -/
abbrev R_frame_reader_number_h0 : Type := Int × D_frame_framer × Unit
@[reducible] noncomputable def qa_frame_reader_number_h0 : List Pat := [.int .u64]
@[reducible] noncomputable def qH_frame_reader_number_h0 : List HPat := [.dat 154 T_frame_framer]
def ks_frame_reader_number_h0 : List Nat := [149, 123]
noncomputable def b_frame_reader_number_h0 (d0 : D_frame_framer) : Option (Option R_frame_reader_number_h0) :=
 obind (varint_Get d0.1.1) fun y1 =>
 let b2 : Bool := (y1.2.2.1 == (0 : Int))
 obindP (frame_reader_need_h0 b2 d0) (
  some none) fun y3 =>
 some (some (y1.1, (((y1.2.1, ()), y3.1.2), ())))
theorem ex_frame_reader_number_h0 : ∃ f, f = @b_frame_reader_number_h0 := ⟨_, rfl⟩
noncomputable def frame_reader_number_h0 := Classical.choose ex_frame_reader_number_h0
theorem frame_reader_number_h0_eq : @frame_reader_number_h0 = @b_frame_reader_number_h0 := Classical.choose_spec ex_frame_reader_number_h0
noncomputable def hb_frame_reader_number_h0 : HCon := HCon.mkP 149 pa_frame_reader_number_h0 pH_frame_reader_number_h0 qa_frame_reader_number_h0 qH_frame_reader_number_h0 R_frame_reader_number_h0 default (fun x => b_frame_reader_number_h0 x.2.1) (fun r => ((r.1, ()), (r.2.1, ()))) (fun y => (y.1.1, y.2.1, ())) (fun _ => rfl)
noncomputable def h_frame_reader_number_h0 : HCon := HCon.mkP 149 pa_frame_reader_number_h0 pH_frame_reader_number_h0 qa_frame_reader_number_h0 qH_frame_reader_number_h0 R_frame_reader_number_h0 default (fun x => frame_reader_number_h0 x.2.1) (fun r => ((r.1, ()), (r.2.1, ()))) (fun y => (y.1.1, y.2.1, ())) (fun _ => rfl)
theorem hb_frame_reader_number_h0_ok : hb_frame_reader_number_h0.Sound prog Inv gInv 149 :=
 hcon_run (M := m_frame_reader_number_h0) (f := f149) rfl ks_frame_reader_number_h0 100000 (X := nowhere) (fun base S0 cs0 hn hf => OSound.nowhere) (by intro x; kernel_rfl)
theorem h_frame_reader_number_h0_ok : h_frame_reader_number_h0.Sound prog Inv gInv 149 := by
 have e : h_frame_reader_number_h0 = hb_frame_reader_number_h0 := by unfold h_frame_reader_number_h0 hb_frame_reader_number_h0; rw [frame_reader_number_h0_eq]
 rw [e]; exact hb_frame_reader_number_h0_ok
noncomputable def m_frame_reader_into_h0 : Mach prog Inv gInv := mach bas [(122, f122), (123, f123), (149, f149)] ⟨ok122, ok123, ok149, trivial⟩ [(163, c_varint_Get)] ⟨⟨c_varint_Get_ok, FnOk.callable ok163⟩, trivial⟩ [] trivial [(123, h_frame_reader_need_h0), (149, h_frame_reader_number_h0)] ⟨⟨h_frame_reader_need_h0_ok, FnOk.callable ok123⟩, ⟨h_frame_reader_number_h0_ok, FnOk.callable ok149⟩, trivial⟩
@[reducible] noncomputable def pa_frame_reader_into_h0 : List Pat := [.ptr 0 0, .cs 1 0 1 1]
@[reducible] noncomputable def pH_frame_reader_into_h0 : List HPat := [.dat 154 T_frame_framer, .cells 195 [.ptr 0 1]]
/-! ### (*domino/frame.reader).into -/
abbrev R_frame_reader_into_h0 : Type := D_frame_framer × Unit
@[reducible] noncomputable def qa_frame_reader_into_h0 : List Pat := []
@[reducible] noncomputable def qH_frame_reader_into_h0 : List HPat := [.dat 154 T_frame_framer, .cells 195 [.ptr 0 1]]
def ks_frame_reader_into_h0 : List Nat := [122, 123, 149]
noncomputable def b_frame_reader_into_h0 (d0 : D_frame_framer) : Option (Option R_frame_reader_into_h0) :=
 obindP (frame_reader_number_h0 d0) (
  some none) fun y1 =>
 some (some ((y1.2.1.1, ((y1.1, y1.2.1.2.1.2), ())), ()))
theorem ex_frame_reader_into_h0 : ∃ f, f = @b_frame_reader_into_h0 := ⟨_, rfl⟩
noncomputable def frame_reader_into_h0 := Classical.choose ex_frame_reader_into_h0
theorem frame_reader_into_h0_eq : @frame_reader_into_h0 = @b_frame_reader_into_h0 := Classical.choose_spec ex_frame_reader_into_h0
noncomputable def hb_frame_reader_into_h0 : HCon := HCon.mkP 149 pa_frame_reader_into_h0 pH_frame_reader_into_h0 qa_frame_reader_into_h0 qH_frame_reader_into_h0 R_frame_reader_into_h0 default (fun x => b_frame_reader_into_h0 x.2.1) (fun r => ((), (r.1, (((), ()), ())))) (fun y => (y.2.1, ())) (fun _ => rfl)
noncomputable def h_frame_reader_into_h0 : HCon := HCon.mkP 149 pa_frame_reader_into_h0 pH_frame_reader_into_h0 qa_frame_reader_into_h0 qH_frame_reader_into_h0 R_frame_reader_into_h0 default (fun x => frame_reader_into_h0 x.2.1) (fun r => ((), (r.1, (((), ()), ())))) (fun y => (y.2.1, ())) (fun _ => rfl)
theorem hb_frame_reader_into_h0_ok : hb_frame_reader_into_h0.Sound prog Inv gInv 122 :=
 hcon_run (M := m_frame_reader_into_h0) (f := f122) rfl ks_frame_reader_into_h0 100000 (X := nowhere) (fun base S0 cs0 hn hf => OSound.nowhere) (by intro x; kernel_rfl)
theorem h_frame_reader_into_h0_ok : h_frame_reader_into_h0.Sound prog Inv gInv 122 := by
 have e : h_frame_reader_into_h0 = hb_frame_reader_into_h0 := by unfold h_frame_reader_into_h0 hb_frame_reader_into_h0; rw [frame_reader_into_h0_eq]
 rw [e]; exact hb_frame_reader_into_h0_ok
noncomputable def m_frame_reader_into_h1 : Mach prog Inv gInv := mach bas [(122, f122), (123, f123), (149, f149)] ⟨ok122, ok123, ok149, trivial⟩ [(163, c_varint_Get)] ⟨⟨c_varint_Get_ok, FnOk.callable ok163⟩, trivial⟩ [] trivial [(123, h_frame_reader_need_h0), (149, h_frame_reader_number_h0)] ⟨⟨h_frame_reader_need_h0_ok, FnOk.callable ok123⟩, ⟨h_frame_reader_number_h0_ok, FnOk.callable ok149⟩, trivial⟩
@[reducible] noncomputable def pa_frame_reader_into_h1 : List Pat := [.ptr 0 0, .cs 1 0 1 1]
@[reducible] noncomputable def pH_frame_reader_into_h1 : List HPat := [.dat 154 T_frame_framer, .cells 195 [.ptr 0 3]]
/-! ### (*domino/frame.reader).into -/
abbrev R_frame_reader_into_h1 : Type := D_frame_framer × Unit
@[reducible] noncomputable def qa_frame_reader_into_h1 : List Pat := []
@[reducible] noncomputable def qH_frame_reader_into_h1 : List HPat := [.dat 154 T_frame_framer, .cells 195 [.ptr 0 3]]
def ks_frame_reader_into_h1 : List Nat := [122, 123, 149]
noncomputable def b_frame_reader_into_h1 (d0 : D_frame_framer) : Option (Option R_frame_reader_into_h1) :=
 obindP (frame_reader_number_h0 d0) (
  some none) fun y1 =>
 some (some ((y1.2.1.1, ((y1.2.1.2.1.1, (y1.2.1.2.1.2.1, (y1.1, y1.2.1.2.1.2.2.2))), ())), ()))
theorem ex_frame_reader_into_h1 : ∃ f, f = @b_frame_reader_into_h1 := ⟨_, rfl⟩
noncomputable def frame_reader_into_h1 := Classical.choose ex_frame_reader_into_h1
theorem frame_reader_into_h1_eq : @frame_reader_into_h1 = @b_frame_reader_into_h1 := Classical.choose_spec ex_frame_reader_into_h1
noncomputable def hb_frame_reader_into_h1 : HCon := HCon.mkP 149 pa_frame_reader_into_h1 pH_frame_reader_into_h1 qa_frame_reader_into_h1 qH_frame_reader_into_h1 R_frame_reader_into_h1 default (fun x => b_frame_reader_into_h1 x.2.1) (fun r => ((), (r.1, (((), ()), ())))) (fun y => (y.2.1, ())) (fun _ => rfl)
noncomputable def h_frame_reader_into_h1 : HCon := HCon.mkP 149 pa_frame_reader_into_h1 pH_frame_reader_into_h1 qa_frame_reader_into_h1 qH_frame_reader_into_h1 R_frame_reader_into_h1 default (fun x => frame_reader_into_h1 x.2.1) (fun r => ((), (r.1, (((), ()), ())))) (fun y => (y.2.1, ())) (fun _ => rfl)
theorem hb_frame_reader_into_h1_ok : hb_frame_reader_into_h1.Sound prog Inv gInv 122 :=
 hcon_run (M := m_frame_reader_into_h1) (f := f122) rfl ks_frame_reader_into_h1 100000 (X := nowhere) (fun base S0 cs0 hn hf => OSound.nowhere) (by intro x; kernel_rfl)
theorem h_frame_reader_into_h1_ok : h_frame_reader_into_h1.Sound prog Inv gInv 122 := by
 have e : h_frame_reader_into_h1 = hb_frame_reader_into_h1 := by unfold h_frame_reader_into_h1 hb_frame_reader_into_h1; rw [frame_reader_into_h1_eq]
 rw [e]; exact hb_frame_reader_into_h1_ok
noncomputable def m_frame_reader_into_h2 : Mach prog Inv gInv := mach bas [(122, f122), (123, f123), (149, f149)] ⟨ok122, ok123, ok149, trivial⟩ [(163, c_varint_Get)] ⟨⟨c_varint_Get_ok, FnOk.callable ok163⟩, trivial⟩ [] trivial [(123, h_frame_reader_need_h0), (149, h_frame_reader_number_h0)] ⟨⟨h_frame_reader_need_h0_ok, FnOk.callable ok123⟩, ⟨h_frame_reader_number_h0_ok, FnOk.callable ok149⟩, trivial⟩
@[reducible] noncomputable def pa_frame_reader_into_h2 : List Pat := [.ptr 0 0, .cs 1 0 1 1]
@[reducible] noncomputable def pH_frame_reader_into_h2 : List HPat := [.dat 154 T_frame_framer, .cells 195 [.ptr 0 4]]
/-! ### (*domino/frame.reader).into -/
abbrev R_frame_reader_into_h2 : Type := D_frame_framer × Unit
@[reducible] noncomputable def qa_frame_reader_into_h2 : List Pat := []
@[reducible] noncomputable def qH_frame_reader_into_h2 : List HPat := [.dat 154 T_frame_framer, .cells 195 [.ptr 0 4]]
def ks_frame_reader_into_h2 : List Nat := [122, 123, 149]
noncomputable def b_frame_reader_into_h2 (d0 : D_frame_framer) : Option (Option R_frame_reader_into_h2) :=
 obindP (frame_reader_number_h0 d0) (
  some none) fun y1 =>
 some (some ((y1.2.1.1, ((y1.2.1.2.1.1, (y1.2.1.2.1.2.1, (y1.2.1.2.1.2.2.1, (y1.1, y1.2.1.2.1.2.2.2.2)))), ())), ()))
theorem ex_frame_reader_into_h2 : ∃ f, f = @b_frame_reader_into_h2 := ⟨_, rfl⟩
noncomputable def frame_reader_into_h2 := Classical.choose ex_frame_reader_into_h2
theorem frame_reader_into_h2_eq : @frame_reader_into_h2 = @b_frame_reader_into_h2 := Classical.choose_spec ex_frame_reader_into_h2
noncomputable def hb_frame_reader_into_h2 : HCon := HCon.mkP 149 pa_frame_reader_into_h2 pH_frame_reader_into_h2 qa_frame_reader_into_h2 qH_frame_reader_into_h2 R_frame_reader_into_h2 default (fun x => b_frame_reader_into_h2 x.2.1) (fun r => ((), (r.1, (((), ()), ())))) (fun y => (y.2.1, ())) (fun _ => rfl)
noncomputable def h_frame_reader_into_h2 : HCon := HCon.mkP 149 pa_frame_reader_into_h2 pH_frame_reader_into_h2 qa_frame_reader_into_h2 qH_frame_reader_into_h2 R_frame_reader_into_h2 default (fun x => frame_reader_into_h2 x.2.1) (fun r => ((), (r.1, (((), ()), ())))) (fun y => (y.2.1, ())) (fun _ => rfl)
theorem hb_frame_reader_into_h2_ok : hb_frame_reader_into_h2.Sound prog Inv gInv 122 :=
 hcon_run (M := m_frame_reader_into_h2) (f := f122) rfl ks_frame_reader_into_h2 100000 (X := nowhere) (fun base S0 cs0 hn hf => OSound.nowhere) (by intro x; kernel_rfl)
theorem h_frame_reader_into_h2_ok : h_frame_reader_into_h2.Sound prog Inv gInv 122 := by
 have e : h_frame_reader_into_h2 = hb_frame_reader_into_h2 := by unfold h_frame_reader_into_h2 hb_frame_reader_into_h2; rw [frame_reader_into_h2_eq]
 rw [e]; exact hb_frame_reader_into_h2_ok
noncomputable def m_frame_reader_into_h3 : Mach prog Inv gInv := mach bas [(122, f122), (123, f123), (149, f149)] ⟨ok122, ok123, ok149, trivial⟩ [(163, c_varint_Get)] ⟨⟨c_varint_Get_ok, FnOk.callable ok163⟩, trivial⟩ [] trivial [(123, h_frame_reader_need_h0), (149, h_frame_reader_number_h0)] ⟨⟨h_frame_reader_need_h0_ok, FnOk.callable ok123⟩, ⟨h_frame_reader_number_h0_ok, FnOk.callable ok149⟩, trivial⟩
@[reducible] noncomputable def pa_frame_reader_into_h3 : List Pat := [.ptr 0 0, .cs 1 0 1 1]
@[reducible] noncomputable def pH_frame_reader_into_h3 : List HPat := [.dat 154 T_frame_framer, .cells 195 [.ptr 0 5]]
/-! ### (*domino/frame.reader).into -/
abbrev R_frame_reader_into_h3 : Type := D_frame_framer × Unit
@[reducible] noncomputable def qa_frame_reader_into_h3 : List Pat := []
@[reducible] noncomputable def qH_frame_reader_into_h3 : List HPat := [.dat 154 T_frame_framer, .cells 195 [.ptr 0 5]]
def ks_frame_reader_into_h3 : List Nat := [122, 123, 149]
noncomputable def b_frame_reader_into_h3 (d0 : D_frame_framer) : Option (Option R_frame_reader_into_h3) :=
 obindP (frame_reader_number_h0 d0) (
  some none) fun y1 =>
 some (some ((y1.2.1.1, ((y1.2.1.2.1.1, (y1.2.1.2.1.2.1, (y1.2.1.2.1.2.2.1, (y1.2.1.2.1.2.2.2.1, (y1.1, y1.2.1.2.1.2.2.2.2.2))))), ())), ()))
theorem ex_frame_reader_into_h3 : ∃ f, f = @b_frame_reader_into_h3 := ⟨_, rfl⟩
noncomputable def frame_reader_into_h3 := Classical.choose ex_frame_reader_into_h3
theorem frame_reader_into_h3_eq : @frame_reader_into_h3 = @b_frame_reader_into_h3 := Classical.choose_spec ex_frame_reader_into_h3
noncomputable def hb_frame_reader_into_h3 : HCon := HCon.mkP 149 pa_frame_reader_into_h3 pH_frame_reader_into_h3 qa_frame_reader_into_h3 qH_frame_reader_into_h3 R_frame_reader_into_h3 default (fun x => b_frame_reader_into_h3 x.2.1) (fun r => ((), (r.1, (((), ()), ())))) (fun y => (y.2.1, ())) (fun _ => rfl)
noncomputable def h_frame_reader_into_h3 : HCon := HCon.mkP 149 pa_frame_reader_into_h3 pH_frame_reader_into_h3 qa_frame_reader_into_h3 qH_frame_reader_into_h3 R_frame_reader_into_h3 default (fun x => frame_reader_into_h3 x.2.1) (fun r => ((), (r.1, (((), ()), ())))) (fun y => (y.2.1, ())) (fun _ => rfl)
theorem hb_frame_reader_into_h3_ok : hb_frame_reader_into_h3.Sound prog Inv gInv 122 :=
 hcon_run (M := m_frame_reader_into_h3) (f := f122) rfl ks_frame_reader_into_h3 100000 (X := nowhere) (fun base S0 cs0 hn hf => OSound.nowhere) (by intro x; kernel_rfl)
theorem h_frame_reader_into_h3_ok : h_frame_reader_into_h3.Sound prog Inv gInv 122 := by
 have e : h_frame_reader_into_h3 = hb_frame_reader_into_h3 := by unfold h_frame_reader_into_h3 hb_frame_reader_into_h3; rw [frame_reader_into_h3_eq]
 rw [e]; exact hb_frame_reader_into_h3_ok
noncomputable def m_frame_reader_into_h4 : Mach prog Inv gInv := mach bas [(122, f122), (123, f123), (149, f149)] ⟨ok122, ok123, ok149, trivial⟩ [(163, c_varint_Get)] ⟨⟨c_varint_Get_ok, FnOk.callable ok163⟩, trivial⟩ [] trivial [(123, h_frame_reader_need_h0), (149, h_frame_reader_number_h0)] ⟨⟨h_frame_reader_need_h0_ok, FnOk.callable ok123⟩, ⟨h_frame_reader_number_h0_ok, FnOk.callable ok149⟩, trivial⟩
@[reducible] noncomputable def pa_frame_reader_into_h4 : List Pat := [.ptr 0 0, .cs 1 0 1 1]
@[reducible] noncomputable def pH_frame_reader_into_h4 : List HPat := [.dat 154 T_frame_framer, .cells 195 [.ptr 0 6]]
/-! ### (*domino/frame.reader).into -/
abbrev R_frame_reader_into_h4 : Type := D_frame_framer × Unit
@[reducible] noncomputable def qa_frame_reader_into_h4 : List Pat := []
@[reducible] noncomputable def qH_frame_reader_into_h4 : List HPat := [.dat 154 T_frame_framer, .cells 195 [.ptr 0 6]]
def ks_frame_reader_into_h4 : List Nat := [122, 123, 149]
noncomputable def b_frame_reader_into_h4 (d0 : D_frame_framer) : Option (Option R_frame_reader_into_h4) :=
 obindP (frame_reader_number_h0 d0) (
  some none) fun y1 =>
 some (some ((y1.2.1.1, ((y1.2.1.2.1.1, (y1.2.1.2.1.2.1, (y1.2.1.2.1.2.2.1, (y1.2.1.2.1.2.2.2.1, (y1.2.1.2.1.2.2.2.2.1, (y1.1, y1.2.1.2.1.2.2.2.2.2.2)))))), ())), ()))
theorem ex_frame_reader_into_h4 : ∃ f, f = @b_frame_reader_into_h4 := ⟨_, rfl⟩
noncomputable def frame_reader_into_h4 := Classical.choose ex_frame_reader_into_h4
theorem frame_reader_into_h4_eq : @frame_reader_into_h4 = @b_frame_reader_into_h4 := Classical.choose_spec ex_frame_reader_into_h4
noncomputable def hb_frame_reader_into_h4 : HCon := HCon.mkP 149 pa_frame_reader_into_h4 pH_frame_reader_into_h4 qa_frame_reader_into_h4 qH_frame_reader_into_h4 R_frame_reader_into_h4 default (fun x => b_frame_reader_into_h4 x.2.1) (fun r => ((), (r.1, (((), ()), ())))) (fun y => (y.2.1, ())) (fun _ => rfl)
noncomputable def h_frame_reader_into_h4 : HCon := HCon.mkP 149 pa_frame_reader_into_h4 pH_frame_reader_into_h4 qa_frame_reader_into_h4 qH_frame_reader_into_h4 R_frame_reader_into_h4 default (fun x => frame_reader_into_h4 x.2.1) (fun r => ((), (r.1, (((), ()), ())))) (fun y => (y.2.1, ())) (fun _ => rfl)
theorem hb_frame_reader_into_h4_ok : hb_frame_reader_into_h4.Sound prog Inv gInv 122 :=
 hcon_run (M := m_frame_reader_into_h4) (f := f122) rfl ks_frame_reader_into_h4 100000 (X := nowhere) (fun base S0 cs0 hn hf => OSound.nowhere) (by intro x; kernel_rfl)
theorem h_frame_reader_into_h4_ok : h_frame_reader_into_h4.Sound prog Inv gInv 122 := by
 have e : h_frame_reader_into_h4 = hb_frame_reader_into_h4 := by unfold h_frame_reader_into_h4 hb_frame_reader_into_h4; rw [frame_reader_into_h4_eq]
 rw [e]; exact hb_frame_reader_into_h4_ok
noncomputable def m_frame_reader_into_h5 : Mach prog Inv gInv := mach bas [(122, f122), (123, f123), (149, f149)] ⟨ok122, ok123, ok149, trivial⟩ [(163, c_varint_Get)] ⟨⟨c_varint_Get_ok, FnOk.callable ok163⟩, trivial⟩ [] trivial [(123, h_frame_reader_need_h0), (149, h_frame_reader_number_h0)] ⟨⟨h_frame_reader_need_h0_ok, FnOk.callable ok123⟩, ⟨h_frame_reader_number_h0_ok, FnOk.callable ok149⟩, trivial⟩
@[reducible] noncomputable def pa_frame_reader_into_h5 : List Pat := [.ptr 0 0, .cs 1 0 2 1]
@[reducible] noncomputable def pH_frame_reader_into_h5 : List HPat := [.dat 154 T_frame_framer, .cells 195 [.ptr 0 2, .ptr 0 4]]
/-! ### (*domino/frame.reader).into -/
abbrev R_frame_reader_into_h5 : Type := D_frame_framer × Unit
@[reducible] noncomputable def qa_frame_reader_into_h5 : List Pat := []
@[reducible] noncomputable def qH_frame_reader_into_h5 : List HPat := [.dat 154 T_frame_framer, .cells 195 [.ptr 0 2, .ptr 0 4]]
def ks_frame_reader_into_h5 : List Nat := [122, 123, 149]
noncomputable def b_frame_reader_into_h5 (d0 : D_frame_framer) : Option (Option R_frame_reader_into_h5) :=
 obindP (frame_reader_number_h0 d0) (
  some none) fun y1 =>
 obindP (frame_reader_number_h0 (y1.2.1.1, ((y1.2.1.2.1.1, (y1.1, y1.2.1.2.1.2.2)), ()))) (
  some none) fun y2 =>
 some (some ((y2.2.1.1, ((y2.2.1.2.1.1, (y2.2.1.2.1.2.1, (y2.2.1.2.1.2.2.1, (y2.1, y2.2.1.2.1.2.2.2.2)))), ())), ()))
theorem ex_frame_reader_into_h5 : ∃ f, f = @b_frame_reader_into_h5 := ⟨_, rfl⟩
noncomputable def frame_reader_into_h5 := Classical.choose ex_frame_reader_into_h5
theorem frame_reader_into_h5_eq : @frame_reader_into_h5 = @b_frame_reader_into_h5 := Classical.choose_spec ex_frame_reader_into_h5
noncomputable def hb_frame_reader_into_h5 : HCon := HCon.mkP 149 pa_frame_reader_into_h5 pH_frame_reader_into_h5 qa_frame_reader_into_h5 qH_frame_reader_into_h5 R_frame_reader_into_h5 default (fun x => b_frame_reader_into_h5 x.2.1) (fun r => ((), (r.1, (((), ((), ())), ())))) (fun y => (y.2.1, ())) (fun _ => rfl)
noncomputable def h_frame_reader_into_h5 : HCon := HCon.mkP 149 pa_frame_reader_into_h5 pH_frame_reader_into_h5 qa_frame_reader_into_h5 qH_frame_reader_into_h5 R_frame_reader_into_h5 default (fun x => frame_reader_into_h5 x.2.1) (fun r => ((), (r.1, (((), ((), ())), ())))) (fun y => (y.2.1, ())) (fun _ => rfl)
theorem hb_frame_reader_into_h5_ok : hb_frame_reader_into_h5.Sound prog Inv gInv 122 :=
 hcon_run (M := m_frame_reader_into_h5) (f := f122) rfl ks_frame_reader_into_h5 100000 (X := nowhere) (fun base S0 cs0 hn hf => OSound.nowhere) (by intro x; kernel_rfl)
theorem h_frame_reader_into_h5_ok : h_frame_reader_into_h5.Sound prog Inv gInv 122 := by
 have e : h_frame_reader_into_h5 = hb_frame_reader_into_h5 := by unfold h_frame_reader_into_h5 hb_frame_reader_into_h5; rw [frame_reader_into_h5_eq]
 rw [e]; exact hb_frame_reader_into_h5_ok
noncomputable def m_frame_reader_into_h6 : Mach prog Inv gInv := mach bas [(122, f122), (123, f123), (149, f149)] ⟨ok122, ok123, ok149, trivial⟩ [(163, c_varint_Get)] ⟨⟨c_varint_Get_ok, FnOk.callable ok163⟩, trivial⟩ [] trivial [(123, h_frame_reader_need_h0), (149, h_frame_reader_number_h0)] ⟨⟨h_frame_reader_need_h0_ok, FnOk.callable ok123⟩, ⟨h_frame_reader_number_h0_ok, FnOk.callable ok149⟩, trivial⟩
@[reducible] noncomputable def pa_frame_reader_into_h6 : List Pat := [.ptr 0 0, .cs 1 0 2 1]
@[reducible] noncomputable def pH_frame_reader_into_h6 : List HPat := [.dat 154 T_frame_framer, .cells 195 [.ptr 0 2, .ptr 0 5]]
/-! ### (*domino/frame.reader).into -/
abbrev R_frame_reader_into_h6 : Type := D_frame_framer × Unit
@[reducible] noncomputable def qa_frame_reader_into_h6 : List Pat := []
@[reducible] noncomputable def qH_frame_reader_into_h6 : List HPat := [.dat 154 T_frame_framer, .cells 195 [.ptr 0 2, .ptr 0 5]]
def ks_frame_reader_into_h6 : List Nat := [122, 123, 149]
noncomputable def b_frame_reader_into_h6 (d0 : D_frame_framer) : Option (Option R_frame_reader_into_h6) :=
 obindP (frame_reader_number_h0 d0) (
  some none) fun y1 =>
 obindP (frame_reader_number_h0 (y1.2.1.1, ((y1.2.1.2.1.1, (y1.1, y1.2.1.2.1.2.2)), ()))) (
  some none) fun y2 =>
 some (some ((y2.2.1.1, ((y2.2.1.2.1.1, (y2.2.1.2.1.2.1, (y2.2.1.2.1.2.2.1, (y2.2.1.2.1.2.2.2.1, (y2.1, y2.2.1.2.1.2.2.2.2.2))))), ())), ()))
theorem ex_frame_reader_into_h6 : ∃ f, f = @b_frame_reader_into_h6 := ⟨_, rfl⟩
noncomputable def frame_reader_into_h6 := Classical.choose ex_frame_reader_into_h6
theorem frame_reader_into_h6_eq : @frame_reader_into_h6 = @b_frame_reader_into_h6 := Classical.choose_spec ex_frame_reader_into_h6
noncomputable def hb_frame_reader_into_h6 : HCon := HCon.mkP 149 pa_frame_reader_into_h6 pH_frame_reader_into_h6 qa_frame_reader_into_h6 qH_frame_reader_into_h6 R_frame_reader_into_h6 default (fun x => b_frame_reader_into_h6 x.2.1) (fun r => ((), (r.1, (((), ((), ())), ())))) (fun y => (y.2.1, ())) (fun _ => rfl)
noncomputable def h_frame_reader_into_h6 : HCon := HCon.mkP 149 pa_frame_reader_into_h6 pH_frame_reader_into_h6 qa_frame_reader_into_h6 qH_frame_reader_into_h6 R_frame_reader_into_h6 default (fun x => frame_reader_into_h6 x.2.1) (fun r => ((), (r.1, (((), ((), ())), ())))) (fun y => (y.2.1, ())) (fun _ => rfl)
theorem hb_frame_reader_into_h6_ok : hb_frame_reader_into_h6.Sound prog Inv gInv 122 :=
 hcon_run (M := m_frame_reader_into_h6) (f := f122) rfl ks_frame_reader_into_h6 100000 (X := nowhere) (fun base S0 cs0 hn hf => OSound.nowhere) (by intro x; kernel_rfl)
theorem h_frame_reader_into_h6_ok : h_frame_reader_into_h6.Sound prog Inv gInv 122 := by
 have e : h_frame_reader_into_h6 = hb_frame_reader_into_h6 := by unfold h_frame_reader_into_h6 hb_frame_reader_into_h6; rw [frame_reader_into_h6_eq]
 rw [e]; exact hb_frame_reader_into_h6_ok
noncomputable def m_frame_reader_into_h7 : Mach prog Inv gInv := mach bas [(122, f122), (123, f123), (149, f149)] ⟨ok122, ok123, ok149, trivial⟩ [(163, c_varint_Get)] ⟨⟨c_varint_Get_ok, FnOk.callable ok163⟩, trivial⟩ [] trivial [(123, h_frame_reader_need_h0), (149, h_frame_reader_number_h0)] ⟨⟨h_frame_reader_need_h0_ok, FnOk.callable ok123⟩, ⟨h_frame_reader_number_h0_ok, FnOk.callable ok149⟩, trivial⟩
@[reducible] noncomputable def pa_frame_reader_into_h7 : List Pat := [.ptr 0 0, .cs 1 0 2 1]
@[reducible] noncomputable def pH_frame_reader_into_h7 : List HPat := [.dat 154 T_frame_framer, .cells 195 [.ptr 0 5, .ptr 0 8]]
/-! ### (*domino/frame.reader).into -/
abbrev R_frame_reader_into_h7 : Type := D_frame_framer × Unit
@[reducible] noncomputable def qa_frame_reader_into_h7 : List Pat := []
@[reducible] noncomputable def qH_frame_reader_into_h7 : List HPat := [.dat 154 T_frame_framer, .cells 195 [.ptr 0 5, .ptr 0 8]]
def ks_frame_reader_into_h7 : List Nat := [122, 123, 149]
noncomputable def b_frame_reader_into_h7 (d0 : D_frame_framer) : Option (Option R_frame_reader_into_h7) :=
 obindP (frame_reader_number_h0 d0) (
  some none) fun y1 =>
 obindP (frame_reader_number_h0 (y1.2.1.1, ((y1.2.1.2.1.1, (y1.2.1.2.1.2.1, (y1.2.1.2.1.2.2.1, (y1.2.1.2.1.2.2.2.1, (y1.1, y1.2.1.2.1.2.2.2.2.2))))), ()))) (
  some none) fun y2 =>
 some (some ((y2.2.1.1, ((y2.2.1.2.1.1, (y2.2.1.2.1.2.1, (y2.2.1.2.1.2.2.1, (y2.2.1.2.1.2.2.2.1, (y2.2.1.2.1.2.2.2.2.1, (y2.2.1.2.1.2.2.2.2.2.1, (y2.2.1.2.1.2.2.2.2.2.2.1, (y2.1, y2.2.1.2.1.2.2.2.2.2.2.2.2)))))))), ())), ()))
theorem ex_frame_reader_into_h7 : ∃ f, f = @b_frame_reader_into_h7 := ⟨_, rfl⟩
noncomputable def frame_reader_into_h7 := Classical.choose ex_frame_reader_into_h7
theorem frame_reader_into_h7_eq : @frame_reader_into_h7 = @b_frame_reader_into_h7 := Classical.choose_spec ex_frame_reader_into_h7
noncomputable def hb_frame_reader_into_h7 : HCon := HCon.mkP 149 pa_frame_reader_into_h7 pH_frame_reader_into_h7 qa_frame_reader_into_h7 qH_frame_reader_into_h7 R_frame_reader_into_h7 default (fun x => b_frame_reader_into_h7 x.2.1) (fun r => ((), (r.1, (((), ((), ())), ())))) (fun y => (y.2.1, ())) (fun _ => rfl)
noncomputable def h_frame_reader_into_h7 : HCon := HCon.mkP 149 pa_frame_reader_into_h7 pH_frame_reader_into_h7 qa_frame_reader_into_h7 qH_frame_reader_into_h7 R_frame_reader_into_h7 default (fun x => frame_reader_into_h7 x.2.1) (fun r => ((), (r.1, (((), ((), ())), ())))) (fun y => (y.2.1, ())) (fun _ => rfl)
theorem hb_frame_reader_into_h7_ok : hb_frame_reader_into_h7.Sound prog Inv gInv 122 :=
 hcon_run (M := m_frame_reader_into_h7) (f := f122) rfl ks_frame_reader_into_h7 100000 (X := nowhere) (fun base S0 cs0 hn hf => OSound.nowhere) (by intro x; kernel_rfl)
theorem h_frame_reader_into_h7_ok : h_frame_reader_into_h7.Sound prog Inv gInv 122 := by
 have e : h_frame_reader_into_h7 = hb_frame_reader_into_h7 := by unfold h_frame_reader_into_h7 hb_frame_reader_into_h7; rw [frame_reader_into_h7_eq]
 rw [e]; exact hb_frame_reader_into_h7_ok
noncomputable def m_frame_reader_into_h8 : Mach prog Inv gInv := mach bas [(122, f122), (123, f123), (149, f149)] ⟨ok122, ok123, ok149, trivial⟩ [(163, c_varint_Get)] ⟨⟨c_varint_Get_ok, FnOk.callable ok163⟩, trivial⟩ [] trivial [(123, h_frame_reader_need_h0), (149, h_frame_reader_number_h0)] ⟨⟨h_frame_reader_need_h0_ok, FnOk.callable ok123⟩, ⟨h_frame_reader_number_h0_ok, FnOk.callable ok149⟩, trivial⟩
@[reducible] noncomputable def pa_frame_reader_into_h8 : List Pat := [.ptr 0 0, .cs 1 0 2 1]
@[reducible] noncomputable def pH_frame_reader_into_h8 : List HPat := [.dat 154 T_frame_framer, .cells 195 [.ptr 0 6, .ptr 0 7]]
/-! ### (*domino/frame.reader).into -/
abbrev R_frame_reader_into_h8 : Type := D_frame_framer × Unit
@[reducible] noncomputable def qa_frame_reader_into_h8 : List Pat := []
@[reducible] noncomputable def qH_frame_reader_into_h8 : List HPat := [.dat 154 T_frame_framer, .cells 195 [.ptr 0 6, .ptr 0 7]]
def ks_frame_reader_into_h8 : List Nat := [122, 123, 149]
noncomputable def b_frame_reader_into_h8 (d0 : D_frame_framer) : Option (Option R_frame_reader_into_h8) :=
 obindP (frame_reader_number_h0 d0) (
  some none) fun y1 =>
 obindP (frame_reader_number_h0 (y1.2.1.1, ((y1.2.1.2.1.1, (y1.2.1.2.1.2.1, (y1.2.1.2.1.2.2.1, (y1.2.1.2.1.2.2.2.1, (y1.2.1.2.1.2.2.2.2.1, (y1.1, y1.2.1.2.1.2.2.2.2.2.2)))))), ()))) (
  some none) fun y2 =>
 some (some ((y2.2.1.1, ((y2.2.1.2.1.1, (y2.2.1.2.1.2.1, (y2.2.1.2.1.2.2.1, (y2.2.1.2.1.2.2.2.1, (y2.2.1.2.1.2.2.2.2.1, (y2.2.1.2.1.2.2.2.2.2.1, (y2.1, y2.2.1.2.1.2.2.2.2.2.2.2))))))), ())), ()))
theorem ex_frame_reader_into_h8 : ∃ f, f = @b_frame_reader_into_h8 := ⟨_, rfl⟩
noncomputable def frame_reader_into_h8 := Classical.choose ex_frame_reader_into_h8
theorem frame_reader_into_h8_eq : @frame_reader_into_h8 = @b_frame_reader_into_h8 := Classical.choose_spec ex_frame_reader_into_h8
noncomputable def hb_frame_reader_into_h8 : HCon := HCon.mkP 149 pa_frame_reader_into_h8 pH_frame_reader_into_h8 qa_frame_reader_into_h8 qH_frame_reader_into_h8 R_frame_reader_into_h8 default (fun x => b_frame_reader_into_h8 x.2.1) (fun r => ((), (r.1, (((), ((), ())), ())))) (fun y => (y.2.1, ())) (fun _ => rfl)
noncomputable def h_frame_reader_into_h8 : HCon := HCon.mkP 149 pa_frame_reader_into_h8 pH_frame_reader_into_h8 qa_frame_reader_into_h8 qH_frame_reader_into_h8 R_frame_reader_into_h8 default (fun x => frame_reader_into_h8 x.2.1) (fun r => ((), (r.1, (((), ((), ())), ())))) (fun y => (y.2.1, ())) (fun _ => rfl)
theorem hb_frame_reader_into_h8_ok : hb_frame_reader_into_h8.Sound prog Inv gInv 122 :=
 hcon_run (M := m_frame_reader_into_h8) (f := f122) rfl ks_frame_reader_into_h8 100000 (X := nowhere) (fun base S0 cs0 hn hf => OSound.nowhere) (by intro x; kernel_rfl)
theorem h_frame_reader_into_h8_ok : h_frame_reader_into_h8.Sound prog Inv gInv 122 := by
 have e : h_frame_reader_into_h8 = hb_frame_reader_into_h8 := by unfold h_frame_reader_into_h8 hb_frame_reader_into_h8; rw [frame_reader_into_h8_eq]
 rw [e]; exact hb_frame_reader_into_h8_ok
noncomputable def m_frame_reader_into_h9 : Mach prog Inv gInv := mach bas [(122, f122), (123, f123), (149, f149)] ⟨ok122, ok123, ok149, trivial⟩ [(163, c_varint_Get)] ⟨⟨c_varint_Get_ok, FnOk.callable ok163⟩, trivial⟩ [] trivial [(123, h_frame_reader_need_h0), (149, h_frame_reader_number_h0)] ⟨⟨h_frame_reader_need_h0_ok, FnOk.callable ok123⟩, ⟨h_frame_reader_number_h0_ok, FnOk.callable ok149⟩, trivial⟩
@[reducible] noncomputable def pa_frame_reader_into_h9 : List Pat := [.ptr 0 0, .cs 1 0 3 1]
@[reducible] noncomputable def pH_frame_reader_into_h9 : List HPat := [.dat 154 T_frame_framer, .cells 195 [.ptr 0 2, .ptr 0 5, .ptr 0 4]]
/-! ### (*domino/frame.reader).into -/
abbrev R_frame_reader_into_h9 : Type := D_frame_framer × Unit
@[reducible] noncomputable def qa_frame_reader_into_h9 : List Pat := []
@[reducible] noncomputable def qH_frame_reader_into_h9 : List HPat := [.dat 154 T_frame_framer, .cells 195 [.ptr 0 2, .ptr 0 5, .ptr 0 4]]
def ks_frame_reader_into_h9 : List Nat := [122, 123, 149]
noncomputable def b_frame_reader_into_h9 (d0 : D_frame_framer) : Option (Option R_frame_reader_into_h9) :=
 obindP (frame_reader_number_h0 d0) (
  some none) fun y1 =>
 obindP (frame_reader_number_h0 (y1.2.1.1, ((y1.2.1.2.1.1, (y1.1, y1.2.1.2.1.2.2)), ()))) (
  some none) fun y2 =>
 obindP (frame_reader_number_h0 (y2.2.1.1, ((y2.2.1.2.1.1, (y2.2.1.2.1.2.1, (y2.2.1.2.1.2.2.1, (y2.2.1.2.1.2.2.2.1, (y2.1, y2.2.1.2.1.2.2.2.2.2))))), ()))) (
  some none) fun y3 =>
 some (some ((y3.2.1.1, ((y3.2.1.2.1.1, (y3.2.1.2.1.2.1, (y3.2.1.2.1.2.2.1, (y3.1, y3.2.1.2.1.2.2.2.2)))), ())), ()))
theorem ex_frame_reader_into_h9 : ∃ f, f = @b_frame_reader_into_h9 := ⟨_, rfl⟩
noncomputable def frame_reader_into_h9 := Classical.choose ex_frame_reader_into_h9
theorem frame_reader_into_h9_eq : @frame_reader_into_h9 = @b_frame_reader_into_h9 := Classical.choose_spec ex_frame_reader_into_h9
noncomputable def hb_frame_reader_into_h9 : HCon := HCon.mkP 149 pa_frame_reader_into_h9 pH_frame_reader_into_h9 qa_frame_reader_into_h9 qH_frame_reader_into_h9 R_frame_reader_into_h9 default (fun x => b_frame_reader_into_h9 x.2.1) (fun r => ((), (r.1, (((), ((), ((), ()))), ())))) (fun y => (y.2.1, ())) (fun _ => rfl)
noncomputable def h_frame_reader_into_h9 : HCon := HCon.mkP 149 pa_frame_reader_into_h9 pH_frame_reader_into_h9 qa_frame_reader_into_h9 qH_frame_reader_into_h9 R_frame_reader_into_h9 default (fun x => frame_reader_into_h9 x.2.1) (fun r => ((), (r.1, (((), ((), ((), ()))), ())))) (fun y => (y.2.1, ())) (fun _ => rfl)
theorem hb_frame_reader_into_h9_ok : hb_frame_reader_into_h9.Sound prog Inv gInv 122 :=
 hcon_run (M := m_frame_reader_into_h9) (f := f122) rfl ks_frame_reader_into_h9 100000 (X := nowhere) (fun base S0 cs0 hn hf => OSound.nowhere) (by intro x; kernel_rfl)
theorem h_frame_reader_into_h9_ok : h_frame_reader_into_h9.Sound prog Inv gInv 122 := by
 have e : h_frame_reader_into_h9 = hb_frame_reader_into_h9 := by unfold h_frame_reader_into_h9 hb_frame_reader_into_h9; rw [frame_reader_into_h9_eq]
 rw [e]; exact hb_frame_reader_into_h9_ok
noncomputable def m_frame_reader_into_h10 : Mach prog Inv gInv := mach bas [(122, f122), (123, f123), (149, f149)] ⟨ok122, ok123, ok149, trivial⟩ [(163, c_varint_Get)] ⟨⟨c_varint_Get_ok, FnOk.callable ok163⟩, trivial⟩ [] trivial [(123, h_frame_reader_need_h0), (149, h_frame_reader_number_h0)] ⟨⟨h_frame_reader_need_h0_ok, FnOk.callable ok123⟩, ⟨h_frame_reader_number_h0_ok, FnOk.callable ok149⟩, trivial⟩
@[reducible] noncomputable def pa_frame_reader_into_h10 : List Pat := [.ptr 0 0, .cs 1 0 4 1]
@[reducible] noncomputable def pH_frame_reader_into_h10 : List HPat := [.dat 154 T_frame_framer, .cells 195 [.ptr 2 0, .ptr 0 8, .ptr 3 0, .ptr 4 0], .cells 30 [.int .u64], .cells 30 [.int .u64], .cells 30 [.int .u64]]
/-! ### (*domino/frame.reader).into -/
abbrev R_frame_reader_into_h10 : Type := D_frame_framer × Int × Int × Int × Unit
@[reducible] noncomputable def qa_frame_reader_into_h10 : List Pat := []
@[reducible] noncomputable def qH_frame_reader_into_h10 : List HPat := [.dat 154 T_frame_framer, .cells 195 [.ptr 2 0, .ptr 0 8, .ptr 3 0, .ptr 4 0], .cells 30 [.int .u64], .cells 30 [.int .u64], .cells 30 [.int .u64]]
def ks_frame_reader_into_h10 : List Nat := [122, 123, 149]
noncomputable def b_frame_reader_into_h10 (d0 : D_frame_framer) (i1 : Int) (i2 : Int) (i3 : Int) : Option (Option R_frame_reader_into_h10) :=
 obindP (frame_reader_number_h0 d0) (
  some none) fun y4 =>
 obindP (frame_reader_number_h0 y4.2.1) (
  some none) fun y5 =>
 obindP (frame_reader_number_h0 (y5.2.1.1, ((y5.2.1.2.1.1, (y5.2.1.2.1.2.1, (y5.2.1.2.1.2.2.1, (y5.2.1.2.1.2.2.2.1, (y5.2.1.2.1.2.2.2.2.1, (y5.2.1.2.1.2.2.2.2.2.1, (y5.2.1.2.1.2.2.2.2.2.2.1, (y5.1, y5.2.1.2.1.2.2.2.2.2.2.2.2)))))))), ()))) (
  some none) fun y6 =>
 obindP (frame_reader_number_h0 y6.2.1) (
  some none) fun y7 =>
 some (some (y7.2.1, (y4.1, (y6.1, (y7.1, ())))))
theorem ex_frame_reader_into_h10 : ∃ f, f = @b_frame_reader_into_h10 := ⟨_, rfl⟩
noncomputable def frame_reader_into_h10 := Classical.choose ex_frame_reader_into_h10
theorem frame_reader_into_h10_eq : @frame_reader_into_h10 = @b_frame_reader_into_h10 := Classical.choose_spec ex_frame_reader_into_h10
noncomputable def hb_frame_reader_into_h10 : HCon := HCon.mkP 149 pa_frame_reader_into_h10 pH_frame_reader_into_h10 qa_frame_reader_into_h10 qH_frame_reader_into_h10 R_frame_reader_into_h10 default (fun x => b_frame_reader_into_h10 x.2.1 x.2.2.2.1.1 x.2.2.2.2.1.1 x.2.2.2.2.2.1.1) (fun r => ((), (r.1, (((), ((), ((), ((), ())))), ((r.2.1, ()), ((r.2.2.1, ()), ((r.2.2.2.1, ()), ()))))))) (fun y => (y.2.1, y.2.2.2.1.1, y.2.2.2.2.1.1, y.2.2.2.2.2.1.1, ())) (fun _ => rfl)
noncomputable def h_frame_reader_into_h10 : HCon := HCon.mkP 149 pa_frame_reader_into_h10 pH_frame_reader_into_h10 qa_frame_reader_into_h10 qH_frame_reader_into_h10 R_frame_reader_into_h10 default (fun x => frame_reader_into_h10 x.2.1 x.2.2.2.1.1 x.2.2.2.2.1.1 x.2.2.2.2.2.1.1) (fun r => ((), (r.1, (((), ((), ((), ((), ())))), ((r.2.1, ()), ((r.2.2.1, ()), ((r.2.2.2.1, ()), ()))))))) (fun y => (y.2.1, y.2.2.2.1.1, y.2.2.2.2.1.1, y.2.2.2.2.2.1.1, ())) (fun _ => rfl)
theorem hb_frame_reader_into_h10_ok : hb_frame_reader_into_h10.Sound prog Inv gInv 122 :=
 hcon_run (M := m_frame_reader_into_h10) (f := f122) rfl ks_frame_reader_into_h10 100000 (X := nowhere) (fun base S0 cs0 hn hf => OSound.nowhere) (by intro x; kernel_rfl)
theorem h_frame_reader_into_h10_ok : h_frame_reader_into_h10.Sound prog Inv gInv 122 := by
 have e : h_frame_reader_into_h10 = hb_frame_reader_into_h10 := by unfold h_frame_reader_into_h10 hb_frame_reader_into_h10; rw [frame_reader_into_h10_eq]
 rw [e]; exact hb_frame_reader_into_h10_ok
noncomputable def m_frame_reader_need_h1 : Mach prog Inv gInv := mach bas [(123, f123)] ⟨ok123, trivial⟩ [] trivial [] trivial [] trivial
@[reducible] noncomputable def pa_frame_reader_need_h1 : List Pat := [.ptr 0 0, .bool]
@[reducible] noncomputable def pH_frame_reader_need_h1 : List HPat := [.cells 154 [.str, .int .u64, .int .u64, .int .u64, .int .u64, .int .u64, .int .u64, .int .u64, .int .u64, .bool, .str, .str, .str, .all 1], .row T_ranges_Range]
/-! ### (*domino/frame.reader).need -/
abbrev R_frame_reader_need_h1 : Type := ByteArray × Int × Int × Int × Int × Int × Int × Int × Int × Bool × ByteArray × ByteArray × ByteArray × (List D_ranges_Range) × Unit
@[reducible] noncomputable def qa_frame_reader_need_h1 : List Pat := []
@[reducible] noncomputable def qH_frame_reader_need_h1 : List HPat := [.cells 154 [.str, .int .u64, .int .u64, .int .u64, .int .u64, .int .u64, .int .u64, .int .u64, .int .u64, .bool, .str, .str, .str, .all 1], .row T_ranges_Range]
def ks_frame_reader_need_h1 : List Nat := [123]
noncomputable def b_frame_reader_need_h1 (b0 : Bool) (s1 : ByteArray) (i2 : Int) (i3 : Int) (i4 : Int) (i5 : Int) (i6 : Int) (i7 : Int) (i8 : Int) (i9 : Int) (b10 : Bool) (s11 : ByteArray) (s12 : ByteArray) (s13 : ByteArray) (l14 : (List D_ranges_Range)) : Option (Option R_frame_reader_need_h1) :=
 let b15 : Bool := (!b0)
 bif b15 then
  some none
 else
  some (some (s1, (i2, (i3, (i4, (i5, (i6, (i7, (i8, (i9, (b10, (s11, (s12, (s13, (l14, ())))))))))))))))
theorem ex_frame_reader_need_h1 : ∃ f, f = @b_frame_reader_need_h1 := ⟨_, rfl⟩
noncomputable def frame_reader_need_h1 := Classical.choose ex_frame_reader_need_h1
theorem frame_reader_need_h1_eq : @frame_reader_need_h1 = @b_frame_reader_need_h1 := Classical.choose_spec ex_frame_reader_need_h1
noncomputable def hb_frame_reader_need_h1 : HCon := HCon.mkP 149 pa_frame_reader_need_h1 pH_frame_reader_need_h1 qa_frame_reader_need_h1 qH_frame_reader_need_h1 R_frame_reader_need_h1 default (fun x => b_frame_reader_need_h1 x.1.2.1 x.2.1.1 x.2.1.2.1 x.2.1.2.2.1 x.2.1.2.2.2.1 x.2.1.2.2.2.2.1 x.2.1.2.2.2.2.2.1 x.2.1.2.2.2.2.2.2.1 x.2.1.2.2.2.2.2.2.2.1 x.2.1.2.2.2.2.2.2.2.2.1 x.2.1.2.2.2.2.2.2.2.2.2.1 x.2.1.2.2.2.2.2.2.2.2.2.2.1 x.2.1.2.2.2.2.2.2.2.2.2.2.2.1 x.2.1.2.2.2.2.2.2.2.2.2.2.2.2.1 x.2.2.1) (fun r => ((), ((r.1, (r.2.1, (r.2.2.1, (r.2.2.2.1, (r.2.2.2.2.1, (r.2.2.2.2.2.1, (r.2.2.2.2.2.2.1, (r.2.2.2.2.2.2.2.1, (r.2.2.2.2.2.2.2.2.1, (r.2.2.2.2.2.2.2.2.2.1, (r.2.2.2.2.2.2.2.2.2.2.1, (r.2.2.2.2.2.2.2.2.2.2.2.1, (r.2.2.2.2.2.2.2.2.2.2.2.2.1, ((), ())))))))))))))), (r.2.2.2.2.2.2.2.2.2.2.2.2.2.1, ())))) (fun y => (y.2.1.1, y.2.1.2.1, y.2.1.2.2.1, y.2.1.2.2.2.1, y.2.1.2.2.2.2.1, y.2.1.2.2.2.2.2.1, y.2.1.2.2.2.2.2.2.1, y.2.1.2.2.2.2.2.2.2.1, y.2.1.2.2.2.2.2.2.2.2.1, y.2.1.2.2.2.2.2.2.2.2.2.1, y.2.1.2.2.2.2.2.2.2.2.2.2.1, y.2.1.2.2.2.2.2.2.2.2.2.2.2.1, y.2.1.2.2.2.2.2.2.2.2.2.2.2.2.1, y.2.2.1, ())) (fun _ => rfl)
noncomputable def h_frame_reader_need_h1 : HCon := HCon.mkP 149 pa_frame_reader_need_h1 pH_frame_reader_need_h1 qa_frame_reader_need_h1 qH_frame_reader_need_h1 R_frame_reader_need_h1 default (fun x => frame_reader_need_h1 x.1.2.1 x.2.1.1 x.2.1.2.1 x.2.1.2.2.1 x.2.1.2.2.2.1 x.2.1.2.2.2.2.1 x.2.1.2.2.2.2.2.1 x.2.1.2.2.2.2.2.2.1 x.2.1.2.2.2.2.2.2.2.1 x.2.1.2.2.2.2.2.2.2.2.1 x.2.1.2.2.2.2.2.2.2.2.2.1 x.2.1.2.2.2.2.2.2.2.2.2.2.1 x.2.1.2.2.2.2.2.2.2.2.2.2.2.1 x.2.1.2.2.2.2.2.2.2.2.2.2.2.2.1 x.2.2.1) (fun r => ((), ((r.1, (r.2.1, (r.2.2.1, (r.2.2.2.1, (r.2.2.2.2.1, (r.2.2.2.2.2.1, (r.2.2.2.2.2.2.1, (r.2.2.2.2.2.2.2.1, (r.2.2.2.2.2.2.2.2.1, (r.2.2.2.2.2.2.2.2.2.1, (r.2.2.2.2.2.2.2.2.2.2.1, (r.2.2.2.2.2.2.2.2.2.2.2.1, (r.2.2.2.2.2.2.2.2.2.2.2.2.1, ((), ())))))))))))))), (r.2.2.2.2.2.2.2.2.2.2.2.2.2.1, ())))) (fun y => (y.2.1.1, y.2.1.2.1, y.2.1.2.2.1, y.2.1.2.2.2.1, y.2.1.2.2.2.2.1, y.2.1.2.2.2.2.2.1, y.2.1.2.2.2.2.2.2.1, y.2.1.2.2.2.2.2.2.2.1, y.2.1.2.2.2.2.2.2.2.2.1, y.2.1.2.2.2.2.2.2.2.2.2.1, y.2.1.2.2.2.2.2.2.2.2.2.2.1, y.2.1.2.2.2.2.2.2.2.2.2.2.2.1, y.2.1.2.2.2.2.2.2.2.2.2.2.2.2.1, y.2.2.1, ())) (fun _ => rfl)
theorem hb_frame_reader_need_h1_ok : hb_frame_reader_need_h1.Sound prog Inv gInv 123 :=
 hcon_run (M := m_frame_reader_need_h1) (f := f123) rfl ks_frame_reader_need_h1 100000 (X := nowhere) (fun base S0 cs0 hn hf => OSound.nowhere) (by intro x; kernel_rfl)
theorem h_frame_reader_need_h1_ok : h_frame_reader_need_h1.Sound prog Inv gInv 123 := by
 have e : h_frame_reader_need_h1 = hb_frame_reader_need_h1 := by unfold h_frame_reader_need_h1 hb_frame_reader_need_h1; rw [frame_reader_need_h1_eq]
 rw [e]; exact hb_frame_reader_need_h1_ok
noncomputable def m_frame_reader_number_h1 : Mach prog Inv gInv := mach bas [(149, f149), (123, f123)] ⟨ok149, ok123, trivial⟩ [(163, c_varint_Get)] ⟨⟨c_varint_Get_ok, FnOk.callable ok163⟩, trivial⟩ [] trivial [(123, h_frame_reader_need_h0), (123, h_frame_reader_need_h1)] ⟨⟨h_frame_reader_need_h0_ok, FnOk.callable ok123⟩, ⟨h_frame_reader_need_h1_ok, FnOk.callable ok123⟩, trivial⟩
@[reducible] noncomputable def pa_frame_reader_number_h1 : List Pat := [.ptr 0 0]
@[reducible] noncomputable def pH_frame_reader_number_h1 : List HPat := [.cells 154 [.str, .int .u64, .int .u64, .int .u64, .int .u64, .int .u64, .int .u64, .int .u64, .int .u64, .bool, .str, .str, .str, .all 1], .row T_ranges_Range]
/-! ### (*domino/frame.reader).number -/
abbrev R_frame_reader_number_h1 : Type := Int × ByteArray × Int × Int × Int × Int × Int × Int × Int × Int × Bool × ByteArray × ByteArray × ByteArray × (List D_ranges_Range) × Unit
@[reducible] noncomputable def qa_frame_reader_number_h1 : List Pat := [.int .u64]
@[reducible] noncomputable def qH_frame_reader_number_h1 : List HPat := [.cells 154 [.str, .int .u64, .int .u64, .int .u64, .int .u64, .int .u64, .int .u64, .int .u64, .int .u64, .bool, .str, .str, .str, .all 1], .row T_ranges_Range]
def ks_frame_reader_number_h1 : List Nat := [149, 123]
noncomputable def b_frame_reader_number_h1 (s0 : ByteArray) (i1 : Int) (i2 : Int) (i3 : Int) (i4 : Int) (i5 : Int) (i6 : Int) (i7 : Int) (i8 : Int) (b9 : Bool) (s10 : ByteArray) (s11 : ByteArray) (s12 : ByteArray) (l13 : (List D_ranges_Range)) : Option (Option R_frame_reader_number_h1) :=
 obind (varint_Get s0) fun y14 =>
 let b15 : Bool := (y14.2.2.1 == (0 : Int))
 obindP (frame_reader_need_h1 b15 s0 i1 i2 i3 i4 i5 i6 i7 i8 b9 s10 s11 s12 l13) (
  some none) fun y16 =>
 some (some (y14.1, (y14.2.1, (y16.2.1, (y16.2.2.1, (y16.2.2.2.1, (y16.2.2.2.2.1, (y16.2.2.2.2.2.1, (y16.2.2.2.2.2.2.1, (y16.2.2.2.2.2.2.2.1, (y16.2.2.2.2.2.2.2.2.1, (y16.2.2.2.2.2.2.2.2.2.1, (y16.2.2.2.2.2.2.2.2.2.2.1, (y16.2.2.2.2.2.2.2.2.2.2.2.1, (y16.2.2.2.2.2.2.2.2.2.2.2.2.1, (y16.2.2.2.2.2.2.2.2.2.2.2.2.2.1, ()))))))))))))))))
theorem ex_frame_reader_number_h1 : ∃ f, f = @b_frame_reader_number_h1 := ⟨_, rfl⟩
noncomputable def frame_reader_number_h1 := Classical.choose ex_frame_reader_number_h1
theorem frame_reader_number_h1_eq : @frame_reader_number_h1 = @b_frame_reader_number_h1 := Classical.choose_spec ex_frame_reader_number_h1
noncomputable def hb_frame_reader_number_h1 : HCon := HCon.mkP 149 pa_frame_reader_number_h1 pH_frame_reader_number_h1 qa_frame_reader_number_h1 qH_frame_reader_number_h1 R_frame_reader_number_h1 default (fun x => b_frame_reader_number_h1 x.2.1.1 x.2.1.2.1 x.2.1.2.2.1 x.2.1.2.2.2.1 x.2.1.2.2.2.2.1 x.2.1.2.2.2.2.2.1 x.2.1.2.2.2.2.2.2.1 x.2.1.2.2.2.2.2.2.2.1 x.2.1.2.2.2.2.2.2.2.2.1 x.2.1.2.2.2.2.2.2.2.2.2.1 x.2.1.2.2.2.2.2.2.2.2.2.2.1 x.2.1.2.2.2.2.2.2.2.2.2.2.2.1 x.2.1.2.2.2.2.2.2.2.2.2.2.2.2.1 x.2.2.1) (fun r => ((r.1, ()), ((r.2.1, (r.2.2.1, (r.2.2.2.1, (r.2.2.2.2.1, (r.2.2.2.2.2.1, (r.2.2.2.2.2.2.1, (r.2.2.2.2.2.2.2.1, (r.2.2.2.2.2.2.2.2.1, (r.2.2.2.2.2.2.2.2.2.1, (r.2.2.2.2.2.2.2.2.2.2.1, (r.2.2.2.2.2.2.2.2.2.2.2.1, (r.2.2.2.2.2.2.2.2.2.2.2.2.1, (r.2.2.2.2.2.2.2.2.2.2.2.2.2.1, ((), ())))))))))))))), (r.2.2.2.2.2.2.2.2.2.2.2.2.2.2.1, ())))) (fun y => (y.1.1, y.2.1.1, y.2.1.2.1, y.2.1.2.2.1, y.2.1.2.2.2.1, y.2.1.2.2.2.2.1, y.2.1.2.2.2.2.2.1, y.2.1.2.2.2.2.2.2.1, y.2.1.2.2.2.2.2.2.2.1, y.2.1.2.2.2.2.2.2.2.2.1, y.2.1.2.2.2.2.2.2.2.2.2.1, y.2.1.2.2.2.2.2.2.2.2.2.2.1, y.2.1.2.2.2.2.2.2.2.2.2.2.2.1, y.2.1.2.2.2.2.2.2.2.2.2.2.2.2.1, y.2.2.1, ())) (fun _ => rfl)
noncomputable def h_frame_reader_number_h1 : HCon := HCon.mkP 149 pa_frame_reader_number_h1 pH_frame_reader_number_h1 qa_frame_reader_number_h1 qH_frame_reader_number_h1 R_frame_reader_number_h1 default (fun x => frame_reader_number_h1 x.2.1.1 x.2.1.2.1 x.2.1.2.2.1 x.2.1.2.2.2.1 x.2.1.2.2.2.2.1 x.2.1.2.2.2.2.2.1 x.2.1.2.2.2.2.2.2.1 x.2.1.2.2.2.2.2.2.2.1 x.2.1.2.2.2.2.2.2.2.2.1 x.2.1.2.2.2.2.2.2.2.2.2.1 x.2.1.2.2.2.2.2.2.2.2.2.2.1 x.2.1.2.2.2.2.2.2.2.2.2.2.2.1 x.2.1.2.2.2.2.2.2.2.2.2.2.2.2.1 x.2.2.1) (fun r => ((r.1, ()), ((r.2.1, (r.2.2.1, (r.2.2.2.1, (r.2.2.2.2.1, (r.2.2.2.2.2.1, (r.2.2.2.2.2.2.1, (r.2.2.2.2.2.2.2.1, (r.2.2.2.2.2.2.2.2.1, (r.2.2.2.2.2.2.2.2.2.1, (r.2.2.2.2.2.2.2.2.2.2.1, (r.2.2.2.2.2.2.2.2.2.2.2.1, (r.2.2.2.2.2.2.2.2.2.2.2.2.1, (r.2.2.2.2.2.2.2.2.2.2.2.2.2.1, ((), ())))))))))))))), (r.2.2.2.2.2.2.2.2.2.2.2.2.2.2.1, ())))) (fun y => (y.1.1, y.2.1.1, y.2.1.2.1, y.2.1.2.2.1, y.2.1.2.2.2.1, y.2.1.2.2.2.2.1, y.2.1.2.2.2.2.2.1, y.2.1.2.2.2.2.2.2.1, y.2.1.2.2.2.2.2.2.2.1, y.2.1.2.2.2.2.2.2.2.2.1, y.2.1.2.2.2.2.2.2.2.2.2.1, y.2.1.2.2.2.2.2.2.2.2.2.2.1, y.2.1.2.2.2.2.2.2.2.2.2.2.2.1, y.2.1.2.2.2.2.2.2.2.2.2.2.2.2.1, y.2.2.1, ())) (fun _ => rfl)
theorem hb_frame_reader_number_h1_ok : hb_frame_reader_number_h1.Sound prog Inv gInv 149 :=
 hcon_run (M := m_frame_reader_number_h1) (f := f149) rfl ks_frame_reader_number_h1 100000 (X := nowhere) (fun base S0 cs0 hn hf => OSound.nowhere) (by intro x; kernel_rfl)
theorem h_frame_reader_number_h1_ok : h_frame_reader_number_h1.Sound prog Inv gInv 149 := by
 have e : h_frame_reader_number_h1 = hb_frame_reader_number_h1 := by unfold h_frame_reader_number_h1 hb_frame_reader_number_h1; rw [frame_reader_number_h1_eq]
 rw [e]; exact hb_frame_reader_number_h1_ok
noncomputable def m_frame_reader_into_h11 : Mach prog Inv gInv := mach bas [(122, f122), (123, f123), (149, f149)] ⟨ok122, ok123, ok149, trivial⟩ [(163, c_varint_Get)] ⟨⟨c_varint_Get_ok, FnOk.callable ok163⟩, trivial⟩ [] trivial [(123, h_frame_reader_need_h0), (149, h_frame_reader_number_h0), (123, h_frame_reader_need_h1), (149, h_frame_reader_number_h1)] ⟨⟨h_frame_reader_need_h0_ok, FnOk.callable ok123⟩, ⟨h_frame_reader_number_h0_ok, FnOk.callable ok149⟩, ⟨h_frame_reader_need_h1_ok, FnOk.callable ok123⟩, ⟨h_frame_reader_number_h1_ok, FnOk.callable ok149⟩, trivial⟩
@[reducible] noncomputable def pa_frame_reader_into_h11 : List Pat := [.ptr 0 0, .cs 1 0 2 1]
@[reducible] noncomputable def pH_frame_reader_into_h11 : List HPat := [.cells 154 [.str, .int .u64, .int .u64, .int .u64, .int .u64, .int .u64, .int .u64, .int .u64, .int .u64, .bool, .str, .str, .str, .all 2], .cells 195 [.ptr 3 0, .ptr 4 0], .row T_ranges_Range, .cells 30 [.int .u64], .cells 30 [.int .u64]]
/-! ### (*domino/frame.reader).into -/
abbrev R_frame_reader_into_h11 : Type := ByteArray × Int × Int × Int × Int × Int × Int × Int × Int × Bool × ByteArray × ByteArray × ByteArray × (List D_ranges_Range) × Int × Int × Unit
@[reducible] noncomputable def qa_frame_reader_into_h11 : List Pat := []
@[reducible] noncomputable def qH_frame_reader_into_h11 : List HPat := [.cells 154 [.str, .int .u64, .int .u64, .int .u64, .int .u64, .int .u64, .int .u64, .int .u64, .int .u64, .bool, .str, .str, .str, .all 2], .cells 195 [.ptr 3 0, .ptr 4 0], .row T_ranges_Range, .cells 30 [.int .u64], .cells 30 [.int .u64]]
def ks_frame_reader_into_h11 : List Nat := [122, 123, 149]
noncomputable def b_frame_reader_into_h11 (s0 : ByteArray) (i1 : Int) (i2 : Int) (i3 : Int) (i4 : Int) (i5 : Int) (i6 : Int) (i7 : Int) (i8 : Int) (b9 : Bool) (s10 : ByteArray) (s11 : ByteArray) (s12 : ByteArray) (l13 : (List D_ranges_Range)) (i14 : Int) (i15 : Int) : Option (Option R_frame_reader_into_h11) :=
 obindP (frame_reader_number_h1 s0 i1 i2 i3 i4 i5 i6 i7 i8 b9 s10 s11 s12 l13) (
  some none) fun y16 =>
 obindP (frame_reader_number_h1 y16.2.1 y16.2.2.1 y16.2.2.2.1 y16.2.2.2.2.1 y16.2.2.2.2.2.1 y16.2.2.2.2.2.2.1 y16.2.2.2.2.2.2.2.1 y16.2.2.2.2.2.2.2.2.1 y16.2.2.2.2.2.2.2.2.2.1 y16.2.2.2.2.2.2.2.2.2.2.1 y16.2.2.2.2.2.2.2.2.2.2.2.1 y16.2.2.2.2.2.2.2.2.2.2.2.2.1 y16.2.2.2.2.2.2.2.2.2.2.2.2.2.1 y16.2.2.2.2.2.2.2.2.2.2.2.2.2.2.1) (
  some none) fun y17 =>
 some (some (y17.2.1, (y17.2.2.1, (y17.2.2.2.1, (y17.2.2.2.2.1, (y17.2.2.2.2.2.1, (y17.2.2.2.2.2.2.1, (y17.2.2.2.2.2.2.2.1, (y17.2.2.2.2.2.2.2.2.1, (y17.2.2.2.2.2.2.2.2.2.1, (y17.2.2.2.2.2.2.2.2.2.2.1, (y17.2.2.2.2.2.2.2.2.2.2.2.1, (y17.2.2.2.2.2.2.2.2.2.2.2.2.1, (y17.2.2.2.2.2.2.2.2.2.2.2.2.2.1, (y17.2.2.2.2.2.2.2.2.2.2.2.2.2.2.1, (y16.1, (y17.1, ())))))))))))))))))
theorem ex_frame_reader_into_h11 : ∃ f, f = @b_frame_reader_into_h11 := ⟨_, rfl⟩
noncomputable def frame_reader_into_h11 := Classical.choose ex_frame_reader_into_h11
theorem frame_reader_into_h11_eq : @frame_reader_into_h11 = @b_frame_reader_into_h11 := Classical.choose_spec ex_frame_reader_into_h11
noncomputable def hb_frame_reader_into_h11 : HCon := HCon.mkP 149 pa_frame_reader_into_h11 pH_frame_reader_into_h11 qa_frame_reader_into_h11 qH_frame_reader_into_h11 R_frame_reader_into_h11 default (fun x => b_frame_reader_into_h11 x.2.1.1 x.2.1.2.1 x.2.1.2.2.1 x.2.1.2.2.2.1 x.2.1.2.2.2.2.1 x.2.1.2.2.2.2.2.1 x.2.1.2.2.2.2.2.2.1 x.2.1.2.2.2.2.2.2.2.1 x.2.1.2.2.2.2.2.2.2.2.1 x.2.1.2.2.2.2.2.2.2.2.2.1 x.2.1.2.2.2.2.2.2.2.2.2.2.1 x.2.1.2.2.2.2.2.2.2.2.2.2.2.1 x.2.1.2.2.2.2.2.2.2.2.2.2.2.2.1 x.2.2.2.1 x.2.2.2.2.1.1 x.2.2.2.2.2.1.1) (fun r => ((), ((r.1, (r.2.1, (r.2.2.1, (r.2.2.2.1, (r.2.2.2.2.1, (r.2.2.2.2.2.1, (r.2.2.2.2.2.2.1, (r.2.2.2.2.2.2.2.1, (r.2.2.2.2.2.2.2.2.1, (r.2.2.2.2.2.2.2.2.2.1, (r.2.2.2.2.2.2.2.2.2.2.1, (r.2.2.2.2.2.2.2.2.2.2.2.1, (r.2.2.2.2.2.2.2.2.2.2.2.2.1, ((), ())))))))))))))), (((), ((), ())), (r.2.2.2.2.2.2.2.2.2.2.2.2.2.1, ((r.2.2.2.2.2.2.2.2.2.2.2.2.2.2.1, ()), ((r.2.2.2.2.2.2.2.2.2.2.2.2.2.2.2.1, ()), ()))))))) (fun y => (y.2.1.1, y.2.1.2.1, y.2.1.2.2.1, y.2.1.2.2.2.1, y.2.1.2.2.2.2.1, y.2.1.2.2.2.2.2.1, y.2.1.2.2.2.2.2.2.1, y.2.1.2.2.2.2.2.2.2.1, y.2.1.2.2.2.2.2.2.2.2.1, y.2.1.2.2.2.2.2.2.2.2.2.1, y.2.1.2.2.2.2.2.2.2.2.2.2.1, y.2.1.2.2.2.2.2.2.2.2.2.2.2.1, y.2.1.2.2.2.2.2.2.2.2.2.2.2.2.1, y.2.2.2.1, y.2.2.2.2.1.1, y.2.2.2.2.2.1.1, ())) (fun _ => rfl)
noncomputable def h_frame_reader_into_h11 : HCon := HCon.mkP 149 pa_frame_reader_into_h11 pH_frame_reader_into_h11 qa_frame_reader_into_h11 qH_frame_reader_into_h11 R_frame_reader_into_h11 default (fun x => frame_reader_into_h11 x.2.1.1 x.2.1.2.1 x.2.1.2.2.1 x.2.1.2.2.2.1 x.2.1.2.2.2.2.1 x.2.1.2.2.2.2.2.1 x.2.1.2.2.2.2.2.2.1 x.2.1.2.2.2.2.2.2.2.1 x.2.1.2.2.2.2.2.2.2.2.1 x.2.1.2.2.2.2.2.2.2.2.2.1 x.2.1.2.2.2.2.2.2.2.2.2.2.1 x.2.1.2.2.2.2.2.2.2.2.2.2.2.1 x.2.1.2.2.2.2.2.2.2.2.2.2.2.2.1 x.2.2.2.1 x.2.2.2.2.1.1 x.2.2.2.2.2.1.1) (fun r => ((), ((r.1, (r.2.1, (r.2.2.1, (r.2.2.2.1, (r.2.2.2.2.1, (r.2.2.2.2.2.1, (r.2.2.2.2.2.2.1, (r.2.2.2.2.2.2.2.1, (r.2.2.2.2.2.2.2.2.1, (r.2.2.2.2.2.2.2.2.2.1, (r.2.2.2.2.2.2.2.2.2.2.1, (r.2.2.2.2.2.2.2.2.2.2.2.1, (r.2.2.2.2.2.2.2.2.2.2.2.2.1, ((), ())))))))))))))), (((), ((), ())), (r.2.2.2.2.2.2.2.2.2.2.2.2.2.1, ((r.2.2.2.2.2.2.2.2.2.2.2.2.2.2.1, ()), ((r.2.2.2.2.2.2.2.2.2.2.2.2.2.2.2.1, ()), ()))))))) (fun y => (y.2.1.1, y.2.1.2.1, y.2.1.2.2.1, y.2.1.2.2.2.1, y.2.1.2.2.2.2.1, y.2.1.2.2.2.2.2.1, y.2.1.2.2.2.2.2.2.1, y.2.1.2.2.2.2.2.2.2.1, y.2.1.2.2.2.2.2.2.2.2.1, y.2.1.2.2.2.2.2.2.2.2.2.1, y.2.1.2.2.2.2.2.2.2.2.2.2.1, y.2.1.2.2.2.2.2.2.2.2.2.2.2.1, y.2.1.2.2.2.2.2.2.2.2.2.2.2.2.1, y.2.2.2.1, y.2.2.2.2.1.1, y.2.2.2.2.2.1.1, ())) (fun _ => rfl)
theorem hb_frame_reader_into_h11_ok : hb_frame_reader_into_h11.Sound prog Inv gInv 122 :=
 hcon_run (M := m_frame_reader_into_h11) (f := f122) rfl ks_frame_reader_into_h11 100000 (X := nowhere) (fun base S0 cs0 hn hf => OSound.nowhere) (by intro x; kernel_rfl)
theorem h_frame_reader_into_h11_ok : h_frame_reader_into_h11.Sound prog Inv gInv 122 := by
 have e : h_frame_reader_into_h11 = hb_frame_reader_into_h11 := by unfold h_frame_reader_into_h11 hb_frame_reader_into_h11; rw [frame_reader_into_h11_eq]
 rw [e]; exact hb_frame_reader_into_h11_ok
noncomputable def m_frame_framer_ack_h0 : Mach prog Inv gInv := mach bas [(125, f125), (117, f117), (122, f122), (123, f123), (149, f149)] ⟨ok125, ok117, ok122, ok123, ok149, trivial⟩ [(163, c_varint_Get)] ⟨⟨c_varint_Get_ok, FnOk.callable ok163⟩, trivial⟩ [] trivial [(123, h_frame_reader_need_h0), (149, h_frame_reader_number_h0), (122, h_frame_reader_into_h0), (122, h_frame_reader_into_h1), (122, h_frame_reader_into_h2), (122, h_frame_reader_into_h3), (122, h_frame_reader_into_h4), (122, h_frame_reader_into_h5), (122, h_frame_reader_into_h6), (122, h_frame_reader_into_h7), (122, h_frame_reader_into_h8), (122, h_frame_reader_into_h9), (122, h_frame_reader_into_h10), (123, h_frame_reader_need_h1), (149, h_frame_reader_number_h1), (122, h_frame_reader_into_h11)] ⟨⟨h_frame_reader_need_h0_ok, FnOk.callable ok123⟩, ⟨h_frame_reader_number_h0_ok, FnOk.callable ok149⟩, ⟨h_frame_reader_into_h0_ok, FnOk.callable ok122⟩, ⟨h_frame_reader_into_h1_ok, FnOk.callable ok122⟩, ⟨h_frame_reader_into_h2_ok, FnOk.callable ok122⟩, ⟨h_frame_reader_into_h3_ok, FnOk.callable ok122⟩, ⟨h_frame_reader_into_h4_ok, FnOk.callable ok122⟩, ⟨h_frame_reader_into_h5_ok, FnOk.callable ok122⟩, ⟨h_frame_reader_into_h6_ok, FnOk.callable ok122⟩, ⟨h_frame_reader_into_h7_ok, FnOk.callable ok122⟩, ⟨h_frame_reader_into_h8_ok, FnOk.callable ok122⟩, ⟨h_frame_reader_into_h9_ok, FnOk.callable ok122⟩, ⟨h_frame_reader_into_h10_ok, FnOk.callable ok122⟩, ⟨h_frame_reader_need_h1_ok, FnOk.callable ok123⟩, ⟨h_frame_reader_number_h1_ok, FnOk.callable ok149⟩, ⟨h_frame_reader_into_h11_ok, FnOk.callable ok122⟩, trivial⟩
@[reducible] noncomputable def pa_frame_framer_ack_h0 : List Pat := [.ptr 0 0]
@[reducible] noncomputable def pH_frame_framer_ack_h0 : List HPat := [.dat 154 T_frame_framer]
/-! ### (*domino/frame.framer).ack -/
abbrev R_frame_framer_ack_h0 : Type := ByteArray × Int × Int × Int × Int × Int × Int × Int × Int × Bool × ByteArray × ByteArray × ByteArray × (List D_ranges_Range) × Unit
@[reducible] noncomputable def qa_frame_framer_ack_h0 : List Pat := []
@[reducible] noncomputable def qH_frame_framer_ack_h0 : List HPat := [.cells 154 [.str, .int .u64, .int .u64, .int .u64, .int .u64, .int .u64, .int .u64, .int .u64, .int .u64, .bool, .str, .str, .str, .all 1], .row T_ranges_Range]
noncomputable def g_frame_framer_ack_h0 : HCon := HCon.mkP 149 pa_frame_framer_ack_h0 pH_frame_framer_ack_h0 qa_frame_framer_ack_h0 qH_frame_framer_ack_h0 R_frame_framer_ack_h0 default (fun _ => none) (fun r => ((), ((r.1, (r.2.1, (r.2.2.1, (r.2.2.2.1, (r.2.2.2.2.1, (r.2.2.2.2.2.1, (r.2.2.2.2.2.2.1, (r.2.2.2.2.2.2.2.1, (r.2.2.2.2.2.2.2.2.1, (r.2.2.2.2.2.2.2.2.2.1, (r.2.2.2.2.2.2.2.2.2.2.1, (r.2.2.2.2.2.2.2.2.2.2.2.1, (r.2.2.2.2.2.2.2.2.2.2.2.2.1, ((), ())))))))))))))), (r.2.2.2.2.2.2.2.2.2.2.2.2.2.1, ())))) (fun y => (y.2.1.1, y.2.1.2.1, y.2.1.2.2.1, y.2.1.2.2.2.1, y.2.1.2.2.2.2.1, y.2.1.2.2.2.2.2.1, y.2.1.2.2.2.2.2.2.1, y.2.1.2.2.2.2.2.2.2.1, y.2.1.2.2.2.2.2.2.2.2.1, y.2.1.2.2.2.2.2.2.2.2.2.1, y.2.1.2.2.2.2.2.2.2.2.2.2.1, y.2.1.2.2.2.2.2.2.2.2.2.2.2.1, y.2.1.2.2.2.2.2.2.2.2.2.2.2.2.1, y.2.2.1, ())) (fun _ => rfl)
def ks_frame_framer_ack_h0 : List Nat := [125, 117, 122, 123, 149]
abbrev H_frame_framer_ack_h0 (base : Base) (S0 : Nat → Prop) := base.n = 1 ∧ FinOk (finH g_frame_framer_ack_h0) base S0 (HPost g_frame_framer_ack_h0 base S0)
abbrev J_frame_framer_ack_h0 (base : Base) (S0 : Nat → Prop) (cs0 : List Go.Frame) (p : CPat) (J : denC p → Option (Option R_frame_framer_ack_h0)) := JSound m_frame_framer_ack_h0 base S0 cs0 (HPost g_frame_framer_ack_h0 base S0) p J
abbrev O_frame_framer_ack_h0 (base : Base) (S0 : Nat → Prop) (cs0 : List Go.Frame) (X : Cfg → Option (Option (Option R_frame_framer_ack_h0))) := OSound m_frame_framer_ack_h0 base S0 cs0 (HPost g_frame_framer_ack_h0 base S0) X
@[reducible] noncomputable def p_frame_framer_ack_h0_1 : CPat := ⟨⟨117, [1, 0], none, [.all 1, .any, .int .i64, .int .i64], 24⟩, [⟨125, [1, 1, 1, 1, 1], (some 5), [], 105⟩], [.cells 154 [.str, .int .u64, .int .u64, .int .u64, .int .u64, .int .u64, .int .u64, .int .u64, .int .u64, .bool, .str, .str, .str, .all 1], .row T_ranges_Range], 1⟩
@[reducible] noncomputable def u_frame_framer_ack_h0_1 (k : Int → Int → ByteArray → Int → Int → Int → Int → Int → Int → Int → Int → Bool → ByteArray → ByteArray → ByteArray → (List D_ranges_Range) → Option (Option R_frame_framer_ack_h0)) : denC p_frame_framer_ack_h0_1 → Option (Option R_frame_framer_ack_h0) := fun x => k x.1.2.2.1 x.1.2.2.2.1 x.2.2.1.1 x.2.2.1.2.1 x.2.2.1.2.2.1 x.2.2.1.2.2.2.1 x.2.2.1.2.2.2.2.1 x.2.2.1.2.2.2.2.2.1 x.2.2.1.2.2.2.2.2.2.1 x.2.2.1.2.2.2.2.2.2.2.1 x.2.2.1.2.2.2.2.2.2.2.2.1 x.2.2.1.2.2.2.2.2.2.2.2.2.1 x.2.2.1.2.2.2.2.2.2.2.2.2.2.1 x.2.2.1.2.2.2.2.2.2.2.2.2.2.2.1 x.2.2.1.2.2.2.2.2.2.2.2.2.2.2.2.1 x.2.2.2.1
noncomputable def t_frame_framer_ack_h0_1 (k1 : Int → Int → ByteArray → Int → Int → Int → Int → Int → Int → Int → Int → Bool → ByteArray → ByteArray → ByteArray → (List D_ranges_Range) → Option (Option R_frame_framer_ack_h0)) (i128 : Int) (i129 : Int) (s130 : ByteArray) (i131 : Int) (i132 : Int) (i133 : Int) (i134 : Int) (i135 : Int) (i136 : Int) (i137 : Int) (i138 : Int) (b139 : Bool) (s140 : ByteArray) (s141 : ByteArray) (s142 : ByteArray) (l143 : (List D_ranges_Range)) : Option (Option R_frame_framer_ack_h0) :=
 let b144 : Bool := (decide (i128 < i129))
 bif b144 then
  bif (decide (((0 : Int) ≤ i129) ∧ (i129 < (((List.length l143) : Nat) : Int)))) then
   let i145 : Nat := (Int.toNat i129)
   let n146 : Int := (List.getD l143 i145 (Ty.dflt T_ranges_Range)).1
   let n147 : Int := (List.getD l143 i145 (Ty.dflt T_ranges_Range)).2.1
   bif (decide (((0 : Int) ≤ i128) ∧ (i128 < (((List.length l143) : Nat) : Int)))) then
    let i148 : Nat := (Int.toNat i128)
    let n149 : Int := (List.getD l143 i148 (Ty.dflt T_ranges_Range)).1
    let n150 : Int := (List.getD l143 i148 (Ty.dflt T_ranges_Range)).2.1
    bif (decide (((0 : Int) ≤ i128) ∧ (i128 < (((List.length l143) : Nat) : Int)))) then
     let i151 : Nat := (Int.toNat i128)
     let l152 : (List D_ranges_Range) := (List.set l143 i151 (n146, (n147, ())))
     bif (decide (((0 : Int) ≤ i129) ∧ (i129 < (((List.length l152) : Nat) : Int)))) then
      let i153 : Nat := (Int.toNat i129)
      let l154 : (List D_ranges_Range) := (List.set l152 i153 (n149, (n150, ())))
      let n155 : Int := (Go.IntKind.wrap Go.IntKind.i64 (i128 + (1 : Int)))
      let n156 : Int := (Go.IntKind.wrap Go.IntKind.i64 (i129 - (1 : Int)))
      k1 n155 n156 s130 i131 i132 i133 i134 i135 i136 i137 i138 b139 s140 s141 s142 l154
     else none
    else none
   else none
  else none
 else
  some (some (s130, (i131, (i132, (i133, (i134, (i135, (i136, (i137, (i138, (b139, (s140, (s141, (s142, (l143, ())))))))))))))))
noncomputable def frame_framer_ack_h0_1 : Nat → Int → Int → ByteArray → Int → Int → Int → Int → Int → Int → Int → Int → Bool → ByteArray → ByteArray → ByteArray → (List D_ranges_Range) → Option (Option R_frame_framer_ack_h0)
 | 0 => fun _ _ _ _ _ _ _ _ _ _ _ _ _ _ _ _ => none
 | m + 1 => t_frame_framer_ack_h0_1 (frame_framer_ack_h0_1 m)
noncomputable def b_frame_framer_ack_h0_1' (i128 : Int) (i129 : Int) (s130 : ByteArray) (i131 : Int) (i132 : Int) (i133 : Int) (i134 : Int) (i135 : Int) (i136 : Int) (i137 : Int) (i138 : Int) (b139 : Bool) (s140 : ByteArray) (s141 : ByteArray) (s142 : ByteArray) (l143 : (List D_ranges_Range)) : Option (Option R_frame_framer_ack_h0) := frame_framer_ack_h0_1 (Int.toNat (i129 - i128) + 2) i128 i129 s130 i131 i132 i133 i134 i135 i136 i137 i138 b139 s140 s141 s142 l143
theorem ex_frame_framer_ack_h0_1' : ∃ f, f = @b_frame_framer_ack_h0_1' := ⟨_, rfl⟩
noncomputable def frame_framer_ack_h0_1' := Classical.choose ex_frame_framer_ack_h0_1'
theorem frame_framer_ack_h0_1'_eq : @frame_framer_ack_h0_1' = @b_frame_framer_ack_h0_1' := Classical.choose_spec ex_frame_framer_ack_h0_1'
theorem s_frame_framer_ack_h0_1 {base S0 cs0} (hfin : H_frame_framer_ack_h0 base S0) : ∀ m, J_frame_framer_ack_h0 base S0 cs0 p_frame_framer_ack_h0_1 (u_frame_framer_ack_h0_1 (frame_framer_ack_h0_1 m)) :=
 JSound.loop' hfin.2 ks_frame_framer_ack_h0 100000 u_frame_framer_ack_h0_1 (fun k1 => cut p_frame_framer_ack_h0_1 (u_frame_framer_ack_h0_1 k1) (nowhere)) (fun k1 h1 => OSound.cut (OSound.nowhere) (Nat.le_of_eq hfin.1) h1) (frame_framer_ack_h0_1) (by intro x; rfl) (by intro m x; kernel_rfl)
theorem s_frame_framer_ack_h0_1' {base S0 cs0} (hfin : H_frame_framer_ack_h0 base S0) : J_frame_framer_ack_h0 base S0 cs0 p_frame_framer_ack_h0_1 (u_frame_framer_ack_h0_1 (frame_framer_ack_h0_1')) := by
 rw [frame_framer_ack_h0_1'_eq]; exact fun x r hx => s_frame_framer_ack_h0_1 hfin _ x r hx
noncomputable def x_frame_framer_ack_h0_1 : Cfg → Option (Option (Option R_frame_framer_ack_h0)) := cut p_frame_framer_ack_h0_1 (u_frame_framer_ack_h0_1 (frame_framer_ack_h0_1')) (nowhere)
theorem o_frame_framer_ack_h0_1 {base S0 cs0} (hfin : H_frame_framer_ack_h0 base S0) : O_frame_framer_ack_h0 base S0 cs0 (x_frame_framer_ack_h0_1) := OSound.cut (OSound.nowhere) (Nat.le_of_eq hfin.1) (s_frame_framer_ack_h0_1' hfin)
@[reducible] noncomputable def p_frame_framer_ack_h0_0 : CPat := ⟨⟨125, [1, 1, 1, 1, 0, 1, 0], none, [.ptr 0 0, .any, .any, .any, .ptr 1 0, .any, .any, .any, .any, .any, .any, .any, .any, .any, .any, .any, .any, .any, .any, .any, .any, .any, .any, .any, .any, .any, .any, .any, .any, .any, .any, .any, .any, .any, .any, .any, .any, .int .u64, .int .u64], 66⟩, [], [.cells 154 [.str, .int .u64, .int .u64, .int .u64, .int .u64, .int .u64, .int .u64, .int .u64, .int .u64, .bool, .str, .str, .str, .all 2], .cells 30 [.int .u64], .row T_ranges_Range], 1⟩
@[reducible] noncomputable def u_frame_framer_ack_h0_0 (k : Int → Int → ByteArray → Int → Int → Int → Int → Int → Int → Int → Int → Bool → ByteArray → ByteArray → ByteArray → Int → (List D_ranges_Range) → Option (Option R_frame_framer_ack_h0)) : denC p_frame_framer_ack_h0_0 → Option (Option R_frame_framer_ack_h0) := fun x => k x.1.2.2.2.2.2.2.2.2.2.2.2.2.2.2.2.2.2.2.2.2.2.2.2.2.2.2.2.2.2.2.2.2.2.2.2.2.2.1 x.1.2.2.2.2.2.2.2.2.2.2.2.2.2.2.2.2.2.2.2.2.2.2.2.2.2.2.2.2.2.2.2.2.2.2.2.2.2.2.1 x.2.2.1.1 x.2.2.1.2.1 x.2.2.1.2.2.1 x.2.2.1.2.2.2.1 x.2.2.1.2.2.2.2.1 x.2.2.1.2.2.2.2.2.1 x.2.2.1.2.2.2.2.2.2.1 x.2.2.1.2.2.2.2.2.2.2.1 x.2.2.1.2.2.2.2.2.2.2.2.1 x.2.2.1.2.2.2.2.2.2.2.2.2.1 x.2.2.1.2.2.2.2.2.2.2.2.2.2.1 x.2.2.1.2.2.2.2.2.2.2.2.2.2.2.1 x.2.2.1.2.2.2.2.2.2.2.2.2.2.2.2.1 x.2.2.2.1.1 x.2.2.2.2.1
noncomputable def t_frame_framer_ack_h0_0 (k0 : Int → Int → ByteArray → Int → Int → Int → Int → Int → Int → Int → Int → Bool → ByteArray → ByteArray → ByteArray → Int → (List D_ranges_Range) → Option (Option R_frame_framer_ack_h0)) (i55 : Int) (i56 : Int) (s57 : ByteArray) (i58 : Int) (i59 : Int) (i60 : Int) (i61 : Int) (i62 : Int) (i63 : Int) (i64 : Int) (i65 : Int) (b66 : Bool) (s67 : ByteArray) (s68 : ByteArray) (s69 : ByteArray) (i70 : Int) (l71 : (List D_ranges_Range)) : Option (Option R_frame_framer_ack_h0) :=
 let b72 : Bool := (decide (i56 < i55))
 bif b72 then
  let n73 : Int := (((List.length l71) : Nat) : Int)
  let n74 : Int := (Go.IntKind.wrap Go.IntKind.i64 (n73 - (1 : Int)))
  bif (decide (((0 : Int) ≤ n74) ∧ (n74 < (((List.length l71) : Nat) : Int)))) then
   let i75 : Nat := (Int.toNat n74)
   let n76 : Int := (List.getD l71 i75 (Ty.dflt T_ranges_Range)).1
   obindP (frame_reader_into_h11 s57 i58 i59 i60 i61 i62 i63 i64 i65 b66 s67 s68 s69 l71 (0 : Int) i70) (
    some none) fun y77 =>
   let n78 : Int := (Go.IntKind.wrap Go.IntKind.u64 (y77.2.2.2.2.2.2.2.2.2.2.2.2.2.2.1 + (2 : Int)))
   let b79 : Bool := (decide (n78 ≤ n76))
   bif b79 then
    let n80 : Int := (Go.IntKind.wrap Go.IntKind.u64 (n76 - y77.2.2.2.2.2.2.2.2.2.2.2.2.2.2.1))
    let n81 : Int := (Go.IntKind.wrap Go.IntKind.u64 (n80 - (2 : Int)))
    let b82 : Bool := (decide (y77.2.2.2.2.2.2.2.2.2.2.2.2.2.2.2.1 ≤ n81))
    obindP (frame_reader_need_h1 b82 y77.1 y77.2.1 y77.2.2.1 y77.2.2.2.1 y77.2.2.2.2.1 y77.2.2.2.2.2.1 y77.2.2.2.2.2.2.1 y77.2.2.2.2.2.2.2.1 y77.2.2.2.2.2.2.2.2.1 y77.2.2.2.2.2.2.2.2.2.1 y77.2.2.2.2.2.2.2.2.2.2.1 y77.2.2.2.2.2.2.2.2.2.2.2.1 y77.2.2.2.2.2.2.2.2.2.2.2.2.1 y77.2.2.2.2.2.2.2.2.2.2.2.2.2.1) (
     some none) fun y83 =>
    let n84 : Int := (Go.IntKind.wrap Go.IntKind.u64 (n76 - y77.2.2.2.2.2.2.2.2.2.2.2.2.2.2.1))
    let n85 : Int := (Go.IntKind.wrap Go.IntKind.u64 (n84 - (2 : Int)))
    let n86 : Int := (Go.IntKind.wrap Go.IntKind.u64 (n85 - y77.2.2.2.2.2.2.2.2.2.2.2.2.2.2.2.1))
    let n87 : Int := (Go.IntKind.wrap Go.IntKind.u64 (n76 - y77.2.2.2.2.2.2.2.2.2.2.2.2.2.2.1))
    let n88 : Int := (Go.IntKind.wrap Go.IntKind.u64 (n87 - (2 : Int)))
    let e89 : (Int × (Int × Unit)) := (n86, (n88, ()))
    bif (decide (((List.length y83.2.2.2.2.2.2.2.2.2.2.2.2.2.1) + (List.length (e89 :: ([] : List D_ranges_Range)))) ≤ 4294967296)) then
     let l90 : (List D_ranges_Range) := (y83.2.2.2.2.2.2.2.2.2.2.2.2.2.1 ++ (e89 :: ([] : List D_ranges_Range)))
     let n91 : Int := (Go.IntKind.wrap Go.IntKind.u64 (i56 + (1 : Int)))
     k0 i55 n91 y83.1 y83.2.1 y83.2.2.1 y83.2.2.2.1 y83.2.2.2.2.1 y83.2.2.2.2.2.1 y83.2.2.2.2.2.2.1 y83.2.2.2.2.2.2.2.1 y83.2.2.2.2.2.2.2.2.1 y83.2.2.2.2.2.2.2.2.2.1 y83.2.2.2.2.2.2.2.2.2.2.1 y83.2.2.2.2.2.2.2.2.2.2.2.1 y83.2.2.2.2.2.2.2.2.2.2.2.2.1 y77.2.2.2.2.2.2.2.2.2.2.2.2.2.2.2.1 l90
    else none
   else
    obindP (frame_reader_need_h1 false y77.1 y77.2.1 y77.2.2.1 y77.2.2.2.1 y77.2.2.2.2.1 y77.2.2.2.2.2.1 y77.2.2.2.2.2.2.1 y77.2.2.2.2.2.2.2.1 y77.2.2.2.2.2.2.2.2.1 y77.2.2.2.2.2.2.2.2.2.1 y77.2.2.2.2.2.2.2.2.2.2.1 y77.2.2.2.2.2.2.2.2.2.2.2.1 y77.2.2.2.2.2.2.2.2.2.2.2.2.1 y77.2.2.2.2.2.2.2.2.2.2.2.2.2.1) (
     some none) fun y92 =>
    let n93 : Int := (Go.IntKind.wrap Go.IntKind.u64 (n76 - y77.2.2.2.2.2.2.2.2.2.2.2.2.2.2.1))
    let n94 : Int := (Go.IntKind.wrap Go.IntKind.u64 (n93 - (2 : Int)))
    let n95 : Int := (Go.IntKind.wrap Go.IntKind.u64 (n94 - y77.2.2.2.2.2.2.2.2.2.2.2.2.2.2.2.1))
    let n96 : Int := (Go.IntKind.wrap Go.IntKind.u64 (n76 - y77.2.2.2.2.2.2.2.2.2.2.2.2.2.2.1))
    let n97 : Int := (Go.IntKind.wrap Go.IntKind.u64 (n96 - (2 : Int)))
    let e98 : (Int × (Int × Unit)) := (n95, (n97, ()))
    bif (decide (((List.length y92.2.2.2.2.2.2.2.2.2.2.2.2.2.1) + (List.length (e98 :: ([] : List D_ranges_Range)))) ≤ 4294967296)) then
     let l99 : (List D_ranges_Range) := (y92.2.2.2.2.2.2.2.2.2.2.2.2.2.1 ++ (e98 :: ([] : List D_ranges_Range)))
     let n100 : Int := (Go.IntKind.wrap Go.IntKind.u64 (i56 + (1 : Int)))
     k0 i55 n100 y92.1 y92.2.1 y92.2.2.1 y92.2.2.2.1 y92.2.2.2.2.1 y92.2.2.2.2.2.1 y92.2.2.2.2.2.2.1 y92.2.2.2.2.2.2.2.1 y92.2.2.2.2.2.2.2.2.1 y92.2.2.2.2.2.2.2.2.2.1 y92.2.2.2.2.2.2.2.2.2.2.1 y92.2.2.2.2.2.2.2.2.2.2.2.1 y92.2.2.2.2.2.2.2.2.2.2.2.2.1 y77.2.2.2.2.2.2.2.2.2.2.2.2.2.2.2.1 l99
    else none
  else none
 else
  let n101 : Int := (((List.length l71) : Nat) : Int)
  let n102 : Int := (Go.IntKind.wrap Go.IntKind.i64 (n101 - (1 : Int)))
  frame_framer_ack_h0_1' (0 : Int) n102 s57 i58 i59 i60 i61 i62 i63 i64 i65 b66 s67 s68 s69 l71
noncomputable def frame_framer_ack_h0_0 : Nat → Int → Int → ByteArray → Int → Int → Int → Int → Int → Int → Int → Int → Bool → ByteArray → ByteArray → ByteArray → Int → (List D_ranges_Range) → Option (Option R_frame_framer_ack_h0)
 | 0 => fun _ _ _ _ _ _ _ _ _ _ _ _ _ _ _ _ _ => none
 | m + 1 => t_frame_framer_ack_h0_0 (frame_framer_ack_h0_0 m)
noncomputable def b_frame_framer_ack_h0_0' (i55 : Int) (i56 : Int) (s57 : ByteArray) (i58 : Int) (i59 : Int) (i60 : Int) (i61 : Int) (i62 : Int) (i63 : Int) (i64 : Int) (i65 : Int) (b66 : Bool) (s67 : ByteArray) (s68 : ByteArray) (s69 : ByteArray) (i70 : Int) (l71 : (List D_ranges_Range)) : Option (Option R_frame_framer_ack_h0) := frame_framer_ack_h0_0 (Int.toNat (i55 - i56) + 2) i55 i56 s57 i58 i59 i60 i61 i62 i63 i64 i65 b66 s67 s68 s69 i70 l71
theorem ex_frame_framer_ack_h0_0' : ∃ f, f = @b_frame_framer_ack_h0_0' := ⟨_, rfl⟩
noncomputable def frame_framer_ack_h0_0' := Classical.choose ex_frame_framer_ack_h0_0'
theorem frame_framer_ack_h0_0'_eq : @frame_framer_ack_h0_0' = @b_frame_framer_ack_h0_0' := Classical.choose_spec ex_frame_framer_ack_h0_0'
theorem s_frame_framer_ack_h0_0 {base S0 cs0} (hfin : H_frame_framer_ack_h0 base S0) : ∀ m, J_frame_framer_ack_h0 base S0 cs0 p_frame_framer_ack_h0_0 (u_frame_framer_ack_h0_0 (frame_framer_ack_h0_0 m)) :=
 JSound.loop' hfin.2 ks_frame_framer_ack_h0 100000 u_frame_framer_ack_h0_0 (fun k0 => cut p_frame_framer_ack_h0_0 (u_frame_framer_ack_h0_0 k0) (x_frame_framer_ack_h0_1)) (fun k0 h0 => OSound.cut (o_frame_framer_ack_h0_1 hfin) (Nat.le_of_eq hfin.1) h0) (frame_framer_ack_h0_0) (by intro x; rfl) (by intro m x; kernel_rfl)
theorem s_frame_framer_ack_h0_0' {base S0 cs0} (hfin : H_frame_framer_ack_h0 base S0) : J_frame_framer_ack_h0 base S0 cs0 p_frame_framer_ack_h0_0 (u_frame_framer_ack_h0_0 (frame_framer_ack_h0_0')) := by
 rw [frame_framer_ack_h0_0'_eq]; exact fun x r hx => s_frame_framer_ack_h0_0 hfin _ x r hx
noncomputable def x_frame_framer_ack_h0_0 : Cfg → Option (Option (Option R_frame_framer_ack_h0)) := cut p_frame_framer_ack_h0_0 (u_frame_framer_ack_h0_0 (frame_framer_ack_h0_0')) (x_frame_framer_ack_h0_1)
theorem o_frame_framer_ack_h0_0 {base S0 cs0} (hfin : H_frame_framer_ack_h0 base S0) : O_frame_framer_ack_h0 base S0 cs0 (x_frame_framer_ack_h0_0) := OSound.cut (o_frame_framer_ack_h0_1 hfin) (Nat.le_of_eq hfin.1) (s_frame_framer_ack_h0_0' hfin)
noncomputable def b_frame_framer_ack_h0 (d0 : D_frame_framer) : Option (Option R_frame_framer_ack_h0) :=
 obindP (frame_reader_into_h10 d0 (0 : Int) (0 : Int) (0 : Int)) (
  some none) fun y1 =>
 let b2 : Bool := (decide (y1.2.2.1 < (32 : Int)))
 bif b2 then
  let b3 : Bool := (decide (y1.2.2.2.1 ≤ y1.2.1))
  obindP (frame_reader_need_h0 b3 y1.1) (
   some none) fun y4 =>
  let n5 : Int := (Go.IntKind.wrap Go.IntKind.u64 (y1.2.1 - y1.2.2.2.1))
  let e6 : (Int × (Int × Unit)) := (n5, (y1.2.1, ()))
  frame_framer_ack_h0_0' y1.2.2.1 (0 : Int) y4.1.1.1 y4.1.2.1.1 y4.1.2.1.2.1 y4.1.2.1.2.2.1 y4.1.2.1.2.2.2.1 y4.1.2.1.2.2.2.2.1 y4.1.2.1.2.2.2.2.2.1 y4.1.2.1.2.2.2.2.2.2.1 y4.1.2.1.2.2.2.2.2.2.2.1 y4.1.2.1.2.2.2.2.2.2.2.2.1 y4.1.2.1.2.2.2.2.2.2.2.2.2.1 y4.1.2.1.2.2.2.2.2.2.2.2.2.2.1 y4.1.2.1.2.2.2.2.2.2.2.2.2.2.2.1 y1.2.2.2.1 (e6 :: ([] : List D_ranges_Range))
 else
  obindP (frame_reader_need_h0 false y1.1) (
   some none) fun y7 =>
  let n8 : Int := (Go.IntKind.wrap Go.IntKind.u64 (y1.2.1 - y1.2.2.2.1))
  let e9 : (Int × (Int × Unit)) := (n8, (y1.2.1, ()))
  frame_framer_ack_h0_0' y1.2.2.1 (0 : Int) y7.1.1.1 y7.1.2.1.1 y7.1.2.1.2.1 y7.1.2.1.2.2.1 y7.1.2.1.2.2.2.1 y7.1.2.1.2.2.2.2.1 y7.1.2.1.2.2.2.2.2.1 y7.1.2.1.2.2.2.2.2.2.1 y7.1.2.1.2.2.2.2.2.2.2.1 y7.1.2.1.2.2.2.2.2.2.2.2.1 y7.1.2.1.2.2.2.2.2.2.2.2.2.1 y7.1.2.1.2.2.2.2.2.2.2.2.2.2.1 y7.1.2.1.2.2.2.2.2.2.2.2.2.2.2.1 y1.2.2.2.1 (e9 :: ([] : List D_ranges_Range))
theorem ex_frame_framer_ack_h0 : ∃ f, f = @b_frame_framer_ack_h0 := ⟨_, rfl⟩
noncomputable def frame_framer_ack_h0 := Classical.choose ex_frame_framer_ack_h0
theorem frame_framer_ack_h0_eq : @frame_framer_ack_h0 = @b_frame_framer_ack_h0 := Classical.choose_spec ex_frame_framer_ack_h0
noncomputable def hb_frame_framer_ack_h0 : HCon := HCon.mkP 149 pa_frame_framer_ack_h0 pH_frame_framer_ack_h0 qa_frame_framer_ack_h0 qH_frame_framer_ack_h0 R_frame_framer_ack_h0 default (fun x => b_frame_framer_ack_h0 x.2.1) (fun r => ((), ((r.1, (r.2.1, (r.2.2.1, (r.2.2.2.1, (r.2.2.2.2.1, (r.2.2.2.2.2.1, (r.2.2.2.2.2.2.1, (r.2.2.2.2.2.2.2.1, (r.2.2.2.2.2.2.2.2.1, (r.2.2.2.2.2.2.2.2.2.1, (r.2.2.2.2.2.2.2.2.2.2.1, (r.2.2.2.2.2.2.2.2.2.2.2.1, (r.2.2.2.2.2.2.2.2.2.2.2.2.1, ((), ())))))))))))))), (r.2.2.2.2.2.2.2.2.2.2.2.2.2.1, ())))) (fun y => (y.2.1.1, y.2.1.2.1, y.2.1.2.2.1, y.2.1.2.2.2.1, y.2.1.2.2.2.2.1, y.2.1.2.2.2.2.2.1, y.2.1.2.2.2.2.2.2.1, y.2.1.2.2.2.2.2.2.2.1, y.2.1.2.2.2.2.2.2.2.2.1, y.2.1.2.2.2.2.2.2.2.2.2.1, y.2.1.2.2.2.2.2.2.2.2.2.2.1, y.2.1.2.2.2.2.2.2.2.2.2.2.2.1, y.2.1.2.2.2.2.2.2.2.2.2.2.2.2.1, y.2.2.1, ())) (fun _ => rfl)
noncomputable def h_frame_framer_ack_h0 : HCon := HCon.mkP 149 pa_frame_framer_ack_h0 pH_frame_framer_ack_h0 qa_frame_framer_ack_h0 qH_frame_framer_ack_h0 R_frame_framer_ack_h0 default (fun x => frame_framer_ack_h0 x.2.1) (fun r => ((), ((r.1, (r.2.1, (r.2.2.1, (r.2.2.2.1, (r.2.2.2.2.1, (r.2.2.2.2.2.1, (r.2.2.2.2.2.2.1, (r.2.2.2.2.2.2.2.1, (r.2.2.2.2.2.2.2.2.1, (r.2.2.2.2.2.2.2.2.2.1, (r.2.2.2.2.2.2.2.2.2.2.1, (r.2.2.2.2.2.2.2.2.2.2.2.1, (r.2.2.2.2.2.2.2.2.2.2.2.2.1, ((), ())))))))))))))), (r.2.2.2.2.2.2.2.2.2.2.2.2.2.1, ())))) (fun y => (y.2.1.1, y.2.1.2.1, y.2.1.2.2.1, y.2.1.2.2.2.1, y.2.1.2.2.2.2.1, y.2.1.2.2.2.2.2.1, y.2.1.2.2.2.2.2.2.1, y.2.1.2.2.2.2.2.2.2.1, y.2.1.2.2.2.2.2.2.2.2.1, y.2.1.2.2.2.2.2.2.2.2.2.1, y.2.1.2.2.2.2.2.2.2.2.2.2.1, y.2.1.2.2.2.2.2.2.2.2.2.2.2.1, y.2.1.2.2.2.2.2.2.2.2.2.2.2.2.1, y.2.2.1, ())) (fun _ => rfl)
theorem hb_frame_framer_ack_h0_ok : hb_frame_framer_ack_h0.Sound prog Inv gInv 125 :=
 hcon_run (M := m_frame_framer_ack_h0) (f := f125) rfl ks_frame_framer_ack_h0 100000 (X := x_frame_framer_ack_h0_0) (fun base S0 cs0 hn hf => have hfin : H_frame_framer_ack_h0 base S0 := ⟨hn, hf⟩; o_frame_framer_ack_h0_0 hfin) (by intro x; kernel_rfl)
theorem h_frame_framer_ack_h0_ok : h_frame_framer_ack_h0.Sound prog Inv gInv 125 := by
 have e : h_frame_framer_ack_h0 = hb_frame_framer_ack_h0 := by unfold h_frame_framer_ack_h0 hb_frame_framer_ack_h0; rw [frame_framer_ack_h0_eq]
 rw [e]; exact hb_frame_framer_ack_h0_ok
noncomputable def m_frame_reader_take_h0 : Mach prog Inv gInv := mach bas [(127, f127), (123, f123)] ⟨ok127, ok123, trivial⟩ [] trivial [] trivial [(123, h_frame_reader_need_h0), (123, h_frame_reader_need_h1)] ⟨⟨h_frame_reader_need_h0_ok, FnOk.callable ok123⟩, ⟨h_frame_reader_need_h1_ok, FnOk.callable ok123⟩, trivial⟩
@[reducible] noncomputable def pa_frame_reader_take_h0 : List Pat := [.ptr 0 0, .int .i64]
@[reducible] noncomputable def pH_frame_reader_take_h0 : List HPat := [.dat 154 T_frame_framer]
/-! ### (*domino/frame.reader).take -/
abbrev R_frame_reader_take_h0 : Type := ByteArray × D_frame_framer × Unit
@[reducible] noncomputable def qa_frame_reader_take_h0 : List Pat := [.str]
@[reducible] noncomputable def qH_frame_reader_take_h0 : List HPat := [.dat 154 T_frame_framer]
def ks_frame_reader_take_h0 : List Nat := [127, 123]
noncomputable def b_frame_reader_take_h0 (i0 : Int) (d1 : D_frame_framer) : Option (Option R_frame_reader_take_h0) :=
 let s2 : ByteArray := (ByteArray.mk (List.toArray ([] : List UInt8)))
 let n3 : Int := (((ByteArray.size d1.1.1) : Nat) : Int)
 let b4 : Bool := (decide (i0 ≤ n3))
 obindP (frame_reader_need_h0 b4 d1) (
  some none) fun y5 =>
 bif (decide (((0 : Int) ≤ (0 : Int)) ∧ (((0 : Int) ≤ i0) ∧ (i0 ≤ (((ByteArray.size y5.1.1.1) : Nat) : Int))))) then
  let s6 : ByteArray := (ByteArray.extract y5.1.1.1 0 (Int.toNat i0))
  bif (decide (((0 : Int) ≤ i0) ∧ ((i0 ≤ (((ByteArray.size y5.1.1.1) : Nat) : Int)) ∧ ((((ByteArray.size y5.1.1.1) : Nat) : Int) ≤ (((ByteArray.size y5.1.1.1) : Nat) : Int))))) then
   let s7 : ByteArray := (ByteArray.extract y5.1.1.1 (Int.toNat i0) (Int.toNat (((ByteArray.size y5.1.1.1) : Nat) : Int)))
   some (some (s6, (((s7, ()), y5.1.2), ())))
  else none
 else none
theorem ex_frame_reader_take_h0 : ∃ f, f = @b_frame_reader_take_h0 := ⟨_, rfl⟩
noncomputable def frame_reader_take_h0 := Classical.choose ex_frame_reader_take_h0
theorem frame_reader_take_h0_eq : @frame_reader_take_h0 = @b_frame_reader_take_h0 := Classical.choose_spec ex_frame_reader_take_h0
noncomputable def hb_frame_reader_take_h0 : HCon := HCon.mkP 149 pa_frame_reader_take_h0 pH_frame_reader_take_h0 qa_frame_reader_take_h0 qH_frame_reader_take_h0 R_frame_reader_take_h0 default (fun x => b_frame_reader_take_h0 x.1.2.1 x.2.1) (fun r => ((r.1, ()), (r.2.1, ()))) (fun y => (y.1.1, y.2.1, ())) (fun _ => rfl)
noncomputable def h_frame_reader_take_h0 : HCon := HCon.mkP 149 pa_frame_reader_take_h0 pH_frame_reader_take_h0 qa_frame_reader_take_h0 qH_frame_reader_take_h0 R_frame_reader_take_h0 default (fun x => frame_reader_take_h0 x.1.2.1 x.2.1) (fun r => ((r.1, ()), (r.2.1, ()))) (fun y => (y.1.1, y.2.1, ())) (fun _ => rfl)
theorem hb_frame_reader_take_h0_ok : hb_frame_reader_take_h0.Sound prog Inv gInv 127 :=
 hcon_run (M := m_frame_reader_take_h0) (f := f127) rfl ks_frame_reader_take_h0 100000 (X := nowhere) (fun base S0 cs0 hn hf => OSound.nowhere) (by intro x; kernel_rfl)
theorem h_frame_reader_take_h0_ok : h_frame_reader_take_h0.Sound prog Inv gInv 127 := by
 have e : h_frame_reader_take_h0 = hb_frame_reader_take_h0 := by unfold h_frame_reader_take_h0 hb_frame_reader_take_h0; rw [frame_reader_take_h0_eq]
 rw [e]; exact hb_frame_reader_take_h0_ok
noncomputable def m_frame_reader_into_h12 : Mach prog Inv gInv := mach bas [(122, f122), (123, f123), (149, f149)] ⟨ok122, ok123, ok149, trivial⟩ [(163, c_varint_Get)] ⟨⟨c_varint_Get_ok, FnOk.callable ok163⟩, trivial⟩ [] trivial [(123, h_frame_reader_need_h0), (149, h_frame_reader_number_h0), (123, h_frame_reader_need_h1), (149, h_frame_reader_number_h1)] ⟨⟨h_frame_reader_need_h0_ok, FnOk.callable ok123⟩, ⟨h_frame_reader_number_h0_ok, FnOk.callable ok149⟩, ⟨h_frame_reader_need_h1_ok, FnOk.callable ok123⟩, ⟨h_frame_reader_number_h1_ok, FnOk.callable ok149⟩, trivial⟩
@[reducible] noncomputable def pa_frame_reader_into_h12 : List Pat := [.ptr 0 0, .cs 1 0 1 1]
@[reducible] noncomputable def pH_frame_reader_into_h12 : List HPat := [.dat 154 T_frame_framer, .cells 195 [.ptr 0 2]]
/-! ### (*domino/frame.reader).into -/
abbrev R_frame_reader_into_h12 : Type := D_frame_framer × Unit
@[reducible] noncomputable def qa_frame_reader_into_h12 : List Pat := []
@[reducible] noncomputable def qH_frame_reader_into_h12 : List HPat := [.dat 154 T_frame_framer, .cells 195 [.ptr 0 2]]
def ks_frame_reader_into_h12 : List Nat := [122, 123, 149]
noncomputable def b_frame_reader_into_h12 (d0 : D_frame_framer) : Option (Option R_frame_reader_into_h12) :=
 obindP (frame_reader_number_h0 d0) (
  some none) fun y1 =>
 some (some ((y1.2.1.1, ((y1.2.1.2.1.1, (y1.1, y1.2.1.2.1.2.2)), ())), ()))
theorem ex_frame_reader_into_h12 : ∃ f, f = @b_frame_reader_into_h12 := ⟨_, rfl⟩
noncomputable def frame_reader_into_h12 := Classical.choose ex_frame_reader_into_h12
theorem frame_reader_into_h12_eq : @frame_reader_into_h12 = @b_frame_reader_into_h12 := Classical.choose_spec ex_frame_reader_into_h12
noncomputable def hb_frame_reader_into_h12 : HCon := HCon.mkP 149 pa_frame_reader_into_h12 pH_frame_reader_into_h12 qa_frame_reader_into_h12 qH_frame_reader_into_h12 R_frame_reader_into_h12 default (fun x => b_frame_reader_into_h12 x.2.1) (fun r => ((), (r.1, (((), ()), ())))) (fun y => (y.2.1, ())) (fun _ => rfl)
noncomputable def h_frame_reader_into_h12 : HCon := HCon.mkP 149 pa_frame_reader_into_h12 pH_frame_reader_into_h12 qa_frame_reader_into_h12 qH_frame_reader_into_h12 R_frame_reader_into_h12 default (fun x => frame_reader_into_h12 x.2.1) (fun r => ((), (r.1, (((), ()), ())))) (fun y => (y.2.1, ())) (fun _ => rfl)
theorem hb_frame_reader_into_h12_ok : hb_frame_reader_into_h12.Sound prog Inv gInv 122 :=
 hcon_run (M := m_frame_reader_into_h12) (f := f122) rfl ks_frame_reader_into_h12 100000 (X := nowhere) (fun base S0 cs0 hn hf => OSound.nowhere) (by intro x; kernel_rfl)
theorem h_frame_reader_into_h12_ok : h_frame_reader_into_h12.Sound prog Inv gInv 122 := by
 have e : h_frame_reader_into_h12 = hb_frame_reader_into_h12 := by unfold h_frame_reader_into_h12 hb_frame_reader_into_h12; rw [frame_reader_into_h12_eq]
 rw [e]; exact hb_frame_reader_into_h12_ok
noncomputable def m_frame_reader_long_h0 : Mach prog Inv gInv := mach bas [(126, f126), (123, f123), (127, f127), (149, f149)] ⟨ok126, ok123, ok127, ok149, trivial⟩ [(163, c_varint_Get)] ⟨⟨c_varint_Get_ok, FnOk.callable ok163⟩, trivial⟩ [] trivial [(123, h_frame_reader_need_h0), (149, h_frame_reader_number_h0), (123, h_frame_reader_need_h1), (149, h_frame_reader_number_h1), (127, h_frame_reader_take_h0)] ⟨⟨h_frame_reader_need_h0_ok, FnOk.callable ok123⟩, ⟨h_frame_reader_number_h0_ok, FnOk.callable ok149⟩, ⟨h_frame_reader_need_h1_ok, FnOk.callable ok123⟩, ⟨h_frame_reader_number_h1_ok, FnOk.callable ok149⟩, ⟨h_frame_reader_take_h0_ok, FnOk.callable ok127⟩, trivial⟩
@[reducible] noncomputable def pa_frame_reader_long_h0 : List Pat := [.ptr 0 0]
@[reducible] noncomputable def pH_frame_reader_long_h0 : List HPat := [.dat 154 T_frame_framer]
/-! ### (*domino/frame.reader).long -/
abbrev R_frame_reader_long_h0 : Type := ByteArray × D_frame_framer × Unit
@[reducible] noncomputable def qa_frame_reader_long_h0 : List Pat := [.str]
@[reducible] noncomputable def qH_frame_reader_long_h0 : List HPat := [.dat 154 T_frame_framer]
def ks_frame_reader_long_h0 : List Nat := [126, 123, 127, 149]
noncomputable def b_frame_reader_long_h0 (d0 : D_frame_framer) : Option (Option R_frame_reader_long_h0) :=
 let s1 : ByteArray := (ByteArray.mk (List.toArray ([] : List UInt8)))
 obindP (frame_reader_number_h0 d0) (
  some none) fun y2 =>
 let n3 : Int := (((ByteArray.size y2.2.1.1.1) : Nat) : Int)
 let n4 : Int := (Go.IntKind.wrap Go.IntKind.u64 n3)
 let b5 : Bool := (decide (y2.1 ≤ n4))
 obindP (frame_reader_need_h0 b5 y2.2.1) (
  some none) fun y6 =>
 let n7 : Int := (Go.IntKind.wrap Go.IntKind.i64 y2.1)
 obindP (frame_reader_take_h0 n7 y6.1) (
  some none) fun y8 =>
 some (some (y8.1, (y8.2.1, ())))
theorem ex_frame_reader_long_h0 : ∃ f, f = @b_frame_reader_long_h0 := ⟨_, rfl⟩
noncomputable def frame_reader_long_h0 := Classical.choose ex_frame_reader_long_h0
theorem frame_reader_long_h0_eq : @frame_reader_long_h0 = @b_frame_reader_long_h0 := Classical.choose_spec ex_frame_reader_long_h0
noncomputable def hb_frame_reader_long_h0 : HCon := HCon.mkP 149 pa_frame_reader_long_h0 pH_frame_reader_long_h0 qa_frame_reader_long_h0 qH_frame_reader_long_h0 R_frame_reader_long_h0 default (fun x => b_frame_reader_long_h0 x.2.1) (fun r => ((r.1, ()), (r.2.1, ()))) (fun y => (y.1.1, y.2.1, ())) (fun _ => rfl)
noncomputable def h_frame_reader_long_h0 : HCon := HCon.mkP 149 pa_frame_reader_long_h0 pH_frame_reader_long_h0 qa_frame_reader_long_h0 qH_frame_reader_long_h0 R_frame_reader_long_h0 default (fun x => frame_reader_long_h0 x.2.1) (fun r => ((r.1, ()), (r.2.1, ()))) (fun y => (y.1.1, y.2.1, ())) (fun _ => rfl)
theorem hb_frame_reader_long_h0_ok : hb_frame_reader_long_h0.Sound prog Inv gInv 126 :=
 hcon_run (M := m_frame_reader_long_h0) (f := f126) rfl ks_frame_reader_long_h0 100000 (X := nowhere) (fun base S0 cs0 hn hf => OSound.nowhere) (by intro x; kernel_rfl)
theorem h_frame_reader_long_h0_ok : h_frame_reader_long_h0.Sound prog Inv gInv 126 := by
 have e : h_frame_reader_long_h0 = hb_frame_reader_long_h0 := by unfold h_frame_reader_long_h0 hb_frame_reader_long_h0; rw [frame_reader_long_h0_eq]
 rw [e]; exact hb_frame_reader_long_h0_ok
noncomputable def m_frame_framer_stream_h0 : Mach prog Inv gInv := mach bas [(128, f128), (122, f122), (123, f123), (126, f126), (127, f127), (149, f149)] ⟨ok128, ok122, ok123, ok126, ok127, ok149, trivial⟩ [(163, c_varint_Get)] ⟨⟨c_varint_Get_ok, FnOk.callable ok163⟩, trivial⟩ [] trivial [(123, h_frame_reader_need_h0), (149, h_frame_reader_number_h0), (122, h_frame_reader_into_h0), (122, h_frame_reader_into_h1), (122, h_frame_reader_into_h2), (122, h_frame_reader_into_h3), (122, h_frame_reader_into_h4), (122, h_frame_reader_into_h5), (122, h_frame_reader_into_h6), (122, h_frame_reader_into_h7), (122, h_frame_reader_into_h8), (122, h_frame_reader_into_h9), (122, h_frame_reader_into_h10), (123, h_frame_reader_need_h1), (149, h_frame_reader_number_h1), (122, h_frame_reader_into_h11), (127, h_frame_reader_take_h0), (122, h_frame_reader_into_h12), (126, h_frame_reader_long_h0)] ⟨⟨h_frame_reader_need_h0_ok, FnOk.callable ok123⟩, ⟨h_frame_reader_number_h0_ok, FnOk.callable ok149⟩, ⟨h_frame_reader_into_h0_ok, FnOk.callable ok122⟩, ⟨h_frame_reader_into_h1_ok, FnOk.callable ok122⟩, ⟨h_frame_reader_into_h2_ok, FnOk.callable ok122⟩, ⟨h_frame_reader_into_h3_ok, FnOk.callable ok122⟩, ⟨h_frame_reader_into_h4_ok, FnOk.callable ok122⟩, ⟨h_frame_reader_into_h5_ok, FnOk.callable ok122⟩, ⟨h_frame_reader_into_h6_ok, FnOk.callable ok122⟩, ⟨h_frame_reader_into_h7_ok, FnOk.callable ok122⟩, ⟨h_frame_reader_into_h8_ok, FnOk.callable ok122⟩, ⟨h_frame_reader_into_h9_ok, FnOk.callable ok122⟩, ⟨h_frame_reader_into_h10_ok, FnOk.callable ok122⟩, ⟨h_frame_reader_need_h1_ok, FnOk.callable ok123⟩, ⟨h_frame_reader_number_h1_ok, FnOk.callable ok149⟩, ⟨h_frame_reader_into_h11_ok, FnOk.callable ok122⟩, ⟨h_frame_reader_take_h0_ok, FnOk.callable ok127⟩, ⟨h_frame_reader_into_h12_ok, FnOk.callable ok122⟩, ⟨h_frame_reader_long_h0_ok, FnOk.callable ok126⟩, trivial⟩
@[reducible] noncomputable def pa_frame_framer_stream_h0 : List Pat := [.ptr 0 0, .int .u64]
@[reducible] noncomputable def pH_frame_framer_stream_h0 : List HPat := [.dat 154 T_frame_framer]
/-! ### (*domino/frame.framer).stream -/
abbrev R_frame_framer_stream_h0 : Type := D_frame_framer × Unit
@[reducible] noncomputable def qa_frame_framer_stream_h0 : List Pat := []
@[reducible] noncomputable def qH_frame_framer_stream_h0 : List HPat := [.dat 154 T_frame_framer]
noncomputable def g_frame_framer_stream_h0 : HCon := HCon.mkP 149 pa_frame_framer_stream_h0 pH_frame_framer_stream_h0 qa_frame_framer_stream_h0 qH_frame_framer_stream_h0 R_frame_framer_stream_h0 default (fun _ => none) (fun r => ((), (r.1, ()))) (fun y => (y.2.1, ())) (fun _ => rfl)
def ks_frame_framer_stream_h0 : List Nat := [128, 122, 123, 126, 127, 149]
abbrev H_frame_framer_stream_h0 (base : Base) (S0 : Nat → Prop) := base.n = 1 ∧ FinOk (finH g_frame_framer_stream_h0) base S0 (HPost g_frame_framer_stream_h0 base S0)
abbrev J_frame_framer_stream_h0 (base : Base) (S0 : Nat → Prop) (cs0 : List Go.Frame) (p : CPat) (J : denC p → Option (Option R_frame_framer_stream_h0)) := JSound m_frame_framer_stream_h0 base S0 cs0 (HPost g_frame_framer_stream_h0 base S0) p J
abbrev O_frame_framer_stream_h0 (base : Base) (S0 : Nat → Prop) (cs0 : List Go.Frame) (X : Cfg → Option (Option (Option R_frame_framer_stream_h0))) := OSound m_frame_framer_stream_h0 base S0 cs0 (HPost g_frame_framer_stream_h0 base S0) X
@[reducible] noncomputable def p_frame_framer_stream_h0_0 : CPat := ⟨⟨128, [1, 1, 1], none, [.ptr 0 0, .int .u64], 59⟩, [], [.dat 154 T_frame_framer], 1⟩
@[reducible] noncomputable def u_frame_framer_stream_h0_0 (k : Int → D_frame_framer → Option (Option R_frame_framer_stream_h0)) : denC p_frame_framer_stream_h0_0 → Option (Option R_frame_framer_stream_h0) := fun x => k x.1.2.1 x.2.2.1
noncomputable def b_frame_framer_stream_h0_0 (i10 : Int) (d11 : D_frame_framer) : Option (Option R_frame_framer_stream_h0) :=
 let n12 : Int := (bits Go.BinOp.and Go.IntKind.u64 i10 (2 : Int))
 let b13 : Bool := (n12 != (0 : Int))
 bif b13 then
  obindP (frame_reader_long_h0 d11) (
   some none) fun y14 =>
  some (some ((y14.2.1.1, ((y14.2.1.2.1.1, (y14.2.1.2.1.2.1, (y14.2.1.2.1.2.2.1, (y14.2.1.2.1.2.2.2.1, (y14.2.1.2.1.2.2.2.2.1, (y14.2.1.2.1.2.2.2.2.2.1, (y14.2.1.2.1.2.2.2.2.2.2.1, (y14.2.1.2.1.2.2.2.2.2.2.2.1, (y14.2.1.2.1.2.2.2.2.2.2.2.2.1, (y14.1, y14.2.1.2.1.2.2.2.2.2.2.2.2.2.2)))))))))), ())), ()))
 else
  let n15 : Int := (((ByteArray.size d11.1.1) : Nat) : Int)
  obindP (frame_reader_take_h0 n15 d11) (
   some none) fun y16 =>
  some (some ((y16.2.1.1, ((y16.2.1.2.1.1, (y16.2.1.2.1.2.1, (y16.2.1.2.1.2.2.1, (y16.2.1.2.1.2.2.2.1, (y16.2.1.2.1.2.2.2.2.1, (y16.2.1.2.1.2.2.2.2.2.1, (y16.2.1.2.1.2.2.2.2.2.2.1, (y16.2.1.2.1.2.2.2.2.2.2.2.1, (y16.2.1.2.1.2.2.2.2.2.2.2.2.1, (y16.1, y16.2.1.2.1.2.2.2.2.2.2.2.2.2.2)))))))))), ())), ()))
theorem ex_frame_framer_stream_h0_0 : ∃ f, f = @b_frame_framer_stream_h0_0 := ⟨_, rfl⟩
noncomputable def frame_framer_stream_h0_0 := Classical.choose ex_frame_framer_stream_h0_0
theorem frame_framer_stream_h0_0_eq : @frame_framer_stream_h0_0 = @b_frame_framer_stream_h0_0 := Classical.choose_spec ex_frame_framer_stream_h0_0
theorem s_frame_framer_stream_h0_0 {base S0 cs0} (hfin : H_frame_framer_stream_h0 base S0) : J_frame_framer_stream_h0 base S0 cs0 p_frame_framer_stream_h0_0 (u_frame_framer_stream_h0_0 (frame_framer_stream_h0_0)) :=
 JSound.join hfin.2 (OSound.nowhere) ks_frame_framer_stream_h0 100000 (by rw [frame_framer_stream_h0_0_eq]; intro x; kernel_rfl)
noncomputable def x_frame_framer_stream_h0_0 : Cfg → Option (Option (Option R_frame_framer_stream_h0)) := cut p_frame_framer_stream_h0_0 (u_frame_framer_stream_h0_0 (frame_framer_stream_h0_0)) (nowhere)
theorem o_frame_framer_stream_h0_0 {base S0 cs0} (hfin : H_frame_framer_stream_h0 base S0) : O_frame_framer_stream_h0 base S0 cs0 (x_frame_framer_stream_h0_0) := OSound.cut (OSound.nowhere) (Nat.le_of_eq hfin.1) (s_frame_framer_stream_h0_0 hfin)
noncomputable def b_frame_framer_stream_h0 (i0 : Int) (d1 : D_frame_framer) : Option (Option R_frame_framer_stream_h0) :=
 let n2 : Int := (bits Go.BinOp.and Go.IntKind.u64 i0 (1 : Int))
 let b3 : Bool := (n2 != (0 : Int))
 obindP (frame_reader_into_h12 (d1.1, (((8 : Int), (d1.2.1.2.1, (d1.2.1.2.2.1, (d1.2.1.2.2.2.1, (d1.2.1.2.2.2.2.1, (d1.2.1.2.2.2.2.2.1, (d1.2.1.2.2.2.2.2.2.1, (d1.2.1.2.2.2.2.2.2.2.1, (b3, d1.2.1.2.2.2.2.2.2.2.2.2))))))))), ()))) (
  some none) fun y4 =>
 let n5 : Int := (bits Go.BinOp.and Go.IntKind.u64 i0 (4 : Int))
 let b6 : Bool := (n5 != (0 : Int))
 bif b6 then
  obindP (frame_reader_into_h1 y4.1) (
   some none) fun y7 =>
  frame_framer_stream_h0_0 i0 y7.1
 else
  frame_framer_stream_h0_0 i0 y4.1
theorem ex_frame_framer_stream_h0 : ∃ f, f = @b_frame_framer_stream_h0 := ⟨_, rfl⟩
noncomputable def frame_framer_stream_h0 := Classical.choose ex_frame_framer_stream_h0
theorem frame_framer_stream_h0_eq : @frame_framer_stream_h0 = @b_frame_framer_stream_h0 := Classical.choose_spec ex_frame_framer_stream_h0
noncomputable def hb_frame_framer_stream_h0 : HCon := HCon.mkP 149 pa_frame_framer_stream_h0 pH_frame_framer_stream_h0 qa_frame_framer_stream_h0 qH_frame_framer_stream_h0 R_frame_framer_stream_h0 default (fun x => b_frame_framer_stream_h0 x.1.2.1 x.2.1) (fun r => ((), (r.1, ()))) (fun y => (y.2.1, ())) (fun _ => rfl)
noncomputable def h_frame_framer_stream_h0 : HCon := HCon.mkP 149 pa_frame_framer_stream_h0 pH_frame_framer_stream_h0 qa_frame_framer_stream_h0 qH_frame_framer_stream_h0 R_frame_framer_stream_h0 default (fun x => frame_framer_stream_h0 x.1.2.1 x.2.1) (fun r => ((), (r.1, ()))) (fun y => (y.2.1, ())) (fun _ => rfl)
theorem hb_frame_framer_stream_h0_ok : hb_frame_framer_stream_h0.Sound prog Inv gInv 128 :=
 hcon_run (M := m_frame_framer_stream_h0) (f := f128) rfl ks_frame_framer_stream_h0 100000 (X := x_frame_framer_stream_h0_0) (fun base S0 cs0 hn hf => have hfin : H_frame_framer_stream_h0 base S0 := ⟨hn, hf⟩; o_frame_framer_stream_h0_0 hfin) (by intro x; kernel_rfl)
theorem h_frame_framer_stream_h0_ok : h_frame_framer_stream_h0.Sound prog Inv gInv 128 := by
 have e : h_frame_framer_stream_h0 = hb_frame_framer_stream_h0 := by unfold h_frame_framer_stream_h0 hb_frame_framer_stream_h0; rw [frame_framer_stream_h0_eq]
 rw [e]; exact hb_frame_framer_stream_h0_ok
noncomputable def m_frame_framer_read_h0 : Mach prog Inv gInv := mach bas [(88, f88), (117, f117), (122, f122), (123, f123), (125, f125), (126, f126), (127, f127), (128, f128), (149, f149)] ⟨ok88, ok117, ok122, ok123, ok125, ok126, ok127, ok128, ok149, trivial⟩ [(34, c_frame_May), (124, c_varint_Size), (163, c_varint_Get)] ⟨⟨c_frame_May_ok, FnOk.callable ok34⟩, ⟨c_varint_Size_ok, FnOk.callable ok124⟩, ⟨c_varint_Get_ok, FnOk.callable ok163⟩, trivial⟩ [] trivial [(123, h_frame_reader_need_h0), (149, h_frame_reader_number_h0), (122, h_frame_reader_into_h0), (122, h_frame_reader_into_h1), (122, h_frame_reader_into_h2), (122, h_frame_reader_into_h3), (122, h_frame_reader_into_h4), (122, h_frame_reader_into_h5), (122, h_frame_reader_into_h6), (122, h_frame_reader_into_h7), (122, h_frame_reader_into_h8), (122, h_frame_reader_into_h9), (122, h_frame_reader_into_h10), (123, h_frame_reader_need_h1), (149, h_frame_reader_number_h1), (122, h_frame_reader_into_h11), (125, h_frame_framer_ack_h0), (127, h_frame_reader_take_h0), (122, h_frame_reader_into_h12), (126, h_frame_reader_long_h0), (128, h_frame_framer_stream_h0)] ⟨⟨h_frame_reader_need_h0_ok, FnOk.callable ok123⟩, ⟨h_frame_reader_number_h0_ok, FnOk.callable ok149⟩, ⟨h_frame_reader_into_h0_ok, FnOk.callable ok122⟩, ⟨h_frame_reader_into_h1_ok, FnOk.callable ok122⟩, ⟨h_frame_reader_into_h2_ok, FnOk.callable ok122⟩, ⟨h_frame_reader_into_h3_ok, FnOk.callable ok122⟩, ⟨h_frame_reader_into_h4_ok, FnOk.callable ok122⟩, ⟨h_frame_reader_into_h5_ok, FnOk.callable ok122⟩, ⟨h_frame_reader_into_h6_ok, FnOk.callable ok122⟩, ⟨h_frame_reader_into_h7_ok, FnOk.callable ok122⟩, ⟨h_frame_reader_into_h8_ok, FnOk.callable ok122⟩, ⟨h_frame_reader_into_h9_ok, FnOk.callable ok122⟩, ⟨h_frame_reader_into_h10_ok, FnOk.callable ok122⟩, ⟨h_frame_reader_need_h1_ok, FnOk.callable ok123⟩, ⟨h_frame_reader_number_h1_ok, FnOk.callable ok149⟩, ⟨h_frame_reader_into_h11_ok, FnOk.callable ok122⟩, ⟨h_frame_framer_ack_h0_ok, FnOk.callable ok125⟩, ⟨h_frame_reader_take_h0_ok, FnOk.callable ok127⟩, ⟨h_frame_reader_into_h12_ok, FnOk.callable ok122⟩, ⟨h_frame_reader_long_h0_ok, FnOk.callable ok126⟩, ⟨h_frame_framer_stream_h0_ok, FnOk.callable ok128⟩, trivial⟩
@[reducible] noncomputable def pa_frame_framer_read_h0 : List Pat := [.ptr 0 0]
@[reducible] noncomputable def pH_frame_framer_read_h0 : List HPat := [.dat 154 T_frame_framer]
/-! ### (*domino/frame.framer).read -/
abbrev R_frame_framer_read_h0 : Type := D_frame_framer × Unit
@[reducible] noncomputable def qa_frame_framer_read_h0 : List Pat := []
@[reducible] noncomputable def qH_frame_framer_read_h0 : List HPat := [.dat 154 T_frame_framer]
noncomputable def g_frame_framer_read_h0 : HCon := HCon.mkP 149 pa_frame_framer_read_h0 pH_frame_framer_read_h0 qa_frame_framer_read_h0 qH_frame_framer_read_h0 R_frame_framer_read_h0 default (fun _ => none) (fun r => ((), (r.1, ()))) (fun y => (y.2.1, ())) (fun _ => rfl)
def ks_frame_framer_read_h0 : List Nat := [88, 117, 122, 123, 125, 126, 127, 128, 149]
abbrev H_frame_framer_read_h0 (base : Base) (S0 : Nat → Prop) := base.n = 1 ∧ FinOk (finH g_frame_framer_read_h0) base S0 (HPost g_frame_framer_read_h0 base S0)
abbrev J_frame_framer_read_h0 (base : Base) (S0 : Nat → Prop) (cs0 : List Go.Frame) (p : CPat) (J : denC p → Option (Option R_frame_framer_read_h0)) := JSound m_frame_framer_read_h0 base S0 cs0 (HPost g_frame_framer_read_h0 base S0) p J
abbrev O_frame_framer_read_h0 (base : Base) (S0 : Nat → Prop) (cs0 : List Go.Frame) (X : Cfg → Option (Option (Option R_frame_framer_read_h0))) := OSound m_frame_framer_read_h0 base S0 cs0 (HPost g_frame_framer_read_h0 base S0) X
@[reducible] noncomputable def p_frame_framer_read_h0_4 : CPat := ⟨⟨88, [1, 1, 1, 1], none, [.ptr 0 0], 273⟩, [], [.cells 154 [.str, .int .u64, .int .u64, .int .u64, .int .u64, .int .u64, .int .u64, .int .u64, .int .u64, .bool, .str, .str, .str, .rows T_ranges_Range false]], 1⟩
@[reducible] noncomputable def u_frame_framer_read_h0_4 (k : ByteArray → Int → Int → Int → Int → Int → Int → Int → Int → Bool → ByteArray → ByteArray → ByteArray → (List D_ranges_Range) → Option (Option R_frame_framer_read_h0)) : denC p_frame_framer_read_h0_4 → Option (Option R_frame_framer_read_h0) := fun x => k x.2.2.1.1 x.2.2.1.2.1 x.2.2.1.2.2.1 x.2.2.1.2.2.2.1 x.2.2.1.2.2.2.2.1 x.2.2.1.2.2.2.2.2.1 x.2.2.1.2.2.2.2.2.2.1 x.2.2.1.2.2.2.2.2.2.2.1 x.2.2.1.2.2.2.2.2.2.2.2.1 x.2.2.1.2.2.2.2.2.2.2.2.2.1 x.2.2.1.2.2.2.2.2.2.2.2.2.2.1 x.2.2.1.2.2.2.2.2.2.2.2.2.2.2.1 x.2.2.1.2.2.2.2.2.2.2.2.2.2.2.2.1 x.2.2.1.2.2.2.2.2.2.2.2.2.2.2.2.2.1
noncomputable def b_frame_framer_read_h0_4 (s69 : ByteArray) (i70 : Int) (i71 : Int) (i72 : Int) (i73 : Int) (i74 : Int) (i75 : Int) (i76 : Int) (i77 : Int) (b78 : Bool) (s79 : ByteArray) (s80 : ByteArray) (s81 : ByteArray) (l82 : (List D_ranges_Range)) : Option (Option R_frame_framer_read_h0) :=
 obind (frame_May (i70, (i71, (i72, (i73, (i74, (i75, (i76, (i77, (b78, (s79, (s80, (s81, (l82, ())))))))))))))) fun y83 =>
 obindP (frame_reader_need_h0 y83.1 ((s69, ()), ((i70, (i71, (i72, (i73, (i74, (i75, (i76, (i77, (b78, (s79, (s80, (s81, (l82, ()))))))))))))), ()))) (
  some none) fun y84 =>
 some (some (y84.1, ()))
theorem ex_frame_framer_read_h0_4 : ∃ f, f = @b_frame_framer_read_h0_4 := ⟨_, rfl⟩
noncomputable def frame_framer_read_h0_4 := Classical.choose ex_frame_framer_read_h0_4
theorem frame_framer_read_h0_4_eq : @frame_framer_read_h0_4 = @b_frame_framer_read_h0_4 := Classical.choose_spec ex_frame_framer_read_h0_4
theorem s_frame_framer_read_h0_4 {base S0 cs0} (hfin : H_frame_framer_read_h0 base S0) : J_frame_framer_read_h0 base S0 cs0 p_frame_framer_read_h0_4 (u_frame_framer_read_h0_4 (frame_framer_read_h0_4)) :=
 JSound.join hfin.2 (OSound.nowhere) ks_frame_framer_read_h0 100000 (by rw [frame_framer_read_h0_4_eq]; intro x; kernel_rfl)
noncomputable def x_frame_framer_read_h0_4 : Cfg → Option (Option (Option R_frame_framer_read_h0)) := cut p_frame_framer_read_h0_4 (u_frame_framer_read_h0_4 (frame_framer_read_h0_4)) (nowhere)
theorem o_frame_framer_read_h0_4 {base S0 cs0} (hfin : H_frame_framer_read_h0 base S0) : O_frame_framer_read_h0 base S0 cs0 (x_frame_framer_read_h0_4) := OSound.cut (OSound.nowhere) (Nat.le_of_eq hfin.1) (s_frame_framer_read_h0_4 hfin)
@[reducible] noncomputable def p_frame_framer_read_h0_3 : CPat := ⟨⟨88, [1, 1, 1, 0, 1, 0, 1, 1, 1, 1, 1, 1, 1, 1, 1, 1, 1, 1, 1, 1, 1, 1, 1, 1, 1], none, [.ptr 0 0, .any, .any, .any, .any, .any, .any, .any, .any, .any, .any, .any, .any, .any, .any, .any, .any, .any, .any, .any, .any, .any, .any, .any, .any, .any, .any, .any, .any, .any, .any, .any, .any, .any, .any, .any, .any, .any, .any, .any, .any, .int .u64, .any, .any, .any, .any, .any, .any, .any, .any, .any, .any, .any, .any, .any, .any, .any, .any, .any, .any, .any, .any, .any, .any, .any, .any, .any, .any, .any, .any, .any, .any, .any, .any, .any, .any, .any, .any, .any, .any, .any, .any, .any, .any, .any, .any, .any, .any, .any, .any, .any, .any, .any, .any, .any, .any, .any, .any, .any, .any, .any, .any, .any, .any, .any, .any, .any, .any, .any, .any, .any, .any, .any, .any, .any, .any, .any, .any, .any, .any, .any, .any, .any, .any, .any, .any, .any, .any, .any, .any, .any, .any, .any, .any, .any, .any, .any, .any, .any, .any, .any, .any, .any, .any, .any, .any, .any, .any, .any, .any, .any, .any, .any, .any, .any, .any, .any, .any, .any, .any, .any, .any, .any, .any, .any, .any, .any, .any, .any, .any, .any, .any, .any, .any, .any, .any, .any, .any, .any, .any, .any, .any, .any, .any, .any, .any, .any, .any, .any, .any, .any, .any, .any, .any, .any, .any, .any, .any, .any, .any, .any, .any, .any, .any, .any, .any, .any, .any, .any, .any, .any, .any, .bool], 61⟩, [], [.dat 154 T_frame_framer], 1⟩
@[reducible] noncomputable def u_frame_framer_read_h0_3 (k : Int → Bool → D_frame_framer → Option (Option R_frame_framer_read_h0)) : denC p_frame_framer_read_h0_3 → Option (Option R_frame_framer_read_h0) := fun x => k x.1.2.2.2.2.2.2.2.2.2.2.2.2.2.2.2.2.2.2.2.2.2.2.2.2.2.2.2.2.2.2.2.2.2.2.2.2.2.2.2.2.2.1 x.1.2.2.2.2.2.2.2.2.2.2.2.2.2.2.2.2.2.2.2.2.2.2.2.2.2.2.2.2.2.2.2.2.2.2.2.2.2.2.2.2.2.2.2.2.2.2.2.2.2.2.2.2.2.2.2.2.2.2.2.2.2.2.2.2.2.2.2.2.2.2.2.2.2.2.2.2.2.2.2.2.2.2.2.2.2.2.2.2.2.2.2.2.2.2.2.2.2.2.2.2.2.2.2.2.2.2.2.2.2.2.2.2.2.2.2.2.2.2.2.2.2.2.2.2.2.2.2.2.2.2.2.2.2.2.2.2.2.2.2.2.2.2.2.2.2.2.2.2.2.2.2.2.2.2.2.2.2.2.2.2.2.2.2.2.2.2.2.2.2.2.2.2.2.2.2.2.2.2.2.2.2.2.2.2.2.2.2.2.2.2.2.2.2.2.2.2.2.2.2.2.2.2.2.2.2.2.2.2.2.2.2.2.1 x.2.2.1
noncomputable def b_frame_framer_read_h0_3 (i51 : Int) (b52 : Bool) (d53 : D_frame_framer) : Option (Option R_frame_framer_read_h0) :=
 bif b52 then
  obindP (frame_reader_take_h0 (8 : Int) d53) (
   some none) fun y54 =>
  frame_framer_read_h0_4 y54.2.1.1.1 y54.2.1.2.1.1 y54.2.1.2.1.2.1 y54.2.1.2.1.2.2.1 y54.2.1.2.1.2.2.2.1 y54.2.1.2.1.2.2.2.2.1 y54.2.1.2.1.2.2.2.2.2.1 y54.2.1.2.1.2.2.2.2.2.2.1 y54.2.1.2.1.2.2.2.2.2.2.2.1 y54.2.1.2.1.2.2.2.2.2.2.2.2.1 y54.2.1.2.1.2.2.2.2.2.2.2.2.2.1 y54.2.1.2.1.2.2.2.2.2.2.2.2.2.2.1 y54.1 y54.2.1.2.1.2.2.2.2.2.2.2.2.2.2.2.2.1
 else
  let b55 : Bool := (i51 == (28 : Int))
  bif b55 then
   obindP (frame_reader_into_h7 d53) (
    some none) fun y56 =>
   obindP (frame_reader_long_h0 y56.1) (
    some none) fun y57 =>
   frame_framer_read_h0_4 y57.2.1.1.1 y57.2.1.2.1.1 y57.2.1.2.1.2.1 y57.2.1.2.1.2.2.1 y57.2.1.2.1.2.2.2.1 y57.2.1.2.1.2.2.2.2.1 y57.2.1.2.1.2.2.2.2.2.1 y57.2.1.2.1.2.2.2.2.2.2.1 y57.2.1.2.1.2.2.2.2.2.2.2.1 y57.2.1.2.1.2.2.2.2.2.2.2.2.1 y57.1 y57.2.1.2.1.2.2.2.2.2.2.2.2.2.2.1 y57.2.1.2.1.2.2.2.2.2.2.2.2.2.2.2.1 y57.2.1.2.1.2.2.2.2.2.2.2.2.2.2.2.2.1
  else
   let b58 : Bool := (i51 == (29 : Int))
   bif b58 then
    obindP (frame_reader_into_h3 d53) (
     some none) fun y59 =>
    obindP (frame_reader_long_h0 y59.1) (
     some none) fun y60 =>
    frame_framer_read_h0_4 y60.2.1.1.1 y60.2.1.2.1.1 y60.2.1.2.1.2.1 y60.2.1.2.1.2.2.1 y60.2.1.2.1.2.2.2.1 y60.2.1.2.1.2.2.2.2.1 y60.2.1.2.1.2.2.2.2.2.1 y60.2.1.2.1.2.2.2.2.2.2.1 y60.2.1.2.1.2.2.2.2.2.2.2.1 y60.2.1.2.1.2.2.2.2.2.2.2.2.1 y60.1 y60.2.1.2.1.2.2.2.2.2.2.2.2.2.2.1 y60.2.1.2.1.2.2.2.2.2.2.2.2.2.2.2.1 y60.2.1.2.1.2.2.2.2.2.2.2.2.2.2.2.2.1
   else
    let b61 : Bool := (decide (d53.2.1.1 ≥ (8 : Int)))
    bif b61 then
     let b62 : Bool := (decide (d53.2.1.1 < (16 : Int)))
     obindP (frame_reader_need_h0 b62 d53) (
      some none) fun y63 =>
     obindP (frame_framer_stream_h0 y63.1.2.1.1 y63.1) (
      some none) fun y64 =>
     frame_framer_read_h0_4 y64.1.1.1 y64.1.2.1.1 y64.1.2.1.2.1 y64.1.2.1.2.2.1 y64.1.2.1.2.2.2.1 y64.1.2.1.2.2.2.2.1 y64.1.2.1.2.2.2.2.2.1 y64.1.2.1.2.2.2.2.2.2.1 y64.1.2.1.2.2.2.2.2.2.2.1 y64.1.2.1.2.2.2.2.2.2.2.2.1 y64.1.2.1.2.2.2.2.2.2.2.2.2.1 y64.1.2.1.2.2.2.2.2.2.2.2.2.2.1 y64.1.2.1.2.2.2.2.2.2.2.2.2.2.2.1 y64.1.2.1.2.2.2.2.2.2.2.2.2.2.2.2.1
    else
     obindP (frame_reader_need_h0 false d53) (
      some none) fun y65 =>
     obindP (frame_framer_stream_h0 y65.1.2.1.1 y65.1) (
      some none) fun y66 =>
     frame_framer_read_h0_4 y66.1.1.1 y66.1.2.1.1 y66.1.2.1.2.1 y66.1.2.1.2.2.1 y66.1.2.1.2.2.2.1 y66.1.2.1.2.2.2.2.1 y66.1.2.1.2.2.2.2.2.1 y66.1.2.1.2.2.2.2.2.2.1 y66.1.2.1.2.2.2.2.2.2.2.1 y66.1.2.1.2.2.2.2.2.2.2.2.1 y66.1.2.1.2.2.2.2.2.2.2.2.2.1 y66.1.2.1.2.2.2.2.2.2.2.2.2.2.1 y66.1.2.1.2.2.2.2.2.2.2.2.2.2.2.1 y66.1.2.1.2.2.2.2.2.2.2.2.2.2.2.2.1
theorem ex_frame_framer_read_h0_3 : ∃ f, f = @b_frame_framer_read_h0_3 := ⟨_, rfl⟩
noncomputable def frame_framer_read_h0_3 := Classical.choose ex_frame_framer_read_h0_3
theorem frame_framer_read_h0_3_eq : @frame_framer_read_h0_3 = @b_frame_framer_read_h0_3 := Classical.choose_spec ex_frame_framer_read_h0_3
theorem s_frame_framer_read_h0_3 {base S0 cs0} (hfin : H_frame_framer_read_h0 base S0) : J_frame_framer_read_h0 base S0 cs0 p_frame_framer_read_h0_3 (u_frame_framer_read_h0_3 (frame_framer_read_h0_3)) :=
 JSound.join hfin.2 (o_frame_framer_read_h0_4 hfin) ks_frame_framer_read_h0 100000 (by rw [frame_framer_read_h0_3_eq]; intro x; kernel_rfl)
noncomputable def x_frame_framer_read_h0_3 : Cfg → Option (Option (Option R_frame_framer_read_h0)) := cut p_frame_framer_read_h0_3 (u_frame_framer_read_h0_3 (frame_framer_read_h0_3)) (x_frame_framer_read_h0_4)
theorem o_frame_framer_read_h0_3 {base S0 cs0} (hfin : H_frame_framer_read_h0 base S0) : O_frame_framer_read_h0 base S0 cs0 (x_frame_framer_read_h0_3) := OSound.cut (o_frame_framer_read_h0_4 hfin) (Nat.le_of_eq hfin.1) (s_frame_framer_read_h0_3 hfin)
@[reducible] noncomputable def p_frame_framer_read_h0_2 : CPat := ⟨⟨88, [1, 1, 1, 0, 1, 0, 1, 1, 1, 1, 1, 1, 1, 1, 1, 1, 1, 1, 1], none, [.ptr 0 0, .any, .any, .any, .any, .any, .any, .any, .any, .any, .any, .any, .any, .any, .any, .any, .any, .any, .any, .any, .any, .any, .any, .any, .any, .any, .any, .any, .any, .any, .any, .any, .any, .any, .any, .any, .any, .any, .any, .any, .any, .int .u64, .any, .any, .any, .any, .any, .any, .any, .any, .any, .any, .any, .any, .any, .any, .any, .any, .any, .any, .any, .any, .any, .any, .any, .any, .any, .any, .any, .any, .any, .any, .any, .any, .any, .any, .any, .any, .any, .any, .any, .any, .any, .any, .any, .any, .any, .any, .any, .any, .any, .any, .any, .any, .any, .any, .any, .any, .any, .any, .any, .any, .any, .any, .any, .any, .any, .any, .any, .any, .any, .any, .any, .any, .any, .any, .any, .any, .any, .any, .any, .any, .any, .any, .any, .any, .any, .any, .any, .any, .any, .any, .any, .any, .any, .any, .any, .any, .any, .any, .any, .any, .any, .any, .bool], 129⟩, [], [.dat 154 T_frame_framer], 1⟩
@[reducible] noncomputable def u_frame_framer_read_h0_2 (k : Int → Bool → D_frame_framer → Option (Option R_frame_framer_read_h0)) : denC p_frame_framer_read_h0_2 → Option (Option R_frame_framer_read_h0) := fun x => k x.1.2.2.2.2.2.2.2.2.2.2.2.2.2.2.2.2.2.2.2.2.2.2.2.2.2.2.2.2.2.2.2.2.2.2.2.2.2.2.2.2.2.1 x.1.2.2.2.2.2.2.2.2.2.2.2.2.2.2.2.2.2.2.2.2.2.2.2.2.2.2.2.2.2.2.2.2.2.2.2.2.2.2.2.2.2.2.2.2.2.2.2.2.2.2.2.2.2.2.2.2.2.2.2.2.2.2.2.2.2.2.2.2.2.2.2.2.2.2.2.2.2.2.2.2.2.2.2.2.2.2.2.2.2.2.2.2.2.2.2.2.2.2.2.2.2.2.2.2.2.2.2.2.2.2.2.2.2.2.2.2.2.2.2.2.2.2.2.2.2.2.2.2.2.2.2.2.2.2.2.2.2.2.2.2.2.2.2.2.1 x.2.2.1
noncomputable def b_frame_framer_read_h0_2 (i35 : Int) (b36 : Bool) (d37 : D_frame_framer) : Option (Option R_frame_framer_read_h0) :=
 bif b36 then
  obindP (frame_reader_into_h5 d37) (
   some none) fun y38 =>
  frame_framer_read_h0_4 y38.1.1.1 y38.1.2.1.1 y38.1.2.1.2.1 y38.1.2.1.2.2.1 y38.1.2.1.2.2.2.1 y38.1.2.1.2.2.2.2.1 y38.1.2.1.2.2.2.2.2.1 y38.1.2.1.2.2.2.2.2.2.1 y38.1.2.1.2.2.2.2.2.2.2.1 y38.1.2.1.2.2.2.2.2.2.2.2.1 y38.1.2.1.2.2.2.2.2.2.2.2.2.1 y38.1.2.1.2.2.2.2.2.2.2.2.2.2.1 y38.1.2.1.2.2.2.2.2.2.2.2.2.2.2.1 y38.1.2.1.2.2.2.2.2.2.2.2.2.2.2.2.1
 else
  let b39 : Bool := (i35 == (24 : Int))
  bif b39 then
   obindP (frame_reader_into_h8 d37) (
    some none) fun y40 =>
   obindP (frame_reader_take_h0 (1 : Int) y40.1) (
    some none) fun y41 =>
   bif (decide (((0 : Int) ≤ (0 : Int)) ∧ ((0 : Int) < (((ByteArray.size y41.1) : Nat) : Int)))) then
    let n42 : Int := (byteAt y41.1 (0 : Int))
    let b43 : Bool := (n42 == (8 : Int))
    obindP (frame_reader_need_h0 b43 y41.2.1) (
     some none) fun y44 =>
    obindP (frame_reader_take_h0 (8 : Int) y44.1) (
     some none) fun y45 =>
    obindP (frame_reader_take_h0 (16 : Int) y45.2.1) (
     some none) fun y46 =>
    frame_framer_read_h0_4 y46.2.1.1.1 y46.2.1.2.1.1 y46.2.1.2.1.2.1 y46.2.1.2.1.2.2.1 y46.2.1.2.1.2.2.2.1 y46.2.1.2.1.2.2.2.2.1 y46.2.1.2.1.2.2.2.2.2.1 y46.2.1.2.1.2.2.2.2.2.2.1 y46.2.1.2.1.2.2.2.2.2.2.2.1 y46.2.1.2.1.2.2.2.2.2.2.2.2.1 y46.2.1.2.1.2.2.2.2.2.2.2.2.2.1 y45.1 y46.1 y46.2.1.2.1.2.2.2.2.2.2.2.2.2.2.2.2.1
   else none
  else
   let b47 : Bool := (i35 == (25 : Int))
   bif b47 then
    obindP (frame_reader_into_h4 d37) (
     some none) fun y48 =>
    frame_framer_read_h0_4 y48.1.1.1 y48.1.2.1.1 y48.1.2.1.2.1 y48.1.2.1.2.2.1 y48.1.2.1.2.2.2.1 y48.1.2.1.2.2.2.2.1 y48.1.2.1.2.2.2.2.2.1 y48.1.2.1.2.2.2.2.2.2.1 y48.1.2.1.2.2.2.2.2.2.2.1 y48.1.2.1.2.2.2.2.2.2.2.2.1 y48.1.2.1.2.2.2.2.2.2.2.2.2.1 y48.1.2.1.2.2.2.2.2.2.2.2.2.2.1 y48.1.2.1.2.2.2.2.2.2.2.2.2.2.2.1 y48.1.2.1.2.2.2.2.2.2.2.2.2.2.2.2.1
   else
    let b49 : Bool := (i35 == (26 : Int))
    bif b49 then
     frame_framer_read_h0_3 i35 true d37
    else
     let b50 : Bool := (i35 == (27 : Int))
     frame_framer_read_h0_3 i35 b50 d37
theorem ex_frame_framer_read_h0_2 : ∃ f, f = @b_frame_framer_read_h0_2 := ⟨_, rfl⟩
noncomputable def frame_framer_read_h0_2 := Classical.choose ex_frame_framer_read_h0_2
theorem frame_framer_read_h0_2_eq : @frame_framer_read_h0_2 = @b_frame_framer_read_h0_2 := Classical.choose_spec ex_frame_framer_read_h0_2
theorem s_frame_framer_read_h0_2 {base S0 cs0} (hfin : H_frame_framer_read_h0 base S0) : J_frame_framer_read_h0 base S0 cs0 p_frame_framer_read_h0_2 (u_frame_framer_read_h0_2 (frame_framer_read_h0_2)) :=
 JSound.join hfin.2 (o_frame_framer_read_h0_3 hfin) ks_frame_framer_read_h0 100000 (by rw [frame_framer_read_h0_2_eq]; intro x; kernel_rfl)
noncomputable def x_frame_framer_read_h0_2 : Cfg → Option (Option (Option R_frame_framer_read_h0)) := cut p_frame_framer_read_h0_2 (u_frame_framer_read_h0_2 (frame_framer_read_h0_2)) (x_frame_framer_read_h0_3)
theorem o_frame_framer_read_h0_2 {base S0 cs0} (hfin : H_frame_framer_read_h0 base S0) : O_frame_framer_read_h0 base S0 cs0 (x_frame_framer_read_h0_2) := OSound.cut (o_frame_framer_read_h0_3 hfin) (Nat.le_of_eq hfin.1) (s_frame_framer_read_h0_2 hfin)
@[reducible] noncomputable def p_frame_framer_read_h0_1 : CPat := ⟨⟨88, [1, 1, 1, 0, 1, 0, 1, 1, 1, 1, 1, 1, 1, 1, 1, 1, 1], none, [.ptr 0 0, .any, .any, .any, .any, .any, .any, .any, .any, .any, .any, .any, .any, .any, .any, .any, .any, .any, .any, .any, .any, .any, .any, .any, .any, .any, .any, .any, .any, .any, .any, .any, .any, .any, .any, .any, .any, .any, .any, .any, .any, .int .u64, .any, .any, .any, .any, .any, .any, .any, .any, .any, .any, .any, .any, .any, .any, .any, .any, .any, .any, .any, .any, .any, .any, .any, .any, .any, .any, .any, .any, .any, .any, .any, .any, .any, .any, .any, .any, .any, .any, .any, .any, .any, .any, .any, .any, .any, .any, .any, .any, .any, .any, .any, .any, .any, .any, .any, .any, .any, .any, .any, .any, .any, .any, .any, .any, .any, .any, .any, .any, .any, .any, .any, .any, .any, .any, .any, .any, .any, .any, .any, .any, .any, .any, .any, .any, .any, .any, .bool], 145⟩, [], [.dat 154 T_frame_framer], 1⟩
@[reducible] noncomputable def u_frame_framer_read_h0_1 (k : Int → Bool → D_frame_framer → Option (Option R_frame_framer_read_h0)) : denC p_frame_framer_read_h0_1 → Option (Option R_frame_framer_read_h0) := fun x => k x.1.2.2.2.2.2.2.2.2.2.2.2.2.2.2.2.2.2.2.2.2.2.2.2.2.2.2.2.2.2.2.2.2.2.2.2.2.2.2.2.2.2.1 x.1.2.2.2.2.2.2.2.2.2.2.2.2.2.2.2.2.2.2.2.2.2.2.2.2.2.2.2.2.2.2.2.2.2.2.2.2.2.2.2.2.2.2.2.2.2.2.2.2.2.2.2.2.2.2.2.2.2.2.2.2.2.2.2.2.2.2.2.2.2.2.2.2.2.2.2.2.2.2.2.2.2.2.2.2.2.2.2.2.2.2.2.2.2.2.2.2.2.2.2.2.2.2.2.2.2.2.2.2.2.2.2.2.2.2.2.2.2.2.2.2.2.2.2.2.2.2.2.2.1 x.2.2.1
noncomputable def b_frame_framer_read_h0_1 (i29 : Int) (b30 : Bool) (d31 : D_frame_framer) : Option (Option R_frame_framer_read_h0) :=
 bif b30 then
  obindP (frame_reader_into_h2 d31) (
   some none) fun y32 =>
  frame_framer_read_h0_4 y32.1.1.1 y32.1.2.1.1 y32.1.2.1.2.1 y32.1.2.1.2.2.1 y32.1.2.1.2.2.2.1 y32.1.2.1.2.2.2.2.1 y32.1.2.1.2.2.2.2.2.1 y32.1.2.1.2.2.2.2.2.2.1 y32.1.2.1.2.2.2.2.2.2.2.1 y32.1.2.1.2.2.2.2.2.2.2.2.1 y32.1.2.1.2.2.2.2.2.2.2.2.2.1 y32.1.2.1.2.2.2.2.2.2.2.2.2.2.1 y32.1.2.1.2.2.2.2.2.2.2.2.2.2.2.1 y32.1.2.1.2.2.2.2.2.2.2.2.2.2.2.2.1
 else
  let b33 : Bool := (i29 == (17 : Int))
  bif b33 then
   frame_framer_read_h0_2 i29 true d31
  else
   let b34 : Bool := (i29 == (21 : Int))
   frame_framer_read_h0_2 i29 b34 d31
theorem ex_frame_framer_read_h0_1 : ∃ f, f = @b_frame_framer_read_h0_1 := ⟨_, rfl⟩
noncomputable def frame_framer_read_h0_1 := Classical.choose ex_frame_framer_read_h0_1
theorem frame_framer_read_h0_1_eq : @frame_framer_read_h0_1 = @b_frame_framer_read_h0_1 := Classical.choose_spec ex_frame_framer_read_h0_1
theorem s_frame_framer_read_h0_1 {base S0 cs0} (hfin : H_frame_framer_read_h0 base S0) : J_frame_framer_read_h0 base S0 cs0 p_frame_framer_read_h0_1 (u_frame_framer_read_h0_1 (frame_framer_read_h0_1)) :=
 JSound.join hfin.2 (o_frame_framer_read_h0_2 hfin) ks_frame_framer_read_h0 100000 (by rw [frame_framer_read_h0_1_eq]; intro x; kernel_rfl)
noncomputable def x_frame_framer_read_h0_1 : Cfg → Option (Option (Option R_frame_framer_read_h0)) := cut p_frame_framer_read_h0_1 (u_frame_framer_read_h0_1 (frame_framer_read_h0_1)) (x_frame_framer_read_h0_2)
theorem o_frame_framer_read_h0_1 {base S0 cs0} (hfin : H_frame_framer_read_h0 base S0) : O_frame_framer_read_h0 base S0 cs0 (x_frame_framer_read_h0_1) := OSound.cut (o_frame_framer_read_h0_2 hfin) (Nat.le_of_eq hfin.1) (s_frame_framer_read_h0_1 hfin)
@[reducible] noncomputable def p_frame_framer_read_h0_0 : CPat := ⟨⟨88, [1, 1, 1, 0, 1, 0, 1], none, [.ptr 0 0, .any, .any, .any, .any, .any, .any, .any, .any, .any, .any, .any, .any, .any, .any, .any, .any, .any, .any, .any, .any, .any, .any, .any, .any, .any, .any, .any, .any, .any, .any, .any, .any, .any, .any, .any, .any, .any, .any, .any, .any, .int .u64, .any, .any, .any, .any, .any, .any, .any, .any, .any, .any, .any, .any, .any, .any, .any, .any, .any, .any, .any, .any, .any, .any, .any, .any, .any, .bool], 206⟩, [], [.dat 154 T_frame_framer], 1⟩
@[reducible] noncomputable def u_frame_framer_read_h0_0 (k : Int → Bool → D_frame_framer → Option (Option R_frame_framer_read_h0)) : denC p_frame_framer_read_h0_0 → Option (Option R_frame_framer_read_h0) := fun x => k x.1.2.2.2.2.2.2.2.2.2.2.2.2.2.2.2.2.2.2.2.2.2.2.2.2.2.2.2.2.2.2.2.2.2.2.2.2.2.2.2.2.2.1 x.1.2.2.2.2.2.2.2.2.2.2.2.2.2.2.2.2.2.2.2.2.2.2.2.2.2.2.2.2.2.2.2.2.2.2.2.2.2.2.2.2.2.2.2.2.2.2.2.2.2.2.2.2.2.2.2.2.2.2.2.2.2.2.2.2.2.2.2.1 x.2.2.1
noncomputable def b_frame_framer_read_h0_0 (i11 : Int) (b12 : Bool) (d13 : D_frame_framer) : Option (Option R_frame_framer_read_h0) :=
 bif b12 then
  frame_framer_read_h0_4 d13.1.1 d13.2.1.1 d13.2.1.2.1 d13.2.1.2.2.1 d13.2.1.2.2.2.1 d13.2.1.2.2.2.2.1 d13.2.1.2.2.2.2.2.1 d13.2.1.2.2.2.2.2.2.1 d13.2.1.2.2.2.2.2.2.2.1 d13.2.1.2.2.2.2.2.2.2.2.1 d13.2.1.2.2.2.2.2.2.2.2.2.1 d13.2.1.2.2.2.2.2.2.2.2.2.2.1 d13.2.1.2.2.2.2.2.2.2.2.2.2.2.1 d13.2.1.2.2.2.2.2.2.2.2.2.2.2.2.1
 else
  let b14 : Bool := (i11 == (2 : Int))
  bif b14 then
   obindP (frame_framer_ack_h0 d13) (
    some none) fun y15 =>
   frame_framer_read_h0_4 y15.1 y15.2.1 y15.2.2.1 y15.2.2.2.1 y15.2.2.2.2.1 y15.2.2.2.2.2.1 y15.2.2.2.2.2.2.1 y15.2.2.2.2.2.2.2.1 y15.2.2.2.2.2.2.2.2.1 y15.2.2.2.2.2.2.2.2.2.1 y15.2.2.2.2.2.2.2.2.2.2.1 y15.2.2.2.2.2.2.2.2.2.2.2.1 y15.2.2.2.2.2.2.2.2.2.2.2.2.1 y15.2.2.2.2.2.2.2.2.2.2.2.2.2.1
  else
   let b16 : Bool := (i11 == (4 : Int))
   bif b16 then
    obindP (frame_reader_into_h9 d13) (
     some none) fun y17 =>
    frame_framer_read_h0_4 y17.1.1.1 y17.1.2.1.1 y17.1.2.1.2.1 y17.1.2.1.2.2.1 y17.1.2.1.2.2.2.1 y17.1.2.1.2.2.2.2.1 y17.1.2.1.2.2.2.2.2.1 y17.1.2.1.2.2.2.2.2.2.1 y17.1.2.1.2.2.2.2.2.2.2.1 y17.1.2.1.2.2.2.2.2.2.2.2.1 y17.1.2.1.2.2.2.2.2.2.2.2.2.1 y17.1.2.1.2.2.2.2.2.2.2.2.2.2.1 y17.1.2.1.2.2.2.2.2.2.2.2.2.2.2.1 y17.1.2.1.2.2.2.2.2.2.2.2.2.2.2.2.1
   else
    let b18 : Bool := (i11 == (5 : Int))
    bif b18 then
     obindP (frame_reader_into_h6 d13) (
      some none) fun y19 =>
     frame_framer_read_h0_4 y19.1.1.1 y19.1.2.1.1 y19.1.2.1.2.1 y19.1.2.1.2.2.1 y19.1.2.1.2.2.2.1 y19.1.2.1.2.2.2.2.1 y19.1.2.1.2.2.2.2.2.1 y19.1.2.1.2.2.2.2.2.2.1 y19.1.2.1.2.2.2.2.2.2.2.1 y19.1.2.1.2.2.2.2.2.2.2.2.1 y19.1.2.1.2.2.2.2.2.2.2.2.2.1 y19.1.2.1.2.2.2.2.2.2.2.2.2.2.1 y19.1.2.1.2.2.2.2.2.2.2.2.2.2.2.1 y19.1.2.1.2.2.2.2.2.2.2.2.2.2.2.2.1
    else
     let b20 : Bool := (i11 == (6 : Int))
     bif b20 then
      obindP (frame_reader_into_h1 d13) (
       some none) fun y21 =>
      obindP (frame_reader_long_h0 y21.1) (
       some none) fun y22 =>
      frame_framer_read_h0_4 y22.2.1.1.1 y22.2.1.2.1.1 y22.2.1.2.1.2.1 y22.2.1.2.1.2.2.1 y22.2.1.2.1.2.2.2.1 y22.2.1.2.1.2.2.2.2.1 y22.2.1.2.1.2.2.2.2.2.1 y22.2.1.2.1.2.2.2.2.2.2.1 y22.2.1.2.1.2.2.2.2.2.2.2.1 y22.2.1.2.1.2.2.2.2.2.2.2.2.1 y22.1 y22.2.1.2.1.2.2.2.2.2.2.2.2.2.2.1 y22.2.1.2.1.2.2.2.2.2.2.2.2.2.2.2.1 y22.2.1.2.1.2.2.2.2.2.2.2.2.2.2.2.2.1
     else
      let b23 : Bool := (i11 == (16 : Int))
      bif b23 then
       frame_framer_read_h0_1 i11 true d13
      else
       let b24 : Bool := (i11 == (18 : Int))
       bif b24 then
        frame_framer_read_h0_1 i11 true d13
       else
        let b25 : Bool := (i11 == (19 : Int))
        bif b25 then
         frame_framer_read_h0_1 i11 true d13
        else
         let b26 : Bool := (i11 == (20 : Int))
         bif b26 then
          frame_framer_read_h0_1 i11 true d13
         else
          let b27 : Bool := (i11 == (22 : Int))
          bif b27 then
           frame_framer_read_h0_1 i11 true d13
          else
           let b28 : Bool := (i11 == (23 : Int))
           frame_framer_read_h0_1 i11 b28 d13
theorem ex_frame_framer_read_h0_0 : ∃ f, f = @b_frame_framer_read_h0_0 := ⟨_, rfl⟩
noncomputable def frame_framer_read_h0_0 := Classical.choose ex_frame_framer_read_h0_0
theorem frame_framer_read_h0_0_eq : @frame_framer_read_h0_0 = @b_frame_framer_read_h0_0 := Classical.choose_spec ex_frame_framer_read_h0_0
theorem s_frame_framer_read_h0_0 {base S0 cs0} (hfin : H_frame_framer_read_h0 base S0) : J_frame_framer_read_h0 base S0 cs0 p_frame_framer_read_h0_0 (u_frame_framer_read_h0_0 (frame_framer_read_h0_0)) :=
 JSound.join hfin.2 (o_frame_framer_read_h0_1 hfin) ks_frame_framer_read_h0 100000 (by rw [frame_framer_read_h0_0_eq]; intro x; kernel_rfl)
noncomputable def x_frame_framer_read_h0_0 : Cfg → Option (Option (Option R_frame_framer_read_h0)) := cut p_frame_framer_read_h0_0 (u_frame_framer_read_h0_0 (frame_framer_read_h0_0)) (x_frame_framer_read_h0_1)
theorem o_frame_framer_read_h0_0 {base S0 cs0} (hfin : H_frame_framer_read_h0 base S0) : O_frame_framer_read_h0 base S0 cs0 (x_frame_framer_read_h0_0) := OSound.cut (o_frame_framer_read_h0_1 hfin) (Nat.le_of_eq hfin.1) (s_frame_framer_read_h0_0 hfin)
noncomputable def b_frame_framer_read_h0 (d0 : D_frame_framer) : Option (Option R_frame_framer_read_h0) :=
 let n1 : Int := (((ByteArray.size d0.1.1) : Nat) : Int)
 obindP (frame_reader_into_h0 d0) (
  some none) fun y2 =>
 let n3 : Int := (((ByteArray.size y2.1.1.1) : Nat) : Int)
 let n4 : Int := (Go.IntKind.wrap Go.IntKind.i64 (n1 - n3))
 obind (varint_Size y2.1.2.1.1) fun y5 =>
 let b6 : Bool := (n4 == y5.1)
 obindP (frame_reader_need_h0 b6 y2.1) (
  some none) fun y7 =>
 let b8 : Bool := (y7.1.2.1.1 == (0 : Int))
 bif b8 then
  frame_framer_read_h0_0 y7.1.2.1.1 true y7.1
 else
  let b9 : Bool := (y7.1.2.1.1 == (1 : Int))
  bif b9 then
   frame_framer_read_h0_0 y7.1.2.1.1 true y7.1
  else
   let b10 : Bool := (y7.1.2.1.1 == (30 : Int))
   frame_framer_read_h0_0 y7.1.2.1.1 b10 y7.1
theorem ex_frame_framer_read_h0 : ∃ f, f = @b_frame_framer_read_h0 := ⟨_, rfl⟩
noncomputable def frame_framer_read_h0 := Classical.choose ex_frame_framer_read_h0
theorem frame_framer_read_h0_eq : @frame_framer_read_h0 = @b_frame_framer_read_h0 := Classical.choose_spec ex_frame_framer_read_h0
noncomputable def hb_frame_framer_read_h0 : HCon := HCon.mkP 149 pa_frame_framer_read_h0 pH_frame_framer_read_h0 qa_frame_framer_read_h0 qH_frame_framer_read_h0 R_frame_framer_read_h0 default (fun x => b_frame_framer_read_h0 x.2.1) (fun r => ((), (r.1, ()))) (fun y => (y.2.1, ())) (fun _ => rfl)
noncomputable def h_frame_framer_read_h0 : HCon := HCon.mkP 149 pa_frame_framer_read_h0 pH_frame_framer_read_h0 qa_frame_framer_read_h0 qH_frame_framer_read_h0 R_frame_framer_read_h0 default (fun x => frame_framer_read_h0 x.2.1) (fun r => ((), (r.1, ()))) (fun y => (y.2.1, ())) (fun _ => rfl)
theorem hb_frame_framer_read_h0_ok : hb_frame_framer_read_h0.Sound prog Inv gInv 88 :=
 hcon_run (M := m_frame_framer_read_h0) (f := f88) rfl ks_frame_framer_read_h0 100000 (X := x_frame_framer_read_h0_0) (fun base S0 cs0 hn hf => have hfin : H_frame_framer_read_h0 base S0 := ⟨hn, hf⟩; o_frame_framer_read_h0_0 hfin) (by intro x; kernel_rfl)
theorem h_frame_framer_read_h0_ok : h_frame_framer_read_h0.Sound prog Inv gInv 88 := by
 have e : h_frame_framer_read_h0 = hb_frame_framer_read_h0 := by unfold h_frame_framer_read_h0 hb_frame_framer_read_h0; rw [frame_framer_read_h0_eq]
 rw [e]; exact hb_frame_framer_read_h0_ok
noncomputable def m_frame_Get : Mach prog Inv gInv := mach bas [(38, f38), (87, f87), (88, f88)] ⟨ok38, ok87, ok88, trivial⟩ [] trivial [] trivial [(88, h_frame_framer_read_h0)] ⟨⟨h_frame_framer_read_h0_ok, FnOk.callable ok88⟩, trivial⟩
/-! ### domino/frame.Get -/
@[reducible] def r_frame_Get : List Ty := [T_frame_Frame, .str, (.int .i64)]
noncomputable def b_frame_Get (a0 : ByteArray) : Option (D_frame_Frame × ByteArray × Int × Unit) :=
 obindP (frame_framer_read_h0 ((a0, ()), ((0, (0, (0, (0, (0, (0, (0, (0, (false, (⟨#[]⟩, (⟨#[]⟩, (⟨#[]⟩, ([], ()))))))))))))), ()))) (some ((0, (0, (0, (0, (0, (0, (0, (0, (false, (⟨#[]⟩, (⟨#[]⟩, (⟨#[]⟩, ([], ()))))))))))))), (⟨#[]⟩, (60, ())))) fun y =>
  some (y.1.2.1, (y.1.1.1, (0, ())))
theorem ex_frame_Get : ∃ f, f = @b_frame_Get := ⟨_, rfl⟩
noncomputable def frame_Get := Classical.choose ex_frame_Get
theorem frame_Get_eq : @frame_Get = @b_frame_Get := Classical.choose_spec ex_frame_Get
noncomputable def cb_frame_Get : Con := ⟨[.str], r_frame_Get, fun x => b_frame_Get x.1⟩
noncomputable def c_frame_Get : Con := ⟨[.str], r_frame_Get, fun x => frame_Get x.1⟩
theorem cb_frame_Get_ok : cb_frame_Get.Sound prog Inv gInv 38 :=
 defer_con (M := m_frame_Get) inv_g (f := f38) rfl 30 (by intro x; kernel_rfl)
theorem c_frame_Get_ok : c_frame_Get.Sound prog Inv gInv 38 := by
 have e : c_frame_Get = cb_frame_Get := by unfold c_frame_Get cb_frame_Get; rw [frame_Get_eq]
 rw [e]; exact cb_frame_Get_ok
end Go.Proofs.YtjdjlijjolibkaaDoor.V
namespace Go.Proofs.YtjdjlijjolibkaaDoor.V
open Go.RowKit
set_option linter.unusedVariables false
/-! ### readers -/
abbrev Pr (α : Type) := List Int → Option (α × List Int)
def pb {α β : Type} (p : Pr α) (f : α → Pr β) : Pr β := fun l => match p l with
 | some (a, r) => f a r
 | none => none
def pr {α : Type} (a : α) : Pr α := fun l => some (a, l)
def pg (b : Bool) : Pr Unit := fun l => bif b then some ((), l) else none
def ptake (n : Nat) : Pr (List Int) := fun l => if n ≤ l.length then some (l.take n, l.drop n) else none
theorem pb_assoc {α β γ : Type} (p : Pr α) (f : α → Pr β) (g : β → Pr γ) : pb (pb p f) g = pb p fun a => pb (f a) g := by
 funext l
 simp only [pb]
 cases p l <;> rfl
theorem pb_pr {α β : Type} (a : α) (f : α → Pr β) : pb (pr a) f = f a := rfl
theorem pb_gt {β : Type} {b : Bool} (h : b = true) (f : Unit → Pr β) : pb (pg b) f = f () := by subst h; rfl
def Suf {α : Type} (p : Pr α) : Prop := ∀ l a r, p l = some (a, r) → ∃ q, l = q ++ r
def Mono {α : Type} (p : Pr α) : Prop := ∀ l a r t, p l = some (a, r) → p (l ++ t) = some (a, r ++ t)
theorem Suf.pr {α : Type} (a : α) : Suf (pr a) := fun l b r h => by cases h; exact ⟨[], rfl⟩
theorem Mono.pr {α : Type} (a : α) : Mono (pr a) := fun l b r t h => by cases h; rfl
theorem Suf.pg (b : Bool) : Suf (pg b) := fun l a r h => by
 cases b with
 | true => cases h; exact ⟨[], rfl⟩
 | false => cases h
theorem Mono.pg (b : Bool) : Mono (pg b) := fun l a r t h => by
 cases b with
 | true => cases h; rfl
 | false => cases h
theorem pb_some {α β : Type} {p : Pr α} {f : α → Pr β} {l : List Int} {b : β} {r : List Int} (h : pb p f l = some (b, r)) : ∃ a r1, p l = some (a, r1) ∧ f a r1 = some (b, r) := by
 simp only [pb] at h
 cases hp : p l with
 | none => rw [hp] at h; cases h
 | some x => rw [hp] at h; exact ⟨x.1, x.2, rfl, h⟩
theorem Suf.bind {α β : Type} {p : Pr α} {f : α → Pr β} (h : Suf p) (k : ∀ a, Suf (f a)) : Suf (pb p f) := fun l b r e => by
 obtain ⟨a, r1, e1, e2⟩ := pb_some e
 obtain ⟨q1, rfl⟩ := h _ _ _ e1
 obtain ⟨q2, rfl⟩ := k a _ _ _ e2
 exact ⟨q1 ++ q2, by simp⟩
theorem Mono.bind {α β : Type} {p : Pr α} {f : α → Pr β} (h : Mono p) (k : ∀ a, Mono (f a)) : Mono (pb p f) := fun l b r t e => by
 obtain ⟨a, r1, e1, e2⟩ := pb_some e
 simp only [pb, h _ _ _ t e1, k a _ _ _ t e2]
theorem Suf.take (n : Nat) : Suf (ptake n) := fun l a r h => by
 simp only [ptake] at h
 split at h
 · cases h; exact ⟨l.take n, (List.take_append_drop n l).symm⟩
 · cases h
theorem Mono.take (n : Nat) : Mono (ptake n) := fun l a r t h => by
 simp only [ptake] at h
 split at h
 ·
  rename_i hn
  cases h
  have : n ≤ (l ++ t).length := by simp; omega
  simp only [ptake, this, if_true, List.take_append_of_le_length hn, List.drop_append_of_le_length hn]
 · cases h
theorem vget_some {l : List Int} {n : Int} {r : List Int} (h : vget l = some (n, r)) : ∃ q, l = q ++ r ∧ 1 ≤ q.length ∧ (Byt l → In62 n) ∧ ∀ t, vget (q ++ t) = some (n, t) := by
 cases l with
 | nil => cases h
 | cons b l =>
  by_cases h1 : b < 64
  ·
   simp only [vget, h1, if_true, Option.some.injEq, Prod.mk.injEq] at h
   obtain ⟨rfl, rfl⟩ := h
   exact ⟨[b], rfl, by simp, fun hb => by have := (Byt.cons.mp hb).1; unfold In62; omega, fun t => by simp [vget, h1]⟩
  ·
   by_cases h2 : b < 128
   ·
    rcases l with _ | ⟨b1, l⟩
    · simp [vget, h1, h2] at h
    ·
     simp only [vget, h1, h2, if_true, if_false, Option.some.injEq, Prod.mk.injEq] at h
     obtain ⟨rfl, rfl⟩ := h
     refine ⟨[b, b1], rfl, by simp, fun hb => ?_, fun t => by simp [vget, h1, h2]⟩
     simp only [Byt.cons] at hb
     unfold In62; omega
   ·
    by_cases h3 : b < 192
    ·
     rcases l with _ | ⟨b1, _ | ⟨b2, _ | ⟨b3, l⟩⟩⟩
     case cons.cons.cons =>
      simp only [vget, h1, h2, h3, if_true, if_false, Option.some.injEq, Prod.mk.injEq] at h
      obtain ⟨rfl, rfl⟩ := h
      refine ⟨[b, b1, b2, b3], rfl, by simp, fun hb => ?_, fun t => by simp [vget, h1, h2, h3]⟩
      simp only [Byt.cons] at hb
      unfold In62; omega
     all_goals simp [vget, h1, h2, h3] at h
    ·
     rcases l with _ | ⟨b1, _ | ⟨b2, _ | ⟨b3, _ | ⟨b4, _ | ⟨b5, _ | ⟨b6, _ | ⟨b7, l⟩⟩⟩⟩⟩⟩⟩
     case cons.cons.cons.cons.cons.cons.cons =>
      simp only [vget, h1, h2, h3, if_false, Option.some.injEq, Prod.mk.injEq] at h
      obtain ⟨rfl, rfl⟩ := h
      refine ⟨[b, b1, b2, b3, b4, b5, b6, b7], rfl, by simp, fun hb => ?_, fun t => by simp [vget, h1, h2, h3]⟩
      simp only [Byt.cons] at hb
      unfold In62; omega
     all_goals simp [vget, h1, h2, h3] at h
theorem Suf.vget : Suf vget := fun l a r h => by
 obtain ⟨q, e, _⟩ := vget_some h
 exact ⟨q, e⟩
theorem Mono.vget : Mono vget := fun l a r t h => by
 obtain ⟨q, rfl, _, _, k⟩ := vget_some h
 rw [List.append_assoc]; exact k _
theorem vget_vb (n : Int) (h : In62 n) (t : List Int) : vget (vb n ++ t) = some (n, t) := by
 obtain ⟨h0, h1⟩ := h
 unfold vb
 split
 · rename_i e; simp [vget, e]
 ·
  split
  ·
   rename_i e1 e2
   have c1 : ¬ 64 + n / 256 < 64 := by omega
   have c2 : 64 + n / 256 < 128 := by omega
   simp only [List.cons_append, List.nil_append, vget, c1, c2, if_true, if_false]
   congr 2; omega
  ·
   split
   ·
    rename_i e1 e2 e3
    have c1 : ¬ 128 + n / 16777216 < 64 := by omega
    have c2 : ¬ 128 + n / 16777216 < 128 := by omega
    have c3 : 128 + n / 16777216 < 192 := by omega
    simp only [List.cons_append, List.nil_append, vget, c1, c2, c3, if_true, if_false]
    congr 2; omega
   ·
    rename_i e1 e2 e3
    have c1 : ¬ 192 + n / 72057594037927936 < 64 := by omega
    have c2 : ¬ 192 + n / 72057594037927936 < 128 := by omega
    have c3 : ¬ 192 + n / 72057594037927936 < 192 := by omega
    simp only [List.cons_append, List.nil_append, vget, c1, c2, c3, if_false]
    congr 2; omega
theorem vb_vsize (n : Int) (h : In62 n) : (((vb n).length : Nat) : Int) = vsize n := by
 obtain ⟨h0, h1⟩ := h
 unfold vb vsize
 split
 · rfl
 ·
  split
  · rfl
  ·
   split
   · rfl
   · rfl
/-! ### a frame -/
abbrev eB : ByteArray := ⟨#[]⟩
abbrev zF (k : Int) : D_frame_Frame := (k, 0, 0, 0, 0, 0, 0, 0, false, eB, eB, eB, [], ())
def plong : Pr ByteArray := pb vget fun n => pb (ptake n.toNat) fun bs => pr (bytesStr bs)
def pstr (n : Nat) : Pr ByteArray := pb (ptake n) fun bs => pr (bytesStr bs)
def prest : Pr ByteArray := fun l => some (bytesStr l, [])
def gapsP : Nat → Int → Pr (List D_ranges_Range)
 | 0, _ => pr []
 | n + 1, lo => pb vget fun gap => pb vget fun len => pb (pg (decide (gap + 2 ≤ lo) && decide (len ≤ lo - gap - 2))) fun _ =>
  pb (gapsP n (lo - gap - 2 - len)) fun rs => pr ((lo - gap - 2 - len, lo - gap - 2, ()) :: rs)
def ackP : Pr D_frame_Frame := pb vget fun hi => pb vget fun delay => pb vget fun cnt => pb vget fun first => pb (pg (decide (cnt < 32) && decide (first ≤ hi))) fun _ =>
 pb (gapsP cnt.toNat (hi - first)) fun rs => pr (2, 0, 0, 0, 0, 0, 0, delay, false, eB, eB, eB, ((hi - first, hi, ()) :: rs).reverse, ())
def streamP (fin : Bool) (off len : Bool) : Pr D_frame_Frame := pb vget fun id => pb (bif off then vget else pr 0) fun o => pb (bif len then plong else prest) fun data =>
 pr (8, id, o, 0, 0, 0, 0, 0, fin, data, eB, eB, [], ())
def bodyP (k : Int) : Pr D_frame_Frame :=
 bif k == 0 || (k == 1 || k == 30) then pr (zF k)
 else bif k == 2 then ackP
 else bif k == 4 then pb vget fun id => pb vget fun code => pb vget fun mx => pr (4, id, 0, mx, code, 0, 0, 0, false, eB, eB, eB, [], ())
 else bif k == 5 then pb vget fun id => pb vget fun code => pr (5, id, 0, 0, code, 0, 0, 0, false, eB, eB, eB, [], ())
 else bif k == 6 then pb vget fun off => pb plong fun data => pr (6, 0, off, 0, 0, 0, 0, 0, false, data, eB, eB, [], ())
 else bif k == 8 then streamP false false false
 else bif k == 9 then streamP true false false
 else bif k == 10 then streamP false false true
 else bif k == 11 then streamP true false true
 else bif k == 12 then streamP false true false
 else bif k == 13 then streamP true true false
 else bif k == 14 then streamP false true true
 else bif k == 15 then streamP true true true
 else bif k == 16 || (k == 18 || (k == 19 || (k == 20 || (k == 22 || k == 23)))) then pb vget fun mx => pr (k, 0, 0, mx, 0, 0, 0, 0, false, eB, eB, eB, [], ())
 else bif k == 17 || k == 21 then pb vget fun id => pb vget fun mx => pr (k, id, 0, mx, 0, 0, 0, 0, false, eB, eB, eB, [], ())
 else bif k == 24 then pb vget fun seq => pb vget fun prior => pb (ptake 1) fun n => pb (pg (n == [8])) fun _ => pb (pstr 8) fun cid => pb (pstr 16) fun tok =>
  pr (24, 0, 0, 0, 0, seq, prior, 0, false, eB, cid, tok, [], ())
 else bif k == 25 then pb vget fun seq => pr (25, 0, 0, 0, 0, seq, 0, 0, false, eB, eB, eB, [], ())
 else bif k == 26 || k == 27 then pb (pstr 8) fun tok => pr (k, 0, 0, 0, 0, 0, 0, 0, false, eB, eB, tok, [], ())
 else bif k == 28 then pb vget fun code => pb vget fun delay => pb plong fun data => pr (28, 0, 0, 0, code, 0, 0, delay, false, data, eB, eB, [], ())
 else bif k == 29 then pb vget fun code => pb plong fun data => pr (29, 0, 0, 0, code, 0, 0, 0, false, data, eB, eB, [], ())
 else fun _ => none
def finP' (f : D_frame_Frame) : Pr D_frame_Frame := pb (pg (mayFr f)) fun _ => pr f
def getL : Pr D_frame_Frame := fun l => pb vget (fun k r => bif decide (((l.length : Nat) : Int) - ((r.length : Nat) : Int) = vsize k) then pb (bodyP k) finP' r else none) l
/-! ### the program's reader -/
abbrev st (l : List Int) (f : D_frame_Frame) : D_frame_framer := ((bytesStr l, ()), (f, ()))
def outP (o : Option (D_frame_Frame × List Int)) : Option (Option (D_frame_framer × Unit)) := some (o.map fun x => (st x.2 x.1, ()))
theorem obindP_assoc {α β γ : Type} (o : Option (Option α)) (k1 : α → Option (Option β)) (a : Option γ) (k2 : β → Option γ) : obindP (obindP o (some none) k1) a k2 = obindP o a fun y => obindP (k1 y) a k2 := by
 cases o with
 | none => rfl
 | some x => cases x <;> rfl
theorem obindP_ss {α β : Type} (x : α) (a : Option β) (k : α → Option β) : obindP (some (some x)) a k = k x := rfl
theorem obindP_sn {α β : Type} (a : Option β) (k : α → Option β) : obindP (some none) a k = a := rfl
theorem need_is (b : Bool) (d : D_frame_framer) : frame_reader_need_h0 b d = some (bif b then some (d, ()) else none) := by
 rw [frame_reader_need_h0_eq, b_frame_reader_need_h0]
 cases b <;> rfl
theorem strBytes_bs {l : List Int} (h : Byt l) : strBytes (bytesStr l) = l := strBytes_bytesStr h
theorem number_is {l : List Int} (h : Byt l) (f : D_frame_Frame) : frame_reader_number_h0 (st l f) = some ((vget l).map fun x => (x.1, (st x.2 f, ()))) := by
 rw [frame_reader_number_h0_eq, b_frame_reader_number_h0]
 simp only [vget_is, strBytes_bs h, obind_some]
 cases vget l with
 | none => simp [need_is, obindP]
 | some x => simp [need_is, obindP]
theorem Byt.suf {q r : List Int} (h : Byt (q ++ r)) : Byt r := (Byt.app.mp h).2
theorem num_pb {f : Int → Pr D_frame_Frame} {l : List Int} {fr : D_frame_Frame} {k : Int × D_frame_framer × Unit → Option (Option (D_frame_framer × Unit))} (hB : Byt l)
  (H : ∀ n r, In62 n → Byt r → r.length < l.length → k (n, (st r fr, ())) = outP (f n r)) : obindP (frame_reader_number_h0 (st l fr)) (some none) k = outP (pb vget f l) := by
 rw [number_is hB]
 cases hv : vget l with
 | none => simp [obindP, pb, hv, outP]
 | some x =>
  obtain ⟨n, r⟩ := x
  obtain ⟨q, rfl, hq, hn, _⟩ := vget_some hv
  simp only [Option.map_some, obindP_ss, pb, hv]
  exact H n r (hn hB) hB.suf (by simp; omega)
theorem take_is {l : List Int} (h : Byt l) (f : D_frame_Frame) (n : Nat) (hn : n ≤ 10000000) (hl : l.length ≤ 1000000) : frame_reader_take_h0 ((n : Nat) : Int) (st l f) = some ((ptake n l).map fun x => (bytesStr x.1, (st x.2 f, ()))) := by
 rw [frame_reader_take_h0_eq, b_frame_reader_take_h0]
 simp only [bytesStr_size, need_is, ptake]
 by_cases c : n ≤ l.length
 ·
  have c1 : ((n : Nat) : Int) ≤ ((l.length : Nat) : Int) := by omega
  have e1 : (bytesStr l).extract 0 n = bytesStr (l.take n) := by
   rw [← strBytes_inj, strBytes_extract, strBytes_bs h, strBytes_bs (fun x hx => h x (List.mem_of_mem_take hx))]; rfl
  have e2 : (bytesStr l).extract n l.length = bytesStr (l.drop n) := by
   rw [← strBytes_inj, strBytes_extract, strBytes_bs h, strBytes_bs (fun x hx => h x (List.mem_of_mem_drop hx)), List.take_length]
  simp only [c1, c, if_true, decide_true, cond_true, obindP_ss, bytesStr_size, Int.toNat_natCast, nn, Int.le_refl, and_self, e1, e2, Option.map_some]
 ·
  have c1 : ¬ ((n : Nat) : Int) ≤ ((l.length : Nat) : Int) := by omega
  simp only [c1, c, if_false, decide_false, cond_false, obindP_sn, Option.map_none]
theorem take_pb {f : ByteArray → Pr D_frame_Frame} {l : List Int} {fr : D_frame_Frame} {n : Nat} {k : ByteArray × D_frame_framer × Unit → Option (Option (D_frame_framer × Unit))} (hB : Byt l) (hn : n ≤ 10000000) (hl : l.length ≤ 1000000)
  (H : ∀ bs r, Byt r → r.length ≤ l.length → bs.length = n → Byt bs → l = bs ++ r → k (bytesStr bs, (st r fr, ())) = outP (f (bytesStr bs) r)) : obindP (frame_reader_take_h0 ((n : Nat) : Int) (st l fr)) (some none) k = outP (pb (pstr n) f l) := by
 rw [take_is hB fr n hn hl]
 simp only [pstr, pb_assoc, pb_pr]
 by_cases c : n ≤ l.length
 ·
  simp only [ptake, c, if_true, Option.map_some, obindP_ss, pb]
  exact H _ _ (fun x hx => hB x (List.mem_of_mem_drop hx)) (by simp) (by simp; omega) (fun x hx => hB x (List.mem_of_mem_take hx)) (List.take_append_drop n l).symm
 · simp only [ptake, c, if_false, Option.map_none, obindP_sn, pb, outP]
theorem long_pb {f : ByteArray → Pr D_frame_Frame} {l : List Int} {fr : D_frame_Frame} {k : ByteArray × D_frame_framer × Unit → Option (Option (D_frame_framer × Unit))} (hB : Byt l) (hl : l.length ≤ 1000000)
  (H : ∀ bs r, Byt r → r.length ≤ l.length → Byt bs → k (bytesStr bs, (st r fr, ())) = outP (f (bytesStr bs) r)) : obindP (frame_reader_long_h0 (st l fr)) (some none) k = outP (pb plong f l) := by
 rw [frame_reader_long_h0_eq, b_frame_reader_long_h0]
 simp only [obindP_assoc, obindP_ss, plong, pb_assoc]
 refine num_pb hB fun n r hn hr hlr => ?_
 simp only [bytesStr_size]
 rw [wrap_u64 _ (by omega) (by omega), need_is]
 obtain ⟨n0, n1⟩ := hn
 by_cases c : n ≤ ((r.length : Nat) : Int)
 ·
  simp only [c, decide_true, cond_true, obindP_ss]
  rw [wrap_i64 n (by omega) (by omega)]
  have := take_pb (f := f) (n := n.toNat) (fr := fr) (k := k) hr (by omega) (by omega) (fun bs r2 h1 h2 h3 h4 h5 => H bs r2 h1 (by omega) h4)
  rw [show ((n.toNat : Nat) : Int) = n by omega] at this
  simp only [pstr, pb_assoc] at this
  exact this
 ·
  have c2 : ¬ n.toNat ≤ r.length := by omega
  simp only [c, decide_false, cond_false, obindP_sn, pb, ptake, c2, if_false, outP, Option.map_none]
section
variable (k id off mx code seq prior delay : Int) (fin : Bool) (data cid tok : ByteArray)
theorem number1_is {l : List Int} (h : Byt l) (L : List D_ranges_Range) : frame_reader_number_h1 (bytesStr l) k id off mx code seq prior delay fin data cid tok L =
  some ((vget l).map fun x => (x.1, (bytesStr x.2, (k, (id, (off, (mx, (code, (seq, (prior, (delay, (fin, (data, (cid, (tok, (L, ())))))))))))))))) := by
 rw [frame_reader_number_h1_eq, b_frame_reader_number_h1]
 simp only [vget_is, strBytes_bs h, obind_some, frame_reader_need_h1_eq, b_frame_reader_need_h1]
 cases vget l with
 | none => simp [obindP]
 | some x => simp [obindP]
theorem back_loop (s : ByteArray) : ∀ (n : Nat) (mid pre suf : List D_ranges_Range) (m : Nat), mid.length ≤ n → n < m → (pre ++ (mid ++ suf)).length ≤ 1000 →
  frame_framer_ack_h0_1 m ((pre.length : Nat) : Int) (((pre.length : Nat) : Int) + ((mid.length : Nat) : Int) - 1) s k id off mx code seq prior delay fin data cid tok (pre ++ (mid ++ suf)) =
   some (some (s, (k, (id, (off, (mx, (code, (seq, (prior, (delay, (fin, (data, (cid, (tok, (pre ++ (mid.reverse ++ suf), ())))))))))))))))  := by
 intro n
 induction n using Nat.strongRecOn with
 | _ n ih =>
  intro mid pre suf m hn hm hl
  obtain ⟨m, rfl⟩ : ∃ k, m = k + 1 := ⟨m - 1, by omega⟩
  have done : mid.length ≤ 1 → mid.reverse = mid := by
   intro h
   match mid, h with
   | [], _ => rfl
   | [x], _ => rfl
  by_cases h1 : mid.length ≤ 1
  ·
   have c : ¬ ((pre.length : Nat) : Int) < ((pre.length : Nat) : Int) + ((mid.length : Nat) : Int) - 1 := by omega
   rw [done h1]
   simp only [frame_framer_ack_h0_1, t_frame_framer_ack_h0_1, c, decide_false, cond_false]
  ·
   obtain ⟨x, r, rfl⟩ : ∃ x r, mid = x :: r := by
    cases mid with
    | nil => simp at h1
    | cons x r => exact ⟨x, r, rfl⟩
   obtain ⟨md, y, rfl⟩ : ∃ md y, r = md ++ [y] := by
    rcases List.eq_nil_or_concat r with e | ⟨md, y, e⟩
    · subst e; simp at h1
    · exact ⟨md, y, by simpa using e⟩
   have ej : ((pre.length : Nat) : Int) + (((x :: (md ++ [y])).length : Nat) : Int) - 1 = ((pre.length + 1 + md.length : Nat) : Int) := by simp; omega
   have eL : pre ++ ((x :: (md ++ [y])) ++ suf) = pre ++ x :: (md ++ y :: suf) := by simp
   rw [ej, eL]
   have c : ((pre.length : Nat) : Int) < ((pre.length + 1 + md.length : Nat) : Int) := by omega
   have c1 : ((pre.length + 1 + md.length : Nat) : Int) < (((pre ++ x :: (md ++ y :: suf)).length : Nat) : Int) := by simp; omega
   have c2 : ((pre.length + 1 + md.length : Nat) : Int) < (((pre ++ y :: (md ++ y :: suf)).length : Nat) : Int) := by simp; omega
   have ey : ((y.1, (y.2.1, ())) : D_ranges_Range) = y := rfl
   have ex : ((x.1, (x.2.1, ())) : D_ranges_Range) = x := rfl
   rw [frame_framer_ack_h0_1]
   simp only [t_frame_framer_ack_h0_1, c, c1, c2, mid_lt, nn, and_self, decide_true, cond_true, Int.toNat_natCast, getD_mid, getD_mid2, set_mid, set_mid2, ey, ex]
   have w1 : IntKind.wrap .i64 (((pre.length : Nat) : Int) + 1) = (((pre ++ [y]).length : Nat) : Int) := by rw [wrap_i64 _ (by simp at hl; omega) (by simp at hl; omega)]; simp
   have w2 : IntKind.wrap .i64 (((pre.length + 1 + md.length : Nat) : Int) - 1) = (((pre ++ [y]).length : Nat) : Int) + ((md.length : Nat) : Int) - 1 := by rw [wrap_i64 _ (by simp at hl; omega) (by simp at hl; omega)]; simp
   rw [w1, w2, show pre ++ y :: (md ++ x :: suf) = (pre ++ [y]) ++ (md ++ (x :: suf)) by simp]
   simp at hn
   rw [ih (n - 2) (by omega) md (pre ++ [y]) (x :: suf) m (by omega) (by omega) (by simp at hl ⊢; omega)]
   simp
def ackOut (s : ByteArray) (L : List D_ranges_Range) : R_frame_framer_ack_h0 := (s, (k, (id, (off, (mx, (code, (seq, (prior, (delay, (fin, (data, (cid, (tok, (L, ()))))))))))))))
theorem ack_loop (cnt : Nat) (hc : cnt < 40) : ∀ (n : Nat) (l : List Int) (lo x : Int) (acc : List D_ranges_Range) (i70 : Int) (m : Nat), n < m → n ≤ cnt → Byt l → 0 ≤ lo → lo < 4611686018427387904 → acc.length + n ≤ 100 →
  frame_framer_ack_h0_0 m ((cnt : Nat) : Int) ((cnt - n : Nat) : Int) (bytesStr l) k id off mx code seq prior delay fin data cid tok i70 (acc ++ [(lo, x, ())]) =
   some ((gapsP n lo l).map fun r => ackOut k id off mx code seq prior delay fin data cid tok (bytesStr r.2) ((acc ++ [(lo, x, ())]) ++ r.1).reverse) := by
 intro n
 induction n with
 | zero =>
  intro l lo x acc i70 m hm _ hB _ _ ha
  obtain ⟨m, rfl⟩ : ∃ k, m = k + 1 := ⟨m - 1, by omega⟩
  have w : IntKind.wrap .i64 ((((acc ++ [(lo, x, ())]).length : Nat) : Int) - 1) = (((([] : List D_ranges_Range).length : Nat) : Int) + (((acc ++ [(lo, x, ())]).length : Nat) : Int) - 1) := by
   rw [wrap_i64 _ (by simp <;> omega) (by simp <;> omega)]; simp
  simp only [frame_framer_ack_h0_0, t_frame_framer_ack_h0_0, Nat.sub_zero, Int.lt_irrefl, decide_false, cond_false, w, frame_framer_ack_h0_1'_eq, b_frame_framer_ack_h0_1']
  have := back_loop k id off mx code seq prior delay fin data cid tok (bytesStr l) (acc ++ [(lo, x, ())]).length (acc ++ [(lo, x, ())]) [] [] (Int.toNat (((([] : List D_ranges_Range).length : Nat) : Int) + (((acc ++ [(lo, x, ())]).length : Nat) : Int) - 1 - 0) + 2) (Nat.le_refl _) (by simp) (by simp; omega)
  simp only [List.nil_append, List.append_nil] at this
  simp only [gapsP, pr, Option.map_some, List.append_nil, ackOut]
  exact this
 | succ n ih =>
  intro l lo x acc i70 m hm hn hB h0 h1 ha
  obtain ⟨m, rfl⟩ : ∃ k, m = k + 1 := ⟨m - 1, by omega⟩
  have c1 : ((cnt - (n + 1) : Nat) : Int) < ((cnt : Nat) : Int) := by omega
  have w : IntKind.wrap .i64 ((((acc ++ [(lo, x, ())]).length : Nat) : Int) - 1) = ((acc.length : Nat) : Int) := by rw [wrap_i64 _ (by simp <;> omega) (by simp <;> omega)]; simp
  have c2 : ((acc.length : Nat) : Int) < (((acc ++ [(lo, x, ())]).length : Nat) : Int) := by simp; omega
  have g : (acc ++ [(lo, x, ())]).getD acc.length (Ty.dflt T_ranges_Range) = (lo, x, ()) := getD_mid acc _ [] _
  have wi : IntKind.wrap .u64 (((cnt - (n + 1) : Nat) : Int) + 1) = ((cnt - n : Nat) : Int) := by rw [wrap_u64 _ (by omega) (by omega)]; omega
  simp only [frame_framer_ack_h0_0, t_frame_framer_ack_h0_0, c1, decide_true, cond_true, w, nn, c2, and_self, Int.toNat_natCast, g, frame_reader_into_h11_eq, b_frame_reader_into_h11, number1_is _ _ _ _ _ _ _ _ _ _ _ _ hB, gapsP, pb]
  cases hv : vget l with
  | none => simp [obindP]
  | some p =>
   obtain ⟨gap, l1⟩ := p
   obtain ⟨q, rfl, _, hg, _⟩ := vget_some hv
   have hgI := hg hB
   have hB1 := hB.suf
   simp only [Option.map_some, obindP_ss, number1_is _ _ _ _ _ _ _ _ _ _ _ _ hB1]
   cases hv2 : vget l1 with
   | none => simp [obindP]
   | some p =>
    obtain ⟨len, l2⟩ := p
    obtain ⟨q2, rfl, _, hlen, _⟩ := vget_some hv2
    have hlI := hlen hB1
    have hB2 := hB1.suf
    obtain ⟨g0, g1⟩ := hgI
    obtain ⟨n0, n1⟩ := hlI
    simp only [Option.map_some, obindP_ss]
    rw [wrap_u64 (gap + 2) (by omega) (by omega)]
    by_cases d1 : gap + 2 ≤ lo
    ·
     rw [wrap_u64 (lo - gap) (by omega) (by omega), wrap_u64 (lo - gap - 2) (by omega) (by omega)]
     by_cases d2 : len ≤ lo - gap - 2
     ·
      rw [wrap_u64 (lo - gap - 2 - len) (by omega) (by omega)]
      have c3 : (acc ++ [(lo, x, ())]).length + [((lo - gap - 2 - len, (lo - gap - 2, ())) : D_ranges_Range)].length ≤ 4294967296 := by simp; omega
      simp only [d1, d2, decide_true, cond_true, frame_reader_need_h1_eq, b_frame_reader_need_h1, Bool.not_true, cond_false, obindP_ss, c3, wi, Bool.and_self, pg]
      rw [ih l2 (lo - gap - 2 - len) (lo - gap - 2) (acc ++ [(lo, x, ())]) len m (by omega) (by omega) hB2 (by omega) (by omega) (by simp; omega)]
      cases gapsP n (lo - gap - 2 - len) l2 with
      | none => simp only [Option.map_none]
      | some r => simp only [pr, ackOut, Option.map_some, List.append_assoc, List.cons_append, List.nil_append]
     · simp only [d1, d2, decide_true, decide_false, cond_true, frame_reader_need_h1_eq, b_frame_reader_need_h1, Bool.not_false, obindP_sn, Bool.and_false, pg, cond_false, Option.map_none]
    · simp only [d1, decide_false, cond_false, frame_reader_need_h1_eq, b_frame_reader_need_h1, Bool.not_false, cond_true, obindP_sn, Bool.false_and, pg, Option.map_none]
end
theorem last_is (s : ByteArray) (k id off mx code seq prior delay : Int) (fin : Bool) (data cid tok : ByteArray) (set : List D_ranges_Range) (h : FrOk (k, id, off, mx, code, seq, prior, delay, fin, data, cid, tok, set, ())) :
  frame_framer_read_h0_4 s k id off mx code seq prior delay fin data cid tok set = some (bif mayFr (k, id, off, mx, code, seq, prior, delay, fin, data, cid, tok, set, ()) then some (((s, ()), ((k, id, off, mx, code, seq, prior, delay, fin, data, cid, tok, set, ()), ())), ()) else none) := by
 rw [frame_framer_read_h0_4_eq, b_frame_framer_read_h0_4, may_is_fr _ h]
 simp only [obind_some, need_is]
 cases mayFr (k, id, off, mx, code, seq, prior, delay, fin, data, cid, tok, set, ()) <;> rfl
theorem last_out (r : List Int) (k id off mx code seq prior delay : Int) (fin : Bool) (data cid tok : ByteArray) (set : List D_ranges_Range) (h : FrOk (k, id, off, mx, code, seq, prior, delay, fin, data, cid, tok, set, ())) :
  frame_framer_read_h0_4 (bytesStr r) k id off mx code seq prior delay fin data cid tok set = outP (finP' (k, id, off, mx, code, seq, prior, delay, fin, data, cid, tok, set, ()) r) := by
 rw [last_is _ _ _ _ _ _ _ _ _ _ _ _ _ _ h]
 simp only [finP', pb, pg]
 cases mayFr (k, id, off, mx, code, seq, prior, delay, fin, data, cid, tok, set, ()) <;> rfl
theorem in62_64 {n : Int} (h : In62 n) : 0 ≤ n ∧ n < 18446744073709551616 := by unfold In62 at h; omega
theorem in62_0 : In62 0 := by unfold In62; omega
theorem frok0 {k id off mx code seq prior delay : Int} {fin : Bool} {data cid tok : ByteArray} (h1 : In62 k) (h2 : In62 id) (h3 : In62 off) (h4 : In62 mx) (h5 : In62 code) (h6 : In62 seq) (h7 : In62 prior) (h8 : In62 delay) :
  FrOk (k, id, off, mx, code, seq, prior, delay, fin, data, cid, tok, [], ()) :=
 ⟨in62_64 h1, in62_64 h2, in62_64 h3, in62_64 h4, in62_64 h5, in62_64 h6, in62_64 h7, in62_64 h8, by simp, by simp⟩
theorem rest_pb {f : ByteArray → Pr D_frame_Frame} {l : List Int} {fr : D_frame_Frame} {k : ByteArray × D_frame_framer × Unit → Option (Option (D_frame_framer × Unit))} (hB : Byt l) (hl : l.length ≤ 1000000)
  (H : k (bytesStr l, (st [] fr, ())) = outP (f (bytesStr l) [])) : obindP (frame_reader_take_h0 ((l.length : Nat) : Int) (st l fr)) (some none) k = outP (pb prest f l) := by
 rw [take_is hB fr _ (by omega) hl]
 simp only [ptake, Nat.le_refl, if_true, Option.map_some, obindP_ss, List.take_length, List.drop_length, pb, prest]
 exact H
theorem stream0_is (q : Int) (len : Bool) (hq : (bits .and .u64 q 2 != 0) = len) (id off : Int) (fin : Bool) {l : List Int} (hB : Byt l) (hl : l.length ≤ 1000000) (h1 : In62 id) (h2 : In62 off) :
  obindP (frame_framer_stream_h0_0 q (st l (8, id, off, 0, 0, 0, 0, 0, fin, eB, eB, eB, [], ()))) (some none) (fun y => frame_framer_read_h0_4 y.1.1.1 y.1.2.1.1 y.1.2.1.2.1 y.1.2.1.2.2.1 y.1.2.1.2.2.2.1 y.1.2.1.2.2.2.2.1 y.1.2.1.2.2.2.2.2.1 y.1.2.1.2.2.2.2.2.2.1 y.1.2.1.2.2.2.2.2.2.2.1 y.1.2.1.2.2.2.2.2.2.2.2.1 y.1.2.1.2.2.2.2.2.2.2.2.2.1 y.1.2.1.2.2.2.2.2.2.2.2.2.2.1 y.1.2.1.2.2.2.2.2.2.2.2.2.2.2.1 y.1.2.1.2.2.2.2.2.2.2.2.2.2.2.2.1) =
   outP (pb (bif len then plong else prest) (fun data => finP' (8, id, off, 0, 0, 0, 0, 0, fin, data, eB, eB, [], ())) l) := by
 have i8 : In62 8 := by unfold In62; omega
 rw [frame_framer_stream_h0_0_eq, b_frame_framer_stream_h0_0]
 simp only [hq]
 cases len with
 | true =>
  simp only [cond_true, obindP_assoc, obindP_ss]
  refine long_pb hB hl fun bs r hr hlr hbs => ?_
  exact last_out r _ _ _ _ _ _ _ _ _ _ _ _ _ (frok0 i8 h1 h2 in62_0 in62_0 in62_0 in62_0 in62_0)
 | false =>
  simp only [cond_false, obindP_assoc, obindP_ss, bytesStr_size]
  refine rest_pb hB hl ?_
  exact last_out [] _ _ _ _ _ _ _ _ _ _ _ _ _ (frok0 i8 h1 h2 in62_0 in62_0 in62_0 in62_0 in62_0)
theorem stream_pb (q : Int) (fin off len : Bool) (h1 : (bits .and .u64 q 1 != 0) = fin) (h4 : (bits .and .u64 q 4 != 0) = off) (h2 : (bits .and .u64 q 2 != 0) = len) {l : List Int} (hB : Byt l) (hl : l.length ≤ 1000000) :
  obindP (frame_framer_stream_h0 q (st l (zF q))) (some none) (fun y => frame_framer_read_h0_4 y.1.1.1 y.1.2.1.1 y.1.2.1.2.1 y.1.2.1.2.2.1 y.1.2.1.2.2.2.1 y.1.2.1.2.2.2.2.1 y.1.2.1.2.2.2.2.2.1 y.1.2.1.2.2.2.2.2.2.1 y.1.2.1.2.2.2.2.2.2.2.1 y.1.2.1.2.2.2.2.2.2.2.2.1 y.1.2.1.2.2.2.2.2.2.2.2.2.1 y.1.2.1.2.2.2.2.2.2.2.2.2.2.1 y.1.2.1.2.2.2.2.2.2.2.2.2.2.2.1 y.1.2.1.2.2.2.2.2.2.2.2.2.2.2.2.1) =
   outP (pb (streamP fin off len) finP' l) := by
 rw [frame_framer_stream_h0_eq, b_frame_framer_stream_h0]
 simp only [h1, h4, frame_reader_into_h12_eq, b_frame_reader_into_h12, obindP_assoc, obindP_ss, streamP, pb_assoc, pb_pr]
 refine num_pb hB fun id r hid hr hlr => ?_
 cases off with
 | true =>
  simp only [cond_true, frame_reader_into_h1_eq, b_frame_reader_into_h1, obindP_assoc, obindP_ss]
  refine num_pb hr fun o r2 ho hr2 hlr2 => ?_
  exact stream0_is q len h2 id o fin hr2 (by omega) hid ho
 | false =>
  simp only [cond_false, pb_pr]
  exact stream0_is q len h2 id 0 fin hr (by omega) hid in62_0
theorem gaps_ok : ∀ (n : Nat) (lo : Int) (l : List Int) (rs : List D_ranges_Range) (r : List Int), gapsP n lo l = some (rs, r) → Byt l → 0 ≤ lo → In62 lo → rs.length = n ∧ ∀ x ∈ rs, In62 x.1 ∧ In62 x.2.1
 | 0, lo, l, rs, r, h, _, _, _ => by cases h; simp
 | n + 1, lo, l, rs, r, h, hB, h0, hlo => by
  simp only [gapsP] at h
  obtain ⟨gap, l1, e1, h⟩ := pb_some h
  obtain ⟨len, l2, e2, h⟩ := pb_some h
  obtain ⟨⟨⟩, l3, e3, h⟩ := pb_some h
  obtain ⟨rs', l4, e4, h⟩ := pb_some h
  cases h
  obtain ⟨q1, rfl, _, g1, _⟩ := vget_some e1
  obtain ⟨q2, rfl, _, g2, _⟩ := vget_some e2
  have i1 := g1 hB
  have i2 := g2 hB.suf
  cases hc : (decide (gap + 2 ≤ lo) && decide (len ≤ lo - gap - 2)) with
  | false => rw [hc] at e3; cases e3
  | true =>
   rw [hc] at e3
   cases e3
   simp only [Bool.and_eq_true, decide_eq_true_eq] at hc
   obtain ⟨c1, c2⟩ := hc
   obtain ⟨a0, a1⟩ := i1
   obtain ⟨b0, b1⟩ := i2
   obtain ⟨_, lo1⟩ := hlo
   obtain ⟨k1, k2⟩ := gaps_ok n _ _ _ _ e4 hB.suf.suf (by omega) ⟨by omega, by omega⟩
   refine ⟨by simp [k1], fun x hx => ?_⟩
   rcases List.mem_cons.mp hx with rfl | hx
   · exact ⟨⟨by show 0 ≤ lo - gap - 2 - len; omega, by show lo - gap - 2 - len < _; omega⟩, ⟨by show 0 ≤ lo - gap - 2; omega, by show lo - gap - 2 < _; omega⟩⟩
   · exact k2 x hx
theorem ack_pb {l : List Int} (hB : Byt l) :
  obindP (frame_framer_ack_h0 (st l (zF 2))) (some none) (fun y => frame_framer_read_h0_4 y.1 y.2.1 y.2.2.1 y.2.2.2.1 y.2.2.2.2.1 y.2.2.2.2.2.1 y.2.2.2.2.2.2.1 y.2.2.2.2.2.2.2.1 y.2.2.2.2.2.2.2.2.1 y.2.2.2.2.2.2.2.2.2.1 y.2.2.2.2.2.2.2.2.2.2.1 y.2.2.2.2.2.2.2.2.2.2.2.1 y.2.2.2.2.2.2.2.2.2.2.2.2.1 y.2.2.2.2.2.2.2.2.2.2.2.2.2.1) =
   outP (pb ackP finP' l) := by
 rw [frame_framer_ack_h0_eq, b_frame_framer_ack_h0]
 simp only [frame_reader_into_h10_eq, b_frame_reader_into_h10, obindP_assoc, obindP_ss, ackP, pb_assoc, pb_pr]
 refine num_pb hB fun hi r1 h1 hr1 _ => ?_
 refine num_pb hr1 fun delay r2 h2 hr2 _ => ?_
 refine num_pb hr2 fun cnt r3 h3 hr3 _ => ?_
 refine num_pb hr3 fun first r4 h4 hr4 _ => ?_
 simp only [need_is]
 obtain ⟨a0, a1⟩ := h1
 obtain ⟨c0, c1⟩ := h3
 obtain ⟨f0, f1⟩ := h4
 by_cases e1 : cnt < 32
 ·
  by_cases e2 : first ≤ hi
  ·
   rw [wrap_u64 (hi - first) (by omega) (by omega)]
   simp only [e1, e2, decide_true, cond_true, obindP_ss, Bool.and_self, frame_framer_ack_h0_0'_eq, b_frame_framer_ack_h0_0', pb_gt rfl]
   have := ack_loop 2 0 0 0 0 0 0 delay false eB eB eB cnt.toNat (by omega) cnt.toNat r4 (hi - first) hi [] first (Int.toNat (cnt - 0) + 2) (by omega) (Nat.le_refl _) hr4 (by omega) (by omega) (by simp; omega)
   rw [show ((cnt.toNat : Nat) : Int) = cnt by omega, Nat.sub_self] at this
   simp only [List.nil_append] at this
   rw [show ((0 : Nat) : Int) = 0 from rfl] at this
   rw [this]
   simp only [pb]
   cases hg : gapsP cnt.toNat (hi - first) r4 with
   | none => rfl
   | some x =>
    obtain ⟨rs, r5⟩ := x
    obtain ⟨k1, k2⟩ := gaps_ok _ _ _ _ _ hg hr4 (by omega) ⟨by omega, by omega⟩
    simp only [Option.map_some, obindP_ss, ackOut]
    have i2 : In62 2 := by unfold In62; omega
    have ok0 := frok0 (k := 2) (id := 0) (off := 0) (mx := 0) (code := 0) (seq := 0) (prior := 0) (delay := delay) (fin := false) (data := eB) (cid := eB) (tok := eB) i2 in62_0 in62_0 in62_0 in62_0 in62_0 in62_0 h2
    refine last_out r5 _ _ _ _ _ _ _ _ _ _ _ _ _ ⟨ok0.kind, ok0.id, ok0.off, ok0.max, ok0.code, ok0.seq, ok0.prior, ok0.delay, fun x hx => ?_, ?_⟩
    ·
     simp only [List.mem_reverse, List.cons_append, List.nil_append, List.mem_cons] at hx
     rcases hx with rfl | hx
     · exact ⟨⟨by show 0 ≤ hi - first; omega, by show hi - first < _; omega⟩, ⟨a0, by show hi < _; omega⟩⟩
     · exact ⟨in62_64 (k2 x hx).1, in62_64 (k2 x hx).2⟩
    ·
     show (([(hi - first, hi, ())] ++ rs).reverse).length ≤ 9223372036854775807
     simp; omega
  ·
   simp only [e1, e2, decide_true, decide_false, cond_true, cond_false, obindP_sn, Bool.and_false]
   simp only [pb, pg, cond_false, outP, Option.map_none]
 ·
  simp only [e1, decide_false, cond_false, obindP_sn, Bool.false_and]
  simp only [pb, pg, cond_false, outP, Option.map_none]
end Go.Proofs.YtjdjlijjolibkaaDoor.V
