/- The law PathAnswers, part 4 of 4: what is proved: for every input that can be read the call of PathAnswers returns true and leaves its arguments alone. No conditions but the listed tables of the card. -/
import Derived.OpenShut
import Derived.LaidHandle
import Derived.LaidMore
import Derived.Stop.Joined
import Derived.Test.YtjdjlijjolibkaaDoorRows
import Derived.Test.YtjdjlijjolibkaaDoorCards
import Derived.Test.YtjdjlijjolibkaaDoorTie
import Derived.SevenTiedAt
import Derived.Test.YtjdjlijjolibkaaDoorZ3
namespace Go.Proofs.YtjdjlijjolibkaaDoor.V
open Go.RowKit Go.Proofs.Tryd
set_option maxRecDepth 100000
set_option linter.unusedVariables false
noncomputable def m_frame_writer_stream_h0 : Mach prog Inv gInv := mach bas [(73, f73), (74, f74), (113, f113), (115, f115), (147, f147)] ⟨ok73, ok74, ok113, ok115, ok147, trivial⟩ [(114, c_varint_Puts)] ⟨⟨c_varint_Puts_ok, FnOk.callable ok114⟩, trivial⟩ [] trivial [(147, h_strings_Builder_copyCheck_h0), (147, h_strings_Builder_copyCheck_h1), (147, h_strings_Builder_copyCheck_h2), (74, h_frame_writer_numbers_h0), (147, h_strings_Builder_copyCheck_h3), (74, h_frame_writer_numbers_h1), (113, h_frame_writer_long_h0)] ⟨⟨h_strings_Builder_copyCheck_h0_ok, FnOk.callable ok147⟩, ⟨h_strings_Builder_copyCheck_h1_ok, FnOk.callable ok147⟩, ⟨h_strings_Builder_copyCheck_h2_ok, FnOk.callable ok147⟩, ⟨h_frame_writer_numbers_h0_ok, FnOk.callable ok74⟩, ⟨h_strings_Builder_copyCheck_h3_ok, FnOk.callable ok147⟩, ⟨h_frame_writer_numbers_h1_ok, FnOk.callable ok74⟩, ⟨h_frame_writer_long_h0_ok, FnOk.callable ok113⟩, trivial⟩
@[reducible] noncomputable def pa_frame_writer_stream_h0 : List Pat := [.ptr 0 0, .dat T_frame_Frame]
@[reducible] noncomputable def pH_frame_writer_stream_h0 : List HPat := [.cells 132 [.nilPtr, .nilSlice]]
/-! ### (*domino/frame.writer).stream -/
abbrev R_frame_writer_stream_h0 : Type := (List Int) × Unit
@[reducible] noncomputable def qa_frame_writer_stream_h0 : List Pat := []
@[reducible] noncomputable def qH_frame_writer_stream_h0 : List HPat := [.cells 132 [.ptr 0 0, .all 1], .row (.byt 5)]
noncomputable def g_frame_writer_stream_h0 : HCon := ⟨pa_frame_writer_stream_h0, pH_frame_writer_stream_h0, qa_frame_writer_stream_h0, qH_frame_writer_stream_h0, R_frame_writer_stream_h0, fun _ => none, fun r => ((), (((), ((), ())), (r.1, ()))), fun y => (y.2.2.1, ()), fun _ => rfl⟩
def ks_frame_writer_stream_h0 : List Nat := [73, 74, 113, 115, 147]
abbrev H_frame_writer_stream_h0 (base : Base) (S0 : Nat → Prop) := base.n = 1 ∧ FinOk (finH g_frame_writer_stream_h0) base S0 (HPost g_frame_writer_stream_h0 base S0)
abbrev J_frame_writer_stream_h0 (base : Base) (S0 : Nat → Prop) (cs0 : List Go.Frame) (p : CPat) (J : denC p → Option R_frame_writer_stream_h0) := JSound m_frame_writer_stream_h0 base S0 cs0 (HPost g_frame_writer_stream_h0 base S0) p J
abbrev O_frame_writer_stream_h0 (base : Base) (S0 : Nat → Prop) (cs0 : List Go.Frame) (X : Cfg → Option (Option R_frame_writer_stream_h0)) := OSound m_frame_writer_stream_h0 base S0 cs0 (HPost g_frame_writer_stream_h0 base S0) X
@[reducible] noncomputable def p_frame_writer_stream_h0_2 : CPat := ⟨⟨73, [1, 1, 1, 1, 1, 1], none, [.ptr 0 0, .any, .any, .ptr 1 0], 28⟩, [], [.cells 132 [.ptr 0 0, .all 2], .dat 34 T_frame_Frame, .row (.byt 5)], 1⟩
@[reducible] noncomputable def u_frame_writer_stream_h0_2 (k : D_frame_Frame → (List Int) → Option R_frame_writer_stream_h0) : denC p_frame_writer_stream_h0_2 → Option R_frame_writer_stream_h0 := fun x => k x.2.2.2.1 x.2.2.2.2.1
noncomputable def b_frame_writer_stream_h0_2 (d14 : D_frame_Frame) (l15 : (List Int)) : Option R_frame_writer_stream_h0 :=
  obind (frame_writer_long_h0 d14.2.2.2.2.2.2.2.2.2.1 l15) fun y16 =>
  some (y16.1, ())
theorem ex_frame_writer_stream_h0_2 : ∃ f, f = @b_frame_writer_stream_h0_2 := ⟨_, rfl⟩
noncomputable def frame_writer_stream_h0_2 := Classical.choose ex_frame_writer_stream_h0_2
theorem frame_writer_stream_h0_2_eq : @frame_writer_stream_h0_2 = @b_frame_writer_stream_h0_2 := Classical.choose_spec ex_frame_writer_stream_h0_2
theorem s_frame_writer_stream_h0_2 {base S0 cs0} (hfin : H_frame_writer_stream_h0 base S0) : J_frame_writer_stream_h0 base S0 cs0 p_frame_writer_stream_h0_2 (u_frame_writer_stream_h0_2 (frame_writer_stream_h0_2)) :=
  JSound.join hfin.2 (OSound.nowhere) ks_frame_writer_stream_h0 100000 (by rw [frame_writer_stream_h0_2_eq]; intro x; kernel_rfl)
noncomputable def x_frame_writer_stream_h0_2 : Cfg → Option (Option R_frame_writer_stream_h0) := cut p_frame_writer_stream_h0_2 (u_frame_writer_stream_h0_2 (frame_writer_stream_h0_2)) (nowhere)
theorem o_frame_writer_stream_h0_2 {base S0 cs0} (hfin : H_frame_writer_stream_h0 base S0) : O_frame_writer_stream_h0 base S0 cs0 (x_frame_writer_stream_h0_2) := OSound.cut (OSound.nowhere) (Nat.le_of_eq hfin.1) (s_frame_writer_stream_h0_2 hfin)
@[reducible] noncomputable def p_frame_writer_stream_h0_1 : CPat := ⟨⟨73, [1, 1, 1, 1], none, [.ptr 0 0, .any, .any, .ptr 1 0, .int .u64], 27⟩, [], [.cells 132 [.nilPtr, .nilSlice], .dat 34 T_frame_Frame], 1⟩
@[reducible] noncomputable def u_frame_writer_stream_h0_1 (k : Int → D_frame_Frame → Option R_frame_writer_stream_h0) : denC p_frame_writer_stream_h0_1 → Option R_frame_writer_stream_h0 := fun x => k x.1.2.2.2.2.1 x.2.2.2.1
noncomputable def b_frame_writer_stream_h0_1 (i8 : Int) (d9 : D_frame_Frame) : Option R_frame_writer_stream_h0 :=
  obind (frame_writer_numbers_h0 (i8 :: (d9.2.1 :: ([] : List Int)))) fun y10 =>
  let b11 : Bool := (d9.2.2.1 != (0 : Int))
  bif b11 then
    obind (frame_writer_numbers_h1 (d9.2.2.1 :: ([] : List Int)) y10.2.1) fun y12 =>
    frame_writer_stream_h0_2 d9 y12.2.1
  else
    frame_writer_stream_h0_2 d9 y10.2.1
theorem ex_frame_writer_stream_h0_1 : ∃ f, f = @b_frame_writer_stream_h0_1 := ⟨_, rfl⟩
noncomputable def frame_writer_stream_h0_1 := Classical.choose ex_frame_writer_stream_h0_1
theorem frame_writer_stream_h0_1_eq : @frame_writer_stream_h0_1 = @b_frame_writer_stream_h0_1 := Classical.choose_spec ex_frame_writer_stream_h0_1
theorem s_frame_writer_stream_h0_1 {base S0 cs0} (hfin : H_frame_writer_stream_h0 base S0) : J_frame_writer_stream_h0 base S0 cs0 p_frame_writer_stream_h0_1 (u_frame_writer_stream_h0_1 (frame_writer_stream_h0_1)) :=
  JSound.join hfin.2 (o_frame_writer_stream_h0_2 hfin) ks_frame_writer_stream_h0 100000 (by rw [frame_writer_stream_h0_1_eq]; intro x; kernel_rfl)
noncomputable def x_frame_writer_stream_h0_1 : Cfg → Option (Option R_frame_writer_stream_h0) := cut p_frame_writer_stream_h0_1 (u_frame_writer_stream_h0_1 (frame_writer_stream_h0_1)) (x_frame_writer_stream_h0_2)
theorem o_frame_writer_stream_h0_1 {base S0 cs0} (hfin : H_frame_writer_stream_h0 base S0) : O_frame_writer_stream_h0 base S0 cs0 (x_frame_writer_stream_h0_1) := OSound.cut (o_frame_writer_stream_h0_2 hfin) (Nat.le_of_eq hfin.1) (s_frame_writer_stream_h0_1 hfin)
@[reducible] noncomputable def p_frame_writer_stream_h0_0 : CPat := ⟨⟨73, [1, 1, 1], none, [.ptr 0 0, .any, .any, .ptr 1 0, .int .u64], 27⟩, [], [.cells 132 [.nilPtr, .nilSlice], .dat 34 T_frame_Frame], 1⟩
@[reducible] noncomputable def u_frame_writer_stream_h0_0 (k : Int → D_frame_Frame → Option R_frame_writer_stream_h0) : denC p_frame_writer_stream_h0_0 → Option R_frame_writer_stream_h0 := fun x => k x.1.2.2.2.2.1 x.2.2.2.1
noncomputable def b_frame_writer_stream_h0_0 (i3 : Int) (d4 : D_frame_Frame) : Option R_frame_writer_stream_h0 :=
  bif d4.2.2.2.2.2.2.2.2.1 then
    let n5 : Int := (bits Go.BinOp.or Go.IntKind.u64 i3 (1 : Int))
    frame_writer_stream_h0_1 n5 d4
  else
    frame_writer_stream_h0_1 i3 d4
theorem ex_frame_writer_stream_h0_0 : ∃ f, f = @b_frame_writer_stream_h0_0 := ⟨_, rfl⟩
noncomputable def frame_writer_stream_h0_0 := Classical.choose ex_frame_writer_stream_h0_0
theorem frame_writer_stream_h0_0_eq : @frame_writer_stream_h0_0 = @b_frame_writer_stream_h0_0 := Classical.choose_spec ex_frame_writer_stream_h0_0
theorem s_frame_writer_stream_h0_0 {base S0 cs0} (hfin : H_frame_writer_stream_h0 base S0) : J_frame_writer_stream_h0 base S0 cs0 p_frame_writer_stream_h0_0 (u_frame_writer_stream_h0_0 (frame_writer_stream_h0_0)) :=
  JSound.join hfin.2 (o_frame_writer_stream_h0_1 hfin) ks_frame_writer_stream_h0 100000 (by rw [frame_writer_stream_h0_0_eq]; intro x; kernel_rfl)
noncomputable def x_frame_writer_stream_h0_0 : Cfg → Option (Option R_frame_writer_stream_h0) := cut p_frame_writer_stream_h0_0 (u_frame_writer_stream_h0_0 (frame_writer_stream_h0_0)) (x_frame_writer_stream_h0_1)
theorem o_frame_writer_stream_h0_0 {base S0 cs0} (hfin : H_frame_writer_stream_h0 base S0) : O_frame_writer_stream_h0 base S0 cs0 (x_frame_writer_stream_h0_0) := OSound.cut (o_frame_writer_stream_h0_1 hfin) (Nat.le_of_eq hfin.1) (s_frame_writer_stream_h0_0 hfin)
noncomputable def b_frame_writer_stream_h0 (d0 : D_frame_Frame) : Option R_frame_writer_stream_h0 :=
  let b1 : Bool := (d0.2.2.1 != (0 : Int))
  bif b1 then
    let n2 : Int := (bits Go.BinOp.or Go.IntKind.u64 (10 : Int) (4 : Int))
    frame_writer_stream_h0_0 n2 d0
  else
    frame_writer_stream_h0_0 (10 : Int) d0
theorem ex_frame_writer_stream_h0 : ∃ f, f = @b_frame_writer_stream_h0 := ⟨_, rfl⟩
noncomputable def frame_writer_stream_h0 := Classical.choose ex_frame_writer_stream_h0
theorem frame_writer_stream_h0_eq : @frame_writer_stream_h0 = @b_frame_writer_stream_h0 := Classical.choose_spec ex_frame_writer_stream_h0
noncomputable def hb_frame_writer_stream_h0 : HCon := ⟨pa_frame_writer_stream_h0, pH_frame_writer_stream_h0, qa_frame_writer_stream_h0, qH_frame_writer_stream_h0, R_frame_writer_stream_h0, fun x => b_frame_writer_stream_h0 x.1.2.1, fun r => ((), (((), ((), ())), (r.1, ()))), fun y => (y.2.2.1, ()), fun _ => rfl⟩
noncomputable def h_frame_writer_stream_h0 : HCon := ⟨pa_frame_writer_stream_h0, pH_frame_writer_stream_h0, qa_frame_writer_stream_h0, qH_frame_writer_stream_h0, R_frame_writer_stream_h0, fun x => frame_writer_stream_h0 x.1.2.1, fun r => ((), (((), ((), ())), (r.1, ()))), fun y => (y.2.2.1, ()), fun _ => rfl⟩
theorem hb_frame_writer_stream_h0_ok : hb_frame_writer_stream_h0.Sound prog Inv gInv 73 :=
  hcon_run (M := m_frame_writer_stream_h0) (f := f73) rfl ks_frame_writer_stream_h0 100000 (X := x_frame_writer_stream_h0_0) (fun base S0 cs0 hn hf => have hfin : H_frame_writer_stream_h0 base S0 := ⟨hn, hf⟩; o_frame_writer_stream_h0_0 hfin) (by intro x; kernel_rfl)
theorem h_frame_writer_stream_h0_ok : h_frame_writer_stream_h0.Sound prog Inv gInv 73 := by
  have e : h_frame_writer_stream_h0 = hb_frame_writer_stream_h0 := by unfold h_frame_writer_stream_h0 hb_frame_writer_stream_h0; rw [frame_writer_stream_h0_eq]
  rw [e]; exact hb_frame_writer_stream_h0_ok
end Go.Proofs.YtjdjlijjolibkaaDoor.V
namespace Go.Proofs.YtjdjlijjolibkaaDoor.V
open Go.RowKit Go.Proofs.Tryd
set_option maxRecDepth 100000
set_option linter.unusedVariables false
noncomputable def m_strings_Builder_WriteString_h0 : Mach prog Inv gInv := mach bas [(115, f115), (147, f147)] ⟨ok115, ok147, trivial⟩ [] trivial [] trivial [(147, h_strings_Builder_copyCheck_h0), (147, h_strings_Builder_copyCheck_h1), (147, h_strings_Builder_copyCheck_h2), (147, h_strings_Builder_copyCheck_h3)] ⟨⟨h_strings_Builder_copyCheck_h0_ok, FnOk.callable ok147⟩, ⟨h_strings_Builder_copyCheck_h1_ok, FnOk.callable ok147⟩, ⟨h_strings_Builder_copyCheck_h2_ok, FnOk.callable ok147⟩, ⟨h_strings_Builder_copyCheck_h3_ok, FnOk.callable ok147⟩, trivial⟩
@[reducible] noncomputable def pa_strings_Builder_WriteString_h0 : List Pat := [.ptr 0 0, .str]
@[reducible] noncomputable def pH_strings_Builder_WriteString_h0 : List HPat := [.cells 132 [.ptr 0 0, .all 1], .row (.byt 5)]
/-! ### (*strings.Builder).WriteString -/
abbrev R_strings_Builder_WriteString_h0 : Type := Int × (List Int) × Unit
@[reducible] noncomputable def qa_strings_Builder_WriteString_h0 : List Pat := [.int .i64, .nilIface]
@[reducible] noncomputable def qH_strings_Builder_WriteString_h0 : List HPat := [.cells 132 [.ptr 0 0, .all 2], .dead, .row (.byt 5)]
noncomputable def g_strings_Builder_WriteString_h0 : HCon := ⟨pa_strings_Builder_WriteString_h0, pH_strings_Builder_WriteString_h0, qa_strings_Builder_WriteString_h0, qH_strings_Builder_WriteString_h0, R_strings_Builder_WriteString_h0, fun _ => none, fun r => ((r.1, ((), ())), (((), ((), ())), ((), (r.2.1, ())))), fun y => (y.1.1, y.2.2.2.1, ()), fun _ => rfl⟩
def ks_strings_Builder_WriteString_h0 : List Nat := [115, 147]
noncomputable def b_strings_Builder_WriteString_h0 (s0 : ByteArray) (l1 : (List Int)) : Option R_strings_Builder_WriteString_h0 :=
  obind (strings_Builder_copyCheck_h3 l1) fun y2 =>
  bif (decide (((List.length y2.1) + (List.length (strBytes s0))) ≤ 4294967296)) then
    let l3 : (List Int) := (y2.1 ++ (strBytes s0))
    let n4 : Int := (((ByteArray.size s0) : Nat) : Int)
    some (n4, (l3, ()))
  else none
theorem ex_strings_Builder_WriteString_h0 : ∃ f, f = @b_strings_Builder_WriteString_h0 := ⟨_, rfl⟩
noncomputable def strings_Builder_WriteString_h0 := Classical.choose ex_strings_Builder_WriteString_h0
theorem strings_Builder_WriteString_h0_eq : @strings_Builder_WriteString_h0 = @b_strings_Builder_WriteString_h0 := Classical.choose_spec ex_strings_Builder_WriteString_h0
noncomputable def hb_strings_Builder_WriteString_h0 : HCon := ⟨pa_strings_Builder_WriteString_h0, pH_strings_Builder_WriteString_h0, qa_strings_Builder_WriteString_h0, qH_strings_Builder_WriteString_h0, R_strings_Builder_WriteString_h0, fun x => b_strings_Builder_WriteString_h0 x.1.2.1 x.2.2.1, fun r => ((r.1, ((), ())), (((), ((), ())), ((), (r.2.1, ())))), fun y => (y.1.1, y.2.2.2.1, ()), fun _ => rfl⟩
noncomputable def h_strings_Builder_WriteString_h0 : HCon := ⟨pa_strings_Builder_WriteString_h0, pH_strings_Builder_WriteString_h0, qa_strings_Builder_WriteString_h0, qH_strings_Builder_WriteString_h0, R_strings_Builder_WriteString_h0, fun x => strings_Builder_WriteString_h0 x.1.2.1 x.2.2.1, fun r => ((r.1, ((), ())), (((), ((), ())), ((), (r.2.1, ())))), fun y => (y.1.1, y.2.2.2.1, ()), fun _ => rfl⟩
theorem hb_strings_Builder_WriteString_h0_ok : hb_strings_Builder_WriteString_h0.Sound prog Inv gInv 115 :=
  hcon_run (M := m_strings_Builder_WriteString_h0) (f := f115) rfl ks_strings_Builder_WriteString_h0 100000 (X := nowhere) (fun base S0 cs0 hn hf => OSound.nowhere) (by intro x; kernel_rfl)
theorem h_strings_Builder_WriteString_h0_ok : h_strings_Builder_WriteString_h0.Sound prog Inv gInv 115 := by
  have e : h_strings_Builder_WriteString_h0 = hb_strings_Builder_WriteString_h0 := by unfold h_strings_Builder_WriteString_h0 hb_strings_Builder_WriteString_h0; rw [strings_Builder_WriteString_h0_eq]
  rw [e]; exact hb_strings_Builder_WriteString_h0_ok
end Go.Proofs.YtjdjlijjolibkaaDoor.V
namespace Go.Proofs.YtjdjlijjolibkaaDoor.V
open Go.RowKit Go.Proofs.Tryd
set_option maxRecDepth 100000
set_option linter.unusedVariables false
noncomputable def m_strings_Builder_WriteByte_h0 : Mach prog Inv gInv := mach bas [(118, f118), (147, f147)] ⟨ok118, ok147, trivial⟩ [] trivial [] trivial [(147, h_strings_Builder_copyCheck_h0), (147, h_strings_Builder_copyCheck_h1), (147, h_strings_Builder_copyCheck_h2), (147, h_strings_Builder_copyCheck_h3)] ⟨⟨h_strings_Builder_copyCheck_h0_ok, FnOk.callable ok147⟩, ⟨h_strings_Builder_copyCheck_h1_ok, FnOk.callable ok147⟩, ⟨h_strings_Builder_copyCheck_h2_ok, FnOk.callable ok147⟩, ⟨h_strings_Builder_copyCheck_h3_ok, FnOk.callable ok147⟩, trivial⟩
@[reducible] noncomputable def pa_strings_Builder_WriteByte_h0 : List Pat := [.ptr 0 0, .int .u8]
@[reducible] noncomputable def pH_strings_Builder_WriteByte_h0 : List HPat := [.cells 132 [.ptr 0 0, .all 1], .row (.byt 5)]
/-! ### (*strings.Builder).WriteByte -/
abbrev R_strings_Builder_WriteByte_h0 : Type := (List Int) × Unit
@[reducible] noncomputable def qa_strings_Builder_WriteByte_h0 : List Pat := [.nilIface]
@[reducible] noncomputable def qH_strings_Builder_WriteByte_h0 : List HPat := [.cells 132 [.ptr 0 0, .all 2], .dead, .row (.byt 5)]
noncomputable def g_strings_Builder_WriteByte_h0 : HCon := ⟨pa_strings_Builder_WriteByte_h0, pH_strings_Builder_WriteByte_h0, qa_strings_Builder_WriteByte_h0, qH_strings_Builder_WriteByte_h0, R_strings_Builder_WriteByte_h0, fun _ => none, fun r => (((), ()), (((), ((), ())), ((), (r.1, ())))), fun y => (y.2.2.2.1, ()), fun _ => rfl⟩
def ks_strings_Builder_WriteByte_h0 : List Nat := [118, 147]
noncomputable def b_strings_Builder_WriteByte_h0 (i0 : Int) (l1 : (List Int)) : Option R_strings_Builder_WriteByte_h0 :=
  obind (strings_Builder_copyCheck_h3 l1) fun y2 =>
  bif (decide (((List.length y2.1) + (List.length (i0 :: ([] : List Int)))) ≤ 4294967296)) then
    let l3 : (List Int) := (y2.1 ++ (i0 :: ([] : List Int)))
    some (l3, ())
  else none
theorem ex_strings_Builder_WriteByte_h0 : ∃ f, f = @b_strings_Builder_WriteByte_h0 := ⟨_, rfl⟩
noncomputable def strings_Builder_WriteByte_h0 := Classical.choose ex_strings_Builder_WriteByte_h0
theorem strings_Builder_WriteByte_h0_eq : @strings_Builder_WriteByte_h0 = @b_strings_Builder_WriteByte_h0 := Classical.choose_spec ex_strings_Builder_WriteByte_h0
noncomputable def hb_strings_Builder_WriteByte_h0 : HCon := ⟨pa_strings_Builder_WriteByte_h0, pH_strings_Builder_WriteByte_h0, qa_strings_Builder_WriteByte_h0, qH_strings_Builder_WriteByte_h0, R_strings_Builder_WriteByte_h0, fun x => b_strings_Builder_WriteByte_h0 x.1.2.1 x.2.2.1, fun r => (((), ()), (((), ((), ())), ((), (r.1, ())))), fun y => (y.2.2.2.1, ()), fun _ => rfl⟩
noncomputable def h_strings_Builder_WriteByte_h0 : HCon := ⟨pa_strings_Builder_WriteByte_h0, pH_strings_Builder_WriteByte_h0, qa_strings_Builder_WriteByte_h0, qH_strings_Builder_WriteByte_h0, R_strings_Builder_WriteByte_h0, fun x => strings_Builder_WriteByte_h0 x.1.2.1 x.2.2.1, fun r => (((), ()), (((), ((), ())), ((), (r.1, ())))), fun y => (y.2.2.2.1, ()), fun _ => rfl⟩
theorem hb_strings_Builder_WriteByte_h0_ok : hb_strings_Builder_WriteByte_h0.Sound prog Inv gInv 118 :=
  hcon_run (M := m_strings_Builder_WriteByte_h0) (f := f118) rfl ks_strings_Builder_WriteByte_h0 100000 (X := nowhere) (fun base S0 cs0 hn hf => OSound.nowhere) (by intro x; kernel_rfl)
theorem h_strings_Builder_WriteByte_h0_ok : h_strings_Builder_WriteByte_h0.Sound prog Inv gInv 118 := by
  have e : h_strings_Builder_WriteByte_h0 = hb_strings_Builder_WriteByte_h0 := by unfold h_strings_Builder_WriteByte_h0 hb_strings_Builder_WriteByte_h0; rw [strings_Builder_WriteByte_h0_eq]
  rw [e]; exact hb_strings_Builder_WriteByte_h0_ok
end Go.Proofs.YtjdjlijjolibkaaDoor.V
namespace Go.Proofs.YtjdjlijjolibkaaDoor.V
open Go.RowKit Go.Proofs.Tryd
set_option maxRecDepth 100000
set_option linter.unusedVariables false
noncomputable def m_frame_writer_parts_h0 : Mach prog Inv gInv := mach bas [(75, f75), (74, f74), (113, f113), (115, f115), (117, f117), (118, f118), (147, f147)] ⟨ok75, ok74, ok113, ok115, ok117, ok118, ok147, trivial⟩ [(114, c_varint_Puts)] ⟨⟨c_varint_Puts_ok, FnOk.callable ok114⟩, trivial⟩ [(116, c_slices_Clone_ranges_Range)] ⟨⟨c_slices_Clone_ranges_Range_ok, FnOk.callable ok116⟩, trivial⟩ [(147, h_strings_Builder_copyCheck_h0), (147, h_strings_Builder_copyCheck_h1), (147, h_strings_Builder_copyCheck_h2), (74, h_frame_writer_numbers_h0), (147, h_strings_Builder_copyCheck_h3), (74, h_frame_writer_numbers_h1), (113, h_frame_writer_long_h0), (115, h_strings_Builder_WriteString_h0), (118, h_strings_Builder_WriteByte_h0)] ⟨⟨h_strings_Builder_copyCheck_h0_ok, FnOk.callable ok147⟩, ⟨h_strings_Builder_copyCheck_h1_ok, FnOk.callable ok147⟩, ⟨h_strings_Builder_copyCheck_h2_ok, FnOk.callable ok147⟩, ⟨h_frame_writer_numbers_h0_ok, FnOk.callable ok74⟩, ⟨h_strings_Builder_copyCheck_h3_ok, FnOk.callable ok147⟩, ⟨h_frame_writer_numbers_h1_ok, FnOk.callable ok74⟩, ⟨h_frame_writer_long_h0_ok, FnOk.callable ok113⟩, ⟨h_strings_Builder_WriteString_h0_ok, FnOk.callable ok115⟩, ⟨h_strings_Builder_WriteByte_h0_ok, FnOk.callable ok118⟩, trivial⟩
@[reducible] noncomputable def pa_frame_writer_parts_h0 : List Pat := [.ptr 0 0, .dat T_frame_Frame]
@[reducible] noncomputable def pH_frame_writer_parts_h0 : List HPat := [.cells 132 [.ptr 0 0, .all 1], .row (.byt 5)]
/-! ### (*domino/frame.writer).parts -/
abbrev R_frame_writer_parts_h0 : Type := (List Int) × Unit
@[reducible] noncomputable def qa_frame_writer_parts_h0 : List Pat := []
@[reducible] noncomputable def qH_frame_writer_parts_h0 : List HPat := [.cells 132 [.ptr 0 0, .all 2], .dead, .row (.byt 5)]
noncomputable def g_frame_writer_parts_h0 : HCon := ⟨pa_frame_writer_parts_h0, pH_frame_writer_parts_h0, qa_frame_writer_parts_h0, qH_frame_writer_parts_h0, R_frame_writer_parts_h0, fun _ => none, fun r => ((), (((), ((), ())), ((), (r.1, ())))), fun y => (y.2.2.2.1, ()), fun _ => rfl⟩
def ks_frame_writer_parts_h0 : List Nat := [75, 74, 113, 115, 117, 118, 147]
abbrev H_frame_writer_parts_h0 (base : Base) (S0 : Nat → Prop) := base.n = 2 ∧ FinOk (finH g_frame_writer_parts_h0) base S0 (HPost g_frame_writer_parts_h0 base S0)
abbrev J_frame_writer_parts_h0 (base : Base) (S0 : Nat → Prop) (cs0 : List Go.Frame) (p : CPat) (J : denC p → Option R_frame_writer_parts_h0) := JSound m_frame_writer_parts_h0 base S0 cs0 (HPost g_frame_writer_parts_h0 base S0) p J
abbrev O_frame_writer_parts_h0 (base : Base) (S0 : Nat → Prop) (cs0 : List Go.Frame) (X : Cfg → Option (Option R_frame_writer_parts_h0)) := OSound m_frame_writer_parts_h0 base S0 cs0 (HPost g_frame_writer_parts_h0 base S0) X
@[reducible] noncomputable def p_frame_writer_parts_h0_4 : CPat := ⟨⟨75, [1, 1, 0, 1, 1, 1, 1, 1, 1, 1, 1, 1, 1, 1, 1, 1, 1, 1, 1, 1], none, [.ptr 0 0, .any, .any, .ptr 2 0, .any, .any, .any, .any, .int .u64, .any, .any, .any, .any, .any, .any, .any, .any, .any, .any, .any, .any, .any, .any, .any, .any, .any, .any, .any, .any, .any, .any, .any, .any, .any, .any, .any, .any, .any, .any, .any, .any, .any, .any, .any, .any, .any, .any, .any, .any, .any, .any, .any, .any, .any, .any, .any, .any, .any, .any, .any, .any, .any, .any, .any, .any, .any, .any, .any, .any, .any, .any, .any, .any, .any, .any, .any, .any, .any, .any, .any, .any, .any, .any, .any, .any, .any, .any, .any, .any, .any, .any, .any, .any, .any, .any, .any, .any, .any, .any, .any, .any, .any, .any, .any, .any, .any, .any, .any, .any, .any, .any, .any, .any, .any, .any, .any, .any, .any, .any, .any, .any, .any, .any, .any, .any, .any, .any, .any, .any, .any, .any, .any, .any, .any, .any, .any, .any, .any, .any, .any, .any, .any, .any, .any, .any, .any, .any, .any, .any, .any, .bool], 32⟩, [], [.cells 132 [.ptr 0 0, .all 1], .row (.byt 5), .dat 34 T_frame_Frame], 2⟩
@[reducible] noncomputable def u_frame_writer_parts_h0_4 (k : Int → Bool → (List Int) → D_frame_Frame → Option R_frame_writer_parts_h0) : denC p_frame_writer_parts_h0_4 → Option R_frame_writer_parts_h0 := fun x => k x.1.2.2.2.2.2.2.2.2.1 x.1.2.2.2.2.2.2.2.2.2.2.2.2.2.2.2.2.2.2.2.2.2.2.2.2.2.2.2.2.2.2.2.2.2.2.2.2.2.2.2.2.2.2.2.2.2.2.2.2.2.2.2.2.2.2.2.2.2.2.2.2.2.2.2.2.2.2.2.2.2.2.2.2.2.2.2.2.2.2.2.2.2.2.2.2.2.2.2.2.2.2.2.2.2.2.2.2.2.2.2.2.2.2.2.2.2.2.2.2.2.2.2.2.2.2.2.2.2.2.2.2.2.2.2.2.2.2.2.2.2.2.2.2.2.2.2.2.2.2.2.2.2.2.2.2.2.2.2.2.2.2.1 x.2.2.2.1 x.2.2.2.2.1
noncomputable def b_frame_writer_parts_h0_4 (i125 : Int) (b126 : Bool) (l127 : (List Int)) (d128 : D_frame_Frame) : Option R_frame_writer_parts_h0 :=
  bif b126 then
    obind (strings_Builder_WriteString_h0 d128.2.2.2.2.2.2.2.2.2.2.2.1 l127) fun y129 =>
    some (y129.2.1, ())
  else
    let b130 : Bool := (i125 == (28 : Int))
    bif b130 then
      obind (frame_writer_numbers_h1 (d128.2.2.2.2.1 :: (d128.2.2.2.2.2.2.2.1 :: ([] : List Int))) l127) fun y131 =>
      obind (frame_writer_long_h0 d128.2.2.2.2.2.2.2.2.2.1 y131.2.1) fun y132 =>
      some (y132.1, ())
    else
      let b133 : Bool := (i125 == (29 : Int))
      bif b133 then
        obind (frame_writer_numbers_h1 (d128.2.2.2.2.1 :: ([] : List Int)) l127) fun y134 =>
        obind (frame_writer_long_h0 d128.2.2.2.2.2.2.2.2.2.1 y134.2.1) fun y135 =>
        some (y135.1, ())
      else
        some (l127, ())
theorem ex_frame_writer_parts_h0_4 : ∃ f, f = @b_frame_writer_parts_h0_4 := ⟨_, rfl⟩
noncomputable def frame_writer_parts_h0_4 := Classical.choose ex_frame_writer_parts_h0_4
theorem frame_writer_parts_h0_4_eq : @frame_writer_parts_h0_4 = @b_frame_writer_parts_h0_4 := Classical.choose_spec ex_frame_writer_parts_h0_4
theorem s_frame_writer_parts_h0_4 {base S0 cs0} (hfin : H_frame_writer_parts_h0 base S0) : J_frame_writer_parts_h0 base S0 cs0 p_frame_writer_parts_h0_4 (u_frame_writer_parts_h0_4 (frame_writer_parts_h0_4)) :=
  JSound.join hfin.2 (OSound.nowhere) ks_frame_writer_parts_h0 100000 (by rw [frame_writer_parts_h0_4_eq]; intro x; kernel_rfl)
noncomputable def x_frame_writer_parts_h0_4 : Cfg → Option (Option R_frame_writer_parts_h0) := cut p_frame_writer_parts_h0_4 (u_frame_writer_parts_h0_4 (frame_writer_parts_h0_4)) (nowhere)
theorem o_frame_writer_parts_h0_4 {base S0 cs0} (hfin : H_frame_writer_parts_h0 base S0) : O_frame_writer_parts_h0 base S0 cs0 (x_frame_writer_parts_h0_4) := OSound.cut (OSound.nowhere) (Nat.le_of_eq hfin.1) (s_frame_writer_parts_h0_4 hfin)
@[reducible] noncomputable def p_frame_writer_parts_h0_3 : CPat := ⟨⟨75, [1, 1, 0, 1, 1, 1, 1, 1, 1, 1, 1, 1, 1, 1], none, [.ptr 0 0, .any, .any, .ptr 2 0, .any, .any, .any, .any, .int .u64, .any, .any, .any, .any, .any, .any, .any, .any, .any, .any, .any, .any, .any, .any, .any, .any, .any, .any, .any, .any, .any, .any, .any, .any, .any, .any, .any, .any, .any, .any, .any, .any, .any, .any, .any, .any, .any, .any, .any, .any, .any, .any, .any, .any, .any, .any, .any, .any, .any, .any, .any, .any, .any, .any, .any, .any, .any, .any, .any, .any, .any, .any, .any, .any, .any, .any, .any, .any, .any, .any, .any, .any, .any, .any, .any, .any, .any, .any, .any, .any, .any, .any, .any, .any, .any, .any, .any, .any, .any, .any, .any, .any, .any, .any, .any, .any, .any, .any, .bool], 75⟩, [], [.cells 132 [.ptr 0 0, .all 1], .row (.byt 5), .dat 34 T_frame_Frame], 2⟩
@[reducible] noncomputable def u_frame_writer_parts_h0_3 (k : Int → Bool → (List Int) → D_frame_Frame → Option R_frame_writer_parts_h0) : denC p_frame_writer_parts_h0_3 → Option R_frame_writer_parts_h0 := fun x => k x.1.2.2.2.2.2.2.2.2.1 x.1.2.2.2.2.2.2.2.2.2.2.2.2.2.2.2.2.2.2.2.2.2.2.2.2.2.2.2.2.2.2.2.2.2.2.2.2.2.2.2.2.2.2.2.2.2.2.2.2.2.2.2.2.2.2.2.2.2.2.2.2.2.2.2.2.2.2.2.2.2.2.2.2.2.2.2.2.2.2.2.2.2.2.2.2.2.2.2.2.2.2.2.2.2.2.2.2.2.2.2.2.2.2.2.2.2.2.2.1 x.2.2.2.1 x.2.2.2.2.1
noncomputable def b_frame_writer_parts_h0_3 (i109 : Int) (b110 : Bool) (l111 : (List Int)) (d112 : D_frame_Frame) : Option R_frame_writer_parts_h0 :=
  bif b110 then
    obind (frame_writer_numbers_h1 (d112.2.1 :: (d112.2.2.2.1 :: ([] : List Int))) l111) fun y113 =>
    some (y113.2.1, ())
  else
    let b114 : Bool := (i109 == (24 : Int))
    bif b114 then
      obind (frame_writer_numbers_h1 (d112.2.2.2.2.2.1 :: (d112.2.2.2.2.2.2.1 :: ([] : List Int))) l111) fun y115 =>
      let n116 : Int := (((ByteArray.size d112.2.2.2.2.2.2.2.2.2.2.1) : Nat) : Int)
      let n117 : Int := (Go.IntKind.wrap Go.IntKind.u8 n116)
      obind (strings_Builder_WriteByte_h0 n117 y115.2.1) fun y118 =>
      bif (decide (((ByteArray.size d112.2.2.2.2.2.2.2.2.2.2.1) + (ByteArray.size d112.2.2.2.2.2.2.2.2.2.2.2.1)) ≤ 9223372036854775807)) then
        let s119 : ByteArray := (d112.2.2.2.2.2.2.2.2.2.2.1 ++ d112.2.2.2.2.2.2.2.2.2.2.2.1)
        obind (strings_Builder_WriteString_h0 s119 y118.1) fun y120 =>
        some (y120.2.1, ())
      else none
    else
      let b121 : Bool := (i109 == (25 : Int))
      bif b121 then
        obind (frame_writer_numbers_h1 (d112.2.2.2.2.2.1 :: ([] : List Int)) l111) fun y122 =>
        some (y122.2.1, ())
      else
        let b123 : Bool := (i109 == (26 : Int))
        bif b123 then
          frame_writer_parts_h0_4 i109 true l111 d112
        else
          let b124 : Bool := (i109 == (27 : Int))
          frame_writer_parts_h0_4 i109 b124 l111 d112
theorem ex_frame_writer_parts_h0_3 : ∃ f, f = @b_frame_writer_parts_h0_3 := ⟨_, rfl⟩
noncomputable def frame_writer_parts_h0_3 := Classical.choose ex_frame_writer_parts_h0_3
theorem frame_writer_parts_h0_3_eq : @frame_writer_parts_h0_3 = @b_frame_writer_parts_h0_3 := Classical.choose_spec ex_frame_writer_parts_h0_3
theorem s_frame_writer_parts_h0_3 {base S0 cs0} (hfin : H_frame_writer_parts_h0 base S0) : J_frame_writer_parts_h0 base S0 cs0 p_frame_writer_parts_h0_3 (u_frame_writer_parts_h0_3 (frame_writer_parts_h0_3)) :=
  JSound.join hfin.2 (o_frame_writer_parts_h0_4 hfin) ks_frame_writer_parts_h0 100000 (by rw [frame_writer_parts_h0_3_eq]; intro x; kernel_rfl)
noncomputable def x_frame_writer_parts_h0_3 : Cfg → Option (Option R_frame_writer_parts_h0) := cut p_frame_writer_parts_h0_3 (u_frame_writer_parts_h0_3 (frame_writer_parts_h0_3)) (x_frame_writer_parts_h0_4)
theorem o_frame_writer_parts_h0_3 {base S0 cs0} (hfin : H_frame_writer_parts_h0 base S0) : O_frame_writer_parts_h0 base S0 cs0 (x_frame_writer_parts_h0_3) := OSound.cut (o_frame_writer_parts_h0_4 hfin) (Nat.le_of_eq hfin.1) (s_frame_writer_parts_h0_3 hfin)
@[reducible] noncomputable def p_frame_writer_parts_h0_2 : CPat := ⟨⟨75, [1, 1, 0, 1, 1, 1, 1, 1, 1, 1, 1, 1], none, [.ptr 0 0, .any, .any, .ptr 2 0, .any, .any, .any, .any, .int .u64, .any, .any, .any, .any, .any, .any, .any, .any, .any, .any, .any, .any, .any, .any, .any, .any, .any, .any, .any, .any, .any, .any, .any, .any, .any, .any, .any, .any, .any, .any, .any, .any, .any, .any, .any, .any, .any, .any, .any, .any, .any, .any, .any, .any, .any, .any, .any, .any, .any, .any, .any, .any, .any, .any, .any, .any, .any, .any, .any, .any, .any, .any, .any, .any, .any, .any, .any, .any, .any, .any, .any, .any, .any, .any, .any, .any, .any, .any, .any, .any, .any, .any, .any, .any, .any, .any, .bool], 87⟩, [], [.cells 132 [.ptr 0 0, .all 1], .row (.byt 5), .dat 34 T_frame_Frame], 2⟩
@[reducible] noncomputable def u_frame_writer_parts_h0_2 (k : Int → Bool → (List Int) → D_frame_Frame → Option R_frame_writer_parts_h0) : denC p_frame_writer_parts_h0_2 → Option R_frame_writer_parts_h0 := fun x => k x.1.2.2.2.2.2.2.2.2.1 x.1.2.2.2.2.2.2.2.2.2.2.2.2.2.2.2.2.2.2.2.2.2.2.2.2.2.2.2.2.2.2.2.2.2.2.2.2.2.2.2.2.2.2.2.2.2.2.2.2.2.2.2.2.2.2.2.2.2.2.2.2.2.2.2.2.2.2.2.2.2.2.2.2.2.2.2.2.2.2.2.2.2.2.2.2.2.2.2.2.2.2.2.2.2.2.2.1 x.2.2.2.1 x.2.2.2.2.1
noncomputable def b_frame_writer_parts_h0_2 (i102 : Int) (b103 : Bool) (l104 : (List Int)) (d105 : D_frame_Frame) : Option R_frame_writer_parts_h0 :=
  bif b103 then
    obind (frame_writer_numbers_h1 (d105.2.2.2.1 :: ([] : List Int)) l104) fun y106 =>
    some (y106.2.1, ())
  else
    let b107 : Bool := (i102 == (17 : Int))
    bif b107 then
      frame_writer_parts_h0_3 i102 true l104 d105
    else
      let b108 : Bool := (i102 == (21 : Int))
      frame_writer_parts_h0_3 i102 b108 l104 d105
theorem ex_frame_writer_parts_h0_2 : ∃ f, f = @b_frame_writer_parts_h0_2 := ⟨_, rfl⟩
noncomputable def frame_writer_parts_h0_2 := Classical.choose ex_frame_writer_parts_h0_2
theorem frame_writer_parts_h0_2_eq : @frame_writer_parts_h0_2 = @b_frame_writer_parts_h0_2 := Classical.choose_spec ex_frame_writer_parts_h0_2
theorem s_frame_writer_parts_h0_2 {base S0 cs0} (hfin : H_frame_writer_parts_h0 base S0) : J_frame_writer_parts_h0 base S0 cs0 p_frame_writer_parts_h0_2 (u_frame_writer_parts_h0_2 (frame_writer_parts_h0_2)) :=
  JSound.join hfin.2 (o_frame_writer_parts_h0_3 hfin) ks_frame_writer_parts_h0 100000 (by rw [frame_writer_parts_h0_2_eq]; intro x; kernel_rfl)
noncomputable def x_frame_writer_parts_h0_2 : Cfg → Option (Option R_frame_writer_parts_h0) := cut p_frame_writer_parts_h0_2 (u_frame_writer_parts_h0_2 (frame_writer_parts_h0_2)) (x_frame_writer_parts_h0_3)
theorem o_frame_writer_parts_h0_2 {base S0 cs0} (hfin : H_frame_writer_parts_h0 base S0) : O_frame_writer_parts_h0 base S0 cs0 (x_frame_writer_parts_h0_2) := OSound.cut (o_frame_writer_parts_h0_3 hfin) (Nat.le_of_eq hfin.1) (s_frame_writer_parts_h0_2 hfin)
@[reducible] noncomputable def p_frame_writer_parts_h0_1 : CPat := ⟨⟨75, [1, 1, 0, 1, 0, 1, 1, 1, 1, 0], none, [.ptr 0 0, .any, .any, .any, .all 2, .any, .any, .any, .any, .any, .any, .any, .any, .any, .any, .any, .any, .any, .any, .any, .any, .any, .any, .any, .any, .any, .any, .any, .any, .any, .any, .any, .any, .any, .any, .any, .any, .any, .any, .sl 2, .int .i64, .int .i64], 141⟩, [], [.cells 132 [.ptr 0 0, .all 3], .dead, .row T_ranges_Range, .row (.byt 5)], 2⟩
@[reducible] noncomputable def u_frame_writer_parts_h0_1 (k : Nat → Nat → Int → Int → (List D_ranges_Range) → (List Int) → Option R_frame_writer_parts_h0) : denC p_frame_writer_parts_h0_1 → Option R_frame_writer_parts_h0 := fun x => k x.1.2.2.2.2.2.2.2.2.2.2.2.2.2.2.2.2.2.2.2.2.2.2.2.2.2.2.2.2.2.2.2.2.2.2.2.2.2.2.2.1.1 x.1.2.2.2.2.2.2.2.2.2.2.2.2.2.2.2.2.2.2.2.2.2.2.2.2.2.2.2.2.2.2.2.2.2.2.2.2.2.2.2.1.2 x.1.2.2.2.2.2.2.2.2.2.2.2.2.2.2.2.2.2.2.2.2.2.2.2.2.2.2.2.2.2.2.2.2.2.2.2.2.2.2.2.2.1 x.1.2.2.2.2.2.2.2.2.2.2.2.2.2.2.2.2.2.2.2.2.2.2.2.2.2.2.2.2.2.2.2.2.2.2.2.2.2.2.2.2.2.1 x.2.2.2.2.1 x.2.2.2.2.2.1
noncomputable def t_frame_writer_parts_h0_1 (k1 : Nat → Nat → Int → Int → (List D_ranges_Range) → (List Int) → Option R_frame_writer_parts_h0) (o72 : Nat) (k73 : Nat) (i74 : Int) (i75 : Int) (l76 : (List D_ranges_Range)) (l77 : (List Int)) : Option R_frame_writer_parts_h0 :=
  let b78 : Bool := (decide (i75 < i74))
  bif b78 then
    bif (decide (((0 : Int) ≤ i75) ∧ (i75 < ((k73 : Nat) : Int)))) then
      let i79 : Nat := (o72 + (Int.toNat i75))
      let n80 : Int := (List.getD l76 i79 (Ty.dflt T_ranges_Range)).1
      let n81 : Int := (List.getD l76 i79 (Ty.dflt T_ranges_Range)).2.1
      bif (decide (((0 : Int) ≤ i75) ∧ (i75 < (((List.length l76) : Nat) : Int)))) then
        let i82 : Nat := (Int.toNat i75)
        let n83 : Int := (List.getD l76 i82 (Ty.dflt T_ranges_Range)).1
        let n84 : Int := (Go.IntKind.wrap Go.IntKind.u64 (n83 - n81))
        let n85 : Int := (Go.IntKind.wrap Go.IntKind.u64 (n84 - (2 : Int)))
        let n86 : Int := (Go.IntKind.wrap Go.IntKind.u64 (n81 - n80))
        obind (frame_writer_numbers_h1 (n85 :: (n86 :: ([] : List Int))) l77) fun y87 =>
        let n88 : Int := (Go.IntKind.wrap Go.IntKind.i64 (i75 + (1 : Int)))
        k1 o72 k73 i74 n88 l76 y87.2.1
      else none
    else none
  else
    some (l77, ())
noncomputable def frame_writer_parts_h0_1 : Nat → Nat → Nat → Int → Int → (List D_ranges_Range) → (List Int) → Option R_frame_writer_parts_h0
  | 0 => fun _ _ _ _ _ _ => none
  | m + 1 => t_frame_writer_parts_h0_1 (frame_writer_parts_h0_1 m)
noncomputable def b_frame_writer_parts_h0_1' (o72 : Nat) (k73 : Nat) (i74 : Int) (i75 : Int) (l76 : (List D_ranges_Range)) (l77 : (List Int)) : Option R_frame_writer_parts_h0 := frame_writer_parts_h0_1 (Int.toNat (i74 - i75) + 2) o72 k73 i74 i75 l76 l77
theorem ex_frame_writer_parts_h0_1' : ∃ f, f = @b_frame_writer_parts_h0_1' := ⟨_, rfl⟩
noncomputable def frame_writer_parts_h0_1' := Classical.choose ex_frame_writer_parts_h0_1'
theorem frame_writer_parts_h0_1'_eq : @frame_writer_parts_h0_1' = @b_frame_writer_parts_h0_1' := Classical.choose_spec ex_frame_writer_parts_h0_1'
theorem s_frame_writer_parts_h0_1 {base S0 cs0} (hfin : H_frame_writer_parts_h0 base S0) : ∀ m, J_frame_writer_parts_h0 base S0 cs0 p_frame_writer_parts_h0_1 (u_frame_writer_parts_h0_1 (frame_writer_parts_h0_1 m)) :=
  JSound.loop' hfin.2 ks_frame_writer_parts_h0 100000 u_frame_writer_parts_h0_1 (fun k1 => cut p_frame_writer_parts_h0_1 (u_frame_writer_parts_h0_1 k1) (x_frame_writer_parts_h0_2)) (fun k1 h1 => OSound.cut (o_frame_writer_parts_h0_2 hfin) (Nat.le_of_eq hfin.1) h1) (frame_writer_parts_h0_1) (by intro x; rfl) (by intro m x; kernel_rfl)
theorem s_frame_writer_parts_h0_1' {base S0 cs0} (hfin : H_frame_writer_parts_h0 base S0) : J_frame_writer_parts_h0 base S0 cs0 p_frame_writer_parts_h0_1 (u_frame_writer_parts_h0_1 (frame_writer_parts_h0_1')) := by
  rw [frame_writer_parts_h0_1'_eq]; exact fun x r hx => s_frame_writer_parts_h0_1 hfin _ x r hx
noncomputable def x_frame_writer_parts_h0_1 : Cfg → Option (Option R_frame_writer_parts_h0) := cut p_frame_writer_parts_h0_1 (u_frame_writer_parts_h0_1 (frame_writer_parts_h0_1')) (x_frame_writer_parts_h0_2)
theorem o_frame_writer_parts_h0_1 {base S0 cs0} (hfin : H_frame_writer_parts_h0 base S0) : O_frame_writer_parts_h0 base S0 cs0 (x_frame_writer_parts_h0_1) := OSound.cut (o_frame_writer_parts_h0_2 hfin) (Nat.le_of_eq hfin.1) (s_frame_writer_parts_h0_1' hfin)
@[reducible] noncomputable def p_frame_writer_parts_h0_0 : CPat := ⟨⟨117, [1, 0], none, [.all 2, .any, .int .i64, .int .i64], 24⟩, [⟨75, [1, 1, 0, 1, 0, 1, 0], (some 1), [.ptr 0 0, .any, .any, .ptr 3 0, .all 2], 178⟩], [.cells 132 [.ptr 0 0, .all 1], .row (.byt 5), .row T_ranges_Range, .dat 34 T_frame_Frame], 2⟩
@[reducible] noncomputable def u_frame_writer_parts_h0_0 (k : Int → Int → (List Int) → (List D_ranges_Range) → D_frame_Frame → Option R_frame_writer_parts_h0) : denC p_frame_writer_parts_h0_0 → Option R_frame_writer_parts_h0 := fun x => k x.1.2.2.1 x.1.2.2.2.1 x.2.2.2.1 x.2.2.2.2.1 x.2.2.2.2.2.1
noncomputable def t_frame_writer_parts_h0_0 (k0 : Int → Int → (List Int) → (List D_ranges_Range) → D_frame_Frame → Option R_frame_writer_parts_h0) (i30 : Int) (i31 : Int) (l32 : (List Int)) (l33 : (List D_ranges_Range)) (d34 : D_frame_Frame) : Option R_frame_writer_parts_h0 :=
  let b35 : Bool := (decide (i30 < i31))
  bif b35 then
    bif (decide (((0 : Int) ≤ i31) ∧ (i31 < (((List.length l33) : Nat) : Int)))) then
      let i36 : Nat := (Int.toNat i31)
      let n37 : Int := (List.getD l33 i36 (Ty.dflt T_ranges_Range)).1
      let n38 : Int := (List.getD l33 i36 (Ty.dflt T_ranges_Range)).2.1
      bif (decide (((0 : Int) ≤ i30) ∧ (i30 < (((List.length l33) : Nat) : Int)))) then
        let i39 : Nat := (Int.toNat i30)
        let n40 : Int := (List.getD l33 i39 (Ty.dflt T_ranges_Range)).1
        let n41 : Int := (List.getD l33 i39 (Ty.dflt T_ranges_Range)).2.1
        bif (decide (((0 : Int) ≤ i30) ∧ (i30 < (((List.length l33) : Nat) : Int)))) then
          let i42 : Nat := (Int.toNat i30)
          let l43 : (List D_ranges_Range) := (List.set l33 i42 (n37, (n38, ())))
          bif (decide (((0 : Int) ≤ i31) ∧ (i31 < (((List.length l43) : Nat) : Int)))) then
            let i44 : Nat := (Int.toNat i31)
            let l45 : (List D_ranges_Range) := (List.set l43 i44 (n40, (n41, ())))
            let n46 : Int := (Go.IntKind.wrap Go.IntKind.i64 (i30 + (1 : Int)))
            let n47 : Int := (Go.IntKind.wrap Go.IntKind.i64 (i31 - (1 : Int)))
            k0 n46 n47 l32 l45 d34
          else none
        else none
      else none
    else none
  else
    bif (decide (((0 : Int) ≤ (0 : Int)) ∧ ((0 : Int) < (((List.length l33) : Nat) : Int)))) then
      let n48 : Int := (List.getD l33 0 (Ty.dflt T_ranges_Range)).2.1
      let n49 : Int := (((List.length l33) : Nat) : Int)
      let n50 : Int := (Go.IntKind.wrap Go.IntKind.i64 (n49 - (1 : Int)))
      let n51 : Int := (Go.IntKind.wrap Go.IntKind.u64 n50)
      bif (decide (((0 : Int) ≤ (0 : Int)) ∧ ((0 : Int) < (((List.length l33) : Nat) : Int)))) then
        let n52 : Int := (List.getD l33 0 (Ty.dflt T_ranges_Range)).2.1
        bif (decide (((0 : Int) ≤ (0 : Int)) ∧ ((0 : Int) < (((List.length l33) : Nat) : Int)))) then
          let n53 : Int := (List.getD l33 0 (Ty.dflt T_ranges_Range)).1
          let n54 : Int := (Go.IntKind.wrap Go.IntKind.u64 (n52 - n53))
          obind (frame_writer_numbers_h1 (n48 :: (d34.2.2.2.2.2.2.2.1 :: (n51 :: (n54 :: ([] : List Int))))) l32) fun y55 =>
          bif (decide (((0 : Int) ≤ (1 : Int)) ∧ (((1 : Int) ≤ (((List.length l33) : Nat) : Int)) ∧ ((((List.length l33) : Nat) : Int) ≤ (((List.length l33) : Nat) : Int))))) then
            let k56 : Nat := ((Int.toNat (((List.length l33) : Nat) : Int)) - 1)
            let n57 : Int := ((k56 : Nat) : Int)
            frame_writer_parts_h0_1' 1 k56 n57 (0 : Int) l33 y55.2.1
          else none
        else none
      else none
    else none
noncomputable def frame_writer_parts_h0_0 : Nat → Int → Int → (List Int) → (List D_ranges_Range) → D_frame_Frame → Option R_frame_writer_parts_h0
  | 0 => fun _ _ _ _ _ => none
  | m + 1 => t_frame_writer_parts_h0_0 (frame_writer_parts_h0_0 m)
noncomputable def b_frame_writer_parts_h0_0' (i30 : Int) (i31 : Int) (l32 : (List Int)) (l33 : (List D_ranges_Range)) (d34 : D_frame_Frame) : Option R_frame_writer_parts_h0 := frame_writer_parts_h0_0 (Int.toNat (i31 - i30) + 2) i30 i31 l32 l33 d34
theorem ex_frame_writer_parts_h0_0' : ∃ f, f = @b_frame_writer_parts_h0_0' := ⟨_, rfl⟩
noncomputable def frame_writer_parts_h0_0' := Classical.choose ex_frame_writer_parts_h0_0'
theorem frame_writer_parts_h0_0'_eq : @frame_writer_parts_h0_0' = @b_frame_writer_parts_h0_0' := Classical.choose_spec ex_frame_writer_parts_h0_0'
theorem s_frame_writer_parts_h0_0 {base S0 cs0} (hfin : H_frame_writer_parts_h0 base S0) : ∀ m, J_frame_writer_parts_h0 base S0 cs0 p_frame_writer_parts_h0_0 (u_frame_writer_parts_h0_0 (frame_writer_parts_h0_0 m)) :=
  JSound.loop' hfin.2 ks_frame_writer_parts_h0 100000 u_frame_writer_parts_h0_0 (fun k0 => cut p_frame_writer_parts_h0_0 (u_frame_writer_parts_h0_0 k0) (x_frame_writer_parts_h0_1)) (fun k0 h0 => OSound.cut (o_frame_writer_parts_h0_1 hfin) (Nat.le_of_eq hfin.1) h0) (frame_writer_parts_h0_0) (by intro x; rfl) (by intro m x; kernel_rfl)
theorem s_frame_writer_parts_h0_0' {base S0 cs0} (hfin : H_frame_writer_parts_h0 base S0) : J_frame_writer_parts_h0 base S0 cs0 p_frame_writer_parts_h0_0 (u_frame_writer_parts_h0_0 (frame_writer_parts_h0_0')) := by
  rw [frame_writer_parts_h0_0'_eq]; exact fun x r hx => s_frame_writer_parts_h0_0 hfin _ x r hx
noncomputable def x_frame_writer_parts_h0_0 : Cfg → Option (Option R_frame_writer_parts_h0) := cut p_frame_writer_parts_h0_0 (u_frame_writer_parts_h0_0 (frame_writer_parts_h0_0')) (x_frame_writer_parts_h0_1)
theorem o_frame_writer_parts_h0_0 {base S0 cs0} (hfin : H_frame_writer_parts_h0 base S0) : O_frame_writer_parts_h0 base S0 cs0 (x_frame_writer_parts_h0_0) := OSound.cut (o_frame_writer_parts_h0_1 hfin) (Nat.le_of_eq hfin.1) (s_frame_writer_parts_h0_0' hfin)
noncomputable def b_frame_writer_parts_h0 (d0 : D_frame_Frame) (l1 : (List Int)) : Option R_frame_writer_parts_h0 :=
  let b2 : Bool := (d0.1 == (2 : Int))
  bif b2 then
    obind (slices_Clone_ranges_Range d0.2.2.2.2.2.2.2.2.2.2.2.2.1) fun y3 =>
    let n4 : Int := (((List.length y3) : Nat) : Int)
    let n5 : Int := (Go.IntKind.wrap Go.IntKind.i64 (n4 - (1 : Int)))
    frame_writer_parts_h0_0' (0 : Int) n5 l1 y3 d0
  else
    let b89 : Bool := (d0.1 == (4 : Int))
    bif b89 then
      obind (frame_writer_numbers_h1 (d0.2.1 :: (d0.2.2.2.2.1 :: (d0.2.2.2.1 :: ([] : List Int)))) l1) fun y90 =>
      some (y90.2.1, ())
    else
      let b91 : Bool := (d0.1 == (5 : Int))
      bif b91 then
        obind (frame_writer_numbers_h1 (d0.2.1 :: (d0.2.2.2.2.1 :: ([] : List Int))) l1) fun y92 =>
        some (y92.2.1, ())
      else
        let b93 : Bool := (d0.1 == (6 : Int))
        bif b93 then
          obind (frame_writer_numbers_h1 (d0.2.2.1 :: ([] : List Int)) l1) fun y94 =>
          obind (frame_writer_long_h0 d0.2.2.2.2.2.2.2.2.2.1 y94.2.1) fun y95 =>
          some (y95.1, ())
        else
          let b96 : Bool := (d0.1 == (16 : Int))
          bif b96 then
            frame_writer_parts_h0_2 d0.1 true l1 d0
          else
            let b97 : Bool := (d0.1 == (18 : Int))
            bif b97 then
              frame_writer_parts_h0_2 d0.1 true l1 d0
            else
              let b98 : Bool := (d0.1 == (19 : Int))
              bif b98 then
                frame_writer_parts_h0_2 d0.1 true l1 d0
              else
                let b99 : Bool := (d0.1 == (20 : Int))
                bif b99 then
                  frame_writer_parts_h0_2 d0.1 true l1 d0
                else
                  let b100 : Bool := (d0.1 == (22 : Int))
                  bif b100 then
                    frame_writer_parts_h0_2 d0.1 true l1 d0
                  else
                    let b101 : Bool := (d0.1 == (23 : Int))
                    frame_writer_parts_h0_2 d0.1 b101 l1 d0
theorem ex_frame_writer_parts_h0 : ∃ f, f = @b_frame_writer_parts_h0 := ⟨_, rfl⟩
noncomputable def frame_writer_parts_h0 := Classical.choose ex_frame_writer_parts_h0
theorem frame_writer_parts_h0_eq : @frame_writer_parts_h0 = @b_frame_writer_parts_h0 := Classical.choose_spec ex_frame_writer_parts_h0
noncomputable def hb_frame_writer_parts_h0 : HCon := ⟨pa_frame_writer_parts_h0, pH_frame_writer_parts_h0, qa_frame_writer_parts_h0, qH_frame_writer_parts_h0, R_frame_writer_parts_h0, fun x => b_frame_writer_parts_h0 x.1.2.1 x.2.2.1, fun r => ((), (((), ((), ())), ((), (r.1, ())))), fun y => (y.2.2.2.1, ()), fun _ => rfl⟩
noncomputable def h_frame_writer_parts_h0 : HCon := ⟨pa_frame_writer_parts_h0, pH_frame_writer_parts_h0, qa_frame_writer_parts_h0, qH_frame_writer_parts_h0, R_frame_writer_parts_h0, fun x => frame_writer_parts_h0 x.1.2.1 x.2.2.1, fun r => ((), (((), ((), ())), ((), (r.1, ())))), fun y => (y.2.2.2.1, ()), fun _ => rfl⟩
theorem hb_frame_writer_parts_h0_ok : hb_frame_writer_parts_h0.Sound prog Inv gInv 75 :=
  hcon_run (M := m_frame_writer_parts_h0) (f := f75) rfl ks_frame_writer_parts_h0 100000 (X := x_frame_writer_parts_h0_0) (fun base S0 cs0 hn hf => have hfin : H_frame_writer_parts_h0 base S0 := ⟨hn, hf⟩; o_frame_writer_parts_h0_0 hfin) (by intro x; kernel_rfl)
theorem h_frame_writer_parts_h0_ok : h_frame_writer_parts_h0.Sound prog Inv gInv 75 := by
  have e : h_frame_writer_parts_h0 = hb_frame_writer_parts_h0 := by unfold h_frame_writer_parts_h0 hb_frame_writer_parts_h0; rw [frame_writer_parts_h0_eq]
  rw [e]; exact hb_frame_writer_parts_h0_ok
end Go.Proofs.YtjdjlijjolibkaaDoor.V
namespace Go.Proofs.YtjdjlijjolibkaaDoor.V
open Go.RowKit Go.Proofs.Tryd
set_option maxRecDepth 100000
set_option linter.unusedVariables false
noncomputable def m_frame_Put : Mach prog Inv gInv := mach bas [(31, f31), (73, f73), (74, f74), (75, f75), (76, f76), (113, f113), (115, f115), (117, f117), (118, f118), (147, f147)] ⟨ok31, ok73, ok74, ok75, ok76, ok113, ok115, ok117, ok118, ok147, trivial⟩ [(34, c_frame_May), (114, c_varint_Puts)] ⟨⟨c_frame_May_ok, FnOk.callable ok34⟩, ⟨c_varint_Puts_ok, FnOk.callable ok114⟩, trivial⟩ [(116, c_slices_Clone_ranges_Range)] ⟨⟨c_slices_Clone_ranges_Range_ok, FnOk.callable ok116⟩, trivial⟩ [(147, h_strings_Builder_copyCheck_h0), (147, h_strings_Builder_copyCheck_h1), (147, h_strings_Builder_copyCheck_h2), (74, h_frame_writer_numbers_h0), (147, h_strings_Builder_copyCheck_h3), (74, h_frame_writer_numbers_h1), (113, h_frame_writer_long_h0), (73, h_frame_writer_stream_h0), (115, h_strings_Builder_WriteString_h0), (118, h_strings_Builder_WriteByte_h0), (75, h_frame_writer_parts_h0)] ⟨⟨h_strings_Builder_copyCheck_h0_ok, FnOk.callable ok147⟩, ⟨h_strings_Builder_copyCheck_h1_ok, FnOk.callable ok147⟩, ⟨h_strings_Builder_copyCheck_h2_ok, FnOk.callable ok147⟩, ⟨h_frame_writer_numbers_h0_ok, FnOk.callable ok74⟩, ⟨h_strings_Builder_copyCheck_h3_ok, FnOk.callable ok147⟩, ⟨h_frame_writer_numbers_h1_ok, FnOk.callable ok74⟩, ⟨h_frame_writer_long_h0_ok, FnOk.callable ok113⟩, ⟨h_frame_writer_stream_h0_ok, FnOk.callable ok73⟩, ⟨h_strings_Builder_WriteString_h0_ok, FnOk.callable ok115⟩, ⟨h_strings_Builder_WriteByte_h0_ok, FnOk.callable ok118⟩, ⟨h_frame_writer_parts_h0_ok, FnOk.callable ok75⟩, trivial⟩
/-! ### domino/frame.Put -/
@[reducible] def r_frame_Put : List Ty := [.str, (.int .i64)]
def ks_frame_Put : List Nat := [31, 73, 74, 75, 76, 113, 115, 117, 118, 147]
noncomputable def b_frame_Put (a0 : D_frame_Frame) : Option (ByteArray × Int × Unit) :=
  let s1 : ByteArray := (ByteArray.mk (List.toArray ([] : List UInt8)))
  obind (frame_May a0) fun y2 =>
  let b3 : Bool := (!y2.1)
  bif b3 then
    let s4 : ByteArray := (ByteArray.mk (List.toArray ([] : List UInt8)))
    some (s4, ((1 : Int), ()))
  else
    let b5 : Bool := (a0.1 == (8 : Int))
    bif b5 then
      obind (frame_writer_stream_h0 a0) fun y6 =>
      let s15 : ByteArray := (ByteArray.mk (List.toArray ([] : List UInt8)))
      let n16 : Int := (((List.length y6.1) : Nat) : Int)
      bif (decide ((n16 = (((List.length y6.1) : Nat) : Int)) ∧ (n16 ≤ (4294967296 : Int)))) then
        let s17 : ByteArray := (bytesStr y6.1)
        some (s17, ((0 : Int), ()))
      else none
    else
      obind (frame_writer_numbers_h0 (a0.1 :: ([] : List Int))) fun y7 =>
      obind (frame_writer_parts_h0 a0 y7.2.1) fun y8 =>
      let s12 : ByteArray := (ByteArray.mk (List.toArray ([] : List UInt8)))
      let n13 : Int := (((List.length y8.1) : Nat) : Int)
      bif (decide ((n13 = (((List.length y8.1) : Nat) : Int)) ∧ (n13 ≤ (4294967296 : Int)))) then
        let s14 : ByteArray := (bytesStr y8.1)
        some (s14, ((0 : Int), ()))
      else none
theorem ex_frame_Put : ∃ f, f = @b_frame_Put := ⟨_, rfl⟩
noncomputable def frame_Put := Classical.choose ex_frame_Put
theorem frame_Put_eq : @frame_Put = @b_frame_Put := Classical.choose_spec ex_frame_Put
noncomputable def cb_frame_Put : Con := ⟨[T_frame_Frame], r_frame_Put, fun x => b_frame_Put x.1⟩
noncomputable def c_frame_Put : Con := ⟨[T_frame_Frame], r_frame_Put, fun x => frame_Put x.1⟩
theorem cb_frame_Put_ok : cb_frame_Put.Sound prog Inv gInv 31 :=
  con_run (M := m_frame_Put) inv_g (f := f31) rfl ks_frame_Put 100000 (X := nowhere) (fun base S0 cs0 hn hf => OSound.nowhere) (by intro x; kernel_rfl)
theorem c_frame_Put_ok : c_frame_Put.Sound prog Inv gInv 31 := by
  have e : c_frame_Put = cb_frame_Put := by unfold c_frame_Put cb_frame_Put; rw [frame_Put_eq]
  rw [e]; exact cb_frame_Put_ok
end Go.Proofs.YtjdjlijjolibkaaDoor.V
/- What frame.Put answers, in plain Lean. -/
namespace Go.Proofs.YtjdjlijjolibkaaDoor.V
open Go.RowKit
def In62 (n : Int) : Prop := 0 ≤ n ∧ n < 4611686018427387904
theorem vbs_range' (l : List Int) (h : ∀ n ∈ l, In62 n) : ∀ x ∈ vbs l, 0 ≤ x ∧ x ≤ 255 := vbs_range l h
theorem num0_is (l : List Int) (hl : l.length ≤ 1000) (h : ∀ n ∈ l, In62 n) : frame_writer_numbers_h0 l = some (l, vbs l, ()) := by
  rw [frame_writer_numbers_h0_eq, b_frame_writer_numbers_h0, puts_is l (by omega) h]
  simp only [obind_some, strings_Builder_copyCheck_h2_eq, b_strings_Builder_copyCheck_h2, strBytes_bytesStr (vbs_range l h)]
  have := vbs_len l
  have : (vbs l).length ≤ 4294967296 := by omega
  simp only [this, decide_true, cond_true]
theorem num1_is (l acc : List Int) (hl : l.length ≤ 1000) (ha : acc.length ≤ 1000000) (h : ∀ n ∈ l, In62 n) : frame_writer_numbers_h1 l acc = some (l, acc ++ vbs l, ()) := by
  rw [frame_writer_numbers_h1_eq, b_frame_writer_numbers_h1, puts_is l (by omega) h]
  simp only [obind_some, strings_Builder_copyCheck_h3_eq, b_strings_Builder_copyCheck_h3, strBytes_bytesStr (vbs_range l h)]
  have := vbs_len l
  have : acc.length + (vbs l).length ≤ 4294967296 := by omega
  simp only [this, decide_true, cond_true]
/-- A text behind its length. -/
def textL (s : ByteArray) : List Int := vb ((s.size : Nat) : Int) ++ strBytes s
theorem long_is (s : ByteArray) (acc : List Int) (hs : s.size ≤ 100000) (ha : acc.length ≤ 900000) : frame_writer_long_h0 s acc = some (acc ++ textL s, ()) := by
  rw [frame_writer_long_h0_eq, b_frame_writer_long_h0]
  rw [wrap_u64 _ (by omega) (by omega), num1_is _ _ (by simp) (by omega) (by intro n hn; simp at hn; subst hn; unfold In62; omega)]
  simp only [obind_some, strings_Builder_copyCheck_h3_eq, b_strings_Builder_copyCheck_h3]
  have h1 := vbs_len [((s.size : Nat) : Int)]
  have h2 := strBytes_len s
  simp only [List.length_cons, List.length_nil] at h1
  have : (acc ++ vbs [((s.size : Nat) : Int)]).length + (strBytes s).length ≤ 4294967296 := by rw [List.length_append]; omega
  simp only [this, decide_true, cond_true]
  simp only [textL, vbs, List.flatMap_cons, List.flatMap_nil, List.append_nil, List.append_assoc]
theorem wstr_is (s : ByteArray) (acc : List Int) (hs : s.size ≤ 100000) (ha : acc.length ≤ 1000000) : strings_Builder_WriteString_h0 s acc = some (((s.size : Nat) : Int), acc ++ strBytes s, ()) := by
  rw [strings_Builder_WriteString_h0_eq, b_strings_Builder_WriteString_h0]
  simp only [obind_some, strings_Builder_copyCheck_h3_eq, b_strings_Builder_copyCheck_h3]
  have h2 := strBytes_len s
  have : acc.length + (strBytes s).length ≤ 4294967296 := by omega
  simp only [this, decide_true, cond_true]
theorem wbyte_is (n : Int) (acc : List Int) (ha : acc.length ≤ 1000000) : strings_Builder_WriteByte_h0 n acc = some (acc ++ [n], ()) := by
  rw [strings_Builder_WriteByte_h0_eq, b_strings_Builder_WriteByte_h0]
  simp only [obind_some, strings_Builder_copyCheck_h3_eq, b_strings_Builder_copyCheck_h3]
  have : acc.length + [n].length ≤ 4294967296 := by simp; omega
  simp only [this, decide_true, cond_true]
/-! ### an Ack's ranges -/
/-- Ranges that fall, below lo. -/
def descR : Int → List D_ranges_Range → Prop
  | _, [] => True
  | lo, r :: l => 0 ≤ r.1 ∧ r.1 ≤ r.2.1 ∧ r.2.1 + 2 ≤ lo ∧ descR r.1 l
theorem descR.mono {a b : Int} (h : a ≤ b) : ∀ {l : List D_ranges_Range}, descR a l → descR b l
  | [], _ => trivial
  | r :: l, k => ⟨k.1, k.2.1, by have := k.2.2.1; omega, k.2.2.2⟩
def endR : Int → List D_ranges_Range → Int
  | e, [] => e
  | _, r :: l => endR (r.2.1 + 2) l
theorem desc_rev : ∀ (l acc : List D_ranges_Range) (e : Int), mayR e l = true → 0 ≤ e → (∀ r ∈ l, 0 ≤ r.1) → descR e acc → descR (endR e l) (l.reverse ++ acc)
  | [], acc, e, _, _, _, h => h
  | r :: l, acc, e, hm, he, h0, h => by
    simp only [mayR, Bool.and_eq_true, decide_eq_true_eq] at hm
    obtain ⟨⟨⟨m1, m2⟩, m3⟩, m4⟩ := hm
    have hr := h0 r (by simp)
    have := desc_rev l (r :: acc) (r.2.1 + 2) m4 (by omega) (fun x hx => h0 x (by simp [hx])) ⟨hr, m1, by omega, h.mono m3⟩
    simpa [endR] using this
theorem endR_last : ∀ (l : List D_ranges_Range) (e : Int), l ≠ [] → endR e l = lastHi l + 2
  | [], _, h => absurd rfl h
  | [r], _, _ => by simp [endR, lastHi]
  | r :: s :: l, e, _ => by
    have := endR_last (s :: l) (r.2.1 + 2) (by simp)
    simp only [endR] at this ⊢
    rw [this]
    simp [lastHi]
def ackGaps : Int → List D_ranges_Range → List Int
  | _, [] => []
  | lo, r :: l => vb (lo - r.2.1 - 2) ++ vb (r.2.1 - r.1) ++ ackGaps r.1 l
theorem ackGaps_len : ∀ (l : List D_ranges_Range) (lo : Int), (ackGaps lo l).length ≤ 16 * l.length
  | [], _ => by simp [ackGaps]
  | r :: l, lo => by
    have := ackGaps_len l r.1
    have := vb_len (lo - r.2.1 - 2)
    have := vb_len (r.2.1 - r.1)
    simp only [ackGaps, List.length_append, List.length_cons]
    omega
def ackL (delay : Int) : List D_ranges_Range → List Int
  | [] => []
  | r :: l => vb r.2.1 ++ vb delay ++ vb ((l.length : Nat) : Int) ++ vb (r.2.1 - r.1) ++ ackGaps r.1 l
theorem getD_mid1 {α : Type} (pre : List α) (x y : α) (suf : List α) (d : α) : (pre ++ x :: y :: suf).getD (1 + pre.length) d = y := by
  rw [show pre ++ x :: y :: suf = (pre ++ [x]) ++ y :: suf by simp, show 1 + pre.length = (pre ++ [x]).length by simp; omega, getD_mid]
theorem gaps_loop : ∀ (suf pre : List D_ranges_Range) (a : D_ranges_Range) (acc : List Int) (m k : Nat), suf.length < m → (pre ++ a :: suf).length ≤ 1000 → acc.length + 16 * suf.length ≤ 100000 → descR a.1 suf → a.1 < 4611686018427387904 → k = pre.length + suf.length →
    frame_writer_parts_h0_1 m 1 k ((k : Nat) : Int) ((pre.length : Nat) : Int) (pre ++ a :: suf) acc = some (acc ++ ackGaps a.1 suf, ()) := by
  intro suf
  induction suf with
  | nil =>
    intro pre a acc m k hm _ _ _ _ hk
    obtain ⟨m, rfl⟩ : ∃ k, m = k + 1 := ⟨m - 1, by omega⟩
    have : ¬ ((pre.length : Nat) : Int) < ((k : Nat) : Int) := by subst hk; simp
    simp only [frame_writer_parts_h0_1, t_frame_writer_parts_h0_1, this, decide_false, cond_false, ackGaps, List.append_nil]
  | cons r suf ih =>
    intro pre a acc m k hm hl ha hd hlt hk
    obtain ⟨m, rfl⟩ : ∃ k, m = k + 1 := ⟨m - 1, by omega⟩
    obtain ⟨d1, d2, d3, d4⟩ := hd
    have c1 : ((pre.length : Nat) : Int) < ((k : Nat) : Int) := by subst hk; simp; omega
    simp only [frame_writer_parts_h0_1, t_frame_writer_parts_h0_1, c1, nn, and_true, mid_lt, decide_true, cond_true, toNat_len, getD_mid, getD_mid1]
    rw [wrap_u64 (a.1 - r.2.1) (by omega) (by omega), wrap_u64 (a.1 - r.2.1 - 2) (by omega) (by omega), wrap_u64 (r.2.1 - r.1) (by omega) (by omega)]
    rw [num1_is _ _ (by simp) (by omega) (by intro n hn; simp at hn; unfold In62; omega)]
    simp only [obind_some]
    have hv := vbs_len [a.1 - r.2.1 - 2, r.2.1 - r.1]
    simp only [List.length_cons, List.length_nil] at hv
    rw [mid_next pre a a (r :: suf) (by omega), snoc_app pre a (r :: suf), ih (pre ++ [a]) r _ m k (by simp at hm; omega) (by simpa using hl) (by simp at ha ⊢; omega) d4 (by omega) (by subst hk; simp; omega)]
    simp [ackGaps, vbs]
theorem set_mid2 {α : Type} (pre m : List α) (x y z : α) (suf : List α) : (pre ++ x :: (m ++ y :: suf)).set (pre.length + 1 + m.length) z = pre ++ x :: (m ++ z :: suf) := by
  rw [show pre ++ x :: (m ++ y :: suf) = (pre ++ x :: m) ++ y :: suf by simp, show pre.length + 1 + m.length = (pre ++ x :: m).length by simp; omega, set_mid]; simp
theorem getD_mid2 {α : Type} (pre m : List α) (x y : α) (suf : List α) (d : α) : (pre ++ x :: (m ++ y :: suf)).getD (pre.length + 1 + m.length) d = y := by
  rw [show pre ++ x :: (m ++ y :: suf) = (pre ++ x :: m) ++ y :: suf by simp, show pre.length + 1 + m.length = (pre ++ x :: m).length by simp; omega, getD_mid]
theorem rev_loop (acc : List Int) (f : D_frame_Frame) : ∀ (n : Nat) (mid pre suf : List D_ranges_Range) (m : Nat), mid.length ≤ n → n < m → (pre ++ (mid ++ suf)).length ≤ 1000 →
    frame_writer_parts_h0_0 m ((pre.length : Nat) : Int) (((pre.length : Nat) : Int) + ((mid.length : Nat) : Int) - 1) acc (pre ++ (mid ++ suf)) f = frame_writer_parts_h0_0 1 0 0 acc (pre ++ (mid.reverse ++ suf)) f := by
  intro n
  induction n using Nat.strongRecOn with
  | _ n ih =>
    intro mid pre suf m hn hm hl
    obtain ⟨m, rfl⟩ : ∃ k, m = k + 1 := ⟨m - 1, by omega⟩
    have done : mid.length ≤ 1 → mid.reverse = mid := by
      intro h
      match mid, h with
      | [], _ => rfl
      | [x], _ => rfl
    by_cases h1 : mid.length ≤ 1
    · have c : ¬ ((pre.length : Nat) : Int) < ((pre.length : Nat) : Int) + ((mid.length : Nat) : Int) - 1 := by omega
      rw [done h1]
      simp only [frame_writer_parts_h0_0, t_frame_writer_parts_h0_0, c, decide_false, cond_false, Int.lt_irrefl]
    · obtain ⟨x, r, rfl⟩ : ∃ x r, mid = x :: r := by
        cases mid with
        | nil => simp at h1
        | cons x r => exact ⟨x, r, rfl⟩
      obtain ⟨md, y, rfl⟩ : ∃ md y, r = md ++ [y] := by
        rcases List.eq_nil_or_concat r with e | ⟨md, y, e⟩
        · subst e; simp at h1
        · exact ⟨md, y, by simpa using e⟩
      have ej : ((pre.length : Nat) : Int) + (((x :: (md ++ [y])).length : Nat) : Int) - 1 = ((pre.length + 1 + md.length : Nat) : Int) := by simp; omega
      have eL : pre ++ ((x :: (md ++ [y])) ++ suf) = pre ++ x :: (md ++ y :: suf) := by simp
      rw [ej, eL]
      have c : ((pre.length : Nat) : Int) < ((pre.length + 1 + md.length : Nat) : Int) := by omega
      have c1 : ((pre.length + 1 + md.length : Nat) : Int) < (((pre ++ x :: (md ++ y :: suf)).length : Nat) : Int) := by simp; omega
      have c2 : ((pre.length + 1 + md.length : Nat) : Int) < (((pre ++ y :: (md ++ y :: suf)).length : Nat) : Int) := by simp; omega
      have ey : ((y.1, (y.2.1, ())) : D_ranges_Range) = y := rfl
      have ex : ((x.1, (x.2.1, ())) : D_ranges_Range) = x := rfl
      rw [frame_writer_parts_h0_0]
      simp only [t_frame_writer_parts_h0_0, c, c1, c2, mid_lt, nn, and_self, decide_true, cond_true, Int.toNat_natCast, getD_mid, getD_mid2, set_mid, set_mid2, ey, ex]
      have w1 : IntKind.wrap .i64 (((pre.length : Nat) : Int) + 1) = (((pre ++ [y]).length : Nat) : Int) := by rw [wrap_i64 _ (by simp at hl; omega) (by simp at hl; omega)]; simp
      have w2 : IntKind.wrap .i64 (((pre.length + 1 + md.length : Nat) : Int) - 1) = (((pre ++ [y]).length : Nat) : Int) + ((md.length : Nat) : Int) - 1 := by rw [wrap_i64 _ (by simp at hl; omega) (by simp at hl; omega)]; simp
      rw [w1, w2, show pre ++ y :: (md ++ x :: suf) = (pre ++ [y]) ++ (md ++ (x :: suf)) by simp]
      simp at hn
      rw [ih (n - 2) (by omega) md (pre ++ [y]) (x :: suf) m (by omega) (by omega) (by simp at hl ⊢; omega)]
      simp
/-! ### the parts of a frame -/
def partsL (f : D_frame_Frame) : List Int :=
  let k := f.1
  bif k == 2 then ackL f.2.2.2.2.2.2.2.1 f.2.2.2.2.2.2.2.2.2.2.2.2.1.reverse
  else bif k == 4 then vbs [f.2.1, f.2.2.2.2.1, f.2.2.2.1]
  else bif k == 5 then vbs [f.2.1, f.2.2.2.2.1]
  else bif k == 6 then vbs [f.2.2.1] ++ textL f.2.2.2.2.2.2.2.2.2.1
  else bif k == 16 || k == 18 || k == 19 || k == 20 || k == 22 || k == 23 then vbs [f.2.2.2.1]
  else bif k == 17 || k == 21 then vbs [f.2.1, f.2.2.2.1]
  else bif k == 24 then vbs [f.2.2.2.2.2.1, f.2.2.2.2.2.2.1] ++ [8] ++ (strBytes f.2.2.2.2.2.2.2.2.2.2.1 ++ strBytes f.2.2.2.2.2.2.2.2.2.2.2.1)
  else bif k == 25 then vbs [f.2.2.2.2.2.1]
  else bif k == 26 || k == 27 then strBytes f.2.2.2.2.2.2.2.2.2.2.2.1
  else bif k == 28 then vbs [f.2.2.2.2.1, f.2.2.2.2.2.2.2.1] ++ textL f.2.2.2.2.2.2.2.2.2.1
  else bif k == 29 then vbs [f.2.2.2.2.1] ++ textL f.2.2.2.2.2.2.2.2.2.1
  else []
/-- The kind of a Stream frame, with its bits. -/
def streamK (f : D_frame_Frame) : Int := 10 + (bif f.2.2.1 == 0 then 0 else 4) + (bif f.2.2.2.2.2.2.2.2.1 then 1 else 0)
def putL (f : D_frame_Frame) : List Int :=
  bif f.1 == 8 then vbs [streamK f, f.2.1] ++ (bif f.2.2.1 == 0 then [] else vbs [f.2.2.1]) ++ textL f.2.2.2.2.2.2.2.2.2.1
  else vbs [f.1] ++ partsL f
theorem nums62 {f : D_frame_Frame} (h : FrOk f) (hn : numsOk f = true) : In62 f.2.1 ∧ In62 f.2.2.1 ∧ In62 f.2.2.2.1 ∧ In62 f.2.2.2.2.1 ∧ In62 f.2.2.2.2.2.1 ∧ In62 f.2.2.2.2.2.2.1 ∧ In62 f.2.2.2.2.2.2.2.1 := by
  simp only [numsOk, decide_eq_true_eq] at hn
  obtain ⟨n1, n2, n3, n4, n5, n6, n7⟩ := hn
  have a1 := h.id; have a2 := h.off; have a3 := h.max; have a4 := h.code; have a5 := h.seq; have a6 := h.prior; have a7 := h.delay
  unfold In62
  refine ⟨?_, ?_, ?_, ?_, ?_, ?_, ?_⟩ <;> omega
theorem mayFr_parts {f : D_frame_Frame} (h : mayFr f = true) : kindB f.1 = true ∧ f = onlyF f ∧ numsOk f = true ∧ f.2.2.2.2.2.2.2.2.2.1.size ≤ 1200 ∧ extraF f = true := by
  simp only [mayFr, Bool.and_eq_true, decide_eq_true_eq] at h
  exact ⟨h.1.1.1.1, h.1.1.1.2, h.1.1.2, h.1.2, h.2⟩
theorem parts_is (f : D_frame_Frame) (acc : List Int) (h : FrOk f) (hm : mayFr f = true) (h8 : f.1 ≠ 8) (ha : acc.length ≤ 8) : frame_writer_parts_h0 f acc = some (acc ++ partsL f, ()) := by
  obtain ⟨hk, ho, hn, hd, he⟩ := mayFr_parts hm
  obtain ⟨n1, n2, n3, n4, n5, n6, n7⟩ := nums62 h hn
  have hset := h.set
  obtain ⟨k, id, off, mx, code, seq, prior, delay, fin, data, cid, tok, set, ⟨⟩⟩ := f
  simp only at *
  have L1 : ∀ a, In62 a → frame_writer_numbers_h1 [a] acc = some ([a], acc ++ vbs [a], ()) := fun a h => num1_is _ _ (by simp) (by omega) (by intro n hn; simp at hn; subst hn; exact h)
  have L2 : ∀ a b, In62 a → In62 b → frame_writer_numbers_h1 [a, b] acc = some ([a, b], acc ++ vbs [a, b], ()) := fun a b h k => num1_is _ _ (by simp) (by omega) (by intro n hn; simp at hn; rcases hn with rfl | rfl <;> assumption)
  have L3 : ∀ a b c, In62 a → In62 b → In62 c → frame_writer_numbers_h1 [a, b, c] acc = some ([a, b, c], acc ++ vbs [a, b, c], ()) := fun a b c h k l => num1_is _ _ (by simp) (by omega) (by intro n hn; simp at hn; rcases hn with rfl | rfl | rfl <;> assumption)
  have V1 : ∀ a, (acc ++ vbs [a]).length ≤ 100 := fun a => by have := vbs_len [a]; simp at this ⊢; omega
  have V2 : ∀ a b, (acc ++ vbs [a, b]).length ≤ 100 := fun a b => by have := vbs_len [a, b]; simp at this ⊢; omega
  have T1 : ∀ a, frame_writer_long_h0 data (acc ++ vbs [a]) = some ((acc ++ vbs [a]) ++ textL data, ()) := fun a => long_is _ _ (by omega) (by have := V1 a; omega)
  have T2 : ∀ a b, frame_writer_long_h0 data (acc ++ vbs [a, b]) = some ((acc ++ vbs [a, b]) ++ textL data, ()) := fun a b => long_is _ _ (by omega) (by have := V2 a b; omega)
  rw [frame_writer_parts_h0_eq, b_frame_writer_parts_h0]
  simp only [frame_writer_parts_h0_2_eq, b_frame_writer_parts_h0_2, frame_writer_parts_h0_3_eq, b_frame_writer_parts_h0_3, frame_writer_parts_h0_4_eq, b_frame_writer_parts_h0_4]
  rcases kinds hk with rfl | rfl | rfl | rfl | rfl | rfl | rfl | rfl | rfl | rfl | rfl | rfl | rfl | rfl | rfl | rfl | rfl | rfl | rfl | rfl | rfl | rfl
  case inr.inr.inl =>
    -- Ack
    simp only [extraF, beq_self_eq_true, cond_true, Bool.and_eq_true, decide_eq_true_eq] at he
    obtain ⟨⟨⟨e1, e2⟩, e3⟩, e4⟩ := he
    have hne : set ≠ [] := by rintro rfl; simp at e2
    have hdesc := desc_rev set [] 0 e1 (by omega) (fun r hr => (hset r hr).1.1) trivial
    rw [endR_last set 0 hne, List.append_nil] at hdesc
    have hrl : set.reverse.length = set.length := by simp
    have clone : slices_Clone_ranges_Range set = some set := by unfold slices_Clone_ranges_Range; rw [decide_eq_true (by omega)]; rfl
    simp only [beq_self_eq_true, cond_true, clone, obind_some, partsL]
    rw [frame_writer_parts_h0_0'_eq, b_frame_writer_parts_h0_0', wrap_i64 _ (by omega) (by omega)]
    have hrev := rev_loop acc (2, id, off, mx, code, seq, prior, delay, fin, data, cid, tok, set, ()) set.length set [] [] (Int.toNat (((set.length : Nat) : Int) - 1 - 0) + 2) (by omega) (by omega) (by simp; omega)
    simp only [List.nil_append, List.append_nil, List.length_nil] at hrev
    rw [show ((0 : Nat) : Int) + ((set.length : Nat) : Int) - 1 = ((set.length : Nat) : Int) - 1 by omega, show ((0 : Nat) : Int) = 0 from rfl] at hrev
    rw [hrev]
    generalize set.reverse = L at *
    cases L with
    | nil => simp at hrl; omega
    | cons r l =>
      obtain ⟨d1, d2, d3, d4⟩ := hdesc
      simp only [List.length_cons] at hrl
      have c0 : (0 : Int) < (((r :: l).length : Nat) : Int) := by simp
      have c1 : (1 : Int) ≤ (((r :: l).length : Nat) : Int) := by simp; omega
      have w1 : IntKind.wrap .i64 ((((r :: l).length : Nat) : Int) - 1) = ((l.length : Nat) : Int) := by rw [wrap_i64 _ (by simp only [List.length_cons]; omega) (by simp only [List.length_cons]; omega)]; simp
      have w2 : IntKind.wrap .u64 ((l.length : Nat) : Int) = ((l.length : Nat) : Int) := wrap_u64 _ (by omega) (by omega)
      have w3 : IntKind.wrap .u64 (r.2.1 - r.1) = r.2.1 - r.1 := wrap_u64 _ (by omega) (by omega)
      have c2 : (0 : Int) ≤ 1 := by omega
      rw [frame_writer_parts_h0_0]
      simp only [t_frame_writer_parts_h0_0, Int.lt_irrefl, decide_false, cond_false, c0, c1, c2, Int.le_refl, and_self, decide_true, cond_true, List.getD_cons_zero, w1, w2, w3]
      rw [num1_is _ _ (by simp) (by omega) (by intro n hn; simp at hn; unfold In62 at *; omega)]
      simp only [obind_some]
      rw [frame_writer_parts_h0_1'_eq, b_frame_writer_parts_h0_1']
      have hv := vbs_len [r.2.1, delay, ((l.length : Nat) : Int), r.2.1 - r.1]
      simp only [List.length_cons, List.length_nil] at hv
      have hk1 : Int.toNat (((r :: l).length : Nat) : Int) - 1 = l.length := by simp
      rw [hk1]
      have := gaps_loop l [] r (acc ++ vbs [r.2.1, delay, ((l.length : Nat) : Int), r.2.1 - r.1]) (Int.toNat (((l.length : Nat) : Int) - 0) + 2) l.length (by omega) (by simp; omega) (by simp at hv ⊢; omega) d4 (by omega) (by simp)
      simp only [List.nil_append, List.length_nil] at this
      rw [show ((0 : Nat) : Int) = 0 from rfl] at this
      rw [this]
      simp [ackL, vbs]
  case inr.inr.inr.inr.inr.inr.inl => exact absurd rfl h8
  case inr.inr.inr.inr.inr.inr.inr.inr.inr.inr.inr.inr.inr.inr.inr.inl =>
    simp only [extraF] at he
    have hc : cid.size = 8 ∧ tok.size = 16 := by
      simp [show ((24 : Int) == 2) = false from rfl] at he
      omega
    have w1 : IntKind.wrap .u8 ((cid.size : Nat) : Int) = 8 := by rw [hc.1, wrap_u8]; rfl
    have c1 : cid.size + tok.size ≤ 9223372036854775807 := by omega
    have e1 : frame_writer_numbers_h1 [seq, prior] acc = some ([seq, prior], acc ++ vbs [seq, prior], ()) := L2 _ _ n5 n6
    have hV := V2 seq prior
    have e2 : strings_Builder_WriteByte_h0 8 (acc ++ vbs [seq, prior]) = some ((acc ++ vbs [seq, prior]) ++ [8], ()) := wbyte_is _ _ (by omega)
    have hs : (cid ++ tok).size ≤ 100000 := by rw [ByteArray.size_append]; omega
    have e3 : strings_Builder_WriteString_h0 (cid ++ tok) ((acc ++ vbs [seq, prior]) ++ [8]) = some ((((cid ++ tok).size : Nat) : Int), ((acc ++ vbs [seq, prior]) ++ [8]) ++ strBytes (cid ++ tok), ()) := wstr_is _ _ hs (by simp at hV ⊢; omega)
    simp only [List.append_assoc] at e2 e3
    simp [e1, e2, e3, w1, c1, partsL, strBytes_app]
  case inr.inr.inr.inr.inr.inr.inr.inr.inr.inr.inr.inr.inr.inr.inr.inr.inr.inl =>
    simp only [extraF] at he
    have hc : tok.size = 8 := by
      simp at he
      omega
    have e3 : strings_Builder_WriteString_h0 tok acc = some (((tok.size : Nat) : Int), acc ++ strBytes tok, ()) := wstr_is _ _ (by omega) (by omega)
    simp [e3, partsL]
  case inr.inr.inr.inr.inr.inr.inr.inr.inr.inr.inr.inr.inr.inr.inr.inr.inr.inr.inl =>
    simp only [extraF] at he
    have hc : tok.size = 8 := by
      simp at he
      omega
    have e3 : strings_Builder_WriteString_h0 tok acc = some (((tok.size : Nat) : Int), acc ++ strBytes tok, ()) := wstr_is _ _ (by omega) (by omega)
    simp [e3, partsL]
  all_goals simp [partsL, L1, L2, L3, T1, T2, n1, n2, n3, n4, n5, n6, n7]
theorem stream_is (f : D_frame_Frame) (h : FrOk f) (hm : mayFr f = true) (h8 : f.1 = 8) : frame_writer_stream_h0 f = some (putL f, ()) := by
  obtain ⟨hk, ho, hn, hd, he⟩ := mayFr_parts hm
  obtain ⟨n1, n2, n3, n4, n5, n6, n7⟩ := nums62 h hn
  have b14 : bits .or .u64 10 4 = 14 := by rw [bits_or_u64 _ _ (by omega) (by omega)]; decide
  have b15 : bits .or .u64 14 1 = 15 := by rw [bits_or_u64 _ _ (by omega) (by omega)]; decide
  have b11 : bits .or .u64 10 1 = 11 := by rw [bits_or_u64 _ _ (by omega) (by omega)]; decide
  obtain ⟨k, id, off, mx, code, seq, prior, delay, fin, data, cid, tok, set, ⟨⟩⟩ := f
  simp only at *
  subst h8
  have L2 : ∀ a b, In62 a → In62 b → frame_writer_numbers_h0 [a, b] = some ([a, b], vbs [a, b], ()) := fun a b h k => num0_is _ (by simp) (by intro n hn; simp at hn; rcases hn with rfl | rfl <;> assumption)
  have V2 : ∀ a b, (vbs [a, b]).length ≤ 100 := fun a b => by have := vbs_len [a, b]; simp at this ⊢; omega
  have V3 : ∀ a b c, (vbs [a, b] ++ vbs [c]).length ≤ 100 := fun a b c => by have := vbs_len [a, b]; have := vbs_len [c]; simp at *; omega
  have L1 : ∀ a b c, In62 c → frame_writer_numbers_h1 [c] (vbs [a, b]) = some ([c], vbs [a, b] ++ vbs [c], ()) := fun a b c h => num1_is _ _ (by simp) (by have := V2 a b; omega) (by intro n hn; simp at hn; subst hn; exact h)
  have T2 : ∀ a b, frame_writer_long_h0 data (vbs [a, b]) = some (vbs [a, b] ++ textL data, ()) := fun a b => long_is _ _ (by omega) (by have := V2 a b; omega)
  have T3 : ∀ a b c, frame_writer_long_h0 data (vbs [a, b] ++ vbs [c]) = some ((vbs [a, b] ++ vbs [c]) ++ textL data, ()) := fun a b c => long_is _ _ (by omega) (by have := V3 a b c; omega)
  have i1 : In62 10 := by unfold In62; omega
  have i2 : In62 11 := by unfold In62; omega
  have i3 : In62 14 := by unfold In62; omega
  have i4 : In62 15 := by unfold In62; omega
  rw [frame_writer_stream_h0_eq, b_frame_writer_stream_h0]
  simp only [frame_writer_stream_h0_0_eq, b_frame_writer_stream_h0_0, frame_writer_stream_h0_1_eq, b_frame_writer_stream_h0_1, frame_writer_stream_h0_2_eq, b_frame_writer_stream_h0_2, putL, streamK]
  by_cases h0 : off = 0
  · subst h0
    cases fin <;> simp [b11, L2, T2, n1, i1, i2]
  · have : (off == 0) = false := beq_false_of_ne h0
    cases fin <;> simp [bne, this, b14, b15, L2, L1, T3, n1, n2, i3, i4]
theorem size62 {s : ByteArray} (h : s.size ≤ 100000) : In62 ((s.size : Nat) : Int) := by unfold In62; omega
theorem textL_range {s : ByteArray} (h : s.size ≤ 100000) : ∀ x ∈ textL s, 0 ≤ x ∧ x ≤ 255 := by
  intro x hx
  rcases List.mem_append.mp hx with hx | hx
  · exact vb_range _ (size62 h).1 (size62 h).2 x hx
  · exact strBytes_range s x hx
theorem vbs1_range {a : Int} (h : In62 a) : ∀ x ∈ vbs [a], 0 ≤ x ∧ x ≤ 255 := vbs_range _ (by intro n hn; simp at hn; subst hn; exact h)
theorem ackGaps_range : ∀ (l : List D_ranges_Range) (lo : Int), descR lo l → lo < 4611686018427387904 → ∀ x ∈ ackGaps lo l, 0 ≤ x ∧ x ≤ 255
  | [], _, _, _ => by simp [ackGaps]
  | r :: l, lo, ⟨d1, d2, d3, d4⟩, hlo => by
    intro x hx
    simp only [ackGaps, List.mem_append] at hx
    rcases hx with (hx | hx) | hx
    · exact vb_range _ (by omega) (by omega) x hx
    · exact vb_range _ (by omega) (by omega) x hx
    · exact ackGaps_range l r.1 d4 (by omega) x hx
theorem app_range {a b : List Int} (h : ∀ x ∈ a, 0 ≤ x ∧ x ≤ 255) (k : ∀ x ∈ b, 0 ≤ x ∧ x ≤ 255) : ∀ x ∈ a ++ b, 0 ≤ x ∧ x ≤ 255 := by
  intro x hx
  rcases List.mem_append.mp hx with hx | hx
  · exact h x hx
  · exact k x hx
/-- An Ack that may be: its ranges from above. -/
theorem ack_desc {set : List D_ranges_Range} (hs : ∀ r ∈ set, 0 ≤ r.1) (e1 : mayR 0 set = true) (e2 : 0 < set.length) (e4 : lastHi set ≤ 4611686018427387903) :
    ∃ r l, set.reverse = r :: l ∧ l.length + 1 = set.length ∧ 0 ≤ r.1 ∧ r.1 ≤ r.2.1 ∧ r.2.1 ≤ 4611686018427387903 ∧ descR r.1 l := by
  have hne : set ≠ [] := by rintro rfl; simp at e2
  have hdesc := desc_rev set [] 0 e1 (by omega) hs trivial
  rw [endR_last set 0 hne, List.append_nil] at hdesc
  have hrl : set.reverse.length = set.length := by simp
  generalize set.reverse = L at *
  cases L with
  | nil => simp at hrl; omega
  | cons r l =>
    obtain ⟨d1, d2, d3, d4⟩ := hdesc
    exact ⟨r, l, rfl, by simpa using hrl, d1, d2, by omega, d4⟩
theorem put_ok (f : D_frame_Frame) (h : FrOk f) (hm : mayFr f = true) : (∀ x ∈ putL f, 0 ≤ x ∧ x ≤ 255) ∧ (putL f).length ≤ 5000 ∧ 1 ≤ (putL f).length := by
  obtain ⟨hk, ho, hn, hd, he⟩ := mayFr_parts hm
  obtain ⟨n1, n2, n3, n4, n5, n6, n7⟩ := nums62 h hn
  have hset := h.set
  obtain ⟨k, id, off, mx, code, seq, prior, delay, fin, data, cid, tok, set, u⟩ := f
  simp only at *
  have R1 : ∀ a, In62 a → ∀ x ∈ vbs [a], 0 ≤ x ∧ x ≤ 255 := fun a h => vbs1_range h
  have R2 : ∀ a b, In62 a → In62 b → ∀ x ∈ vbs [a, b], 0 ≤ x ∧ x ≤ 255 := fun a b h k => vbs_range _ (by intro n hn; simp at hn; rcases hn with rfl | rfl <;> assumption)
  have R3 : ∀ a b c, In62 a → In62 b → In62 c → ∀ x ∈ vbs [a, b, c], 0 ≤ x ∧ x ≤ 255 := fun a b c h k l => vbs_range _ (by intro n hn; simp at hn; rcases hn with rfl | rfl | rfl <;> assumption)
  have RT : ∀ x ∈ textL data, 0 ≤ x ∧ x ≤ 255 := textL_range (by omega)
  have V1 : ∀ a, 1 ≤ (vbs [a]).length ∧ (vbs [a]).length ≤ 8 := fun a => by simp only [vbs, List.flatMap_cons, List.flatMap_nil, List.append_nil]; exact vb_len a
  have V2 : ∀ a b, 1 ≤ (vbs [a, b]).length ∧ (vbs [a, b]).length ≤ 16 := fun a b => by have := vb_len a; have := vb_len b; simp only [vbs, List.flatMap_cons, List.flatMap_nil, List.append_nil, List.length_append]; omega
  have V3 : ∀ a b c, (vbs [a, b, c]).length ≤ 24 := fun a b c => by have := vbs_len [a, b, c]; simpa using this
  have LT : (textL data).length ≤ 1208 := by have := vb_len ((data.size : Nat) : Int); have := strBytes_len data; simp only [textL, List.length_append]; omega
  have K : In62 k := by rcases kinds hk with rfl | rfl | rfl | rfl | rfl | rfl | rfl | rfl | rfl | rfl | rfl | rfl | rfl | rfl | rfl | rfl | rfl | rfl | rfl | rfl | rfl | rfl <;> (unfold In62; omega)
  by_cases h8 : k = 8
  · subst h8
    have hs : In62 (streamK (8, id, off, mx, code, seq, prior, delay, fin, data, cid, tok, set, u)) := by
      unfold streamK In62
      cases fin <;> cases (off == 0) <;> simp
    simp only [putL, beq_self_eq_true, cond_true]
    have v1 := V1 off
    have v2 := V2 (streamK (8, id, off, mx, code, seq, prior, delay, fin, data, cid, tok, set, u)) id
    refine ⟨app_range (app_range (R2 _ _ hs n1) ?_) RT, ?_, ?_⟩
    · cases (off == 0)
      · exact R1 _ n2
      · simp
    · cases (off == 0) <;> simp only [cond_true, cond_false, List.length_append, List.length_nil] <;> omega
    · cases (off == 0) <;> simp only [cond_true, cond_false, List.length_append, List.length_nil] <;> omega
  · have hb : (k == 8) = false := beq_false_of_ne h8
    simp only [putL, hb, cond_false]
    have v1 := V1 k
    suffices hp : (∀ x ∈ partsL (k, id, off, mx, code, seq, prior, delay, fin, data, cid, tok, set, u), 0 ≤ x ∧ x ≤ 255) ∧ (partsL (k, id, off, mx, code, seq, prior, delay, fin, data, cid, tok, set, u)).length ≤ 4000 by
      refine ⟨app_range (R1 _ K) hp.1, ?_, ?_⟩ <;> rw [List.length_append] <;> omega
    by_cases h2 : k = 2
    · subst h2
      simp only [extraF, beq_self_eq_true, cond_true, Bool.and_eq_true, decide_eq_true_eq] at he
      obtain ⟨⟨⟨e1, e2⟩, e3⟩, e4⟩ := he
      obtain ⟨r, l, er, el, d1, d2, d3, d4⟩ := ack_desc (fun r hr => (hset r hr).1.1) e1 e2 e4
      simp only [partsL, beq_self_eq_true, cond_true, er, ackL]
      have g1 := vb_len r.2.1
      have g2 := vb_len delay
      have g3 := vb_len ((l.length : Nat) : Int)
      have g4 := vb_len (r.2.1 - r.1)
      have g5 := ackGaps_len l r.1
      constructor
      · refine app_range (app_range (app_range (app_range (vb_range _ (by omega) (by omega)) (vb_range _ n7.1 n7.2)) (vb_range _ (by omega) (by omega))) (vb_range _ (by omega) (by omega))) (ackGaps_range l r.1 d4 (by omega))
      · simp only [List.length_append]; omega
    · by_cases h24 : k = 24
      · subst h24
        have hc : cid.size = 8 ∧ tok.size = 16 := by
          simp [extraF] at he
          omega
        have e : partsL (24, id, off, mx, code, seq, prior, delay, fin, data, cid, tok, set, u) = vbs [seq, prior] ++ [8] ++ (strBytes cid ++ strBytes tok) := rfl
        rw [e]
        have l1 := strBytes_len cid
        have l2 := strBytes_len tok
        have v2 := V2 seq prior
        refine ⟨app_range (app_range (R2 _ _ n5 n6) (by simp)) (app_range (strBytes_range cid) (strBytes_range tok)), ?_⟩
        simp only [List.length_append, List.length_cons, List.length_nil]; omega
      · have htok : ∀ (h : k = 26 ∨ k = 27), tok.size = 8 := by
          rintro (rfl | rfl) <;> simp [extraF] at he <;> omega
        have l2 := strBytes_len tok
        have W1 : ∀ a, (vbs [a]).length ≤ 4000 := fun a => by have := V1 a; omega
        have W2 : ∀ a b, (vbs [a, b]).length ≤ 4000 := fun a b => by have := V2 a b; omega
        have W3 : ∀ a b c, (vbs [a, b, c]).length ≤ 4000 := fun a b c => by have := V3 a b c; omega
        have T1 : ∀ a, In62 a → (∀ x ∈ vbs [a] ++ textL data, 0 ≤ x ∧ x ≤ 255) ∧ (vbs [a] ++ textL data).length ≤ 4000 := fun a h => ⟨app_range (R1 _ h) RT, by have := V1 a; rw [List.length_append]; omega⟩
        have T2 : ∀ a b, In62 a → In62 b → (∀ x ∈ vbs [a, b] ++ textL data, 0 ≤ x ∧ x ≤ 255) ∧ (vbs [a, b] ++ textL data).length ≤ 4000 := fun a b h k => ⟨app_range (R2 _ _ h k) RT, by have := V2 a b; rw [List.length_append]; omega⟩
        rcases kinds hk with rfl | rfl | rfl | rfl | rfl | rfl | rfl | rfl | rfl | rfl | rfl | rfl | rfl | rfl | rfl | rfl | rfl | rfl | rfl | rfl | rfl | rfl
        · exact ⟨by simp [partsL], by simp [partsL]⟩
        · exact ⟨by simp [partsL], by simp [partsL]⟩
        · exact absurd rfl h2
        · exact ⟨R3 _ _ _ n1 n4 n3, W3 _ _ _⟩
        · exact ⟨R2 _ _ n1 n4, W2 _ _⟩
        · exact T1 _ n2
        · exact absurd rfl h8
        · exact ⟨R1 _ n3, W1 _⟩
        · exact ⟨R2 _ _ n1 n3, W2 _ _⟩
        · exact ⟨R1 _ n3, W1 _⟩
        · exact ⟨R1 _ n3, W1 _⟩
        · exact ⟨R1 _ n3, W1 _⟩
        · exact ⟨R2 _ _ n1 n3, W2 _ _⟩
        · exact ⟨R1 _ n3, W1 _⟩
        · exact ⟨R1 _ n3, W1 _⟩
        · exact absurd rfl h24
        · exact ⟨R1 _ n5, W1 _⟩
        · have := htok (.inl rfl)
          exact ⟨strBytes_range tok, by show (strBytes tok).length ≤ 4000; omega⟩
        · have := htok (.inr rfl)
          exact ⟨strBytes_range tok, by show (strBytes tok).length ≤ 4000; omega⟩
        · exact T2 _ _ n4 n7
        · exact T1 _ n4
        · exact ⟨by simp [partsL], by simp [partsL]⟩
theorem put_is (f : D_frame_Frame) (h : FrOk f) : frame_Put f = some (if mayFr f = true then (bytesStr (putL f), 0, ()) else (⟨#[]⟩, 1, ())) := by
  rw [frame_Put_eq, b_frame_Put, may_is_fr f h]
  simp only [obind_some]
  by_cases hm : mayFr f = true
  · obtain ⟨o1, o2, o3⟩ := put_ok f h hm
    have c : (((putL f).length : Nat) : Int) ≤ 4294967296 := by omega
    simp only [hm, Bool.not_true, cond_false, if_true]
    by_cases h8 : f.1 = 8
    · simp only [beq_of h8, cond_true, stream_is f h hm h8, obind_some, c, and_self, decide_true]
    · have hb : (f.1 == 8) = false := beq_false_of_ne h8
      have e1 : frame_writer_numbers_h0 [f.1] = some ([f.1], vbs [f.1], ()) := num0_is _ (by simp) (by
        intro n hn; simp at hn; subst hn
        rcases kinds (mayFr_parts hm).1 with e | e | e | e | e | e | e | e | e | e | e | e | e | e | e | e | e | e | e | e | e | e <;> (rw [e]; unfold In62; omega))
      have l1 : (vbs [f.1]).length ≤ 8 := by have := vbs_len [f.1]; simpa using this
      have e2 : putL f = vbs [f.1] ++ partsL f := by simp only [putL, hb, cond_false]
      simp only [hb, cond_false, e1, obind_some, parts_is f _ h hm h8 l1]
      rw [← e2]
      simp only [c, and_self, decide_true, cond_true]
  · have : mayFr f = false := by simpa using hm
    simp only [this, Bool.not_false, cond_true, Bool.false_eq_true, if_false]
end Go.Proofs.YtjdjlijjolibkaaDoor.V
namespace Go.Proofs.YtjdjlijjolibkaaDoor.V
open Go.RowKit Go.Proofs.Tryd
set_option maxRecDepth 100000
set_option linter.unusedVariables false
noncomputable def m_slices_Clip_string_h0 : Mach prog Inv gInv := mach bas [(66, f66)] ⟨ok66, trivial⟩ [] trivial [] trivial [] trivial
@[reducible] noncomputable def pa_slices_Clip_string_h0 : List Pat := [.rows .str false]
@[reducible] noncomputable def pH_slices_Clip_string_h0 : List HPat := []
/-! ### slices.Clip[[]string,string] -/
abbrev R_slices_Clip_string_h0 : Type := (List ByteArray) × Unit
@[reducible] noncomputable def qa_slices_Clip_string_h0 : List Pat := [.rows .str true]
@[reducible] noncomputable def qH_slices_Clip_string_h0 : List HPat := []
noncomputable def g_slices_Clip_string_h0 : HCon := ⟨pa_slices_Clip_string_h0, pH_slices_Clip_string_h0, qa_slices_Clip_string_h0, qH_slices_Clip_string_h0, R_slices_Clip_string_h0, fun _ => none, fun r => ((r.1, ()), ()), fun y => (y.1.1, ()), fun _ => rfl⟩
def ks_slices_Clip_string_h0 : List Nat := [66]
noncomputable def b_slices_Clip_string_h0 (l0 : (List ByteArray)) : Option R_slices_Clip_string_h0 :=
  let n1 : Int := (((List.length l0) : Nat) : Int)
  let n2 : Int := (((List.length l0) : Nat) : Int)
  bif (decide (((0 : Int) ≤ (0 : Int)) ∧ (((0 : Int) ≤ n1) ∧ ((n1 ≤ n2) ∧ ((n2 ≤ (((List.length l0) : Nat) : Int)) ∧ ((true = true) ∧ ((decide (n2 = n1)) = true))))))) then
    let l3 : (List ByteArray) := (List.take ((Int.toNat n1) - 0) (List.drop 0 l0))
    some (l3, ())
  else none
theorem ex_slices_Clip_string_h0 : ∃ f, f = @b_slices_Clip_string_h0 := ⟨_, rfl⟩
noncomputable def slices_Clip_string_h0 := Classical.choose ex_slices_Clip_string_h0
theorem slices_Clip_string_h0_eq : @slices_Clip_string_h0 = @b_slices_Clip_string_h0 := Classical.choose_spec ex_slices_Clip_string_h0
noncomputable def hb_slices_Clip_string_h0 : HCon := ⟨pa_slices_Clip_string_h0, pH_slices_Clip_string_h0, qa_slices_Clip_string_h0, qH_slices_Clip_string_h0, R_slices_Clip_string_h0, fun x => b_slices_Clip_string_h0 x.1.1, fun r => ((r.1, ()), ()), fun y => (y.1.1, ()), fun _ => rfl⟩
noncomputable def h_slices_Clip_string_h0 : HCon := ⟨pa_slices_Clip_string_h0, pH_slices_Clip_string_h0, qa_slices_Clip_string_h0, qH_slices_Clip_string_h0, R_slices_Clip_string_h0, fun x => slices_Clip_string_h0 x.1.1, fun r => ((r.1, ()), ()), fun y => (y.1.1, ()), fun _ => rfl⟩
theorem hb_slices_Clip_string_h0_ok : hb_slices_Clip_string_h0.Sound prog Inv gInv 66 :=
  hcon_run (M := m_slices_Clip_string_h0) (f := f66) rfl ks_slices_Clip_string_h0 100000 (X := nowhere) (fun base S0 cs0 hn hf => OSound.nowhere) (by intro x; kernel_rfl)
theorem h_slices_Clip_string_h0_ok : h_slices_Clip_string_h0.Sound prog Inv gInv 66 := by
  have e : h_slices_Clip_string_h0 = hb_slices_Clip_string_h0 := by unfold h_slices_Clip_string_h0 hb_slices_Clip_string_h0; rw [slices_Clip_string_h0_eq]
  rw [e]; exact hb_slices_Clip_string_h0_ok
end Go.Proofs.YtjdjlijjolibkaaDoor.V
namespace Go.Proofs.YtjdjlijjolibkaaDoor.V
open Go.RowKit Go.Proofs.Tryd
set_option maxRecDepth 100000
set_option linter.unusedVariables false
noncomputable def m_path_On : Mach prog Inv gInv := mach bas [(26, f26), (60, f60), (66, f66), (67, f67), (68, f68), (69, f69)] ⟨ok26, ok60, ok66, ok67, ok68, ok69, trivial⟩ [] trivial [(111, c_slices_Clone_path_Path)] ⟨⟨c_slices_Clone_path_Path_ok, FnOk.callable ok111⟩, trivial⟩ [(60, h_path_State_turned_h0), (66, h_slices_Clip_string_h0)] ⟨⟨h_path_State_turned_h0_ok, FnOk.callable ok60⟩, ⟨h_slices_Clip_string_h0_ok, FnOk.callable ok66⟩, trivial⟩
/-! ### domino/path.On -/
@[reducible] def r_path_On : List Ty := [T_path_State]
def ks_path_On : List Nat := [26, 60, 66, 67, 68, 69]
abbrev H_path_On (base : Base) (S0 : Nat → Prop) := base.n = 0 ∧ FinOk (finR r_path_On) base S0 (Post r_path_On S0)
abbrev J_path_On (base : Base) (S0 : Nat → Prop) (cs0 : List Go.Frame) (p : CPat) (J : denC p → Option (denL r_path_On)) := JSound m_path_On base S0 cs0 (Post r_path_On S0) p J
abbrev O_path_On (base : Base) (S0 : Nat → Prop) (cs0 : List Go.Frame) (X : Cfg → Option (Option (denL r_path_On))) := OSound m_path_On base S0 cs0 (Post r_path_On S0) X
@[reducible] noncomputable def p_path_On_0 : CPat := ⟨⟨60, [1, 1, 0, 1, 0], none, [.any, .func 67 [] [.ptr 0 0], .cs 1 0 2 1, .ptr 2 0, .any, .any, .ptr 3 0, .all 4, .any, .any, .any, .any, .any, .any, .any, .int .i64, .int .i64], 25⟩, [⟨26, [1, 0, 1, 0, 1, 1, 1, 0, 0], (some 3), [.any, .any, .any, .any, .ptr 5 0], 23⟩], [.dat 34 T_frame_Frame, .cells 122 [.func 68 [] [], .func 69 [] []], .dat 28 T_path_State, .dat 28 T_path_State, .row T_path_Path, .dat 28 T_path_State], 0⟩
@[reducible] noncomputable def u_path_On_0 (k : Int → Int → D_frame_Frame → D_path_State → D_path_State → (List D_path_Path) → D_path_State → Option (D_path_State × Unit)) : denC p_path_On_0 → Option (D_path_State × Unit) := fun x => k x.1.2.2.2.2.2.2.2.2.2.2.2.2.2.2.2.1 x.1.2.2.2.2.2.2.2.2.2.2.2.2.2.2.2.2.1 x.2.2.1 x.2.2.2.2.1 x.2.2.2.2.2.1 x.2.2.2.2.2.2.1 x.2.2.2.2.2.2.2.1
@[reducible] noncomputable def p_path_On_4 : CPat := ⟨⟨60, [1, 1, 0, 1, 0, 0, 1, 1, 1], none, [.any, .func 67 [] [.ptr 0 0], .cs 1 0 2 1, .ptr 2 0, .any, .any, .ptr 3 0, .all 4, .any, .any, .any, .any, .any, .any, .any, .int .i64, .int .i64], 25⟩, [⟨26, [1, 0, 1, 0, 1, 1, 1, 0, 0], (some 3), [.any, .any, .any, .any, .ptr 5 0], 23⟩], [.dat 34 T_frame_Frame, .cells 122 [.func 68 [] [], .func 69 [] []], .dat 28 T_path_State, .dat 28 T_path_State, .row T_path_Path, .dat 28 T_path_State], 0⟩
@[reducible] noncomputable def u_path_On_4 (k : Int → Int → D_frame_Frame → D_path_State → D_path_State → (List D_path_Path) → D_path_State → Option (D_path_State × Unit)) : denC p_path_On_4 → Option (D_path_State × Unit) := fun x => k x.1.2.2.2.2.2.2.2.2.2.2.2.2.2.2.2.1 x.1.2.2.2.2.2.2.2.2.2.2.2.2.2.2.2.2.1 x.2.2.1 x.2.2.2.2.1 x.2.2.2.2.2.1 x.2.2.2.2.2.2.1 x.2.2.2.2.2.2.2.1
noncomputable def b_path_On_4 (k0 : Int → Int → D_frame_Frame → D_path_State → D_path_State → (List D_path_Path) → D_path_State → Option (D_path_State × Unit)) (i68 : Int) (i69 : Int) (d70 : D_frame_Frame) (d71 : D_path_State) (d72 : D_path_State) (l73 : (List D_path_Path)) (d74 : D_path_State) : Option (D_path_State × Unit) :=
  let n75 : Int := (Go.IntKind.wrap Go.IntKind.i64 (i69 + (1 : Int)))
  k0 i68 n75 d70 d71 d72 l73 d74
theorem ex_path_On_4 : ∃ f, f = @b_path_On_4 := ⟨_, rfl⟩
noncomputable def path_On_4 := Classical.choose ex_path_On_4
theorem path_On_4_eq : @path_On_4 = @b_path_On_4 := Classical.choose_spec ex_path_On_4
theorem s_path_On_4 {base S0 cs0} (hfin : H_path_On base S0) (k0) (h0 : J_path_On base S0 cs0 p_path_On_0 (u_path_On_0 k0)) : J_path_On base S0 cs0 p_path_On_4 (u_path_On_4 (path_On_4 k0)) :=
  JSound.join hfin.2 (OSound.cut (OSound.nowhere) (Nat.le_of_eq hfin.1) h0) ks_path_On 100000 (by rw [path_On_4_eq]; intro x; kernel_rfl)
noncomputable def x_path_On_4 (k0 : Int → Int → D_frame_Frame → D_path_State → D_path_State → (List D_path_Path) → D_path_State → Option (D_path_State × Unit)) : Cfg → Option (Option (D_path_State × Unit)) := cut p_path_On_4 (u_path_On_4 (path_On_4 k0)) (cut p_path_On_0 (u_path_On_0 k0) (nowhere))
theorem o_path_On_4 {base S0 cs0} (hfin : H_path_On base S0) (k0) (h0 : J_path_On base S0 cs0 p_path_On_0 (u_path_On_0 k0)) : O_path_On base S0 cs0 (x_path_On_4 k0) := OSound.cut (OSound.cut (OSound.nowhere) (Nat.le_of_eq hfin.1) h0) (Nat.le_of_eq hfin.1) (s_path_On_4 hfin k0 h0)
@[reducible] noncomputable def p_path_On_3 : CPat := ⟨⟨60, [1, 1, 0, 1, 0, 0, 1, 1, 0, 0, 1, 1, 1], none, [.any, .func 67 [] [.ptr 0 0], .cs 1 0 2 1, .ptr 2 0, .any, .any, .ptr 3 0, .all 4, .any, .any, .any, .any, .any, .any, .any, .int .i64, .int .i64], 25⟩, [⟨26, [1, 0, 1, 0, 1, 1, 1, 0, 0], (some 3), [.any, .any, .any, .any, .ptr 5 0], 23⟩], [.dat 34 T_frame_Frame, .cells 122 [.func 68 [] [], .func 69 [] []], .dat 28 T_path_State, .dat 28 T_path_State, .row T_path_Path, .dat 28 T_path_State], 0⟩
@[reducible] noncomputable def u_path_On_3 (k : Int → Int → D_frame_Frame → D_path_State → D_path_State → (List D_path_Path) → D_path_State → Option (D_path_State × Unit)) : denC p_path_On_3 → Option (D_path_State × Unit) := fun x => k x.1.2.2.2.2.2.2.2.2.2.2.2.2.2.2.2.1 x.1.2.2.2.2.2.2.2.2.2.2.2.2.2.2.2.2.1 x.2.2.1 x.2.2.2.2.1 x.2.2.2.2.2.1 x.2.2.2.2.2.2.1 x.2.2.2.2.2.2.2.1
noncomputable def b_path_On_3 (k0 : Int → Int → D_frame_Frame → D_path_State → D_path_State → (List D_path_Path) → D_path_State → Option (D_path_State × Unit)) (i60 : Int) (i61 : Int) (d62 : D_frame_Frame) (d63 : D_path_State) (d64 : D_path_State) (l65 : (List D_path_Path)) (d66 : D_path_State) : Option (D_path_State × Unit) :=
  path_On_4 k0 i60 i61 d62 d63 d64 l65 d66
theorem ex_path_On_3 : ∃ f, f = @b_path_On_3 := ⟨_, rfl⟩
noncomputable def path_On_3 := Classical.choose ex_path_On_3
theorem path_On_3_eq : @path_On_3 = @b_path_On_3 := Classical.choose_spec ex_path_On_3
theorem s_path_On_3 {base S0 cs0} (hfin : H_path_On base S0) (k0) (h0 : J_path_On base S0 cs0 p_path_On_0 (u_path_On_0 k0)) : J_path_On base S0 cs0 p_path_On_3 (u_path_On_3 (path_On_3 k0)) :=
  JSound.join hfin.2 (o_path_On_4 hfin k0 h0) ks_path_On 100000 (by rw [path_On_3_eq]; intro x; kernel_rfl)
noncomputable def x_path_On_3 (k0 : Int → Int → D_frame_Frame → D_path_State → D_path_State → (List D_path_Path) → D_path_State → Option (D_path_State × Unit)) : Cfg → Option (Option (D_path_State × Unit)) := cut p_path_On_3 (u_path_On_3 (path_On_3 k0)) (x_path_On_4 k0)
theorem o_path_On_3 {base S0 cs0} (hfin : H_path_On base S0) (k0) (h0 : J_path_On base S0 cs0 p_path_On_0 (u_path_On_0 k0)) : O_path_On base S0 cs0 (x_path_On_3 k0) := OSound.cut (o_path_On_4 hfin k0 h0) (Nat.le_of_eq hfin.1) (s_path_On_3 hfin k0 h0)
noncomputable def t_path_On_0 (k0 : Int → Int → D_frame_Frame → D_path_State → D_path_State → (List D_path_Path) → D_path_State → Option (D_path_State × Unit)) (i39 : Int) (i40 : Int) (d41 : D_frame_Frame) (d42 : D_path_State) (d43 : D_path_State) (l44 : (List D_path_Path)) (d45 : D_path_State) : Option (D_path_State × Unit) :=
  let b46 : Bool := (decide (i40 < i39))
  bif b46 then
    bif (decide (((0 : Int) ≤ i40) ∧ (i40 < (((List.length l44) : Nat) : Int)))) then
      let i47 : Nat := (Int.toNat i40)
      let n48 : Int := (List.getD l44 i47 (Ty.dflt T_path_Path)).1
      let b49 : Bool := (List.getD l44 i47 (Ty.dflt T_path_Path)).2.1
      let n50 : Int := (List.getD l44 i47 (Ty.dflt T_path_Path)).2.2.1
      let n51 : Int := (List.getD l44 i47 (Ty.dflt T_path_Path)).2.2.2.1
      let s52 : ByteArray := (List.getD l44 i47 (Ty.dflt T_path_Path)).2.2.2.2.1
      let b53 : Bool := (List.getD l44 i47 (Ty.dflt T_path_Path)).2.2.2.2.2.1
      let b54 : Bool := (!((ByteArray.toList s52) == (ByteArray.toList (ByteArray.mk (List.toArray ([] : List UInt8))))))
      bif b54 then
        let b55 : Bool := ((ByteArray.toList s52) == (ByteArray.toList d41.2.2.2.2.2.2.2.2.2.2.2.1))
        bif b55 then
          bif (decide (((0 : Int) ≤ i40) ∧ (i40 < (((List.length l44) : Nat) : Int)))) then
            let i56 : Nat := (Int.toNat i40)
            let l57 : (List D_path_Path) := (List.set l44 i56 ((List.getD l44 i56 (Ty.dflt T_path_Path)).1, (true, ((List.getD l44 i56 (Ty.dflt T_path_Path)).2.2.1, ((List.getD l44 i56 (Ty.dflt T_path_Path)).2.2.2.1, ((List.getD l44 i56 (Ty.dflt T_path_Path)).2.2.2.2.1, ((List.getD l44 i56 (Ty.dflt T_path_Path)).2.2.2.2.2.1, ())))))))
            bif (decide (((0 : Int) ≤ i40) ∧ (i40 < (((List.length l57) : Nat) : Int)))) then
              let i58 : Nat := (Int.toNat i40)
              let l59 : (List D_path_Path) := (List.set l57 i58 ((List.getD l57 i58 (Ty.dflt T_path_Path)).1, ((List.getD l57 i58 (Ty.dflt T_path_Path)).2.1, ((List.getD l57 i58 (Ty.dflt T_path_Path)).2.2.1, ((List.getD l57 i58 (Ty.dflt T_path_Path)).2.2.2.1, ((List.getD l57 i58 (Ty.dflt T_path_Path)).2.2.2.2.1, (false, ())))))))
              path_On_4 k0 i39 i40 d41 d42 d43 l59 d45
            else none
          else none
        else
          path_On_3 k0 i39 i40 d41 d42 d43 l44 d45
      else
        path_On_3 k0 i39 i40 d41 d42 d43 l44 d45
    else none
  else
    some ((l44, d42.2), ())
noncomputable def path_On_0 : Nat → Int → Int → D_frame_Frame → D_path_State → D_path_State → (List D_path_Path) → D_path_State → Option (D_path_State × Unit)
  | 0 => fun _ _ _ _ _ _ _ => none
  | m + 1 => t_path_On_0 (path_On_0 m)
noncomputable def b_path_On_0' (i39 : Int) (i40 : Int) (d41 : D_frame_Frame) (d42 : D_path_State) (d43 : D_path_State) (l44 : (List D_path_Path)) (d45 : D_path_State) : Option (D_path_State × Unit) := path_On_0 (Int.toNat (i39 - i40) + 2) i39 i40 d41 d42 d43 l44 d45
theorem ex_path_On_0' : ∃ f, f = @b_path_On_0' := ⟨_, rfl⟩
noncomputable def path_On_0' := Classical.choose ex_path_On_0'
theorem path_On_0'_eq : @path_On_0' = @b_path_On_0' := Classical.choose_spec ex_path_On_0'
theorem s_path_On_0 {base S0 cs0} (hfin : H_path_On base S0) : ∀ m, J_path_On base S0 cs0 p_path_On_0 (u_path_On_0 (path_On_0 m)) :=
  JSound.loop' hfin.2 ks_path_On 100000 u_path_On_0 (fun k0 => x_path_On_3 k0) (fun k0 h0 => o_path_On_3 hfin k0 h0) (path_On_0) (by intro x; rfl) (by intro m x; kernel_rfl)
theorem s_path_On_0' {base S0 cs0} (hfin : H_path_On base S0) : J_path_On base S0 cs0 p_path_On_0 (u_path_On_0 (path_On_0')) := by
  rw [path_On_0'_eq]; exact fun x r hx => s_path_On_0 hfin _ x r hx
noncomputable def x_path_On_0 : Cfg → Option (Option (D_path_State × Unit)) := cut p_path_On_0 (u_path_On_0 (path_On_0')) (nowhere)
theorem o_path_On_0 {base S0 cs0} (hfin : H_path_On base S0) : O_path_On base S0 cs0 (x_path_On_0) := OSound.cut (OSound.nowhere) (Nat.le_of_eq hfin.1) (s_path_On_0' hfin)
noncomputable def b_path_On (a0 : D_path_State) (a1 : D_frame_Frame) : Option (D_path_State × Unit) :=
  let b2 : Bool := (a1.1 == (26 : Int))
  bif b2 then
    let n3 : Int := (((List.length a0.2.2.1) : Nat) : Int)
    let b4 : Bool := (decide (n3 < (4 : Int)))
    bif b4 then
      obind (slices_Clip_string_h0 a0.2.2.1) fun y5 =>
      bif (true && (decide (((List.length y5.1) + (List.length (a1.2.2.2.2.2.2.2.2.2.2.2.1 :: ([] : List ByteArray)))) ≤ 4294967296))) then
        let l6 : (List ByteArray) := (y5.1 ++ (a1.2.2.2.2.2.2.2.2.2.2.2.1 :: ([] : List ByteArray)))
        some ((a0.1, (a0.2.1, (l6, ()))), ())
      else none
    else
      some (a0, ())
  else
    let b7 : Bool := (a1.1 == (27 : Int))
    bif b7 then
      obind (slices_Clone_path_Path a0.1) fun y8 =>
      let n9 : Int := (((List.length y8) : Nat) : Int)
      path_On_0' n9 (0 : Int) a1 a0 (([] : List D_path_Path), ((0 : Int), (([] : List ByteArray), ()))) y8 (([] : List D_path_Path), ((0 : Int), (([] : List ByteArray), ())))
    else
      some (a0, ())
theorem ex_path_On : ∃ f, f = @b_path_On := ⟨_, rfl⟩
noncomputable def path_On := Classical.choose ex_path_On
theorem path_On_eq : @path_On = @b_path_On := Classical.choose_spec ex_path_On
noncomputable def cb_path_On : Con := ⟨[T_path_State, T_frame_Frame], r_path_On, fun x => b_path_On x.1 x.2.1⟩
noncomputable def c_path_On : Con := ⟨[T_path_State, T_frame_Frame], r_path_On, fun x => path_On x.1 x.2.1⟩
theorem cb_path_On_ok : cb_path_On.Sound prog Inv gInv 26 :=
  con_run (M := m_path_On) inv_g (f := f26) rfl ks_path_On 100000 (X := x_path_On_0) (fun base S0 cs0 hn hf => have hfin : H_path_On base S0 := ⟨hn, hf⟩; o_path_On_0 hfin) (by intro x; kernel_rfl)
theorem c_path_On_ok : c_path_On.Sound prog Inv gInv 26 := by
  have e : c_path_On = cb_path_On := by unfold c_path_On cb_path_On; rw [path_On_eq]
  rw [e]; exact cb_path_On_ok
end Go.Proofs.YtjdjlijjolibkaaDoor.V
namespace Go.Proofs.YtjdjlijjolibkaaDoor.V
open Go.RowKit Go.Proofs.Tryd
set_option maxRecDepth 100000
set_option linter.unusedVariables false
noncomputable def m_path_fits : Mach prog Inv gInv := mach bas [(70, f70)] ⟨ok70, trivial⟩ [(31, c_frame_Put)] ⟨⟨c_frame_Put_ok, FnOk.callable ok31⟩, trivial⟩ [] trivial [] trivial
/-! ### domino/path.fits -/
@[reducible] def r_path_fits : List Ty := [.bool]
def ks_path_fits : List Nat := [70]
noncomputable def b_path_fits (a0 : D_frame_Frame) (a1 : Int) : Option (Bool × Unit) :=
  obind (frame_Put a0) fun y2 =>
  let b3 : Bool := (y2.2.1 == (0 : Int))
  bif b3 then
    let n4 : Int := (((ByteArray.size y2.1) : Nat) : Int)
    let b5 : Bool := (decide (n4 ≤ a1))
    some (b5, ())
  else
    some (false, ())
theorem ex_path_fits : ∃ f, f = @b_path_fits := ⟨_, rfl⟩
noncomputable def path_fits := Classical.choose ex_path_fits
theorem path_fits_eq : @path_fits = @b_path_fits := Classical.choose_spec ex_path_fits
noncomputable def cb_path_fits : Con := ⟨[T_frame_Frame, (.int .i64)], r_path_fits, fun x => b_path_fits x.1 x.2.1⟩
noncomputable def c_path_fits : Con := ⟨[T_frame_Frame, (.int .i64)], r_path_fits, fun x => path_fits x.1 x.2.1⟩
theorem cb_path_fits_ok : cb_path_fits.Sound prog Inv gInv 70 :=
  con_run (M := m_path_fits) inv_g (f := f70) rfl ks_path_fits 100000 (X := nowhere) (fun base S0 cs0 hn hf => OSound.nowhere) (by intro x; kernel_rfl)
theorem c_path_fits_ok : c_path_fits.Sound prog Inv gInv 70 := by
  have e : c_path_fits = cb_path_fits := by unfold c_path_fits cb_path_fits; rw [path_fits_eq]
  rw [e]; exact cb_path_fits_ok
end Go.Proofs.YtjdjlijjolibkaaDoor.V
namespace Go.Proofs.YtjdjlijjolibkaaDoor.V
open Go.RowKit Go.Proofs.Tryd
set_option maxRecDepth 100000
set_option linter.unusedVariables false
noncomputable def m_slices_Clone_string : Mach prog Inv gInv := mach bas [(71, f71)] ⟨ok71, trivial⟩ [] trivial [] trivial [] trivial
/-! ### slices.Clone: a row of the caller's own -/
@[reducible] def t_slices_Clone_string : Ty := .str
def slices_Clone_string (l : List t_slices_Clone_string.den) : Option (List t_slices_Clone_string.den) := bif decide (l.length ≤ 4294967296) then some l else none
noncomputable def c_slices_Clone_string : OCon := ⟨[.slice t_slices_Clone_string], t_slices_Clone_string, fun x => slices_Clone_string x.1⟩
@[reducible] noncomputable def p_slices_Clone_string : CPat := ⟨⟨71, [1, 0, 0], some 1, [.rows t_slices_Clone_string false, .any, .nilSlice, .rows t_slices_Clone_string false], 4⟩, [], [], 0⟩
def j_slices_Clone_string (a b : List t_slices_Clone_string.den) : Option (List t_slices_Clone_string.den) := match b with
  | [] => match a with
    | [] => some []
    | _ :: _ => none
  | _ :: _ => slices_Clone_string a
theorem y_slices_Clone_string (x : denC p_slices_Clone_string) : runB m_slices_Clone_string (finO t_slices_Clone_string) [71] nowhere 1000 (adv (instC p_slices_Clone_string x) 1 (some 4) (.val (.bool true)) (instC p_slices_Clone_string x).H ⟨[], [], []⟩) = some [] := by kernel_rfl
theorem n_slices_Clone_string (x : denC p_slices_Clone_string) : runB m_slices_Clone_string (finO t_slices_Clone_string) [71] nowhere 1000 (adv (instC p_slices_Clone_string x) 1 (some 4) (.val (.bool false)) (instC p_slices_Clone_string x).H ⟨[], [], []⟩) = bif decide (0 + x.1.1.length ≤ 4294967296) then some x.1.1 else none := by kernel_rfl
theorem s_slices_Clone_string {base S0 cs0} (hfin : FinOk (finO t_slices_Clone_string) base S0 (fun w v r => OwnRow base.B w S0 t_slices_Clone_string r v)) : JSound m_slices_Clone_string base S0 cs0 (fun w v r => OwnRow base.B w S0 t_slices_Clone_string r v) p_slices_Clone_string (fun x => j_slices_Clone_string x.1.1 x.1.2.2.2.1) := by
  intro x r h
  change j_slices_Clone_string x.1.1 x.1.2.2.2.1 = some r at h
  have yes : x.1.2.2.2.1 = [] → j_slices_Clone_string x.1.1 x.1.2.2.2.1 = some r → runB m_slices_Clone_string (finO t_slices_Clone_string) [71] nowhere 1000 (adv (instC p_slices_Clone_string x) 1 (some 4) (.val (.bool true)) (instC p_slices_Clone_string x).H ⟨[], [], []⟩) = some r := by
    intro hb hj
    rw [hb] at hj
    have e := y_slices_Clone_string x
    rw [e]
    generalize x.1.1 = a at hj
    cases a with
    | nil => exact hj
    | cons _ _ => cases hj
  have no : runB m_slices_Clone_string (finO t_slices_Clone_string) [71] nowhere 1000 (adv (instC p_slices_Clone_string x) 1 (some 4) (.val (.bool false)) (instC p_slices_Clone_string x).H ⟨[], [], []⟩) = some r := by
    have e := n_slices_Clone_string x
    rw [e, Nat.zero_add]
    show slices_Clone_string x.1.1 = some r
    generalize x.1.1 = a at *
    generalize x.1.2.2.2.1 = b at *
    cases b with
    | nil => cases a with
      | nil => rw [← h]; rfl
      | cons _ _ => cases h
    | cons _ _ => exact h
  exact nil_sound (M := m_slices_Clone_string) (f := f71) (T := 26) (e := 9) (x := .tmp 3) (t := t_slices_Clone_string) (l := x.1.2.2.2.1) (cl := false) rfl rfl rfl rfl rfl rfl rfl rfl underlying26 rfl
    (fun hb => run_sound hfin OSound.nowhere (yes hb h)) (run_sound hfin OSound.nowhere no)
theorem c_slices_Clone_string_ok : c_slices_Clone_string.Sound prog Inv gInv 71 := by
  refine ocon_sound (M := m_slices_Clone_string) inv_g (f := f71) rfl fun x y h base S0 cs0 hn => ?_
  have hfin := finO_ok t_slices_Clone_string base S0
  refine run_sound hfin (X := cut p_slices_Clone_string (fun x => j_slices_Clone_string x.1.1 x.1.2.2.2.1) nowhere) (OSound.cut OSound.nowhere (Nat.le_of_eq hn) (s_slices_Clone_string hfin)) (Ks := [71]) (n := 1000) ?_
  have e : runB m_slices_Clone_string (finO t_slices_Clone_string) [71] (cut p_slices_Clone_string (fun x => j_slices_Clone_string x.1.1 x.1.2.2.2.1) nowhere) 1000 (startP 71 f71.ntmps (pvsOf c_slices_Clone_string.params x)) = j_slices_Clone_string x.1 x.1 := by kernel_rfl
  refine e.trans (Eq.trans ?_ h)
  show j_slices_Clone_string x.1 x.1 = slices_Clone_string x.1
  generalize x.1 = l
  cases l with
  | nil => rfl
  | cons _ _ => rfl
end Go.Proofs.YtjdjlijjolibkaaDoor.V
namespace Go.Proofs.YtjdjlijjolibkaaDoor.V
open Go.RowKit Go.Proofs.Tryd
set_option maxRecDepth 100000
set_option linter.unusedVariables false
noncomputable def m_path_State_turned_h1 : Mach prog Inv gInv := mach bas [(60, f60), (72, f72)] ⟨ok60, ok72, trivial⟩ [(63, c_path_State_now)] ⟨⟨c_path_State_now_ok, FnOk.callable ok63⟩, trivial⟩ [(111, c_slices_Clone_path_Path)] ⟨⟨c_slices_Clone_path_Path_ok, FnOk.callable ok111⟩, trivial⟩ [] trivial
@[reducible] noncomputable def pa_path_State_turned_h1 : List Pat := [.dat T_path_State, .func 63 [.dat T_path_State] [], .cs 0 0 1 1]
@[reducible] noncomputable def pH_path_State_turned_h1 : List HPat := [.cells 122 [.func 72 [] []]]
/-! ### (domino/path.State).turned -/
abbrev R_path_State_turned_h1 : Type := Int × (List ByteArray) × (List D_path_Path) × Unit
@[reducible] noncomputable def qa_path_State_turned_h1 : List Pat := [.agg [.all 1, .int .i64, .rows .str false]]
@[reducible] noncomputable def qH_path_State_turned_h1 : List HPat := [.cells 122 [.func 72 [] []], .row T_path_Path]
noncomputable def g_path_State_turned_h1 : HCon := ⟨pa_path_State_turned_h1, pH_path_State_turned_h1, qa_path_State_turned_h1, qH_path_State_turned_h1, R_path_State_turned_h1, fun _ => none, fun r => ((((), (r.1, (r.2.1, ()))), ()), ((((), ()), ()), (r.2.2.1, ()))), fun y => (y.1.1.2.1, y.1.1.2.2.1, y.2.2.1, ()), fun _ => rfl⟩
def ks_path_State_turned_h1 : List Nat := [60, 72]
abbrev H_path_State_turned_h1 (base : Base) (S0 : Nat → Prop) := base.n = 1 ∧ FinOk (finH g_path_State_turned_h1) base S0 (HPost g_path_State_turned_h1 base S0)
abbrev J_path_State_turned_h1 (base : Base) (S0 : Nat → Prop) (cs0 : List Go.Frame) (p : CPat) (J : denC p → Option R_path_State_turned_h1) := JSound m_path_State_turned_h1 base S0 cs0 (HPost g_path_State_turned_h1 base S0) p J
abbrev O_path_State_turned_h1 (base : Base) (S0 : Nat → Prop) (cs0 : List Go.Frame) (X : Cfg → Option (Option R_path_State_turned_h1)) := OSound m_path_State_turned_h1 base S0 cs0 (HPost g_path_State_turned_h1 base S0) X
@[reducible] noncomputable def p_path_State_turned_h1_0 : CPat := ⟨⟨60, [1, 1, 0, 1, 0], none, [.any, .func 63 [.dat T_path_State] [], .cs 0 0 1 1, .ptr 1 0, .any, .any, .ptr 2 0, .all 3, .any, .any, .any, .any, .any, .any, .any, .int .i64, .int .i64], 25⟩, [], [.cells 122 [.func 72 [] []], .dat 28 T_path_State, .dat 28 T_path_State, .row T_path_Path], 1⟩
@[reducible] noncomputable def u_path_State_turned_h1_0 (k : D_path_State → Int → Int → D_path_State → D_path_State → (List D_path_Path) → Option R_path_State_turned_h1) : denC p_path_State_turned_h1_0 → Option R_path_State_turned_h1 := fun x => k x.1.2.1.1.1 x.1.2.2.2.2.2.2.2.2.2.2.2.2.2.2.2.1 x.1.2.2.2.2.2.2.2.2.2.2.2.2.2.2.2.2.1 x.2.2.2.1 x.2.2.2.2.1 x.2.2.2.2.2.1
@[reducible] noncomputable def p_path_State_turned_h1_2 : CPat := ⟨⟨60, [1, 1, 0, 1, 0, 0, 1, 1, 1], none, [.any, .func 63 [.dat T_path_State] [], .cs 0 0 1 1, .ptr 1 0, .any, .any, .ptr 2 0, .all 3, .any, .any, .any, .any, .any, .any, .any, .int .i64, .int .i64], 25⟩, [], [.cells 122 [.func 72 [] []], .dat 28 T_path_State, .dat 28 T_path_State, .row T_path_Path], 1⟩
@[reducible] noncomputable def u_path_State_turned_h1_2 (k : D_path_State → Int → Int → D_path_State → D_path_State → (List D_path_Path) → Option R_path_State_turned_h1) : denC p_path_State_turned_h1_2 → Option R_path_State_turned_h1 := fun x => k x.1.2.1.1.1 x.1.2.2.2.2.2.2.2.2.2.2.2.2.2.2.2.1 x.1.2.2.2.2.2.2.2.2.2.2.2.2.2.2.2.2.1 x.2.2.2.1 x.2.2.2.2.1 x.2.2.2.2.2.1
noncomputable def b_path_State_turned_h1_2 (k0 : D_path_State → Int → Int → D_path_State → D_path_State → (List D_path_Path) → Option R_path_State_turned_h1) (d41 : D_path_State) (i42 : Int) (i43 : Int) (d44 : D_path_State) (d45 : D_path_State) (l46 : (List D_path_Path)) : Option R_path_State_turned_h1 :=
  let n47 : Int := (Go.IntKind.wrap Go.IntKind.i64 (i43 + (1 : Int)))
  k0 d41 i42 n47 d44 d45 l46
theorem ex_path_State_turned_h1_2 : ∃ f, f = @b_path_State_turned_h1_2 := ⟨_, rfl⟩
noncomputable def path_State_turned_h1_2 := Classical.choose ex_path_State_turned_h1_2
theorem path_State_turned_h1_2_eq : @path_State_turned_h1_2 = @b_path_State_turned_h1_2 := Classical.choose_spec ex_path_State_turned_h1_2
theorem s_path_State_turned_h1_2 {base S0 cs0} (hfin : H_path_State_turned_h1 base S0) (k0) (h0 : J_path_State_turned_h1 base S0 cs0 p_path_State_turned_h1_0 (u_path_State_turned_h1_0 k0)) : J_path_State_turned_h1 base S0 cs0 p_path_State_turned_h1_2 (u_path_State_turned_h1_2 (path_State_turned_h1_2 k0)) :=
  JSound.join hfin.2 (OSound.cut (OSound.nowhere) (Nat.le_of_eq hfin.1) h0) ks_path_State_turned_h1 100000 (by rw [path_State_turned_h1_2_eq]; intro x; kernel_rfl)
noncomputable def x_path_State_turned_h1_2 (k0 : D_path_State → Int → Int → D_path_State → D_path_State → (List D_path_Path) → Option R_path_State_turned_h1) : Cfg → Option (Option R_path_State_turned_h1) := cut p_path_State_turned_h1_2 (u_path_State_turned_h1_2 (path_State_turned_h1_2 k0)) (cut p_path_State_turned_h1_0 (u_path_State_turned_h1_0 k0) (nowhere))
theorem o_path_State_turned_h1_2 {base S0 cs0} (hfin : H_path_State_turned_h1 base S0) (k0) (h0 : J_path_State_turned_h1 base S0 cs0 p_path_State_turned_h1_0 (u_path_State_turned_h1_0 k0)) : O_path_State_turned_h1 base S0 cs0 (x_path_State_turned_h1_2 k0) := OSound.cut (OSound.cut (OSound.nowhere) (Nat.le_of_eq hfin.1) h0) (Nat.le_of_eq hfin.1) (s_path_State_turned_h1_2 hfin k0 h0)
noncomputable def t_path_State_turned_h1_0 (k0 : D_path_State → Int → Int → D_path_State → D_path_State → (List D_path_Path) → Option R_path_State_turned_h1) (d23 : D_path_State) (i24 : Int) (i25 : Int) (d26 : D_path_State) (d27 : D_path_State) (l28 : (List D_path_Path)) : Option R_path_State_turned_h1 :=
  let b29 : Bool := (decide (i25 < i24))
  bif b29 then
    bif (decide (((0 : Int) ≤ i25) ∧ (i25 < (((List.length l28) : Nat) : Int)))) then
      let i30 : Nat := (Int.toNat i25)
      let n31 : Int := (List.getD l28 i30 (Ty.dflt T_path_Path)).1
      let b32 : Bool := (List.getD l28 i30 (Ty.dflt T_path_Path)).2.1
      let n33 : Int := (List.getD l28 i30 (Ty.dflt T_path_Path)).2.2.1
      let n34 : Int := (List.getD l28 i30 (Ty.dflt T_path_Path)).2.2.2.1
      let s35 : ByteArray := (List.getD l28 i30 (Ty.dflt T_path_Path)).2.2.2.2.1
      let b36 : Bool := (List.getD l28 i30 (Ty.dflt T_path_Path)).2.2.2.2.2.1
      obind (path_State_now d23 i25 (n31, (b32, (n33, (n34, (s35, (b36, ()))))))) fun y37 =>
      bif y37.1 then
        bif (decide (((0 : Int) ≤ i25) ∧ (i25 < (((List.length l28) : Nat) : Int)))) then
          let i38 : Nat := (Int.toNat i25)
          let l39 : (List D_path_Path) := (List.set l28 i38 ((List.getD l28 i38 (Ty.dflt T_path_Path)).1, ((List.getD l28 i38 (Ty.dflt T_path_Path)).2.1, ((List.getD l28 i38 (Ty.dflt T_path_Path)).2.2.1, ((List.getD l28 i38 (Ty.dflt T_path_Path)).2.2.2.1, ((List.getD l28 i38 (Ty.dflt T_path_Path)).2.2.2.2.1, (false, ())))))))
          path_State_turned_h1_2 k0 d23 i24 i25 d26 d27 l39
        else none
      else
        path_State_turned_h1_2 k0 d23 i24 i25 d26 d27 l28
    else none
  else
    some (d26.2.1, (d26.2.2.1, (l28, ())))
noncomputable def path_State_turned_h1_0 : Nat → D_path_State → Int → Int → D_path_State → D_path_State → (List D_path_Path) → Option R_path_State_turned_h1
  | 0 => fun _ _ _ _ _ _ => none
  | m + 1 => t_path_State_turned_h1_0 (path_State_turned_h1_0 m)
noncomputable def b_path_State_turned_h1_0' (d23 : D_path_State) (i24 : Int) (i25 : Int) (d26 : D_path_State) (d27 : D_path_State) (l28 : (List D_path_Path)) : Option R_path_State_turned_h1 := path_State_turned_h1_0 (Int.toNat (i24 - i25) + 2) d23 i24 i25 d26 d27 l28
theorem ex_path_State_turned_h1_0' : ∃ f, f = @b_path_State_turned_h1_0' := ⟨_, rfl⟩
noncomputable def path_State_turned_h1_0' := Classical.choose ex_path_State_turned_h1_0'
theorem path_State_turned_h1_0'_eq : @path_State_turned_h1_0' = @b_path_State_turned_h1_0' := Classical.choose_spec ex_path_State_turned_h1_0'
theorem s_path_State_turned_h1_0 {base S0 cs0} (hfin : H_path_State_turned_h1 base S0) : ∀ m, J_path_State_turned_h1 base S0 cs0 p_path_State_turned_h1_0 (u_path_State_turned_h1_0 (path_State_turned_h1_0 m)) :=
  JSound.loop' hfin.2 ks_path_State_turned_h1 100000 u_path_State_turned_h1_0 (fun k0 => x_path_State_turned_h1_2 k0) (fun k0 h0 => o_path_State_turned_h1_2 hfin k0 h0) (path_State_turned_h1_0) (by intro x; rfl) (by intro m x; kernel_rfl)
theorem s_path_State_turned_h1_0' {base S0 cs0} (hfin : H_path_State_turned_h1 base S0) : J_path_State_turned_h1 base S0 cs0 p_path_State_turned_h1_0 (u_path_State_turned_h1_0 (path_State_turned_h1_0')) := by
  rw [path_State_turned_h1_0'_eq]; exact fun x r hx => s_path_State_turned_h1_0 hfin _ x r hx
noncomputable def x_path_State_turned_h1_0 : Cfg → Option (Option R_path_State_turned_h1) := cut p_path_State_turned_h1_0 (u_path_State_turned_h1_0 (path_State_turned_h1_0')) (nowhere)
theorem o_path_State_turned_h1_0 {base S0 cs0} (hfin : H_path_State_turned_h1 base S0) : O_path_State_turned_h1 base S0 cs0 (x_path_State_turned_h1_0) := OSound.cut (OSound.nowhere) (Nat.le_of_eq hfin.1) (s_path_State_turned_h1_0' hfin)
noncomputable def b_path_State_turned_h1 (d0 : D_path_State) (d1 : D_path_State) : Option R_path_State_turned_h1 :=
  obind (slices_Clone_path_Path d0.1) fun y2 =>
  let n3 : Int := (((List.length y2) : Nat) : Int)
  path_State_turned_h1_0' d1 n3 (0 : Int) d0 (([] : List D_path_Path), ((0 : Int), (([] : List ByteArray), ()))) y2
theorem ex_path_State_turned_h1 : ∃ f, f = @b_path_State_turned_h1 := ⟨_, rfl⟩
noncomputable def path_State_turned_h1 := Classical.choose ex_path_State_turned_h1
theorem path_State_turned_h1_eq : @path_State_turned_h1 = @b_path_State_turned_h1 := Classical.choose_spec ex_path_State_turned_h1
noncomputable def hb_path_State_turned_h1 : HCon := ⟨pa_path_State_turned_h1, pH_path_State_turned_h1, qa_path_State_turned_h1, qH_path_State_turned_h1, R_path_State_turned_h1, fun x => b_path_State_turned_h1 x.1.1 x.1.2.1.1.1, fun r => ((((), (r.1, (r.2.1, ()))), ()), ((((), ()), ()), (r.2.2.1, ()))), fun y => (y.1.1.2.1, y.1.1.2.2.1, y.2.2.1, ()), fun _ => rfl⟩
noncomputable def h_path_State_turned_h1 : HCon := ⟨pa_path_State_turned_h1, pH_path_State_turned_h1, qa_path_State_turned_h1, qH_path_State_turned_h1, R_path_State_turned_h1, fun x => path_State_turned_h1 x.1.1 x.1.2.1.1.1, fun r => ((((), (r.1, (r.2.1, ()))), ()), ((((), ()), ()), (r.2.2.1, ()))), fun y => (y.1.1.2.1, y.1.1.2.2.1, y.2.2.1, ()), fun _ => rfl⟩
theorem hb_path_State_turned_h1_ok : hb_path_State_turned_h1.Sound prog Inv gInv 60 :=
  hcon_run (M := m_path_State_turned_h1) (f := f60) rfl ks_path_State_turned_h1 100000 (X := x_path_State_turned_h1_0) (fun base S0 cs0 hn hf => have hfin : H_path_State_turned_h1 base S0 := ⟨hn, hf⟩; o_path_State_turned_h1_0 hfin) (by intro x; kernel_rfl)
theorem h_path_State_turned_h1_ok : h_path_State_turned_h1.Sound prog Inv gInv 60 := by
  have e : h_path_State_turned_h1 = hb_path_State_turned_h1 := by unfold h_path_State_turned_h1 hb_path_State_turned_h1; rw [path_State_turned_h1_eq]
  rw [e]; exact hb_path_State_turned_h1_ok
end Go.Proofs.YtjdjlijjolibkaaDoor.V
namespace Go.Proofs.YtjdjlijjolibkaaDoor.V
open Go.RowKit Go.Proofs.Tryd
set_option maxRecDepth 100000
set_option linter.unusedVariables false
noncomputable def m_path_Next : Mach prog Inv gInv := mach bas [(27, f27), (60, f60), (72, f72)] ⟨ok27, ok60, ok72, trivial⟩ [(63, c_path_State_now), (70, c_path_fits)] ⟨⟨c_path_State_now_ok, FnOk.callable ok63⟩, ⟨c_path_fits_ok, FnOk.callable ok70⟩, trivial⟩ [(71, c_slices_Clone_string), (111, c_slices_Clone_path_Path)] ⟨⟨c_slices_Clone_string_ok, FnOk.callable ok71⟩, ⟨c_slices_Clone_path_Path_ok, FnOk.callable ok111⟩, trivial⟩ [(60, h_path_State_turned_h0), (60, h_path_State_turned_h1)] ⟨⟨h_path_State_turned_h0_ok, FnOk.callable ok60⟩, ⟨h_path_State_turned_h1_ok, FnOk.callable ok60⟩, trivial⟩
/-! ### domino/path.Next -/
@[reducible] def r_path_Next : List Ty := [T_path_State, T_frame_Frame, .bool]
def ks_path_Next : List Nat := [27, 60, 72]
noncomputable def b_path_Next (a0 : D_path_State) (a1 : Int) : Option (D_path_State × D_frame_Frame × Bool × Unit) :=
  let s2 : ByteArray := (ByteArray.mk (List.toArray ([] : List UInt8)))
  let n3 : Int := (((List.length a0.2.2.1) : Nat) : Int)
  let b4 : Bool := (decide (n3 > (0 : Int)))
  bif b4 then
    bif (decide (((0 : Int) ≤ (0 : Int)) ∧ ((0 : Int) < (((List.length a0.2.2.1) : Nat) : Int)))) then
      let x5 : ByteArray := (List.getD a0.2.2.1 0 (Ty.dflt Ty.str))
      let s6 : ByteArray := (ByteArray.mk (List.toArray ([] : List UInt8)))
      let s7 : ByteArray := (ByteArray.mk (List.toArray ([] : List UInt8)))
      obind (path_fits ((27 : Int), ((0 : Int), ((0 : Int), ((0 : Int), ((0 : Int), ((0 : Int), ((0 : Int), ((0 : Int), (false, (s6, (s6, (x5, (([] : List D_ranges_Range), ()))))))))))))) a1) fun y8 =>
      let b9 : Bool := (!y8.1)
      bif b9 then
        let s10 : ByteArray := (ByteArray.mk (List.toArray ([] : List UInt8)))
        some (a0, (((0 : Int), ((0 : Int), ((0 : Int), ((0 : Int), ((0 : Int), ((0 : Int), ((0 : Int), ((0 : Int), (false, (s10, (s10, (s10, (([] : List D_ranges_Range), ()))))))))))))), (false, ())))
      else
        bif (decide (((0 : Int) ≤ (1 : Int)) ∧ (((1 : Int) ≤ (((List.length a0.2.2.1) : Nat) : Int)) ∧ (((((List.length a0.2.2.1) : Nat) : Int) ≤ (((List.length a0.2.2.1) : Nat) : Int)) ∧ (((((List.length a0.2.2.1) : Nat) : Int) ≤ (((List.length a0.2.2.1) : Nat) : Int)) ∧ ((true = true) ∧ (true = true))))))) then
          let l11 : (List ByteArray) := (List.take ((Int.toNat (((List.length a0.2.2.1) : Nat) : Int)) - 1) (List.drop 1 a0.2.2.1))
          obind (slices_Clone_string l11) fun y12 =>
          some ((a0.1, (a0.2.1, (y12, ()))), (((27 : Int), ((0 : Int), ((0 : Int), ((0 : Int), ((0 : Int), ((0 : Int), ((0 : Int), ((0 : Int), (false, (s6, (s6, (x5, (([] : List D_ranges_Range), ()))))))))))))), (true, ())))
        else none
    else none
  else
    bif (decide (((0 : Int) ≤ a0.2.1) ∧ (a0.2.1 < (((List.length a0.1) : Nat) : Int)))) then
      let x13 : D_path_Path := (List.getD a0.1 (Int.toNat a0.2.1) (Ty.dflt T_path_Path))
      let s14 : ByteArray := (ByteArray.mk (List.toArray ([] : List UInt8)))
      let s15 : ByteArray := (ByteArray.mk (List.toArray ([] : List UInt8)))
      bif (decide (((0 : Int) ≤ a0.2.1) ∧ (a0.2.1 < (((List.length a0.1) : Nat) : Int)))) then
        let x16 : D_path_Path := (List.getD a0.1 (Int.toNat a0.2.1) (Ty.dflt T_path_Path))
        let b17 : Bool := (!x16.2.2.2.2.2.1)
        bif b17 then
          let s22 : ByteArray := (ByteArray.mk (List.toArray ([] : List UInt8)))
          some (a0, (((0 : Int), ((0 : Int), ((0 : Int), ((0 : Int), ((0 : Int), ((0 : Int), ((0 : Int), ((0 : Int), (false, (s22, (s22, (s22, (([] : List D_ranges_Range), ()))))))))))))), (false, ())))
        else
          obind (path_fits ((26 : Int), ((0 : Int), ((0 : Int), ((0 : Int), ((0 : Int), ((0 : Int), ((0 : Int), ((0 : Int), (false, (s14, (s14, (x13.2.2.2.2.1, (([] : List D_ranges_Range), ()))))))))))))) a1) fun y18 =>
          let b19 : Bool := (!y18.1)
          bif b19 then
            let s21 : ByteArray := (ByteArray.mk (List.toArray ([] : List UInt8)))
            some (a0, (((0 : Int), ((0 : Int), ((0 : Int), ((0 : Int), ((0 : Int), ((0 : Int), ((0 : Int), ((0 : Int), (false, (s21, (s21, (s21, (([] : List D_ranges_Range), ()))))))))))))), (false, ())))
          else
            obind (path_State_turned_h1 a0 a0) fun y23 =>
            some ((y23.2.2.1, (y23.1, (y23.2.1, ()))), (((26 : Int), ((0 : Int), ((0 : Int), ((0 : Int), ((0 : Int), ((0 : Int), ((0 : Int), ((0 : Int), (false, (s14, (s14, (x13.2.2.2.2.1, (([] : List D_ranges_Range), ()))))))))))))), (true, ())))
      else none
    else none
theorem ex_path_Next : ∃ f, f = @b_path_Next := ⟨_, rfl⟩
noncomputable def path_Next := Classical.choose ex_path_Next
theorem path_Next_eq : @path_Next = @b_path_Next := Classical.choose_spec ex_path_Next
noncomputable def cb_path_Next : Con := ⟨[T_path_State, (.int .i64)], r_path_Next, fun x => b_path_Next x.1 x.2.1⟩
noncomputable def c_path_Next : Con := ⟨[T_path_State, (.int .i64)], r_path_Next, fun x => path_Next x.1 x.2.1⟩
theorem cb_path_Next_ok : cb_path_Next.Sound prog Inv gInv 27 :=
  con_run (M := m_path_Next) inv_g (f := f27) rfl ks_path_Next 100000 (X := nowhere) (fun base S0 cs0 hn hf => OSound.nowhere) (by intro x; kernel_rfl)
theorem c_path_Next_ok : c_path_Next.Sound prog Inv gInv 27 := by
  have e : c_path_Next = cb_path_Next := by unfold c_path_Next cb_path_Next; rw [path_Next_eq]
  rw [e]; exact cb_path_Next_ok
end Go.Proofs.YtjdjlijjolibkaaDoor.V
/- What path.On and path.Next answer, in plain Lean. -/
namespace Go.Proofs.YtjdjlijjolibkaaDoor.V
open Go.RowKit
/-- What a Response turns. -/
def respF (t : ByteArray) (p : D_path_Path) : D_path_Path := if p.2.2.2.2.1 ≠ ⟨#[]⟩ ∧ p.2.2.2.2.1 = t then (p.1, true, p.2.2.1, p.2.2.2.1, p.2.2.2.2.1, false, ()) else p
theorem on_loop (f : D_frame_Frame) (s0 s1 s2 : D_path_State) : ∀ (suf pre : List D_path_Path) (m : Nat), suf.length < m → (pre ++ suf).length ≤ 4294967296 →
    path_On_0 m (((pre ++ suf).length : Nat) : Int) ((pre.length : Nat) : Int) f s0 s1 (pre ++ suf) s2 = some ((pre ++ suf.map (respF f.2.2.2.2.2.2.2.2.2.2.2.1), s0.2), ()) := by
  intro suf
  induction suf with
  | nil =>
    intro pre m hm _
    obtain ⟨m, rfl⟩ : ∃ k, m = k + 1 := ⟨m - 1, by omega⟩
    simp only [path_On_0, t_path_On_0, mid_end, decide_false, cond_false, List.map_nil]
  | cons x suf ih =>
    intro pre m hm hl
    obtain ⟨m, rfl⟩ : ∃ k, m = k + 1 := ⟨m - 1, by omega⟩
    simp only [path_On_0, t_path_On_0, mid_lt, nn, and_true, decide_true, cond_true, toNat_len, getD_mid, set_mid, path_On_3_eq, b_path_On_3, path_On_4_eq, b_path_On_4, List.map_cons, toList_beq]
    have key : ∀ y : D_path_Path, path_On_0 m (((pre ++ x :: suf).length : Nat) : Int) (IntKind.wrap .i64 (((pre.length : Nat) : Int) + 1)) f s0 s1 (pre ++ y :: suf) s2 = some ((pre ++ y :: suf.map (respF f.2.2.2.2.2.2.2.2.2.2.2.1), s0.2), ()) := by
      intro y
      rw [mid_next pre x y suf hl]
      have := ih (pre ++ [y]) m (by simp at hm; omega) (by simpa using hl)
      simpa using this
    obtain ⟨x1, x2, x3, x4, x5, x6, ⟨⟩⟩ := x
    by_cases h1 : x5 = ⟨#[]⟩
    · have g : respF f.2.2.2.2.2.2.2.2.2.2.2.1 (x1, x2, x3, x4, x5, x6, ()) = (x1, x2, x3, x4, x5, x6, ()) := by simp [respF, h1]
      simp only [decide_eq_true h1, Bool.not_true, cond_false]
      rw [g]; exact key _
    · by_cases h2 : x5 = f.2.2.2.2.2.2.2.2.2.2.2.1
      · have g : respF f.2.2.2.2.2.2.2.2.2.2.2.1 (x1, x2, x3, x4, x5, x6, ()) = (x1, true, x3, x4, x5, false, ()) := by simp [respF, h1, ← h2]
        simp only [decide_eq_false h1, Bool.not_false, cond_true, decide_eq_true h2]
        rw [g]; exact key _
      · have g : respF f.2.2.2.2.2.2.2.2.2.2.2.1 (x1, x2, x3, x4, x5, x6, ()) = (x1, x2, x3, x4, x5, x6, ()) := by simp [respF, h2]
        simp only [decide_eq_false h1, Bool.not_false, cond_true, decide_eq_false h2, cond_false]
        rw [g]; exact key _
def onP (s : D_path_State) (f : D_frame_Frame) : D_path_State :=
  if f.1 = 26 then (if s.2.2.1.length < 4 then (s.1, s.2.1, s.2.2.1 ++ [f.2.2.2.2.2.2.2.2.2.2.2.1], ()) else s)
  else if f.1 = 27 then (s.1.map (respF f.2.2.2.2.2.2.2.2.2.2.2.1), s.2) else s
theorem on_is (s : D_path_State) (f : D_frame_Frame) (hl : s.1.length ≤ 1000) : path_On s f = some (onP s f, ()) := by
  rw [path_On_eq, b_path_On]
  simp only [beq_dec, onP]
  by_cases h26 : f.1 = 26
  · simp only [h26, decide_true, cond_true, if_true]
    by_cases h4 : s.2.2.1.length < 4
    · have c : ((s.2.2.1.length : Nat) : Int) < 4 := by omega
      have clip : slices_Clip_string_h0 s.2.2.1 = some (s.2.2.1, ()) := by
        rw [slices_Clip_string_h0_eq, b_slices_Clip_string_h0]; simp
      have c2 : s.2.2.1.length + [f.2.2.2.2.2.2.2.2.2.2.2.1].length ≤ 4294967296 := by simp; omega
      simp only [h4, c, decide_true, cond_true, if_true, clip, obind_some, c2, Bool.and_true]
    · have c : ¬ ((s.2.2.1.length : Nat) : Int) < 4 := by omega
      simp only [h4, c, decide_false, cond_false, if_false]
  · by_cases h27 : f.1 = 27
    · simp only [h27, decide_true, cond_true, if_true]
      rw [clone_path _ (by omega)]
      simp only [obind_some]
      rw [path_On_0'_eq, b_path_On_0']
      rw [if_neg (by omega)]
      have := on_loop f s ([], 0, [], ()) ([], 0, [], ()) s.1 [] (Int.toNat (((s.1.length : Nat) : Int) - 0) + 2) (by simp) (by simp; omega)
      simp only [List.nil_append, List.length_nil] at this
      exact this
    · simp only [h26, h27, decide_false, cond_false, if_false]
/-- A frame that has a token alone. -/
def tokF (k : Int) (t : ByteArray) : D_frame_Frame := (k, 0, 0, 0, 0, 0, 0, 0, false, ⟨#[]⟩, ⟨#[]⟩, t, [], ())
def noF : D_frame_Frame := (0, 0, 0, 0, 0, 0, 0, 0, false, ⟨#[]⟩, ⟨#[]⟩, ⟨#[]⟩, [], ())
theorem frok_tok (k : Int) (t : ByteArray) (hk : 0 ≤ k ∧ k < 100) : FrOk (tokF k t) := by
  constructor <;> simp [tokF] <;> omega
theorem fits_tok (k : Int) (t : ByteArray) (most : Int) (hk : k = 26 ∨ k = 27) : path_fits (tokF k t) most = some (decide (t.size = 8 ∧ 9 ≤ most), ()) := by
  rw [path_fits_eq, b_path_fits, put_is _ (frok_tok k t (by omega))]
  have hm : mayFr (tokF k t) = decide (t.size = 8) := by
    rcases hk with rfl | rfl
    · have : tokF 26 t = onlyF (tokF 26 t) := rfl
      have hn : numsOk (tokF 26 t) = true := by simp [numsOk, tokF]
      have hd : (tokF 26 t).2.2.2.2.2.2.2.2.2.1.size = 0 := rfl
      have hk2 : kindB (tokF 26 t).1 = true := by show kindB 26 = true; decide
      have he : extraF (tokF 26 t) = decide (t.size = 8) := by
        have : extraF (tokF 26 t) = (((t.size : Nat) : Int) == 8) := rfl
        rw [this, beq_dec]; congr 1; simp; omega
      rw [mayFr, ← this, hn, he, hd, hk2]
      simp
    · have : tokF 27 t = onlyF (tokF 27 t) := rfl
      have hn : numsOk (tokF 27 t) = true := by simp [numsOk, tokF]
      have hd : (tokF 27 t).2.2.2.2.2.2.2.2.2.1.size = 0 := rfl
      have hk2 : kindB (tokF 27 t).1 = true := by show kindB 27 = true; decide
      have he : extraF (tokF 27 t) = decide (t.size = 8) := by
        have : extraF (tokF 27 t) = (((t.size : Nat) : Int) == 8) := rfl
        rw [this, beq_dec]; congr 1; simp; omega
      rw [mayFr, ← this, hn, he, hd, hk2]
      simp
  have hp : (putL (tokF k t)).length = 1 + t.size := by
    rcases hk with rfl | rfl
    · have : putL (tokF 26 t) = 26 :: strBytes t := rfl
      rw [this, List.length_cons, strBytes_len]; omega
    · have : putL (tokF 27 t) = 27 :: strBytes t := rfl
      rw [this, List.length_cons, strBytes_len]; omega
  rw [hm]
  by_cases h : t.size = 8
  · simp only [h, decide_true, if_true, obind_some, beq_self_eq_true, cond_true, bytesStr_size, hp, true_and]
    congr 2
  · simp [h]
theorem todo_loop (d s0 s1 : D_path_State) : ∀ (suf pre : List D_path_Path) (m : Nat), suf.length < m → (pre ++ suf).length ≤ 4294967296 →
    path_State_turned_h1_0 m d (((pre ++ suf).length : Nat) : Int) ((pre.length : Nat) : Int) s0 s1 (pre ++ suf) =
      some (s0.2.1, s0.2.2.1, pre ++ mapI (fun i p => if i = d.2.1 then (p.1, p.2.1, p.2.2.1, p.2.2.2.1, p.2.2.2.2.1, false, ()) else p) ((pre.length : Nat) : Int) suf, ()) := by
  intro suf
  induction suf with
  | nil =>
    intro pre m hm _
    obtain ⟨m, rfl⟩ : ∃ k, m = k + 1 := ⟨m - 1, by omega⟩
    simp only [path_State_turned_h1_0, t_path_State_turned_h1_0, mid_end, decide_false, cond_false, mapI]
  | cons x suf ih =>
    intro pre m hm hl
    obtain ⟨m, rfl⟩ : ∃ k, m = k + 1 := ⟨m - 1, by omega⟩
    simp only [path_State_turned_h1_0, t_path_State_turned_h1_0, mid_lt, nn, and_true, decide_true, cond_true, toNat_len, getD_mid, set_mid, path_State_turned_h1_2_eq, b_path_State_turned_h1_2, mapI, now_is, obind_some]
    have key : ∀ y : D_path_Path, path_State_turned_h1_0 m d (((pre ++ x :: suf).length : Nat) : Int) (IntKind.wrap .i64 (((pre.length : Nat) : Int) + 1)) s0 s1 (pre ++ y :: suf) =
        some (s0.2.1, s0.2.2.1, pre ++ y :: mapI (fun i p => if i = d.2.1 then (p.1, p.2.1, p.2.2.1, p.2.2.2.1, p.2.2.2.2.1, false, ()) else p) (((pre.length : Nat) : Int) + 1) suf, ()) := by
      intro y
      rw [mid_next pre x y suf hl]
      have e : ((pre.length : Nat) : Int) + 1 = (((pre ++ [y]).length : Nat) : Int) := by simp
      have := ih (pre ++ [y]) m (by simp at hm; omega) (by simpa using hl)
      rw [e]
      simpa using this
    by_cases h : ((pre.length : Nat) : Int) = d.2.1
    · simp only [beq_of h, cond_true, if_pos h]
      exact key _
    · simp only [beq_false_of_ne h, cond_false, if_neg h]
      exact key x
def nextP (s : D_path_State) (most : Int) : D_path_State × D_frame_Frame × Bool × Unit :=
  match s.2.2.1 with
  | a :: l => if a.size = 8 ∧ 9 ≤ most then ((s.1, s.2.1, l, ()), tokF 27 a, true, ()) else (s, noF, false, ())
  | [] =>
    let p := s.1.getD s.2.1.toNat (Ty.dflt T_path_Path)
    if p.2.2.2.2.2.1 = true ∧ p.2.2.2.2.1.size = 8 ∧ 9 ≤ most then
      ((mapI (fun i p => if i = s.2.1 then (p.1, p.2.1, p.2.2.1, p.2.2.2.1, p.2.2.2.2.1, false, ()) else p) 0 s.1, s.2), tokF 26 p.2.2.2.2.1, true, ())
    else (s, noF, false, ())
theorem next_is (s : D_path_State) (most : Int) (hl : s.1.length ≤ 1000) (ha : s.2.2.1.length ≤ 1000) (hn : 0 ≤ s.2.1 ∧ s.2.1 < ((s.1.length : Nat) : Int)) : path_Next s most = some (nextP s most) := by
  obtain ⟨L, now, A, u⟩ := s
  simp only at *
  have f26 : ∀ t, path_fits (26, 0, 0, 0, 0, 0, 0, 0, false, ⟨#[]⟩, ⟨#[]⟩, t, [], ()) most = some (decide (t.size = 8 ∧ 9 ≤ most), ()) := fun t => fits_tok 26 t most (.inl rfl)
  have f27 : ∀ t, path_fits (27, 0, 0, 0, 0, 0, 0, 0, false, ⟨#[]⟩, ⟨#[]⟩, t, [], ()) most = some (decide (t.size = 8 ∧ 9 ≤ most), ()) := fun t => fits_tok 27 t most (.inr rfl)
  rw [path_Next_eq, b_path_Next]
  cases A with
  | cons a l =>
    have c0 : (((a :: l).length : Nat) : Int) > 0 := by simp
    have c0' : (0 : Int) < (((a :: l).length : Nat) : Int) := c0
    have c1 : (1 : Int) ≤ (((a :: l).length : Nat) : Int) := by simp; omega
    simp only [c0, c1, Int.le_refl, and_self, decide_true, cond_true, List.getD_cons_zero, f27, obind_some, nextP]
    by_cases h : a.size = 8 ∧ 9 ≤ most
    · have hd : List.take (Int.toNat (((a :: l).length : Nat) : Int) - 1) (List.drop 1 (a :: l)) = l := by simp
      have hc : slices_Clone_string l = some l := by unfold slices_Clone_string; rw [decide_eq_true (by simp at ha; omega)]; rfl
      have z : (0 : Int) ≤ 1 := by omega
      simp only [h, and_self, decide_true, Bool.not_true, cond_false, cond_true, if_true, hd, hc, obind_some, z]
      rfl
    · simp only [h, decide_false, Bool.not_false, cond_true, if_false]
      rfl
  | nil =>
    have c0 : ¬ ((([] : List ByteArray).length : Nat) : Int) > 0 := by simp
    simp only [c0, decide_false, cond_false, hn, and_self, decide_true, cond_true, f26, nextP]
    generalize hp : L.getD now.toNat (Ty.dflt T_path_Path) = p
    obtain ⟨p1, p2, p3, p4, p5, p6, ⟨⟩⟩ := p
    cases p6 with
    | false =>
      simp only [Bool.not_false, cond_true, Bool.false_eq_true, false_and, if_false]
      rfl
    | true =>
      simp only [Bool.not_true, cond_false, obind_some, true_and]
      by_cases h : p5.size = 8 ∧ 9 ≤ most
      · simp only [h, and_self, decide_true, Bool.not_true, cond_false, if_true]
        rw [path_State_turned_h1_eq, b_path_State_turned_h1, clone_path _ (by simpa using (by omega : L.length ≤ 4294967296))]
        simp only [obind_some]
        rw [path_State_turned_h1_0'_eq, b_path_State_turned_h1_0']
        have := todo_loop (L, now, [], u) (L, now, [], u) ([], 0, [], ()) L [] (Int.toNat (((L.length : Nat) : Int) - 0) + 2) (by simp) (by simp; omega)
        simp only [List.nil_append, List.length_nil] at this
        rw [show ((0 : Nat) : Int) = 0 from rfl] at this
        rw [this]
        rfl
      · simp only [h, decide_false, Bool.not_false, cond_true, if_false]
        rfl
end Go.Proofs.YtjdjlijjolibkaaDoor.V
namespace Go.Proofs.YtjdjlijjolibkaaDoor.V
open Go.RowKit Go.Proofs.Tryd
set_option maxRecDepth 100000
set_option linter.unusedVariables false
noncomputable def m_law19_shown : Mach prog Inv gInv := mach bas [(20, f20)] ⟨ok20, trivial⟩ [(21, c_path_New), (22, c_path_Seen), (23, c_path_Move), (24, c_path_May), (25, c_path_Sent), (26, c_path_On), (27, c_path_Next), (28, c_path_To)] ⟨⟨c_path_New_ok, FnOk.callable ok21⟩, ⟨c_path_Seen_ok, FnOk.callable ok22⟩, ⟨c_path_Move_ok, FnOk.callable ok23⟩, ⟨c_path_May_ok, FnOk.callable ok24⟩, ⟨c_path_Sent_ok, FnOk.callable ok25⟩, ⟨c_path_On_ok, FnOk.callable ok26⟩, ⟨c_path_Next_ok, FnOk.callable ok27⟩, ⟨c_path_To_ok, FnOk.callable ok28⟩, trivial⟩ [] trivial [] trivial
/-! ### domino/dominolaw19.shown -/
@[reducible] def r_law19_shown : List Ty := [.bool]
def ks_law19_shown : List Nat := [20]
noncomputable def b_law19_shown : Option (Bool × Unit) :=
  obind (path_New (1 : Int)) fun y0 =>
  obind (path_Seen y0.1 (2 : Int) (10 : Int)) fun y1 =>
  obind (path_Move y1.1 (2 : Int) (ByteArray.mk (List.toArray ((97 : UInt8) :: ((98 : UInt8) :: ((99 : UInt8) :: ((100 : UInt8) :: ((101 : UInt8) :: ((102 : UInt8) :: ((103 : UInt8) :: ((104 : UInt8) :: ([] : List UInt8)))))))))))) fun y2 =>
  obind (path_Next y2.1 (9 : Int)) fun y3 =>
  let s4 : ByteArray := (ByteArray.mk (List.toArray ([] : List UInt8)))
  let s5 : ByteArray := (ByteArray.mk (List.toArray ([] : List UInt8)))
  let s6 : ByteArray := (ByteArray.mk (List.toArray ((97 : UInt8) :: ((98 : UInt8) :: ((99 : UInt8) :: ((100 : UInt8) :: ((101 : UInt8) :: ((102 : UInt8) :: ((103 : UInt8) :: ((104 : UInt8) :: ([] : List UInt8)))))))))))
  obind (path_On y3.1 ((27 : Int), ((0 : Int), ((0 : Int), ((0 : Int), ((0 : Int), ((0 : Int), ((0 : Int), ((0 : Int), (false, (s5, (s5, (s6, (([] : List D_ranges_Range), ())))))))))))))) fun y7 =>
  obind (path_Move y2.1 (3 : Int) (ByteArray.mk (List.toArray ([] : List UInt8)))) fun y8 =>
  let b9 : Bool := (y1.2.1 == (0 : Int))
  bif b9 then
    let b10 : Bool := (y2.2.1 == (0 : Int))
    bif b10 then
      obind (path_To y2.1) fun y11 =>
      let b12 : Bool := (y11.1 == (2 : Int))
      bif b12 then
        obind (path_May y2.1 (31 : Int)) fun y13 =>
        let b14 : Bool := (!y13.1)
        bif b14 then
          obind (path_May y2.1 (30 : Int)) fun y15 =>
          bif y15.1 then
            obind (path_Sent y2.1 (1 : Int)) fun y16 =>
            obind (path_May y16.1 (30 : Int)) fun y17 =>
            let b18 : Bool := (!y17.1)
            bif b18 then
              bif y3.2.2.1 then
                let b19 : Bool := (y3.2.1.1 == (26 : Int))
                bif b19 then
                  obind (path_May y7.1 (1000 : Int)) fun y20 =>
                  bif y20.1 then
                    let b21 : Bool := (y8.2.1 == (190 : Int))
                    some (b21, ())
                  else
                    some (false, ())
                else
                  some (false, ())
              else
                some (false, ())
            else
              some (false, ())
          else
            some (false, ())
        else
          some (false, ())
      else
        some (false, ())
    else
      some (false, ())
  else
    some (false, ())
theorem ex_law19_shown : ∃ f, f = @b_law19_shown := ⟨_, rfl⟩
noncomputable def law19_shown := Classical.choose ex_law19_shown
theorem law19_shown_eq : @law19_shown = @b_law19_shown := Classical.choose_spec ex_law19_shown
noncomputable def cb_law19_shown : Con := ⟨[], r_law19_shown, fun x => b_law19_shown⟩
noncomputable def c_law19_shown : Con := ⟨[], r_law19_shown, fun x => law19_shown⟩
theorem cb_law19_shown_ok : cb_law19_shown.Sound prog Inv gInv 20 :=
  con_run (M := m_law19_shown) inv_g (f := f20) rfl ks_law19_shown 100000 (X := nowhere) (fun base S0 cs0 hn hf => OSound.nowhere) (by intro x; kernel_rfl)
theorem c_law19_shown_ok : c_law19_shown.Sound prog Inv gInv 20 := by
  have e : c_law19_shown = cb_law19_shown := by unfold c_law19_shown cb_law19_shown; rw [law19_shown_eq]
  rw [e]; exact cb_law19_shown_ok
end Go.Proofs.YtjdjlijjolibkaaDoor.V
namespace Go.Proofs.YtjdjlijjolibkaaDoor.V
open Go.RowKit Go.Proofs.Tryd
set_option maxRecDepth 100000
set_option linter.unusedVariables false
noncomputable def m_law19_PathFull : Mach prog Inv gInv := mach bas [(5, f5)] ⟨ok5, trivial⟩ [(20, c_law19_shown), (21, c_path_New), (22, c_path_Seen), (23, c_path_Move), (24, c_path_May), (28, c_path_To)] ⟨⟨c_law19_shown_ok, FnOk.callable ok20⟩, ⟨c_path_New_ok, FnOk.callable ok21⟩, ⟨c_path_Seen_ok, FnOk.callable ok22⟩, ⟨c_path_Move_ok, FnOk.callable ok23⟩, ⟨c_path_May_ok, FnOk.callable ok24⟩, ⟨c_path_To_ok, FnOk.callable ok28⟩, trivial⟩ [] trivial [] trivial
/-! ### domino/dominolaw19.PathFull -/
@[reducible] def r_law19_PathFull : List Ty := [.bool]
def ks_law19_PathFull : List Nat := [5]
abbrev H_law19_PathFull (base : Base) (S0 : Nat → Prop) := base.n = 0 ∧ FinOk (finR r_law19_PathFull) base S0 (Post r_law19_PathFull S0)
abbrev J_law19_PathFull (base : Base) (S0 : Nat → Prop) (cs0 : List Go.Frame) (p : CPat) (J : denC p → Option (denL r_law19_PathFull)) := JSound m_law19_PathFull base S0 cs0 (Post r_law19_PathFull S0) p J
abbrev O_law19_PathFull (base : Base) (S0 : Nat → Prop) (cs0 : List Go.Frame) (X : Cfg → Option (Option (denL r_law19_PathFull))) := OSound m_law19_PathFull base S0 cs0 (Post r_law19_PathFull S0) X
@[reducible] noncomputable def p_law19_PathFull_0 : CPat := ⟨⟨5, [1, 1, 1, 0, 1, 0], none, [.any, .int .u16, .any, .any, .any, .ptr 0 0, .int .i64, .int .i64], 113⟩, [], [.dat 28 T_path_State], 0⟩
@[reducible] noncomputable def u_law19_PathFull_0 (k : Int → Int → Int → D_path_State → Option (Bool × Unit)) : denC p_law19_PathFull_0 → Option (Bool × Unit) := fun x => k x.1.2.1 x.1.2.2.2.2.2.2.1 x.1.2.2.2.2.2.2.2.1 x.2.2.1
@[reducible] noncomputable def p_law19_PathFull_2 : CPat := ⟨⟨5, [1, 1, 1, 0, 1, 0, 0, 1, 0, 0, 1, 0, 1, 1], none, [.any, .int .u16, .any, .any, .any, .ptr 0 0, .int .i64, .int .i64, .ptr 1 0], 112⟩, [], [.dat 28 T_path_State, .dat 28 T_path_State], 0⟩
@[reducible] noncomputable def u_law19_PathFull_2 (k : Int → Int → Int → D_path_State → D_path_State → Option (Bool × Unit)) : denC p_law19_PathFull_2 → Option (Bool × Unit) := fun x => k x.1.2.1 x.1.2.2.2.2.2.2.1 x.1.2.2.2.2.2.2.2.1 x.2.2.1 x.2.2.2.1
noncomputable def b_law19_PathFull_2 (k0 : Int → Int → Int → D_path_State → Option (Bool × Unit)) (i88 : Int) (i89 : Int) (i90 : Int) (d91 : D_path_State) (d92 : D_path_State) : Option (Bool × Unit) :=
  let n93 : Int := (Go.IntKind.wrap Go.IntKind.i64 (i90 + (1 : Int)))
  k0 i88 i89 n93 d92
theorem ex_law19_PathFull_2 : ∃ f, f = @b_law19_PathFull_2 := ⟨_, rfl⟩
noncomputable def law19_PathFull_2 := Classical.choose ex_law19_PathFull_2
theorem law19_PathFull_2_eq : @law19_PathFull_2 = @b_law19_PathFull_2 := Classical.choose_spec ex_law19_PathFull_2
theorem s_law19_PathFull_2 {base S0 cs0} (hfin : H_law19_PathFull base S0) (k0) (h0 : J_law19_PathFull base S0 cs0 p_law19_PathFull_0 (u_law19_PathFull_0 k0)) : J_law19_PathFull base S0 cs0 p_law19_PathFull_2 (u_law19_PathFull_2 (law19_PathFull_2 k0)) :=
  JSound.join hfin.2 (OSound.cut (OSound.nowhere) (Nat.le_of_eq hfin.1) h0) ks_law19_PathFull 100000 (by rw [law19_PathFull_2_eq]; intro x; kernel_rfl)
noncomputable def x_law19_PathFull_2 (k0 : Int → Int → Int → D_path_State → Option (Bool × Unit)) : Cfg → Option (Option (Bool × Unit)) := cut p_law19_PathFull_2 (u_law19_PathFull_2 (law19_PathFull_2 k0)) (cut p_law19_PathFull_0 (u_law19_PathFull_0 k0) (nowhere))
theorem o_law19_PathFull_2 {base S0 cs0} (hfin : H_law19_PathFull base S0) (k0) (h0 : J_law19_PathFull base S0 cs0 p_law19_PathFull_0 (u_law19_PathFull_0 k0)) : O_law19_PathFull base S0 cs0 (x_law19_PathFull_2 k0) := OSound.cut (OSound.cut (OSound.nowhere) (Nat.le_of_eq hfin.1) h0) (Nat.le_of_eq hfin.1) (s_law19_PathFull_2 hfin k0 h0)
noncomputable def t_law19_PathFull_0 (k0 : Int → Int → Int → D_path_State → Option (Bool × Unit)) (i47 : Int) (i48 : Int) (i49 : Int) (d50 : D_path_State) : Option (Bool × Unit) :=
  let b51 : Bool := (decide (i49 ≤ i48))
  bif b51 then
    obind (path_Seen d50 i49 (5 : Int)) fun y52 =>
    let b53 : Bool := (y52.2.1 == (0 : Int))
    let b54 : Bool := (decide (i49 < (16 : Int)))
    let b55 : Bool := (!(b53 == b54))
    bif b55 then
      some (false, ())
    else
      let b56 : Bool := (y52.2.1 != (0 : Int))
      bif b56 then
        let b57 : Bool := (y52.2.1 != (2 : Int))
        bif b57 then
          some (false, ())
        else
          let n58 : Int := (((List.length y52.1.1) : Nat) : Int)
          let b59 : Bool := (n58 != (16 : Int))
          bif b59 then
            some (false, ())
          else
            law19_PathFull_2 k0 i47 i48 i49 d50 y52.1
      else
        law19_PathFull_2 k0 i47 i48 i49 d50 y52.1
  else
    obind (path_Move d50 (99 : Int) (ByteArray.mk (List.toArray ((97 : UInt8) :: ((98 : UInt8) :: ((99 : UInt8) :: ((100 : UInt8) :: ((101 : UInt8) :: ((102 : UInt8) :: ((103 : UInt8) :: ((104 : UInt8) :: ([] : List UInt8)))))))))))) fun y60 =>
    let n61 : Int := (if ((15 : Int) < i48) then (15 : Int) else i48)
    obind (path_Move d50 n61 (ByteArray.mk (List.toArray ((97 : UInt8) :: ((98 : UInt8) :: ((99 : UInt8) :: ((100 : UInt8) :: ((101 : UInt8) :: ((102 : UInt8) :: ((103 : UInt8) :: ((104 : UInt8) :: ([] : List UInt8)))))))))))) fun y62 =>
    obind (path_Move y62.1 (0 : Int) (ByteArray.mk (List.toArray ((104 : UInt8) :: ((103 : UInt8) :: ((102 : UInt8) :: ((101 : UInt8) :: ((100 : UInt8) :: ((99 : UInt8) :: ((98 : UInt8) :: ((97 : UInt8) :: ([] : List UInt8)))))))))))) fun y63 =>
    let b64 : Bool := (y60.2.1 == (190 : Int))
    bif b64 then
      let b65 : Bool := (y62.2.1 == (0 : Int))
      bif b65 then
        let b66 : Bool := (y63.2.1 == (0 : Int))
        bif b66 then
          obind (path_To y62.1) fun y67 =>
          let b68 : Bool := (y67.1 == n61)
          bif b68 then
            obind (path_To y63.1) fun y69 =>
            let b70 : Bool := (y69.1 == (0 : Int))
            bif b70 then
              let n71 : Int := (Go.IntKind.wrap Go.IntKind.i64 i47)
              obind (path_May y63.1 n71) fun y72 =>
              bif y72.1 then
                let n73 : Int := (Go.IntKind.wrap Go.IntKind.i64 i47)
                obind (path_May y62.1 n73) fun y74 =>
                let b75 : Bool := (n61 == (0 : Int))
                bif b75 then
                  let b76 : Bool := (y74.1 == true)
                  bif b76 then
                    let n77 : Int := (((List.length d50.1) : Nat) : Int)
                    let n78 : Int := (Go.IntKind.wrap Go.IntKind.i64 ((1 : Int) + n61))
                    let b79 : Bool := (n77 == n78)
                    bif b79 then
                      obind law19_shown fun y80 =>
                      some y80
                    else
                      some (false, ())
                  else
                    some (false, ())
                else
                  let b81 : Bool := (decide (i47 ≤ (15 : Int)))
                  let b82 : Bool := (y74.1 == b81)
                  bif b82 then
                    let n83 : Int := (((List.length d50.1) : Nat) : Int)
                    let n84 : Int := (Go.IntKind.wrap Go.IntKind.i64 ((1 : Int) + n61))
                    let b85 : Bool := (n83 == n84)
                    bif b85 then
                      obind law19_shown fun y86 =>
                      some y86
                    else
                      some (false, ())
                  else
                    some (false, ())
              else
                some (false, ())
            else
              some (false, ())
          else
            some (false, ())
        else
          some (false, ())
      else
        some (false, ())
    else
      some (false, ())
noncomputable def law19_PathFull_0 : Nat → Int → Int → Int → D_path_State → Option (Bool × Unit)
  | 0 => fun _ _ _ _ => none
  | m + 1 => t_law19_PathFull_0 (law19_PathFull_0 m)
noncomputable def b_law19_PathFull_0' (i47 : Int) (i48 : Int) (i49 : Int) (d50 : D_path_State) : Option (Bool × Unit) := law19_PathFull_0 (Int.toNat (i48 - i49) + 2) i47 i48 i49 d50
theorem ex_law19_PathFull_0' : ∃ f, f = @b_law19_PathFull_0' := ⟨_, rfl⟩
noncomputable def law19_PathFull_0' := Classical.choose ex_law19_PathFull_0'
theorem law19_PathFull_0'_eq : @law19_PathFull_0' = @b_law19_PathFull_0' := Classical.choose_spec ex_law19_PathFull_0'
theorem s_law19_PathFull_0 {base S0 cs0} (hfin : H_law19_PathFull base S0) : ∀ m, J_law19_PathFull base S0 cs0 p_law19_PathFull_0 (u_law19_PathFull_0 (law19_PathFull_0 m)) :=
  JSound.loop' hfin.2 ks_law19_PathFull 100000 u_law19_PathFull_0 (fun k0 => x_law19_PathFull_2 k0) (fun k0 h0 => o_law19_PathFull_2 hfin k0 h0) (law19_PathFull_0) (by intro x; rfl) (by intro m x; kernel_rfl)
theorem s_law19_PathFull_0' {base S0 cs0} (hfin : H_law19_PathFull base S0) : J_law19_PathFull base S0 cs0 p_law19_PathFull_0 (u_law19_PathFull_0 (law19_PathFull_0')) := by
  rw [law19_PathFull_0'_eq]; exact fun x r hx => s_law19_PathFull_0 hfin _ x r hx
noncomputable def x_law19_PathFull_0 : Cfg → Option (Option (Bool × Unit)) := cut p_law19_PathFull_0 (u_law19_PathFull_0 (law19_PathFull_0')) (nowhere)
theorem o_law19_PathFull_0 {base S0 cs0} (hfin : H_law19_PathFull base S0) : O_law19_PathFull base S0 cs0 (x_law19_PathFull_0) := OSound.cut (OSound.nowhere) (Nat.le_of_eq hfin.1) (s_law19_PathFull_0' hfin)
noncomputable def b_law19_PathFull (a0 : Int) (a1 : Int) : Option (Bool × Unit) :=
  obind (path_New (0 : Int)) fun y2 =>
  let n3 : Int := (Go.IntKind.wrap Go.IntKind.i64 a0)
  let n4 : Int := (Int.tmod n3 (30 : Int))
  law19_PathFull_0' a1 n4 (1 : Int) y2.1
theorem ex_law19_PathFull : ∃ f, f = @b_law19_PathFull := ⟨_, rfl⟩
noncomputable def law19_PathFull := Classical.choose ex_law19_PathFull
theorem law19_PathFull_eq : @law19_PathFull = @b_law19_PathFull := Classical.choose_spec ex_law19_PathFull
noncomputable def cb_law19_PathFull : Con := ⟨[(.int .u8), (.int .u16)], r_law19_PathFull, fun x => b_law19_PathFull x.1 x.2.1⟩
noncomputable def c_law19_PathFull : Con := ⟨[(.int .u8), (.int .u16)], r_law19_PathFull, fun x => law19_PathFull x.1 x.2.1⟩
theorem cb_law19_PathFull_ok : cb_law19_PathFull.Sound prog Inv gInv 5 :=
  con_run (M := m_law19_PathFull) inv_g (f := f5) rfl ks_law19_PathFull 100000 (X := x_law19_PathFull_0) (fun base S0 cs0 hn hf => have hfin : H_law19_PathFull base S0 := ⟨hn, hf⟩; o_law19_PathFull_0 hfin) (by intro x; kernel_rfl)
theorem c_law19_PathFull_ok : c_law19_PathFull.Sound prog Inv gInv 5 := by
  have e : c_law19_PathFull = cb_law19_PathFull := by unfold c_law19_PathFull cb_law19_PathFull; rw [law19_PathFull_eq]
  rw [e]; exact cb_law19_PathFull_ok
end Go.Proofs.YtjdjlijjolibkaaDoor.V
/- The law PathFull in plain Lean: there are sixteen paths at most. -/
namespace Go.Proofs.YtjdjlijjolibkaaDoor.V
open Go.RowKit
def tokA : ByteArray := ByteArray.mk (List.toArray (97 :: 98 :: 99 :: 100 :: 101 :: 102 :: 103 :: 104 :: []))
def tokZ : ByteArray := ByteArray.mk (List.toArray (104 :: 103 :: 102 :: 101 :: 100 :: 99 :: 98 :: 97 :: []))
theorem shown19_is : law19_shown = some (true, ()) := by
  have h1 : path_Seen ([(1, true, 0, 0, ⟨#[]⟩, false, ())], 0, [], ()) 2 10 = some (([(1, true, 0, 0, ⟨#[]⟩, false, ()), (2, false, 10, 0, ⟨#[]⟩, false, ())], 0, [], ()), 0, ()) := by
    rw [seen_is _ _ _ (by decide)]; decide +kernel
  have h2 : path_Move ([(1, true, 0, 0, ⟨#[]⟩, false, ()), (2, false, 10, 0, ⟨#[]⟩, false, ())], 0, [], ()) 2 tokA = some (([(1, true, 0, 0, ⟨#[]⟩, false, ()), (2, false, 10, 0, tokA, true, ())], 1, [], ()), 0, ()) := by
    rw [move_is _ _ _ (by decide)]; decide +kernel
  have h3 : path_Next ([(1, true, 0, 0, ⟨#[]⟩, false, ()), (2, false, 10, 0, tokA, true, ())], 1, [], ()) 9 = some (([(1, true, 0, 0, ⟨#[]⟩, false, ()), (2, false, 10, 0, tokA, false, ())], 1, [], ()), tokF 26 tokA, true, ()) := by
    rw [next_is _ _ (by decide) (by decide) (by decide)]; decide +kernel
  have h4 : path_On ([(1, true, 0, 0, ⟨#[]⟩, false, ()), (2, false, 10, 0, tokA, false, ())], 1, [], ()) (tokF 27 tokA) = some (([(1, true, 0, 0, ⟨#[]⟩, false, ()), (2, true, 10, 0, tokA, false, ())], 1, [], ()), ()) := by
    rw [on_is _ _ (by decide)]; decide +kernel
  have h5 : path_Move ([(1, true, 0, 0, ⟨#[]⟩, false, ()), (2, false, 10, 0, tokA, true, ())], 1, [], ()) 3 ⟨#[]⟩ = some (([(1, true, 0, 0, ⟨#[]⟩, false, ()), (2, false, 10, 0, tokA, true, ())], 1, [], ()), 190, ()) := by
    rw [move_is _ _ _ (by decide)]; decide +kernel
  have h6 : path_To ([(1, true, 0, 0, ⟨#[]⟩, false, ()), (2, false, 10, 0, tokA, true, ())], 1, [], ()) = some (2, ()) := by
    rw [to_is _ (by decide)]; rfl
  have h7 : path_May ([(1, true, 0, 0, ⟨#[]⟩, false, ()), (2, false, 10, 0, tokA, true, ())], 1, [], ()) 31 = some (false, ()) := by
    rw [may_is _ _ (by decide)]; decide +kernel
  have h8 : path_May ([(1, true, 0, 0, ⟨#[]⟩, false, ()), (2, false, 10, 0, tokA, true, ())], 1, [], ()) 30 = some (true, ()) := by
    rw [may_is _ _ (by decide)]; decide +kernel
  have h9 : path_Sent ([(1, true, 0, 0, ⟨#[]⟩, false, ()), (2, false, 10, 0, tokA, true, ())], 1, [], ()) 1 = some (([(1, true, 0, 0, ⟨#[]⟩, false, ()), (2, false, 10, 1, tokA, true, ())], 1, [], ()), ()) := by
    rw [sent_is _ _ (by decide)]; decide +kernel
  have h10 : path_May ([(1, true, 0, 0, ⟨#[]⟩, false, ()), (2, false, 10, 1, tokA, true, ())], 1, [], ()) 30 = some (false, ()) := by
    rw [may_is _ _ (by decide)]; decide +kernel
  have h11 : path_May ([(1, true, 0, 0, ⟨#[]⟩, false, ()), (2, true, 10, 0, tokA, false, ())], 1, [], ()) 1000 = some (true, ()) := by
    rw [may_is _ _ (by decide)]; decide +kernel
  rw [law19_shown_eq, b_law19_shown, new_is]
  unfold tokA tokF at *
  simp only [obind_some, h1, h2, h3, h4, h5, h6, h7, h8, h9, h10, h11]
  rfl
/-- So many paths. -/
def stA (k : Nat) : D_path_State := ((List.range (k + 1)).map (fun (j : Nat) => (((j : Nat) : Int), decide (j = 0), if j = 0 then 0 else 5, 0, ⟨#[]⟩, false, ())), 0, [], ())
theorem full_seen : ∀ i : _root_.Fin 30, 1 ≤ i.val → seenF (stA (min (i.val - 1) 15)) i.val 5 = (stA (min i.val 15), if i.val < 16 then 0 else 2, ()) := by decide +kernel
theorem stA_len (k : Nat) : (stA k).1.length = k + 1 := by simp [stA]
theorem full_end : ∀ k : _root_.Fin 16, (moveF (stA k.val) 99 tokA).2.1 = 190 ∧ (moveF (stA k.val) k.val tokA).2.1 = 0 ∧ (moveF (stA k.val) k.val tokA).1.1.length = k.val + 1 ∧ (moveF (stA k.val) k.val tokA).1.2.1 = k.val ∧
    (moveF (stA k.val) k.val tokA).1.1.getD k.val (Ty.dflt T_path_Path) = (if k.val = 0 then ((0 : Int), true, 0, 0, ⟨#[]⟩, false, ()) else ((k.val : Int), false, 5, 0, tokA, true, ())) ∧
    (moveF (moveF (stA k.val) k.val tokA).1 0 tokZ).2.1 = 0 ∧ (moveF (moveF (stA k.val) k.val tokA).1 0 tokZ).1.1.length = k.val + 1 ∧ (moveF (moveF (stA k.val) k.val tokA).1 0 tokZ).1.2.1 = 0 ∧
    ((moveF (moveF (stA k.val) k.val tokA).1 0 tokZ).1.1.getD 0 (Ty.dflt T_path_Path)).1 = 0 ∧ ((moveF (moveF (stA k.val) k.val tokA).1 0 tokZ).1.1.getD 0 (Ty.dflt T_path_Path)).2.1 = true := by decide +kernel
theorem full_loop (size n : Int) (hs : 0 ≤ size ∧ size ≤ 65535) (hn : 0 ≤ n ∧ n < 30) : ∀ (m : Nat) (i : Nat), 1 ≤ i → (i : Int) ≤ n + 1 → (n + 1 - i : Int) < m → law19_PathFull_0 m size n i (stA (min (i - 1) 15)) = some (true, ()) := by
  intro m
  induction m with
  | zero => intro i _ h0 h1; omega
  | succ m ih =>
    intro i hi h0 hm
    simp only [law19_PathFull_0, t_law19_PathFull_0]
    by_cases hle : (i : Int) ≤ n
    · simp only [hle, decide_true, cond_true]
      have hsn := full_seen ⟨i, by omega⟩ hi
      simp only at hsn
      rw [seen_is _ _ _ (by rw [stA_len]; omega), hsn]
      have e1 : IntKind.wrap .i64 ((i : Int) + 1) = ((i + 1 : Nat) : Int) := by rw [wrap_i64 _ (by omega) (by omega)]; omega
      have ih' := ih (i + 1) (by omega) (by omega) (by omega)
      rw [show i + 1 - 1 = i by omega] at ih'
      by_cases h16 : i < 16
      · have c : (i : Int) < 16 := by omega
        simp only [obind_some, h16, c, if_true, decide_true, beq_self_eq_true, Bool.not_true, cond_false, bne_self_eq_false]
        rw [law19_PathFull_2_eq]
        simp only [b_law19_PathFull_2, e1]
        exact ih'
      · have c : ¬ (i : Int) < 16 := by omega
        have hl : (((stA (min i 15)).1.length : Nat) : Int) = 16 := by rw [stA_len]; omega
        simp only [obind_some, h16, c, if_false, decide_false, hl]
        rw [law19_PathFull_2_eq]
        simp only [b_law19_PathFull_2, e1]
        simpa using ih'
    · have en : n = ((i - 1 : Nat) : Int) := by omega
      simp only [hle, decide_false, cond_false]
      have hk : (if (15 : Int) < n then (15 : Int) else n) = ((min (i - 1) 15 : Nat) : Int) := by split <;> omega
      have hk16 : min (i - 1) 15 < 16 := by omega
      rw [hk]
      generalize min (i - 1) 15 = k at *
      obtain ⟨f1, f2, f3, f4, f5, f6, f7, f8, f9, f10⟩ := full_end ⟨k, hk16⟩
      simp only at f1 f2 f3 f4 f5 f6 f7 f8 f9 f10
      have m1 := move_is (stA k) 99 tokA (by rw [stA_len]; omega)
      have m2 := move_is (stA k) k tokA (by rw [stA_len]; omega)
      have m3 := move_is (moveF (stA k) k tokA).1 0 tokZ (by omega)
      have t1 := to_is (moveF (stA k) k tokA).1 (by rw [f3, f4]; omega)
      have t2 := to_is (moveF (moveF (stA k) k tokA).1 0 tokZ).1 (by rw [f7, f8]; omega)
      have y1 := may_is (moveF (stA k) k tokA).1 size (by rw [f3, f4]; omega)
      have y2 := may_is (moveF (moveF (stA k) k tokA).1 0 tokZ).1 size (by rw [f7, f8]; omega)
      have hw : IntKind.wrap .i64 size = size := wrap_i64 _ (by omega) (by omega)
      unfold tokA at m1
      unfold tokA at m2
      unfold tokA tokZ at m3
      simp only [m1, m2, obind_some]
      rw [show (ByteArray.mk (List.toArray ((97 : UInt8) :: 98 :: 99 :: 100 :: 101 :: 102 :: 103 :: 104 :: []))) = tokA from rfl] at m3 ⊢
      simp only [m3, obind_some]
      rw [show (ByteArray.mk (List.toArray ((104 : UInt8) :: 103 :: 102 :: 101 :: 100 :: 99 :: 98 :: 97 :: []))) = tokZ from rfl]
      simp only [f1, f2, f6, t1, t2, y1, y2, obind_some, beq_self_eq_true, cond_true, hw]
      rw [f4, f8]
      simp only [Int.toNat_natCast, f5, mayF, f4, f8]
      have c0 : Int.toNat 0 = 0 := rfl
      have e2 : IntKind.wrap .i64 (1 + (k : Int)) = 1 + (k : Int) := wrap_i64 _ (by omega) (by omega)
      have e3 : (((stA k).1.length : Nat) : Int) = 1 + (k : Int) := by rw [stA_len]; omega
      simp only [c0, f9, f10, Bool.true_or, beq_self_eq_true, cond_true, e2, e3, shown19_is, obind_some]
      by_cases k0 : k = 0
      · subst k0; rfl
      · have k1 : (((k : Nat) : Int) == 0) = false := by simp; omega
        have w15 : IntKind.wrap .i64 15 = 15 := rfl
        simp only [k0, if_false, beq_self_eq_true, cond_true, k1, cond_false, Bool.false_or, Int.zero_add, hw, Int.reduceMul, w15]
theorem lawPathFull (x : denL c_law19_PathFull.params) (h : Wfs c_law19_PathFull.params x) : c_law19_PathFull.F x = some (true, ()) := by
  obtain ⟨many, size, u⟩ := x
  obtain ⟨h1, h2, _⟩ := h
  have w1 := wf_u8 h1
  have w2 := wf_u16 h2
  show law19_PathFull many size = _
  rw [law19_PathFull_eq, b_law19_PathFull, new_is]
  simp only [obind_some]
  rw [wrap_i64 many (by omega) (by omega), law19_PathFull_0'_eq, b_law19_PathFull_0']
  have ht : Int.tmod many 30 = many % 30 := Int.tmod_eq_emod_of_nonneg (by omega)
  rw [ht]
  have := full_loop size (many % 30) w2 (by omega) (Int.toNat (many % 30 - 1) + 2) 1 (by omega) (by omega) (by omega)
  rw [show stA (min (1 - 1) 15) = ([(0, true, 0, 0, ⟨#[]⟩, false, ())], 0, [], ()) from rfl] at this
  exact this
end Go.Proofs.YtjdjlijjolibkaaDoor.V
namespace Go.Proofs.YtjdjlijjolibkaaDoor.V
open Go.RowKit Go.Proofs.Tryd
set_option maxRecDepth 100000
set_option linter.unusedVariables false
noncomputable def m_law19_PathAnswers : Mach prog Inv gInv := mach bas [(4, f4)] ⟨ok4, trivial⟩ [(20, c_law19_shown), (21, c_path_New), (22, c_path_Seen), (23, c_path_Move), (24, c_path_May), (26, c_path_On), (27, c_path_Next)] ⟨⟨c_law19_shown_ok, FnOk.callable ok20⟩, ⟨c_path_New_ok, FnOk.callable ok21⟩, ⟨c_path_Seen_ok, FnOk.callable ok22⟩, ⟨c_path_Move_ok, FnOk.callable ok23⟩, ⟨c_path_May_ok, FnOk.callable ok24⟩, ⟨c_path_On_ok, FnOk.callable ok26⟩, ⟨c_path_Next_ok, FnOk.callable ok27⟩, trivial⟩ [] trivial [] trivial
/-! ### domino/dominolaw19.PathAnswers -/
@[reducible] def r_law19_PathAnswers : List Ty := [.bool]
def ks_law19_PathAnswers : List Nat := [4]
abbrev H_law19_PathAnswers (base : Base) (S0 : Nat → Prop) := base.n = 0 ∧ FinOk (finR r_law19_PathAnswers) base S0 (Post r_law19_PathAnswers S0)
abbrev J_law19_PathAnswers (base : Base) (S0 : Nat → Prop) (cs0 : List Go.Frame) (p : CPat) (J : denC p → Option (denL r_law19_PathAnswers)) := JSound m_law19_PathAnswers base S0 cs0 (Post r_law19_PathAnswers S0) p J
abbrev O_law19_PathAnswers (base : Base) (S0 : Nat → Prop) (cs0 : List Go.Frame) (X : Cfg → Option (Option (denL r_law19_PathAnswers))) := OSound m_law19_PathAnswers base S0 cs0 (Post r_law19_PathAnswers S0) X
@[reducible] noncomputable def p_law19_PathAnswers_2 : CPat := ⟨⟨4, [1, 1, 1, 1, 0, 1, 0], none, [.rows (.byt 5) false, .int .u16, .any, .any, .any, .ptr 0 0, .any, .int .i64], 131⟩, [], [.dat 28 T_path_State], 0⟩
@[reducible] noncomputable def u_law19_PathAnswers_2 (k : (List Int) → Int → Int → D_path_State → Option (Bool × Unit)) : denC p_law19_PathAnswers_2 → Option (Bool × Unit) := fun x => k x.1.1 x.1.2.1 x.1.2.2.2.2.2.2.2.1 x.2.2.1
@[reducible] noncomputable def p_law19_PathAnswers_3 : CPat := ⟨⟨4, [1, 1, 1, 1, 0, 1, 0, 0, 0, 1, 1], none, [.any, .int .u16, .any, .any, .any, .ptr 0 0], 133⟩, [], [.dat 28 T_path_State], 0⟩
@[reducible] noncomputable def u_law19_PathAnswers_3 (k : Int → D_path_State → Option (Bool × Unit)) : denC p_law19_PathAnswers_3 → Option (Bool × Unit) := fun x => k x.1.2.1 x.2.2.1
noncomputable def b_law19_PathAnswers_3 (k2 : (List Int) → Int → Int → D_path_State → Option (Bool × Unit)) (i101 : Int) (d102 : D_path_State) : Option (Bool × Unit) :=
  obind (path_Next d102 (100 : Int)) fun y103 =>
  let s104 : ByteArray := (ByteArray.mk (List.toArray ([] : List UInt8)))
  obind (path_Seen d102 (7 : Int) (10 : Int)) fun y105 =>
  obind (path_Move y105.1 (7 : Int) (ByteArray.mk (List.toArray ((97 : UInt8) :: ((98 : UInt8) :: ((99 : UInt8) :: ((100 : UInt8) :: ((101 : UInt8) :: ((102 : UInt8) :: ((103 : UInt8) :: ((104 : UInt8) :: ([] : List UInt8)))))))))))) fun y106 =>
  let s107 : ByteArray := (ByteArray.mk (List.toArray ([] : List UInt8)))
  let s108 : ByteArray := (ByteArray.mk (List.toArray ((97 : UInt8) :: ((98 : UInt8) :: ((99 : UInt8) :: ((100 : UInt8) :: ((101 : UInt8) :: ((102 : UInt8) :: ((103 : UInt8) :: ((105 : UInt8) :: ([] : List UInt8)))))))))))
  obind (path_On y106.1 ((27 : Int), ((0 : Int), ((0 : Int), ((0 : Int), ((0 : Int), ((0 : Int), ((0 : Int), ((0 : Int), (false, (s107, (s107, (s108, (([] : List D_ranges_Range), ())))))))))))))) fun y109 =>
  let s110 : ByteArray := (ByteArray.mk (List.toArray ([] : List UInt8)))
  let s111 : ByteArray := (ByteArray.mk (List.toArray ((97 : UInt8) :: ((98 : UInt8) :: ((99 : UInt8) :: ((100 : UInt8) :: ((101 : UInt8) :: ((102 : UInt8) :: ((103 : UInt8) :: ((104 : UInt8) :: ([] : List UInt8)))))))))))
  obind (path_On y106.1 ((27 : Int), ((0 : Int), ((0 : Int), ((0 : Int), ((0 : Int), ((0 : Int), ((0 : Int), ((0 : Int), (false, (s110, (s110, (s111, (([] : List D_ranges_Range), ())))))))))))))) fun y112 =>
  let b113 : Bool := (!y103.2.2.1)
  bif b113 then
    let b114 : Bool := (y105.2.1 == (0 : Int))
    bif b114 then
      let b115 : Bool := (y106.2.1 == (0 : Int))
      bif b115 then
        let n116 : Int := (Go.IntKind.wrap Go.IntKind.i64 i101)
        obind (path_May y109.1 n116) fun y117 =>
        let b118 : Bool := (decide (i101 ≤ (30 : Int)))
        let b119 : Bool := (y117.1 == b118)
        bif b119 then
          let n120 : Int := (Go.IntKind.wrap Go.IntKind.i64 i101)
          obind (path_May y112.1 n120) fun y121 =>
          some y121
        else
          some (false, ())
      else
        some (false, ())
    else
      some (false, ())
  else
    some (false, ())
theorem ex_law19_PathAnswers_3 : ∃ f, f = @b_law19_PathAnswers_3 := ⟨_, rfl⟩
noncomputable def law19_PathAnswers_3 := Classical.choose ex_law19_PathAnswers_3
theorem law19_PathAnswers_3_eq : @law19_PathAnswers_3 = @b_law19_PathAnswers_3 := Classical.choose_spec ex_law19_PathAnswers_3
theorem s_law19_PathAnswers_3 {base S0 cs0} (hfin : H_law19_PathAnswers base S0) (k2) (h2 : J_law19_PathAnswers base S0 cs0 p_law19_PathAnswers_2 (u_law19_PathAnswers_2 k2)) : J_law19_PathAnswers base S0 cs0 p_law19_PathAnswers_3 (u_law19_PathAnswers_3 (law19_PathAnswers_3 k2)) :=
  JSound.join hfin.2 (OSound.cut (OSound.nowhere) (Nat.le_of_eq hfin.1) h2) ks_law19_PathAnswers 100000 (by rw [law19_PathAnswers_3_eq]; intro x; kernel_rfl)
noncomputable def x_law19_PathAnswers_3 (k2 : (List Int) → Int → Int → D_path_State → Option (Bool × Unit)) : Cfg → Option (Option (Bool × Unit)) := cut p_law19_PathAnswers_3 (u_law19_PathAnswers_3 (law19_PathAnswers_3 k2)) (cut p_law19_PathAnswers_2 (u_law19_PathAnswers_2 k2) (nowhere))
theorem o_law19_PathAnswers_3 {base S0 cs0} (hfin : H_law19_PathAnswers base S0) (k2) (h2 : J_law19_PathAnswers base S0 cs0 p_law19_PathAnswers_2 (u_law19_PathAnswers_2 k2)) : O_law19_PathAnswers base S0 cs0 (x_law19_PathAnswers_3 k2) := OSound.cut (OSound.cut (OSound.nowhere) (Nat.le_of_eq hfin.1) h2) (Nat.le_of_eq hfin.1) (s_law19_PathAnswers_3 hfin k2 h2)
noncomputable def t_law19_PathAnswers_2 (k2 : (List Int) → Int → Int → D_path_State → Option (Bool × Unit)) (l65 : (List Int)) (i66 : Int) (i67 : Int) (d68 : D_path_State) : Option (Bool × Unit) :=
  let n69 : Int := (((List.length l65) : Nat) : Int)
  let b70 : Bool := (decide (i67 < n69))
  bif b70 then
    let b71 : Bool := (decide (i67 < (4 : Int)))
    bif b71 then
      obind (path_Next d68 (9 : Int)) fun y72 =>
      let s73 : ByteArray := (ByteArray.mk (List.toArray ([] : List UInt8)))
      obind (path_Next d68 (8 : Int)) fun y74 =>
      let s75 : ByteArray := (ByteArray.mk (List.toArray ([] : List UInt8)))
      let b76 : Bool := (!y72.2.2.1)
      bif b76 then
        some (false, ())
      else
        bif y74.2.2.1 then
          some (false, ())
        else
          let b77 : Bool := (y72.2.1.1 != (27 : Int))
          bif b77 then
            some (false, ())
          else
            bif (decide (((0 : Int) ≤ i67) ∧ (i67 < (((List.length l65) : Nat) : Int)))) then
              let x78 : Int := (List.getD l65 (Int.toNat i67) (0 : Int))
              let s79 : ByteArray := (bytesStr (x78 :: ([] : List Int)))
              bif (decide ((7 + (ByteArray.size s79)) ≤ 9223372036854775807)) then
                let s80 : ByteArray := ((ByteArray.mk (List.toArray ((116 : UInt8) :: ((111 : UInt8) :: ((107 : UInt8) :: ((101 : UInt8) :: ((110 : UInt8) :: ((48 : UInt8) :: ((48 : UInt8) :: ([] : List UInt8)))))))))) ++ s79)
                let b81 : Bool := (!((ByteArray.toList y72.2.1.2.2.2.2.2.2.2.2.2.2.2.1) == (ByteArray.toList s80)))
                bif b81 then
                  some (false, ())
                else
                  let n122 : Int := (Go.IntKind.wrap Go.IntKind.i64 (i67 + (1 : Int)))
                  k2 l65 i66 n122 y72.1
              else none
            else none
    else
      law19_PathAnswers_3 k2 i66 d68
  else
    law19_PathAnswers_3 k2 i66 d68
noncomputable def law19_PathAnswers_2 : Nat → (List Int) → Int → Int → D_path_State → Option (Bool × Unit)
  | 0 => fun _ _ _ _ => none
  | m + 1 => t_law19_PathAnswers_2 (law19_PathAnswers_2 m)
noncomputable def b_law19_PathAnswers_2' (l65 : (List Int)) (i66 : Int) (i67 : Int) (d68 : D_path_State) : Option (Bool × Unit) := law19_PathAnswers_2 (Int.toNat ((((List.length l65) : Nat) : Int) - i67) + 2) l65 i66 i67 d68
theorem ex_law19_PathAnswers_2' : ∃ f, f = @b_law19_PathAnswers_2' := ⟨_, rfl⟩
noncomputable def law19_PathAnswers_2' := Classical.choose ex_law19_PathAnswers_2'
theorem law19_PathAnswers_2'_eq : @law19_PathAnswers_2' = @b_law19_PathAnswers_2' := Classical.choose_spec ex_law19_PathAnswers_2'
theorem s_law19_PathAnswers_2 {base S0 cs0} (hfin : H_law19_PathAnswers base S0) : ∀ m, J_law19_PathAnswers base S0 cs0 p_law19_PathAnswers_2 (u_law19_PathAnswers_2 (law19_PathAnswers_2 m)) :=
  JSound.loop' hfin.2 ks_law19_PathAnswers 100000 u_law19_PathAnswers_2 (fun k2 => x_law19_PathAnswers_3 k2) (fun k2 h2 => o_law19_PathAnswers_3 hfin k2 h2) (law19_PathAnswers_2) (by intro x; rfl) (by intro m x; kernel_rfl)
theorem s_law19_PathAnswers_2' {base S0 cs0} (hfin : H_law19_PathAnswers base S0) : J_law19_PathAnswers base S0 cs0 p_law19_PathAnswers_2 (u_law19_PathAnswers_2 (law19_PathAnswers_2')) := by
  rw [law19_PathAnswers_2'_eq]; exact fun x r hx => s_law19_PathAnswers_2 hfin _ x r hx
noncomputable def x_law19_PathAnswers_2 : Cfg → Option (Option (Bool × Unit)) := cut p_law19_PathAnswers_2 (u_law19_PathAnswers_2 (law19_PathAnswers_2')) (nowhere)
theorem o_law19_PathAnswers_2 {base S0 cs0} (hfin : H_law19_PathAnswers base S0) : O_law19_PathAnswers base S0 cs0 (x_law19_PathAnswers_2) := OSound.cut (OSound.nowhere) (Nat.le_of_eq hfin.1) (s_law19_PathAnswers_2' hfin)
@[reducible] noncomputable def p_law19_PathAnswers_1 : CPat := ⟨⟨4, [1, 1, 1, 0, 1, 0], none, [.rows (.byt 5) false, .int .u16, .any, .any, .any, .ptr 0 0, .int .i64], 132⟩, [], [.dat 28 T_path_State], 0⟩
@[reducible] noncomputable def u_law19_PathAnswers_1 (k : (List Int) → Int → Int → D_path_State → Option (Bool × Unit)) : denC p_law19_PathAnswers_1 → Option (Bool × Unit) := fun x => k x.1.1 x.1.2.1 x.1.2.2.2.2.2.2.1 x.2.2.1
noncomputable def t_law19_PathAnswers_1 (k1 : (List Int) → Int → Int → D_path_State → Option (Bool × Unit)) (l19 : (List Int)) (i20 : Int) (i21 : Int) (d22 : D_path_State) : Option (Bool × Unit) :=
  let n23 : Int := (((List.length l19) : Nat) : Int)
  let b24 : Bool := (decide (i21 < n23))
  bif b24 then
    bif (decide (((0 : Int) ≤ i21) ∧ (i21 < (((List.length l19) : Nat) : Int)))) then
      let x25 : Int := (List.getD l19 (Int.toNat i21) (0 : Int))
      let s26 : ByteArray := (bytesStr (x25 :: ([] : List Int)))
      bif (decide ((7 + (ByteArray.size s26)) ≤ 9223372036854775807)) then
        let s27 : ByteArray := ((ByteArray.mk (List.toArray ((116 : UInt8) :: ((111 : UInt8) :: ((107 : UInt8) :: ((101 : UInt8) :: ((110 : UInt8) :: ((48 : UInt8) :: ((48 : UInt8) :: ([] : List UInt8)))))))))) ++ s26)
        let s28 : ByteArray := (ByteArray.mk (List.toArray ([] : List UInt8)))
        obind (path_On d22 ((26 : Int), ((0 : Int), ((0 : Int), ((0 : Int), ((0 : Int), ((0 : Int), ((0 : Int), ((0 : Int), (false, (s28, (s28, (s27, (([] : List D_ranges_Range), ())))))))))))))) fun y29 =>
        let n30 : Int := (Go.IntKind.wrap Go.IntKind.i64 (i21 + (1 : Int)))
        k1 l19 i20 n30 y29.1
      else none
    else none
  else
    law19_PathAnswers_2' l19 i20 (0 : Int) d22
noncomputable def law19_PathAnswers_1 : Nat → (List Int) → Int → Int → D_path_State → Option (Bool × Unit)
  | 0 => fun _ _ _ _ => none
  | m + 1 => t_law19_PathAnswers_1 (law19_PathAnswers_1 m)
noncomputable def b_law19_PathAnswers_1' (l19 : (List Int)) (i20 : Int) (i21 : Int) (d22 : D_path_State) : Option (Bool × Unit) := law19_PathAnswers_1 (Int.toNat ((((List.length l19) : Nat) : Int) - i21) + 2) l19 i20 i21 d22
theorem ex_law19_PathAnswers_1' : ∃ f, f = @b_law19_PathAnswers_1' := ⟨_, rfl⟩
noncomputable def law19_PathAnswers_1' := Classical.choose ex_law19_PathAnswers_1'
theorem law19_PathAnswers_1'_eq : @law19_PathAnswers_1' = @b_law19_PathAnswers_1' := Classical.choose_spec ex_law19_PathAnswers_1'
theorem s_law19_PathAnswers_1 {base S0 cs0} (hfin : H_law19_PathAnswers base S0) : ∀ m, J_law19_PathAnswers base S0 cs0 p_law19_PathAnswers_1 (u_law19_PathAnswers_1 (law19_PathAnswers_1 m)) :=
  JSound.loop' hfin.2 ks_law19_PathAnswers 100000 u_law19_PathAnswers_1 (fun k1 => cut p_law19_PathAnswers_1 (u_law19_PathAnswers_1 k1) (x_law19_PathAnswers_2)) (fun k1 h1 => OSound.cut (o_law19_PathAnswers_2 hfin) (Nat.le_of_eq hfin.1) h1) (law19_PathAnswers_1) (by intro x; rfl) (by intro m x; kernel_rfl)
theorem s_law19_PathAnswers_1' {base S0 cs0} (hfin : H_law19_PathAnswers base S0) : J_law19_PathAnswers base S0 cs0 p_law19_PathAnswers_1 (u_law19_PathAnswers_1 (law19_PathAnswers_1')) := by
  rw [law19_PathAnswers_1'_eq]; exact fun x r hx => s_law19_PathAnswers_1 hfin _ x r hx
noncomputable def x_law19_PathAnswers_1 : Cfg → Option (Option (Bool × Unit)) := cut p_law19_PathAnswers_1 (u_law19_PathAnswers_1 (law19_PathAnswers_1')) (x_law19_PathAnswers_2)
theorem o_law19_PathAnswers_1 {base S0 cs0} (hfin : H_law19_PathAnswers base S0) : O_law19_PathAnswers base S0 cs0 (x_law19_PathAnswers_1) := OSound.cut (o_law19_PathAnswers_2 hfin) (Nat.le_of_eq hfin.1) (s_law19_PathAnswers_1' hfin)
@[reducible] noncomputable def p_law19_PathAnswers_0 : CPat := ⟨⟨4, [1, 0, 1, 0], none, [], 139⟩, [], [], 0⟩
@[reducible] noncomputable def u_law19_PathAnswers_0 (k : Option (Bool × Unit)) : denC p_law19_PathAnswers_0 → Option (Bool × Unit) := fun x => k
noncomputable def b_law19_PathAnswers_0 : Option (Bool × Unit) :=
  obind law19_shown fun y7 =>
  some y7
theorem ex_law19_PathAnswers_0 : ∃ f, f = @b_law19_PathAnswers_0 := ⟨_, rfl⟩
noncomputable def law19_PathAnswers_0 := Classical.choose ex_law19_PathAnswers_0
theorem law19_PathAnswers_0_eq : @law19_PathAnswers_0 = @b_law19_PathAnswers_0 := Classical.choose_spec ex_law19_PathAnswers_0
theorem s_law19_PathAnswers_0 {base S0 cs0} (hfin : H_law19_PathAnswers base S0) : J_law19_PathAnswers base S0 cs0 p_law19_PathAnswers_0 (u_law19_PathAnswers_0 (law19_PathAnswers_0)) :=
  JSound.join hfin.2 (o_law19_PathAnswers_1 hfin) ks_law19_PathAnswers 100000 (by rw [law19_PathAnswers_0_eq]; intro x; kernel_rfl)
noncomputable def x_law19_PathAnswers_0 : Cfg → Option (Option (Bool × Unit)) := cut p_law19_PathAnswers_0 (u_law19_PathAnswers_0 (law19_PathAnswers_0)) (x_law19_PathAnswers_1)
theorem o_law19_PathAnswers_0 {base S0 cs0} (hfin : H_law19_PathAnswers base S0) : O_law19_PathAnswers base S0 cs0 (x_law19_PathAnswers_0) := OSound.cut (o_law19_PathAnswers_1 hfin) (Nat.le_of_eq hfin.1) (s_law19_PathAnswers_0 hfin)
noncomputable def b_law19_PathAnswers (a0 : (List Int)) (a1 : Int) : Option (Bool × Unit) :=
  let n2 : Int := (((List.length a0) : Nat) : Int)
  let b3 : Bool := (decide (n2 > (20 : Int)))
  bif b3 then
    law19_PathAnswers_0
  else
    obind law19_shown fun y4 =>
    let b5 : Bool := (!y4.1)
    bif b5 then
      law19_PathAnswers_0
    else
      obind (path_New (1 : Int)) fun y8 =>
      law19_PathAnswers_1' a0 a1 (0 : Int) y8.1
theorem ex_law19_PathAnswers : ∃ f, f = @b_law19_PathAnswers := ⟨_, rfl⟩
noncomputable def law19_PathAnswers := Classical.choose ex_law19_PathAnswers
theorem law19_PathAnswers_eq : @law19_PathAnswers = @b_law19_PathAnswers := Classical.choose_spec ex_law19_PathAnswers
noncomputable def cb_law19_PathAnswers : Con := ⟨[(.slice (.byt 5)), (.int .u16)], r_law19_PathAnswers, fun x => b_law19_PathAnswers x.1 x.2.1⟩
noncomputable def c_law19_PathAnswers : Con := ⟨[(.slice (.byt 5)), (.int .u16)], r_law19_PathAnswers, fun x => law19_PathAnswers x.1 x.2.1⟩
theorem cb_law19_PathAnswers_ok : cb_law19_PathAnswers.Sound prog Inv gInv 4 :=
  con_run (M := m_law19_PathAnswers) inv_g (f := f4) rfl ks_law19_PathAnswers 100000 (X := x_law19_PathAnswers_0) (fun base S0 cs0 hn hf => have hfin : H_law19_PathAnswers base S0 := ⟨hn, hf⟩; o_law19_PathAnswers_0 hfin) (by intro x; kernel_rfl)
theorem c_law19_PathAnswers_ok : c_law19_PathAnswers.Sound prog Inv gInv 4 := by
  have e : c_law19_PathAnswers = cb_law19_PathAnswers := by unfold c_law19_PathAnswers cb_law19_PathAnswers; rw [law19_PathAnswers_eq]
  rw [e]; exact cb_law19_PathAnswers_ok
end Go.Proofs.YtjdjlijjolibkaaDoor.V
/- The law PathAnswers in plain Lean: each challenge is answered by its token, in order, four at most. -/
namespace Go.Proofs.YtjdjlijjolibkaaDoor.V
open Go.RowKit
def tok00 : ByteArray := ByteArray.mk (List.toArray (116 :: 111 :: 107 :: 101 :: 110 :: 48 :: 48 :: []))
def tokN (n : Int) : ByteArray := tok00 ++ bytesStr [n]
theorem tokN_size (n : Int) : (tokN n).size = 8 := by
  unfold tokN; rw [ByteArray.size_append, bytesStr_size]; rfl
/-- One valid path, and what has to be answered. -/
def ansA (a : List ByteArray) : D_path_State := ([(1, true, 0, 0, ⟨#[]⟩, false, ())], 0, a, ())
theorem ans_end (size : Int) (hs : 0 ≤ size ∧ size ≤ 65535) : law19_PathAnswers_3 (fun _ _ _ _ => none) size (ansA []) = some (true, ()) ∧ ∀ k, law19_PathAnswers_3 k size (ansA []) = some (true, ()) := by
  suffices h : ∀ k, law19_PathAnswers_3 k size (ansA []) = some (true, ()) from ⟨h _, h⟩
  intro k
  have h1 : path_Next (ansA []) 100 = some (ansA [], noF, false, ()) := by
    rw [next_is _ _ (by decide) (by decide) (by decide)]; decide +kernel
  have h2 : path_Seen (ansA []) 7 10 = some (([(1, true, 0, 0, ⟨#[]⟩, false, ()), (7, false, 10, 0, ⟨#[]⟩, false, ())], 0, [], ()), 0, ()) := by
    rw [seen_is _ _ _ (by decide)]; decide +kernel
  have h3 : path_Move ([(1, true, 0, 0, ⟨#[]⟩, false, ()), (7, false, 10, 0, ⟨#[]⟩, false, ())], 0, [], ()) 7 tokA = some (([(1, true, 0, 0, ⟨#[]⟩, false, ()), (7, false, 10, 0, tokA, true, ())], 1, [], ()), 0, ()) := by
    rw [move_is _ _ _ (by decide)]; decide +kernel
  have h4 : path_On ([(1, true, 0, 0, ⟨#[]⟩, false, ()), (7, false, 10, 0, tokA, true, ())], 1, [], ()) (tokF 27 (ByteArray.mk (List.toArray (97 :: 98 :: 99 :: 100 :: 101 :: 102 :: 103 :: 105 :: [])))) = some (([(1, true, 0, 0, ⟨#[]⟩, false, ()), (7, false, 10, 0, tokA, true, ())], 1, [], ()), ()) := by
    rw [on_is _ _ (by decide)]; decide +kernel
  have h5 : path_On ([(1, true, 0, 0, ⟨#[]⟩, false, ()), (7, false, 10, 0, tokA, true, ())], 1, [], ()) (tokF 27 tokA) = some (([(1, true, 0, 0, ⟨#[]⟩, false, ()), (7, true, 10, 0, tokA, false, ())], 1, [], ()), ()) := by
    rw [on_is _ _ (by decide)]; decide +kernel
  have h6 : path_May ([(1, true, 0, 0, ⟨#[]⟩, false, ()), (7, false, 10, 0, tokA, true, ())], 1, [], ()) size = some (decide (size ≤ 30), ()) := by
    rw [may_is _ _ (by decide)]
    have e : ([(1, true, 0, 0, ⟨#[]⟩, false, ()), (7, false, 10, 0, tokA, true, ())] : List D_path_Path).getD (Int.toNat 1) (Ty.dflt T_path_Path) = (7, false, 10, 0, tokA, true, ()) := rfl
    simp only [mayF, e, Bool.false_or, Int.zero_add]
    rw [wrap_i64 _ (by omega) (by omega)]; rfl
  have h7 : path_May ([(1, true, 0, 0, ⟨#[]⟩, false, ()), (7, true, 10, 0, tokA, false, ())], 1, [], ()) size = some (true, ()) := by
    rw [may_is _ _ (by decide)]; rfl
  rw [law19_PathAnswers_3_eq, b_law19_PathAnswers_3]
  unfold tokA tokF at *
  simp only [h1, h2, h3, h4, h5, obind_some, wrap_i64 size (by omega) (by omega), h6, h7]
  simp
theorem ans2_loop (size : Int) (hs : 0 ≤ size ∧ size ≤ 65535) : ∀ (suf pre : List Int) (m : Nat), suf.length < m → (pre ++ suf).length ≤ 20 → pre.length ≤ 4 →
    law19_PathAnswers_2 m (pre ++ suf) size ((pre.length : Nat) : Int) (ansA ((suf.take (4 - pre.length)).map tokN)) = some (true, ()) := by
  intro suf
  induction suf with
  | nil =>
    intro pre m hm _ _
    obtain ⟨m, rfl⟩ : ∃ k, m = k + 1 := ⟨m - 1, by omega⟩
    simp only [law19_PathAnswers_2, t_law19_PathAnswers_2, mid_end, decide_false, cond_false, List.take_nil, List.map_nil]
    exact (ans_end size hs).2 _
  | cons x suf ih =>
    intro pre m hm hl h4
    obtain ⟨m, rfl⟩ : ∃ k, m = k + 1 := ⟨m - 1, by omega⟩
    simp only [law19_PathAnswers_2, t_law19_PathAnswers_2, mid_lt, nn, and_true, decide_true, cond_true, toNat_len, getD_mid]
    by_cases hp : pre.length < 4
    · have c4 : ((pre.length : Nat) : Int) < 4 := by omega
      obtain ⟨j, hj⟩ : ∃ j, 4 - pre.length = j + 1 := ⟨3 - pre.length, by omega⟩
      have n9 : path_Next (ansA (((x :: suf).take (4 - pre.length)).map tokN)) 9 = some (ansA ((suf.take j).map tokN), tokF 27 (tokN x), true, ()) := by
        rw [hj, List.take_succ_cons, List.map_cons, next_is _ _ (by simp [ansA]) (by simp [ansA]; omega) (by simp [ansA])]
        simp only [nextP, ansA, tokN_size]
        rfl
      have n8 : path_Next (ansA (((x :: suf).take (4 - pre.length)).map tokN)) 8 = some (ansA (((x :: suf).take (4 - pre.length)).map tokN), noF, false, ()) := by
        rw [hj, List.take_succ_cons, List.map_cons, next_is _ _ (by simp [ansA]) (by simp [ansA]; omega) (by simp [ansA])]
        simp only [nextP, ansA, tokN_size]
        rfl
      have hsz : 7 + (bytesStr [x]).size ≤ 9223372036854775807 := by rw [bytesStr_size]; simp
      have ht : (tokF 27 (tokN x)).2.2.2.2.2.2.2.2.2.2.2.1 = tokN x := rfl
      have hk : (tokF 27 (tokN x)).1 = 27 := rfl
      simp only [c4, decide_true, cond_true, n9, n8, obind_some, Bool.not_true, cond_false, hk, bne_self_eq_false, hsz, ht, toList_beq]
      have e : (ByteArray.mk (List.toArray ((116 : UInt8) :: 111 :: 107 :: 101 :: 110 :: 48 :: 48 :: []))) ++ bytesStr [x] = tokN x := rfl
      rw [e]
      simp only [decide_true, Bool.not_true, cond_false]
      rw [mid_next pre x x suf (by omega), snoc_app]
      have := ih (pre ++ [x]) m (by simp at hm; omega) (by simpa using hl) (by simp; omega)
      rw [show 4 - (pre ++ [x]).length = j by simp; omega] at this
      exact this
    · have c4 : ¬ ((pre.length : Nat) : Int) < 4 := by omega
      have hj : 4 - pre.length = 0 := by omega
      simp only [c4, decide_false, cond_false, hj, List.take_zero, List.map_nil]
      exact (ans_end size hs).2 _
theorem ans1_loop (size : Int) (hs : 0 ≤ size ∧ size ≤ 65535) : ∀ (suf pre : List Int) (m : Nat), suf.length < m → (pre ++ suf).length ≤ 20 →
    law19_PathAnswers_1 m (pre ++ suf) size ((pre.length : Nat) : Int) (ansA ((pre.take 4).map tokN)) = some (true, ()) := by
  intro suf
  induction suf with
  | nil =>
    intro pre m hm hl
    obtain ⟨m, rfl⟩ : ∃ k, m = k + 1 := ⟨m - 1, by omega⟩
    simp only [law19_PathAnswers_1, t_law19_PathAnswers_1, List.append_nil]
    rw [law19_PathAnswers_2'_eq, b_law19_PathAnswers_2']
    have := ans2_loop size hs pre [] (Int.toNat (((pre.length : Nat) : Int) - 0) + 2) (by simp) (by simpa using hl) (by simp)
    simpa using this
  | cons x suf ih =>
    intro pre m hm hl
    obtain ⟨m, rfl⟩ : ∃ k, m = k + 1 := ⟨m - 1, by omega⟩
    have hsz : 7 + (bytesStr [x]).size ≤ 9223372036854775807 := by rw [bytesStr_size]; simp
    have ho := on_is (ansA ((pre.take 4).map tokN)) (tokF 26 (tokN x)) (by simp [ansA])
    have e : (ByteArray.mk (List.toArray ((116 : UInt8) :: 111 :: 107 :: 101 :: 110 :: 48 :: 48 :: []))) ++ bytesStr [x] = tokN x := rfl
    simp only [law19_PathAnswers_1, t_law19_PathAnswers_1, mid_lt, nn, and_true, decide_true, cond_true, toNat_len, getD_mid, hsz]
    rw [e]
    unfold tokF at ho
    simp only [ho, obind_some]
    have hst : onP (ansA ((pre.take 4).map tokN)) (26, 0, 0, 0, 0, 0, 0, 0, false, ⟨#[]⟩, ⟨#[]⟩, tokN x, [], ()) = ansA (((pre ++ [x]).take 4).map tokN) := by
      by_cases h : pre.length < 4
      · have e1 : pre.take 4 = pre := List.take_of_length_le (by omega)
        have e2 : (pre ++ [x]).take 4 = pre ++ [x] := List.take_of_length_le (by simp; omega)
        rw [e1, e2]
        simp [onP, ansA, h]
      · have e2 : (pre ++ [x]).take 4 = pre.take 4 := by rw [List.take_append_of_le_length (by omega)]
        rw [e2]
        have : ¬ (ansA (List.map tokN (List.take 4 pre))).2.2.1.length < 4 := by simp [ansA]; omega
        rw [onP, if_pos rfl, if_neg this]
    rw [hst, mid_next pre x x suf (by omega), snoc_app]
    exact ih (pre ++ [x]) m (by simp at hm; omega) (by simpa using hl)
theorem lawPathAnswers (x : denL c_law19_PathAnswers.params) (h : Wfs c_law19_PathAnswers.params x) : c_law19_PathAnswers.F x = some (true, ()) := by
  obtain ⟨l, size, u⟩ := x
  obtain ⟨h1, h2, _⟩ := h
  have w2 := wf_u16 h2
  show law19_PathAnswers l size = _
  rw [law19_PathAnswers_eq, b_law19_PathAnswers]
  have e0 : law19_PathAnswers_0 = some (true, ()) := by rw [law19_PathAnswers_0_eq, b_law19_PathAnswers_0, shown19_is]; rfl
  by_cases hl : l.length ≤ 20
  · have c : ¬ ((l.length : Nat) : Int) > 20 := by omega
    simp only [c, decide_false, cond_false, shown19_is, obind_some, Bool.not_true, new_is]
    rw [law19_PathAnswers_1'_eq, b_law19_PathAnswers_1']
    have := ans1_loop size w2 l [] (Int.toNat (((l.length : Nat) : Int) - 0) + 2) (by simp) (by simpa using hl)
    rw [show ansA (([] : List Int).take 4 |>.map tokN) = ([(1, true, 0, 0, ⟨#[]⟩, false, ())], 0, [], ()) from rfl] at this
    exact this
  · have c : ((l.length : Nat) : Int) > 20 := by omega
    simp only [c, decide_true, cond_true, e0]
end Go.Proofs.YtjdjlijjolibkaaDoor.V
/- Tables that are laid: from the condition of a row to what the machine asks for. -/
namespace Go.Proofs.YtjdjlijjolibkaaDoor.V
open Go.RowKit Go.ChangeShapes
section
variable {H : Type} {enc : TypeId × Value → H} {P : Program} {w : World} {sp : Nat → Bool} {held : Bool} {fuel : Nat}
theorem tab_cells {k : IntKind} {N : Nat} {e t : TypeId} {cs : List Value} {l : List Int} {p : List MemPlace} (hu : P.underlying t = some (.array N e)) (he : P.underlying e = some (.int k)) (hc : P.cellsOf e = 1) (ht : P.cellsOf t = l.length) (hN : N = l.length)
    (hd : DataW.trod enc P w 0 sp held fuel t cs = some (.agg (l.map fun n => .lit (.int k n)), p)) : cs = l.map (Value.int k) := by
  obtain ⟨xs, m, rfl, hx, hlen, hn, hel⟩ := DataW.trod_array hu hd
  simp only [Prod.mk.injEq, DataW.agg.injEq] at hx
  have hm := hx.1
  rw [ht] at hlen
  refine List.ext_getElem (by rw [hlen, List.length_map]) fun i h1 h2 => ?_
  have hi : i < l.length := by rw [List.length_map] at h2; exact h2
  have hix : i < xs.length := by omega
  have h3 := hel i (by omega)
  rw [hc, Nat.mul_one, List.getElem?_eq_getElem hix] at h3
  obtain ⟨n, e1, e2, _⟩ := DataW.trod_int he h3
  have e3 : (cs.drop i).take 1 = [cs[i]] := by
    rw [List.drop_eq_getElem_cons h1, List.take_succ_cons, List.take_zero]
  rw [e3] at e1
  have e4 : (l.map fun n => (DataW.lit (.int k n) : DataW H))[i]? = (xs.map (·.1))[i]? := by rw [hm]
  rw [List.getElem?_map, List.getElem?_map, List.getElem?_eq_getElem hi, List.getElem?_eq_getElem hix, e2] at e4
  simp only [Option.map_some, Option.some.injEq, DataW.lit.injEq, Lit.int.injEq, true_and] at e4
  simp only [List.cons.injEq, and_true] at e1
  rw [e1, List.getElem_map, ← e4]
theorem tab_in {k : IntKind} {N : Nat} {e t g : TypeId} {n : String} {cs : Array Value} {l : List Int} {p : List MemPlace} (hg : P.globalNamed n = some g) (hv : w.var? P n = some cs) (hu : P.underlying t = some (.array N e)) (he : P.underlying e = some (.int k)) (hc : P.cellsOf e = 1) (ht : P.cellsOf t = l.length) (hN : N = l.length)
    (hd : DataW.trod enc P w 0 sp held fuel t cs.toList = some (.agg (l.map fun n => .lit (.int k n)), p)) {r : List (Nat × (Σ t : Ty, List t.den))} (hr : TabsIn w r) : TabsIn w ((g, ⟨.int k, l⟩) :: r) ∧ g < w.heap.size := by
  have hcs := tab_cells hu he hc ht hN hd
  simp only [World.var?, hg, Option.bind_some] at hv
  cases hh : w.heap[g]? with
  | none => rw [hh] at hv; cases hv
  | some o =>
    rw [hh] at hv
    cases o with
    | cells arr e' fz =>
      simp only [Option.some.injEq] at hv
      subst hv
      refine ⟨⟨⟨arr, e', fz, hh, fun i hi => ⟨[.int k (l.getD i 0)], ?_, ?_⟩⟩, hr⟩, lt_of_heap hh⟩
      · simp only [Rep]
        have : l.getD i 0 = l[i] := by simp [List.getD, hi]
        rw [this]
      · intro j hj
        simp at hj
        subst hj
        show arr[i * 1 + 0]? = _
        rw [Nat.mul_one, Nat.add_zero, ← Array.getElem?_toList, hcs, List.getElem?_map, List.getElem?_eq_getElem hi]
        simp [List.getD, hi]
    | _ => cases hv
end
end Go.Proofs.YtjdjlijjolibkaaDoor.V
/- The law PathAnswers: for every input that can be read the call returns true and leaves its arguments alone: the row, and the tied card. No conditions but that the listed tables are laid (which the card ties to the program's text). -/
namespace Go.Proofs.YtjdjlijjolibkaaDoor.V.RowPathAnswers
open Go.ChangeShapes Go.WideShapes Go.ChangeAt Go.RowKit Go.Proofs
set_option linter.unusedVariables false
set_option maxRecDepth 100000
theorem own : ownKnob Tryd.prog.godebug = none := by kernel_rfl
theorem laidOut : laidOutB Tryd.prog = true := by kernel_rfl
theorem door_met (os : Os) (args : Array Value) : laidMetH Tryd.prog [("math/bits.deBruijn32tab", Rows.laid_math_bits_deBruijn32tab), ("math/bits.deBruijn64tab", Rows.laid_math_bits_deBruijn64tab)] ((World.doorLaid Tryd.prog 400 os).forCall (fun _ _ => 0) ⟨#[], args, []⟩).memory :=
  laidMetH_of_parts3 (fuel := 8) (laidMet_of_run' 8 (by kernel_rfl) (by kernel_rfl)) (by kernel_rfl) (by kernel_rfl)
theorem inv_of {W : World} (h : laidMetH Tryd.prog [("math/bits.deBruijn32tab", Rows.laid_math_bits_deBruijn32tab), ("math/bits.deBruijn64tab", Rows.laid_math_bits_deBruijn64tab)] W) : Inv W := by
  rw [MakeChecks.laidMetH_plain _ _ _ (by kernel_rfl)] at h
  obtain ⟨ps, ⟨g0, t0, cs0, f0, p0, q0, hg0, ht0, hv0, hd0, ⟨g1, t1, cs1, f1, p1, q1, hg1, ht1, hv1, hd1, _, _⟩, _⟩, _, _⟩ := h
  obtain ⟨gg0, tt0⟩ : Tryd.prog.globalNamed "math/bits.deBruijn32tab" = some 0 ∧ (Tryd.prog.globals[0]?).map (·.type) = some 246 := ⟨by kernel_rfl, by kernel_rfl⟩
  obtain rfl := Option.some.inj (gg0.symm.trans hg0)
  obtain rfl := Option.some.inj (tt0.symm.trans ht0)
  obtain ⟨gg1, tt1⟩ : Tryd.prog.globalNamed "math/bits.deBruijn64tab" = some 1 ∧ (Tryd.prog.globals[1]?).map (·.type) = some 247 := ⟨by kernel_rfl, by kernel_rfl⟩
  obtain rfl := Option.some.inj (gg1.symm.trans hg1)
  obtain rfl := Option.some.inj (tt1.symm.trans ht1)
  have i1 := tab_in (k := .u8) (l := [0, 1, 56, 2, 57, 49, 28, 3, 61, 58, 42, 50, 38, 29, 17, 4, 62, 47, 59, 36, 45, 43, 51, 22, 53, 39, 33, 30, 24, 18, 12, 5, 63, 55, 48, 27, 60, 41, 37, 16, 46, 35, 44, 21, 52, 32, 23, 11, 54, 26, 40, 15, 34, 20, 31, 10, 25, 14, 19, 9, 13, 8, 7, 6]) hg1 hv1 Tryd.underlying247 (by kernel_rfl) (by kernel_rfl) (by kernel_rfl) (by kernel_rfl) hd1 (r := []) trivial
  have i0 := tab_in (k := .u8) (l := [0, 1, 28, 2, 29, 14, 24, 3, 30, 22, 20, 15, 25, 17, 4, 8, 31, 27, 13, 23, 21, 19, 16, 7, 26, 12, 18, 6, 11, 5, 10, 9]) hg0 hv0 Tryd.underlying246 (by kernel_rfl) (by kernel_rfl) (by kernel_rfl) (by kernel_rfl) hd0 i1.1
  exact ⟨i1.2, i0.1⟩
theorem lifted (os : Os) (started : os.Started) (H : Type) (enc : TypeId × Value → H) :
    ReturnsInHanded {} Tryd.checked os 4 .any (fun w args => (Rows.pathAnswersSpec.pre enc Tryd.prog Tryd.f4 [] false w args ∧ laidMetH Tryd.prog [("math/bits.deBruijn32tab", Rows.laid_math_bits_deBruijn32tab), ("math/bits.deBruijn64tab", Rows.laid_math_bits_deBruijn64tab)] w) ∧ sizedMet enc Tryd.prog Tryd.f4 (OpenSpec.ofChange Rows.pathAnswersSpec) false w args) (Rows.pathAnswersSpec.post enc Tryd.prog Tryd.f4 false true false false) := by
  refine returnsInHanded_of_change_and (C := Tryd.checked) (X := fun w _ => laidMetH Tryd.prog [("math/bits.deBruijn32tab", Rows.laid_math_bits_deBruijn32tab), ("math/bits.deBruijn64tab", Rows.laid_math_bits_deBruijn64tab)] w) (fun _ _ _ hh h => h.of_heap hh) own started (by kernel_rfl) Tryd.func4
    (ChangeSpec.witness_shaped (enc := enc) (C := Tryd.checked) (os := os) (X := fun w _ => laidMetH Tryd.prog [("math/bits.deBruijn32tab", Rows.laid_math_bits_deBruijn32tab), ("math/bits.deBruijn64tab", Rows.laid_math_bits_deBruijn64tab)] w) false (World.doorLaid Tryd.prog 400 os) (c_law19_PathAnswers.params.map zeroV).toArray 8 rfl (World.shaped_of_RefB (by kernel_rfl) (by kernel_rfl)) (by kernel_rfl) (by kernel_rfl) (by kernel_rfl) (door_met os _)) ?_
  intro W base args ds gs before hval hW hcnd hsz hL _
  have hI := inv_of hL
  have hW' := hW
  obtain ⟨p, q, hA, hV, rfl, hfz, hnd⟩ := hW
  obtain ⟨x, hx, hwf⟩ := args_rep (n := 20) (ts := c_law19_PathAnswers.params) (by kernel_rfl) hA (fun j T v h1 h2 => hval j T v (by simpa using h1) (by simpa using h2))
  have hlen : ds.length = 2 := (trodAll_length hA).trans (by kernel_rfl)
  obtain ⟨d1, d2, rfl⟩ : ∃ d1 d2, ds = [d1, d2] := by match ds, hlen with | [d1, d2], _ => exact ⟨d1, d2, rfl⟩
  obtain ⟨rfl, rfl⟩ := trodVars_none hV
  refine (law_calls (K := 4) c_law19_PathAnswers_ok hI hx (lawPathAnswers x hwf)).mono fun e W' ⟨he, bel⟩ => ?_
  subst he
  exact ⟨_, rfl, _, _, _, [], _, [], hW', trodAll_mk1 (shut_bool Tryd.underlying4 _), trodAll_below laidOut bel (by kernel_rfl) hA, rfl, bel.frame _, fun h => by cases h⟩
theorem proved : Rows.PathAnswersSaid :=
  OpenClaim.holds_of_wide 4 Tryd.f4 rfl rfl rfl rfl rfl rfl rfl ⟨rfl, rfl, rfl, rfl, rfl⟩ rfl rfl rfl rfl rfl (by kernel_rfl) Tryd.func4 (by kernel_rfl)
    (of_decide_eq_true (by kernel_rfl)) (by unfold Func.isWrapper; first | (rw [if_pos (by decide +kernel)]; kernel_rfl) | (rw [if_neg (by decide +kernel)]; exact ⟨rfl, rfl⟩))
    (fun os started H enc _ => lifted os started H enc)
theorem card : Rows.PathAnswersCardSaid :=
  Claim7.holds_tied_plain_at .later [] [.data, .data] true (true, "1021a36958bef67feb8e8930050b74075fa45ed83853cf8c22c3fa63b7773168") true
    proved (fun _ h => by cases h) (by kernel_rfl) (fun _ h => by cases h) pathAnswers_row_tie rfl ⟨rfl, rfl⟩ (by kernel_rfl) rfl
    (fun f fn hf hfn => by
      obtain rfl : f = 4 := Option.some.inj ((show Tryd.prog.funcNamed "domino/dominolaw19.PathAnswers" = some 4 by kernel_rfl).symm.trans hf) |>.symm
      obtain rfl : fn = Tryd.f4 := (Option.some.inj (Tryd.func4.symm.trans hfn)).symm
      exact ⟨by kernel_rfl, fun j t ht => by
        have all : ∀ t ∈ [45, 46], Tryd.prog.wantsStandIn t = false := by
          intro t h
          simp only [List.mem_cons, List.not_mem_nil, or_false] at h
          rcases h with rfl | rfl <;> kernel_rfl
        have hp : Tryd.f4.params = #[45, 46] := rfl
        rw [hp] at ht
        exact all t (by
          have := List.mem_of_getElem? (l := [45, 46]) (i := j) (a := t) (by simpa using ht)
          exact this)⟩)
    (by kernel_rfl)
end Go.Proofs.YtjdjlijjolibkaaDoor.V.RowPathAnswers
namespace Go.Proofs.YtjdjlijjolibkaaDoor
/-- The statement, under a short name, for the claim. -/
theorem pathAnswers_card : Rows.PathAnswersCardSaid := V.RowPathAnswers.card
end Go.Proofs.YtjdjlijjolibkaaDoor
