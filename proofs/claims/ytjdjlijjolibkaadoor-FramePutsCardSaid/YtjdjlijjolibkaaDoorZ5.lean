/- The law FramePuts, part 5 of 6: what is proved: for every input that can be read the call of FramePuts returns true and leaves its arguments alone. No conditions but the listed tables of the card. -/
import Derived.Test.YtjdjlijjolibkaaDoorZ4
namespace Go.Proofs.YtjdjlijjolibkaaDoor.V
open Go.RowKit Go.Proofs.Tryd
set_option maxRecDepth 100000
set_option linter.unusedVariables false
noncomputable def m_frame_framer_read_h0 : Mach prog Inv gInv := mach bas [(88, f88), (117, f117), (122, f122), (123, f123), (125, f125), (126, f126), (127, f127), (128, f128), (149, f149)] ⟨ok88, ok117, ok122, ok123, ok125, ok126, ok127, ok128, ok149, trivial⟩ [(34, c_frame_May), (124, c_varint_Size), (163, c_varint_Get)] ⟨⟨c_frame_May_ok, FnOk.callable ok34⟩, ⟨c_varint_Size_ok, FnOk.callable ok124⟩, ⟨c_varint_Get_ok, FnOk.callable ok163⟩, trivial⟩ [] trivial [(123, h_frame_reader_need_h0), (149, h_frame_reader_number_h0), (122, h_frame_reader_into_h0), (122, h_frame_reader_into_h1), (122, h_frame_reader_into_h2), (122, h_frame_reader_into_h3), (122, h_frame_reader_into_h4), (122, h_frame_reader_into_h5), (122, h_frame_reader_into_h6), (122, h_frame_reader_into_h7), (122, h_frame_reader_into_h8), (122, h_frame_reader_into_h9), (122, h_frame_reader_into_h10), (123, h_frame_reader_need_h1), (149, h_frame_reader_number_h1), (122, h_frame_reader_into_h11), (125, h_frame_framer_ack_h0), (127, h_frame_reader_take_h0), (122, h_frame_reader_into_h12), (126, h_frame_reader_long_h0), (128, h_frame_framer_stream_h0)] ⟨⟨h_frame_reader_need_h0_ok, FnOk.callable ok123⟩, ⟨h_frame_reader_number_h0_ok, FnOk.callable ok149⟩, ⟨h_frame_reader_into_h0_ok, FnOk.callable ok122⟩, ⟨h_frame_reader_into_h1_ok, FnOk.callable ok122⟩, ⟨h_frame_reader_into_h2_ok, FnOk.callable ok122⟩, ⟨h_frame_reader_into_h3_ok, FnOk.callable ok122⟩, ⟨h_frame_reader_into_h4_ok, FnOk.callable ok122⟩, ⟨h_frame_reader_into_h5_ok, FnOk.callable ok122⟩, ⟨h_frame_reader_into_h6_ok, FnOk.callable ok122⟩, ⟨h_frame_reader_into_h7_ok, FnOk.callable ok122⟩, ⟨h_frame_reader_into_h8_ok, FnOk.callable ok122⟩, ⟨h_frame_reader_into_h9_ok, FnOk.callable ok122⟩, ⟨h_frame_reader_into_h10_ok, FnOk.callable ok122⟩, ⟨h_frame_reader_need_h1_ok, FnOk.callable ok123⟩, ⟨h_frame_reader_number_h1_ok, FnOk.callable ok149⟩, ⟨h_frame_reader_into_h11_ok, FnOk.callable ok122⟩, ⟨h_frame_framer_ack_h0_ok, FnOk.callable ok125⟩, ⟨h_frame_reader_take_h0_ok, FnOk.callable ok127⟩, ⟨h_frame_reader_into_h12_ok, FnOk.callable ok122⟩, ⟨h_frame_reader_long_h0_ok, FnOk.callable ok126⟩, ⟨h_frame_framer_stream_h0_ok, FnOk.callable ok128⟩, trivial⟩
@[reducible] noncomputable def pa_frame_framer_read_h0 : List Pat := [.ptr 0 0]
@[reducible] noncomputable def pH_frame_framer_read_h0 : List HPat := [.dat 154 T_frame_framer]
/-! ### (*domino/frame.framer).read -/
abbrev R_frame_framer_read_h0 : Type := D_frame_framer × Unit
@[reducible] noncomputable def qa_frame_framer_read_h0 : List Pat := []
@[reducible] noncomputable def qH_frame_framer_read_h0 : List HPat := [.dat 154 T_frame_framer]
noncomputable def g_frame_framer_read_h0 : HCon := HCon.mkP 149 pa_frame_framer_read_h0 pH_frame_framer_read_h0 qa_frame_framer_read_h0 qH_frame_framer_read_h0 R_frame_framer_read_h0 default (fun _ => none) (fun r => ((), (r.1, ()))) (fun y => (y.2.1, ())) (fun _ => rfl)
def ks_frame_framer_read_h0 : List Nat := [88, 117, 122, 123, 125, 126, 127, 128, 149]
abbrev H_frame_framer_read_h0 (base : Base) (S0 : Nat → Prop) := base.n = 1 ∧ FinOk (finH g_frame_framer_read_h0) base S0 (HPost g_frame_framer_read_h0 base S0)
abbrev J_frame_framer_read_h0 (base : Base) (S0 : Nat → Prop) (cs0 : List Go.Frame) (p : CPat) (J : denC p → Option (Option R_frame_framer_read_h0)) := JSound m_frame_framer_read_h0 base S0 cs0 (HPost g_frame_framer_read_h0 base S0) p J
abbrev O_frame_framer_read_h0 (base : Base) (S0 : Nat → Prop) (cs0 : List Go.Frame) (X : Cfg → Option (Option (Option R_frame_framer_read_h0))) := OSound m_frame_framer_read_h0 base S0 cs0 (HPost g_frame_framer_read_h0 base S0) X
@[reducible] noncomputable def p_frame_framer_read_h0_4 : CPat := ⟨⟨88, [1, 1, 1, 1], none, [.ptr 0 0], 273⟩, [], [.cells 154 [.str, .int .u64, .int .u64, .int .u64, .int .u64, .int .u64, .int .u64, .int .u64, .int .u64, .bool, .str, .str, .str, .rows T_ranges_Range false]], 1⟩
@[reducible] noncomputable def u_frame_framer_read_h0_4 (k : ByteArray → Int → Int → Int → Int → Int → Int → Int → Int → Bool → ByteArray → ByteArray → ByteArray → (List D_ranges_Range) → Option (Option R_frame_framer_read_h0)) : denC p_frame_framer_read_h0_4 → Option (Option R_frame_framer_read_h0) := fun x => k x.2.2.1.1 x.2.2.1.2.1 x.2.2.1.2.2.1 x.2.2.1.2.2.2.1 x.2.2.1.2.2.2.2.1 x.2.2.1.2.2.2.2.2.1 x.2.2.1.2.2.2.2.2.2.1 x.2.2.1.2.2.2.2.2.2.2.1 x.2.2.1.2.2.2.2.2.2.2.2.1 x.2.2.1.2.2.2.2.2.2.2.2.2.1 x.2.2.1.2.2.2.2.2.2.2.2.2.2.1 x.2.2.1.2.2.2.2.2.2.2.2.2.2.2.1 x.2.2.1.2.2.2.2.2.2.2.2.2.2.2.2.1 x.2.2.1.2.2.2.2.2.2.2.2.2.2.2.2.2.1
noncomputable def b_frame_framer_read_h0_4 (s69 : ByteArray) (i70 : Int) (i71 : Int) (i72 : Int) (i73 : Int) (i74 : Int) (i75 : Int) (i76 : Int) (i77 : Int) (b78 : Bool) (s79 : ByteArray) (s80 : ByteArray) (s81 : ByteArray) (l82 : (List D_ranges_Range)) : Option (Option R_frame_framer_read_h0) :=
  obind (frame_May (i70, (i71, (i72, (i73, (i74, (i75, (i76, (i77, (b78, (s79, (s80, (s81, (l82, ())))))))))))))) fun y83 =>
  obindP (frame_reader_need_h0 y83.1 ((s69, ()), ((i70, (i71, (i72, (i73, (i74, (i75, (i76, (i77, (b78, (s79, (s80, (s81, (l82, ()))))))))))))), ()))) (
    some none) fun y84 =>
  some (some (y84.1, ()))
theorem ex_frame_framer_read_h0_4 : ∃ f, f = @b_frame_framer_read_h0_4 := ⟨_, rfl⟩
noncomputable def frame_framer_read_h0_4 := Classical.choose ex_frame_framer_read_h0_4
theorem frame_framer_read_h0_4_eq : @frame_framer_read_h0_4 = @b_frame_framer_read_h0_4 := Classical.choose_spec ex_frame_framer_read_h0_4
theorem s_frame_framer_read_h0_4 {base S0 cs0} (hfin : H_frame_framer_read_h0 base S0) : J_frame_framer_read_h0 base S0 cs0 p_frame_framer_read_h0_4 (u_frame_framer_read_h0_4 (frame_framer_read_h0_4)) :=
  JSound.join hfin.2 (OSound.nowhere) ks_frame_framer_read_h0 100000 (by rw [frame_framer_read_h0_4_eq]; intro x; kernel_rfl)
noncomputable def x_frame_framer_read_h0_4 : Cfg → Option (Option (Option R_frame_framer_read_h0)) := cut p_frame_framer_read_h0_4 (u_frame_framer_read_h0_4 (frame_framer_read_h0_4)) (nowhere)
theorem o_frame_framer_read_h0_4 {base S0 cs0} (hfin : H_frame_framer_read_h0 base S0) : O_frame_framer_read_h0 base S0 cs0 (x_frame_framer_read_h0_4) := OSound.cut (OSound.nowhere) (Nat.le_of_eq hfin.1) (s_frame_framer_read_h0_4 hfin)
@[reducible] noncomputable def p_frame_framer_read_h0_3 : CPat := ⟨⟨88, [1, 1, 1, 0, 1, 0, 1, 1, 1, 1, 1, 1, 1, 1, 1, 1, 1, 1, 1, 1, 1, 1, 1, 1, 1], none, [.ptr 0 0, .any, .any, .any, .any, .any, .any, .any, .any, .any, .any, .any, .any, .any, .any, .any, .any, .any, .any, .any, .any, .any, .any, .any, .any, .any, .any, .any, .any, .any, .any, .any, .any, .any, .any, .any, .any, .any, .any, .any, .any, .int .u64, .any, .any, .any, .any, .any, .any, .any, .any, .any, .any, .any, .any, .any, .any, .any, .any, .any, .any, .any, .any, .any, .any, .any, .any, .any, .any, .any, .any, .any, .any, .any, .any, .any, .any, .any, .any, .any, .any, .any, .any, .any, .any, .any, .any, .any, .any, .any, .any, .any, .any, .any, .any, .any, .any, .any, .any, .any, .any, .any, .any, .any, .any, .any, .any, .any, .any, .any, .any, .any, .any, .any, .any, .any, .any, .any, .any, .any, .any, .any, .any, .any, .any, .any, .any, .any, .any, .any, .any, .any, .any, .any, .any, .any, .any, .any, .any, .any, .any, .any, .any, .any, .any, .any, .any, .any, .any, .any, .any, .any, .any, .any, .any, .any, .any, .any, .any, .any, .any, .any, .any, .any, .any, .any, .any, .any, .any, .any, .any, .any, .any, .any, .any, .any, .any, .any, .any, .any, .any, .any, .any, .any, .any, .any, .any, .any, .any, .any, .any, .any, .any, .any, .any, .any, .any, .any, .any, .any, .any, .any, .any, .any, .any, .any, .any, .any, .any, .any, .any, .any, .any, .bool], 61⟩, [], [.dat 154 T_frame_framer], 1⟩
@[reducible] noncomputable def u_frame_framer_read_h0_3 (k : Int → Bool → D_frame_framer → Option (Option R_frame_framer_read_h0)) : denC p_frame_framer_read_h0_3 → Option (Option R_frame_framer_read_h0) := fun x => k x.1.2.2.2.2.2.2.2.2.2.2.2.2.2.2.2.2.2.2.2.2.2.2.2.2.2.2.2.2.2.2.2.2.2.2.2.2.2.2.2.2.2.1 x.1.2.2.2.2.2.2.2.2.2.2.2.2.2.2.2.2.2.2.2.2.2.2.2.2.2.2.2.2.2.2.2.2.2.2.2.2.2.2.2.2.2.2.2.2.2.2.2.2.2.2.2.2.2.2.2.2.2.2.2.2.2.2.2.2.2.2.2.2.2.2.2.2.2.2.2.2.2.2.2.2.2.2.2.2.2.2.2.2.2.2.2.2.2.2.2.2.2.2.2.2.2.2.2.2.2.2.2.2.2.2.2.2.2.2.2.2.2.2.2.2.2.2.2.2.2.2.2.2.2.2.2.2.2.2.2.2.2.2.2.2.2.2.2.2.2.2.2.2.2.2.2.2.2.2.2.2.2.2.2.2.2.2.2.2.2.2.2.2.2.2.2.2.2.2.2.2.2.2.2.2.2.2.2.2.2.2.2.2.2.2.2.2.2.2.2.2.2.2.2.2.2.2.2.2.2.2.2.2.2.2.2.2.1 x.2.2.1
noncomputable def b_frame_framer_read_h0_3 (i51 : Int) (b52 : Bool) (d53 : D_frame_framer) : Option (Option R_frame_framer_read_h0) :=
  bif b52 then
    obindP (frame_reader_take_h0 (8 : Int) d53) (
      some none) fun y54 =>
    frame_framer_read_h0_4 y54.2.1.1.1 y54.2.1.2.1.1 y54.2.1.2.1.2.1 y54.2.1.2.1.2.2.1 y54.2.1.2.1.2.2.2.1 y54.2.1.2.1.2.2.2.2.1 y54.2.1.2.1.2.2.2.2.2.1 y54.2.1.2.1.2.2.2.2.2.2.1 y54.2.1.2.1.2.2.2.2.2.2.2.1 y54.2.1.2.1.2.2.2.2.2.2.2.2.1 y54.2.1.2.1.2.2.2.2.2.2.2.2.2.1 y54.2.1.2.1.2.2.2.2.2.2.2.2.2.2.1 y54.1 y54.2.1.2.1.2.2.2.2.2.2.2.2.2.2.2.2.1
  else
    let b55 : Bool := (i51 == (28 : Int))
    bif b55 then
      obindP (frame_reader_into_h7 d53) (
        some none) fun y56 =>
      obindP (frame_reader_long_h0 y56.1) (
        some none) fun y57 =>
      frame_framer_read_h0_4 y57.2.1.1.1 y57.2.1.2.1.1 y57.2.1.2.1.2.1 y57.2.1.2.1.2.2.1 y57.2.1.2.1.2.2.2.1 y57.2.1.2.1.2.2.2.2.1 y57.2.1.2.1.2.2.2.2.2.1 y57.2.1.2.1.2.2.2.2.2.2.1 y57.2.1.2.1.2.2.2.2.2.2.2.1 y57.2.1.2.1.2.2.2.2.2.2.2.2.1 y57.1 y57.2.1.2.1.2.2.2.2.2.2.2.2.2.2.1 y57.2.1.2.1.2.2.2.2.2.2.2.2.2.2.2.1 y57.2.1.2.1.2.2.2.2.2.2.2.2.2.2.2.2.1
    else
      let b58 : Bool := (i51 == (29 : Int))
      bif b58 then
        obindP (frame_reader_into_h3 d53) (
          some none) fun y59 =>
        obindP (frame_reader_long_h0 y59.1) (
          some none) fun y60 =>
        frame_framer_read_h0_4 y60.2.1.1.1 y60.2.1.2.1.1 y60.2.1.2.1.2.1 y60.2.1.2.1.2.2.1 y60.2.1.2.1.2.2.2.1 y60.2.1.2.1.2.2.2.2.1 y60.2.1.2.1.2.2.2.2.2.1 y60.2.1.2.1.2.2.2.2.2.2.1 y60.2.1.2.1.2.2.2.2.2.2.2.1 y60.2.1.2.1.2.2.2.2.2.2.2.2.1 y60.1 y60.2.1.2.1.2.2.2.2.2.2.2.2.2.2.1 y60.2.1.2.1.2.2.2.2.2.2.2.2.2.2.2.1 y60.2.1.2.1.2.2.2.2.2.2.2.2.2.2.2.2.1
      else
        let b61 : Bool := (decide (d53.2.1.1 ≥ (8 : Int)))
        bif b61 then
          let b62 : Bool := (decide (d53.2.1.1 < (16 : Int)))
          obindP (frame_reader_need_h0 b62 d53) (
            some none) fun y63 =>
          obindP (frame_framer_stream_h0 y63.1.2.1.1 y63.1) (
            some none) fun y64 =>
          frame_framer_read_h0_4 y64.1.1.1 y64.1.2.1.1 y64.1.2.1.2.1 y64.1.2.1.2.2.1 y64.1.2.1.2.2.2.1 y64.1.2.1.2.2.2.2.1 y64.1.2.1.2.2.2.2.2.1 y64.1.2.1.2.2.2.2.2.2.1 y64.1.2.1.2.2.2.2.2.2.2.1 y64.1.2.1.2.2.2.2.2.2.2.2.1 y64.1.2.1.2.2.2.2.2.2.2.2.2.1 y64.1.2.1.2.2.2.2.2.2.2.2.2.2.1 y64.1.2.1.2.2.2.2.2.2.2.2.2.2.2.1 y64.1.2.1.2.2.2.2.2.2.2.2.2.2.2.2.1
        else
          obindP (frame_reader_need_h0 false d53) (
            some none) fun y65 =>
          obindP (frame_framer_stream_h0 y65.1.2.1.1 y65.1) (
            some none) fun y66 =>
          frame_framer_read_h0_4 y66.1.1.1 y66.1.2.1.1 y66.1.2.1.2.1 y66.1.2.1.2.2.1 y66.1.2.1.2.2.2.1 y66.1.2.1.2.2.2.2.1 y66.1.2.1.2.2.2.2.2.1 y66.1.2.1.2.2.2.2.2.2.1 y66.1.2.1.2.2.2.2.2.2.2.1 y66.1.2.1.2.2.2.2.2.2.2.2.1 y66.1.2.1.2.2.2.2.2.2.2.2.2.1 y66.1.2.1.2.2.2.2.2.2.2.2.2.2.1 y66.1.2.1.2.2.2.2.2.2.2.2.2.2.2.1 y66.1.2.1.2.2.2.2.2.2.2.2.2.2.2.2.1
theorem ex_frame_framer_read_h0_3 : ∃ f, f = @b_frame_framer_read_h0_3 := ⟨_, rfl⟩
noncomputable def frame_framer_read_h0_3 := Classical.choose ex_frame_framer_read_h0_3
theorem frame_framer_read_h0_3_eq : @frame_framer_read_h0_3 = @b_frame_framer_read_h0_3 := Classical.choose_spec ex_frame_framer_read_h0_3
theorem s_frame_framer_read_h0_3 {base S0 cs0} (hfin : H_frame_framer_read_h0 base S0) : J_frame_framer_read_h0 base S0 cs0 p_frame_framer_read_h0_3 (u_frame_framer_read_h0_3 (frame_framer_read_h0_3)) :=
  JSound.join hfin.2 (o_frame_framer_read_h0_4 hfin) ks_frame_framer_read_h0 100000 (by rw [frame_framer_read_h0_3_eq]; intro x; kernel_rfl)
noncomputable def x_frame_framer_read_h0_3 : Cfg → Option (Option (Option R_frame_framer_read_h0)) := cut p_frame_framer_read_h0_3 (u_frame_framer_read_h0_3 (frame_framer_read_h0_3)) (x_frame_framer_read_h0_4)
theorem o_frame_framer_read_h0_3 {base S0 cs0} (hfin : H_frame_framer_read_h0 base S0) : O_frame_framer_read_h0 base S0 cs0 (x_frame_framer_read_h0_3) := OSound.cut (o_frame_framer_read_h0_4 hfin) (Nat.le_of_eq hfin.1) (s_frame_framer_read_h0_3 hfin)
@[reducible] noncomputable def p_frame_framer_read_h0_2 : CPat := ⟨⟨88, [1, 1, 1, 0, 1, 0, 1, 1, 1, 1, 1, 1, 1, 1, 1, 1, 1, 1, 1], none, [.ptr 0 0, .any, .any, .any, .any, .any, .any, .any, .any, .any, .any, .any, .any, .any, .any, .any, .any, .any, .any, .any, .any, .any, .any, .any, .any, .any, .any, .any, .any, .any, .any, .any, .any, .any, .any, .any, .any, .any, .any, .any, .any, .int .u64, .any, .any, .any, .any, .any, .any, .any, .any, .any, .any, .any, .any, .any, .any, .any, .any, .any, .any, .any, .any, .any, .any, .any, .any, .any, .any, .any, .any, .any, .any, .any, .any, .any, .any, .any, .any, .any, .any, .any, .any, .any, .any, .any, .any, .any, .any, .any, .any, .any, .any, .any, .any, .any, .any, .any, .any, .any, .any, .any, .any, .any, .any, .any, .any, .any, .any, .any, .any, .any, .any, .any, .any, .any, .any, .any, .any, .any, .any, .any, .any, .any, .any, .any, .any, .any, .any, .any, .any, .any, .any, .any, .any, .any, .any, .any, .any, .any, .any, .any, .any, .any, .any, .bool], 129⟩, [], [.dat 154 T_frame_framer], 1⟩
@[reducible] noncomputable def u_frame_framer_read_h0_2 (k : Int → Bool → D_frame_framer → Option (Option R_frame_framer_read_h0)) : denC p_frame_framer_read_h0_2 → Option (Option R_frame_framer_read_h0) := fun x => k x.1.2.2.2.2.2.2.2.2.2.2.2.2.2.2.2.2.2.2.2.2.2.2.2.2.2.2.2.2.2.2.2.2.2.2.2.2.2.2.2.2.2.1 x.1.2.2.2.2.2.2.2.2.2.2.2.2.2.2.2.2.2.2.2.2.2.2.2.2.2.2.2.2.2.2.2.2.2.2.2.2.2.2.2.2.2.2.2.2.2.2.2.2.2.2.2.2.2.2.2.2.2.2.2.2.2.2.2.2.2.2.2.2.2.2.2.2.2.2.2.2.2.2.2.2.2.2.2.2.2.2.2.2.2.2.2.2.2.2.2.2.2.2.2.2.2.2.2.2.2.2.2.2.2.2.2.2.2.2.2.2.2.2.2.2.2.2.2.2.2.2.2.2.2.2.2.2.2.2.2.2.2.2.2.2.2.2.2.2.1 x.2.2.1
noncomputable def b_frame_framer_read_h0_2 (i35 : Int) (b36 : Bool) (d37 : D_frame_framer) : Option (Option R_frame_framer_read_h0) :=
  bif b36 then
    obindP (frame_reader_into_h5 d37) (
      some none) fun y38 =>
    frame_framer_read_h0_4 y38.1.1.1 y38.1.2.1.1 y38.1.2.1.2.1 y38.1.2.1.2.2.1 y38.1.2.1.2.2.2.1 y38.1.2.1.2.2.2.2.1 y38.1.2.1.2.2.2.2.2.1 y38.1.2.1.2.2.2.2.2.2.1 y38.1.2.1.2.2.2.2.2.2.2.1 y38.1.2.1.2.2.2.2.2.2.2.2.1 y38.1.2.1.2.2.2.2.2.2.2.2.2.1 y38.1.2.1.2.2.2.2.2.2.2.2.2.2.1 y38.1.2.1.2.2.2.2.2.2.2.2.2.2.2.1 y38.1.2.1.2.2.2.2.2.2.2.2.2.2.2.2.1
  else
    let b39 : Bool := (i35 == (24 : Int))
    bif b39 then
      obindP (frame_reader_into_h8 d37) (
        some none) fun y40 =>
      obindP (frame_reader_take_h0 (1 : Int) y40.1) (
        some none) fun y41 =>
      bif (decide (((0 : Int) ≤ (0 : Int)) ∧ ((0 : Int) < (((ByteArray.size y41.1) : Nat) : Int)))) then
        let n42 : Int := (byteAt y41.1 (0 : Int))
        let b43 : Bool := (n42 == (8 : Int))
        obindP (frame_reader_need_h0 b43 y41.2.1) (
          some none) fun y44 =>
        obindP (frame_reader_take_h0 (8 : Int) y44.1) (
          some none) fun y45 =>
        obindP (frame_reader_take_h0 (16 : Int) y45.2.1) (
          some none) fun y46 =>
        frame_framer_read_h0_4 y46.2.1.1.1 y46.2.1.2.1.1 y46.2.1.2.1.2.1 y46.2.1.2.1.2.2.1 y46.2.1.2.1.2.2.2.1 y46.2.1.2.1.2.2.2.2.1 y46.2.1.2.1.2.2.2.2.2.1 y46.2.1.2.1.2.2.2.2.2.2.1 y46.2.1.2.1.2.2.2.2.2.2.2.1 y46.2.1.2.1.2.2.2.2.2.2.2.2.1 y46.2.1.2.1.2.2.2.2.2.2.2.2.2.1 y45.1 y46.1 y46.2.1.2.1.2.2.2.2.2.2.2.2.2.2.2.2.1
      else none
    else
      let b47 : Bool := (i35 == (25 : Int))
      bif b47 then
        obindP (frame_reader_into_h4 d37) (
          some none) fun y48 =>
        frame_framer_read_h0_4 y48.1.1.1 y48.1.2.1.1 y48.1.2.1.2.1 y48.1.2.1.2.2.1 y48.1.2.1.2.2.2.1 y48.1.2.1.2.2.2.2.1 y48.1.2.1.2.2.2.2.2.1 y48.1.2.1.2.2.2.2.2.2.1 y48.1.2.1.2.2.2.2.2.2.2.1 y48.1.2.1.2.2.2.2.2.2.2.2.1 y48.1.2.1.2.2.2.2.2.2.2.2.2.1 y48.1.2.1.2.2.2.2.2.2.2.2.2.2.1 y48.1.2.1.2.2.2.2.2.2.2.2.2.2.2.1 y48.1.2.1.2.2.2.2.2.2.2.2.2.2.2.2.1
      else
        let b49 : Bool := (i35 == (26 : Int))
        bif b49 then
          frame_framer_read_h0_3 i35 true d37
        else
          let b50 : Bool := (i35 == (27 : Int))
          frame_framer_read_h0_3 i35 b50 d37
theorem ex_frame_framer_read_h0_2 : ∃ f, f = @b_frame_framer_read_h0_2 := ⟨_, rfl⟩
noncomputable def frame_framer_read_h0_2 := Classical.choose ex_frame_framer_read_h0_2
theorem frame_framer_read_h0_2_eq : @frame_framer_read_h0_2 = @b_frame_framer_read_h0_2 := Classical.choose_spec ex_frame_framer_read_h0_2
theorem s_frame_framer_read_h0_2 {base S0 cs0} (hfin : H_frame_framer_read_h0 base S0) : J_frame_framer_read_h0 base S0 cs0 p_frame_framer_read_h0_2 (u_frame_framer_read_h0_2 (frame_framer_read_h0_2)) :=
  JSound.join hfin.2 (o_frame_framer_read_h0_3 hfin) ks_frame_framer_read_h0 100000 (by rw [frame_framer_read_h0_2_eq]; intro x; kernel_rfl)
noncomputable def x_frame_framer_read_h0_2 : Cfg → Option (Option (Option R_frame_framer_read_h0)) := cut p_frame_framer_read_h0_2 (u_frame_framer_read_h0_2 (frame_framer_read_h0_2)) (x_frame_framer_read_h0_3)
theorem o_frame_framer_read_h0_2 {base S0 cs0} (hfin : H_frame_framer_read_h0 base S0) : O_frame_framer_read_h0 base S0 cs0 (x_frame_framer_read_h0_2) := OSound.cut (o_frame_framer_read_h0_3 hfin) (Nat.le_of_eq hfin.1) (s_frame_framer_read_h0_2 hfin)
@[reducible] noncomputable def p_frame_framer_read_h0_1 : CPat := ⟨⟨88, [1, 1, 1, 0, 1, 0, 1, 1, 1, 1, 1, 1, 1, 1, 1, 1, 1], none, [.ptr 0 0, .any, .any, .any, .any, .any, .any, .any, .any, .any, .any, .any, .any, .any, .any, .any, .any, .any, .any, .any, .any, .any, .any, .any, .any, .any, .any, .any, .any, .any, .any, .any, .any, .any, .any, .any, .any, .any, .any, .any, .any, .int .u64, .any, .any, .any, .any, .any, .any, .any, .any, .any, .any, .any, .any, .any, .any, .any, .any, .any, .any, .any, .any, .any, .any, .any, .any, .any, .any, .any, .any, .any, .any, .any, .any, .any, .any, .any, .any, .any, .any, .any, .any, .any, .any, .any, .any, .any, .any, .any, .any, .any, .any, .any, .any, .any, .any, .any, .any, .any, .any, .any, .any, .any, .any, .any, .any, .any, .any, .any, .any, .any, .any, .any, .any, .any, .any, .any, .any, .any, .any, .any, .any, .any, .any, .any, .any, .any, .any, .bool], 145⟩, [], [.dat 154 T_frame_framer], 1⟩
@[reducible] noncomputable def u_frame_framer_read_h0_1 (k : Int → Bool → D_frame_framer → Option (Option R_frame_framer_read_h0)) : denC p_frame_framer_read_h0_1 → Option (Option R_frame_framer_read_h0) := fun x => k x.1.2.2.2.2.2.2.2.2.2.2.2.2.2.2.2.2.2.2.2.2.2.2.2.2.2.2.2.2.2.2.2.2.2.2.2.2.2.2.2.2.2.1 x.1.2.2.2.2.2.2.2.2.2.2.2.2.2.2.2.2.2.2.2.2.2.2.2.2.2.2.2.2.2.2.2.2.2.2.2.2.2.2.2.2.2.2.2.2.2.2.2.2.2.2.2.2.2.2.2.2.2.2.2.2.2.2.2.2.2.2.2.2.2.2.2.2.2.2.2.2.2.2.2.2.2.2.2.2.2.2.2.2.2.2.2.2.2.2.2.2.2.2.2.2.2.2.2.2.2.2.2.2.2.2.2.2.2.2.2.2.2.2.2.2.2.2.2.2.2.2.2.2.1 x.2.2.1
noncomputable def b_frame_framer_read_h0_1 (i29 : Int) (b30 : Bool) (d31 : D_frame_framer) : Option (Option R_frame_framer_read_h0) :=
  bif b30 then
    obindP (frame_reader_into_h2 d31) (
      some none) fun y32 =>
    frame_framer_read_h0_4 y32.1.1.1 y32.1.2.1.1 y32.1.2.1.2.1 y32.1.2.1.2.2.1 y32.1.2.1.2.2.2.1 y32.1.2.1.2.2.2.2.1 y32.1.2.1.2.2.2.2.2.1 y32.1.2.1.2.2.2.2.2.2.1 y32.1.2.1.2.2.2.2.2.2.2.1 y32.1.2.1.2.2.2.2.2.2.2.2.1 y32.1.2.1.2.2.2.2.2.2.2.2.2.1 y32.1.2.1.2.2.2.2.2.2.2.2.2.2.1 y32.1.2.1.2.2.2.2.2.2.2.2.2.2.2.1 y32.1.2.1.2.2.2.2.2.2.2.2.2.2.2.2.1
  else
    let b33 : Bool := (i29 == (17 : Int))
    bif b33 then
      frame_framer_read_h0_2 i29 true d31
    else
      let b34 : Bool := (i29 == (21 : Int))
      frame_framer_read_h0_2 i29 b34 d31
theorem ex_frame_framer_read_h0_1 : ∃ f, f = @b_frame_framer_read_h0_1 := ⟨_, rfl⟩
noncomputable def frame_framer_read_h0_1 := Classical.choose ex_frame_framer_read_h0_1
theorem frame_framer_read_h0_1_eq : @frame_framer_read_h0_1 = @b_frame_framer_read_h0_1 := Classical.choose_spec ex_frame_framer_read_h0_1
theorem s_frame_framer_read_h0_1 {base S0 cs0} (hfin : H_frame_framer_read_h0 base S0) : J_frame_framer_read_h0 base S0 cs0 p_frame_framer_read_h0_1 (u_frame_framer_read_h0_1 (frame_framer_read_h0_1)) :=
  JSound.join hfin.2 (o_frame_framer_read_h0_2 hfin) ks_frame_framer_read_h0 100000 (by rw [frame_framer_read_h0_1_eq]; intro x; kernel_rfl)
noncomputable def x_frame_framer_read_h0_1 : Cfg → Option (Option (Option R_frame_framer_read_h0)) := cut p_frame_framer_read_h0_1 (u_frame_framer_read_h0_1 (frame_framer_read_h0_1)) (x_frame_framer_read_h0_2)
theorem o_frame_framer_read_h0_1 {base S0 cs0} (hfin : H_frame_framer_read_h0 base S0) : O_frame_framer_read_h0 base S0 cs0 (x_frame_framer_read_h0_1) := OSound.cut (o_frame_framer_read_h0_2 hfin) (Nat.le_of_eq hfin.1) (s_frame_framer_read_h0_1 hfin)
@[reducible] noncomputable def p_frame_framer_read_h0_0 : CPat := ⟨⟨88, [1, 1, 1, 0, 1, 0, 1], none, [.ptr 0 0, .any, .any, .any, .any, .any, .any, .any, .any, .any, .any, .any, .any, .any, .any, .any, .any, .any, .any, .any, .any, .any, .any, .any, .any, .any, .any, .any, .any, .any, .any, .any, .any, .any, .any, .any, .any, .any, .any, .any, .any, .int .u64, .any, .any, .any, .any, .any, .any, .any, .any, .any, .any, .any, .any, .any, .any, .any, .any, .any, .any, .any, .any, .any, .any, .any, .any, .any, .bool], 206⟩, [], [.dat 154 T_frame_framer], 1⟩
@[reducible] noncomputable def u_frame_framer_read_h0_0 (k : Int → Bool → D_frame_framer → Option (Option R_frame_framer_read_h0)) : denC p_frame_framer_read_h0_0 → Option (Option R_frame_framer_read_h0) := fun x => k x.1.2.2.2.2.2.2.2.2.2.2.2.2.2.2.2.2.2.2.2.2.2.2.2.2.2.2.2.2.2.2.2.2.2.2.2.2.2.2.2.2.2.1 x.1.2.2.2.2.2.2.2.2.2.2.2.2.2.2.2.2.2.2.2.2.2.2.2.2.2.2.2.2.2.2.2.2.2.2.2.2.2.2.2.2.2.2.2.2.2.2.2.2.2.2.2.2.2.2.2.2.2.2.2.2.2.2.2.2.2.2.2.1 x.2.2.1
noncomputable def b_frame_framer_read_h0_0 (i11 : Int) (b12 : Bool) (d13 : D_frame_framer) : Option (Option R_frame_framer_read_h0) :=
  bif b12 then
    frame_framer_read_h0_4 d13.1.1 d13.2.1.1 d13.2.1.2.1 d13.2.1.2.2.1 d13.2.1.2.2.2.1 d13.2.1.2.2.2.2.1 d13.2.1.2.2.2.2.2.1 d13.2.1.2.2.2.2.2.2.1 d13.2.1.2.2.2.2.2.2.2.1 d13.2.1.2.2.2.2.2.2.2.2.1 d13.2.1.2.2.2.2.2.2.2.2.2.1 d13.2.1.2.2.2.2.2.2.2.2.2.2.1 d13.2.1.2.2.2.2.2.2.2.2.2.2.2.1 d13.2.1.2.2.2.2.2.2.2.2.2.2.2.2.1
  else
    let b14 : Bool := (i11 == (2 : Int))
    bif b14 then
      obindP (frame_framer_ack_h0 d13) (
        some none) fun y15 =>
      frame_framer_read_h0_4 y15.1 y15.2.1 y15.2.2.1 y15.2.2.2.1 y15.2.2.2.2.1 y15.2.2.2.2.2.1 y15.2.2.2.2.2.2.1 y15.2.2.2.2.2.2.2.1 y15.2.2.2.2.2.2.2.2.1 y15.2.2.2.2.2.2.2.2.2.1 y15.2.2.2.2.2.2.2.2.2.2.1 y15.2.2.2.2.2.2.2.2.2.2.2.1 y15.2.2.2.2.2.2.2.2.2.2.2.2.1 y15.2.2.2.2.2.2.2.2.2.2.2.2.2.1
    else
      let b16 : Bool := (i11 == (4 : Int))
      bif b16 then
        obindP (frame_reader_into_h9 d13) (
          some none) fun y17 =>
        frame_framer_read_h0_4 y17.1.1.1 y17.1.2.1.1 y17.1.2.1.2.1 y17.1.2.1.2.2.1 y17.1.2.1.2.2.2.1 y17.1.2.1.2.2.2.2.1 y17.1.2.1.2.2.2.2.2.1 y17.1.2.1.2.2.2.2.2.2.1 y17.1.2.1.2.2.2.2.2.2.2.1 y17.1.2.1.2.2.2.2.2.2.2.2.1 y17.1.2.1.2.2.2.2.2.2.2.2.2.1 y17.1.2.1.2.2.2.2.2.2.2.2.2.2.1 y17.1.2.1.2.2.2.2.2.2.2.2.2.2.2.1 y17.1.2.1.2.2.2.2.2.2.2.2.2.2.2.2.1
      else
        let b18 : Bool := (i11 == (5 : Int))
        bif b18 then
          obindP (frame_reader_into_h6 d13) (
            some none) fun y19 =>
          frame_framer_read_h0_4 y19.1.1.1 y19.1.2.1.1 y19.1.2.1.2.1 y19.1.2.1.2.2.1 y19.1.2.1.2.2.2.1 y19.1.2.1.2.2.2.2.1 y19.1.2.1.2.2.2.2.2.1 y19.1.2.1.2.2.2.2.2.2.1 y19.1.2.1.2.2.2.2.2.2.2.1 y19.1.2.1.2.2.2.2.2.2.2.2.1 y19.1.2.1.2.2.2.2.2.2.2.2.2.1 y19.1.2.1.2.2.2.2.2.2.2.2.2.2.1 y19.1.2.1.2.2.2.2.2.2.2.2.2.2.2.1 y19.1.2.1.2.2.2.2.2.2.2.2.2.2.2.2.1
        else
          let b20 : Bool := (i11 == (6 : Int))
          bif b20 then
            obindP (frame_reader_into_h1 d13) (
              some none) fun y21 =>
            obindP (frame_reader_long_h0 y21.1) (
              some none) fun y22 =>
            frame_framer_read_h0_4 y22.2.1.1.1 y22.2.1.2.1.1 y22.2.1.2.1.2.1 y22.2.1.2.1.2.2.1 y22.2.1.2.1.2.2.2.1 y22.2.1.2.1.2.2.2.2.1 y22.2.1.2.1.2.2.2.2.2.1 y22.2.1.2.1.2.2.2.2.2.2.1 y22.2.1.2.1.2.2.2.2.2.2.2.1 y22.2.1.2.1.2.2.2.2.2.2.2.2.1 y22.1 y22.2.1.2.1.2.2.2.2.2.2.2.2.2.2.1 y22.2.1.2.1.2.2.2.2.2.2.2.2.2.2.2.1 y22.2.1.2.1.2.2.2.2.2.2.2.2.2.2.2.2.1
          else
            let b23 : Bool := (i11 == (16 : Int))
            bif b23 then
              frame_framer_read_h0_1 i11 true d13
            else
              let b24 : Bool := (i11 == (18 : Int))
              bif b24 then
                frame_framer_read_h0_1 i11 true d13
              else
                let b25 : Bool := (i11 == (19 : Int))
                bif b25 then
                  frame_framer_read_h0_1 i11 true d13
                else
                  let b26 : Bool := (i11 == (20 : Int))
                  bif b26 then
                    frame_framer_read_h0_1 i11 true d13
                  else
                    let b27 : Bool := (i11 == (22 : Int))
                    bif b27 then
                      frame_framer_read_h0_1 i11 true d13
                    else
                      let b28 : Bool := (i11 == (23 : Int))
                      frame_framer_read_h0_1 i11 b28 d13
theorem ex_frame_framer_read_h0_0 : ∃ f, f = @b_frame_framer_read_h0_0 := ⟨_, rfl⟩
noncomputable def frame_framer_read_h0_0 := Classical.choose ex_frame_framer_read_h0_0
theorem frame_framer_read_h0_0_eq : @frame_framer_read_h0_0 = @b_frame_framer_read_h0_0 := Classical.choose_spec ex_frame_framer_read_h0_0
theorem s_frame_framer_read_h0_0 {base S0 cs0} (hfin : H_frame_framer_read_h0 base S0) : J_frame_framer_read_h0 base S0 cs0 p_frame_framer_read_h0_0 (u_frame_framer_read_h0_0 (frame_framer_read_h0_0)) :=
  JSound.join hfin.2 (o_frame_framer_read_h0_1 hfin) ks_frame_framer_read_h0 100000 (by rw [frame_framer_read_h0_0_eq]; intro x; kernel_rfl)
noncomputable def x_frame_framer_read_h0_0 : Cfg → Option (Option (Option R_frame_framer_read_h0)) := cut p_frame_framer_read_h0_0 (u_frame_framer_read_h0_0 (frame_framer_read_h0_0)) (x_frame_framer_read_h0_1)
theorem o_frame_framer_read_h0_0 {base S0 cs0} (hfin : H_frame_framer_read_h0 base S0) : O_frame_framer_read_h0 base S0 cs0 (x_frame_framer_read_h0_0) := OSound.cut (o_frame_framer_read_h0_1 hfin) (Nat.le_of_eq hfin.1) (s_frame_framer_read_h0_0 hfin)
noncomputable def b_frame_framer_read_h0 (d0 : D_frame_framer) : Option (Option R_frame_framer_read_h0) :=
  let n1 : Int := (((ByteArray.size d0.1.1) : Nat) : Int)
  obindP (frame_reader_into_h0 d0) (
    some none) fun y2 =>
  let n3 : Int := (((ByteArray.size y2.1.1.1) : Nat) : Int)
  let n4 : Int := (Go.IntKind.wrap Go.IntKind.i64 (n1 - n3))
  obind (varint_Size y2.1.2.1.1) fun y5 =>
  let b6 : Bool := (n4 == y5.1)
  obindP (frame_reader_need_h0 b6 y2.1) (
    some none) fun y7 =>
  let b8 : Bool := (y7.1.2.1.1 == (0 : Int))
  bif b8 then
    frame_framer_read_h0_0 y7.1.2.1.1 true y7.1
  else
    let b9 : Bool := (y7.1.2.1.1 == (1 : Int))
    bif b9 then
      frame_framer_read_h0_0 y7.1.2.1.1 true y7.1
    else
      let b10 : Bool := (y7.1.2.1.1 == (30 : Int))
      frame_framer_read_h0_0 y7.1.2.1.1 b10 y7.1
theorem ex_frame_framer_read_h0 : ∃ f, f = @b_frame_framer_read_h0 := ⟨_, rfl⟩
noncomputable def frame_framer_read_h0 := Classical.choose ex_frame_framer_read_h0
theorem frame_framer_read_h0_eq : @frame_framer_read_h0 = @b_frame_framer_read_h0 := Classical.choose_spec ex_frame_framer_read_h0
noncomputable def hb_frame_framer_read_h0 : HCon := HCon.mkP 149 pa_frame_framer_read_h0 pH_frame_framer_read_h0 qa_frame_framer_read_h0 qH_frame_framer_read_h0 R_frame_framer_read_h0 default (fun x => b_frame_framer_read_h0 x.2.1) (fun r => ((), (r.1, ()))) (fun y => (y.2.1, ())) (fun _ => rfl)
noncomputable def h_frame_framer_read_h0 : HCon := HCon.mkP 149 pa_frame_framer_read_h0 pH_frame_framer_read_h0 qa_frame_framer_read_h0 qH_frame_framer_read_h0 R_frame_framer_read_h0 default (fun x => frame_framer_read_h0 x.2.1) (fun r => ((), (r.1, ()))) (fun y => (y.2.1, ())) (fun _ => rfl)
theorem hb_frame_framer_read_h0_ok : hb_frame_framer_read_h0.Sound prog Inv gInv 88 :=
  hcon_run (M := m_frame_framer_read_h0) (f := f88) rfl ks_frame_framer_read_h0 100000 (X := x_frame_framer_read_h0_0) (fun base S0 cs0 hn hf => have hfin : H_frame_framer_read_h0 base S0 := ⟨hn, hf⟩; o_frame_framer_read_h0_0 hfin) (by intro x; kernel_rfl)
theorem h_frame_framer_read_h0_ok : h_frame_framer_read_h0.Sound prog Inv gInv 88 := by
  have e : h_frame_framer_read_h0 = hb_frame_framer_read_h0 := by unfold h_frame_framer_read_h0 hb_frame_framer_read_h0; rw [frame_framer_read_h0_eq]
  rw [e]; exact hb_frame_framer_read_h0_ok
end Go.Proofs.YtjdjlijjolibkaaDoor.V
namespace Go.Proofs.YtjdjlijjolibkaaDoor.V
open Go.RowKit Go.Proofs.Tryd
set_option maxRecDepth 100000
set_option linter.unusedVariables false
noncomputable def m_frame_Get : Mach prog Inv gInv := mach bas [(38, f38), (87, f87), (88, f88)] ⟨ok38, ok87, ok88, trivial⟩ [] trivial [] trivial [(88, h_frame_framer_read_h0)] ⟨⟨h_frame_framer_read_h0_ok, FnOk.callable ok88⟩, trivial⟩
/-! ### domino/frame.Get -/
@[reducible] def r_frame_Get : List Ty := [T_frame_Frame, .str, (.int .i64)]
noncomputable def b_frame_Get (a0 : ByteArray) : Option (D_frame_Frame × ByteArray × Int × Unit) :=
  obindP (frame_framer_read_h0 ((a0, ()), ((0, (0, (0, (0, (0, (0, (0, (0, (false, (⟨#[]⟩, (⟨#[]⟩, (⟨#[]⟩, ([], ()))))))))))))), ()))) (some ((0, (0, (0, (0, (0, (0, (0, (0, (false, (⟨#[]⟩, (⟨#[]⟩, (⟨#[]⟩, ([], ()))))))))))))), (⟨#[]⟩, (60, ())))) fun y =>
    some (y.1.2.1, (y.1.1.1, (0, ())))
theorem ex_frame_Get : ∃ f, f = @b_frame_Get := ⟨_, rfl⟩
noncomputable def frame_Get := Classical.choose ex_frame_Get
theorem frame_Get_eq : @frame_Get = @b_frame_Get := Classical.choose_spec ex_frame_Get
noncomputable def cb_frame_Get : Con := ⟨[.str], r_frame_Get, fun x => b_frame_Get x.1⟩
noncomputable def c_frame_Get : Con := ⟨[.str], r_frame_Get, fun x => frame_Get x.1⟩
theorem cb_frame_Get_ok : cb_frame_Get.Sound prog Inv gInv 38 :=
  defer_con (M := m_frame_Get) inv_g (f := f38) rfl 30 (by intro x; kernel_rfl)
theorem c_frame_Get_ok : c_frame_Get.Sound prog Inv gInv 38 := by
  have e : c_frame_Get = cb_frame_Get := by unfold c_frame_Get cb_frame_Get; rw [frame_Get_eq]
  rw [e]; exact cb_frame_Get_ok
end Go.Proofs.YtjdjlijjolibkaaDoor.V
/- What frame.Get answers, in plain Lean: a reader of bytes. -/
namespace Go.Proofs.YtjdjlijjolibkaaDoor.V
open Go.RowKit
set_option linter.unusedVariables false
/-! ### readers -/
abbrev Pr (α : Type) := List Int → Option (α × List Int)
def pb {α β : Type} (p : Pr α) (f : α → Pr β) : Pr β := fun l => match p l with
  | some (a, r) => f a r
  | none => none
def pr {α : Type} (a : α) : Pr α := fun l => some (a, l)
def pg (b : Bool) : Pr Unit := fun l => bif b then some ((), l) else none
def ptake (n : Nat) : Pr (List Int) := fun l => if n ≤ l.length then some (l.take n, l.drop n) else none
theorem pb_assoc {α β γ : Type} (p : Pr α) (f : α → Pr β) (g : β → Pr γ) : pb (pb p f) g = pb p fun a => pb (f a) g := by
  funext l
  simp only [pb]
  cases p l <;> rfl
theorem pb_pr {α β : Type} (a : α) (f : α → Pr β) : pb (pr a) f = f a := rfl
theorem pb_gt {β : Type} {b : Bool} (h : b = true) (f : Unit → Pr β) : pb (pg b) f = f () := by subst h; rfl
theorem pb_gf {β : Type} {b : Bool} (h : b = false) (f : Unit → Pr β) (l : List Int) : pb (pg b) f l = none := by subst h; rfl
/-- What is behind what was read was there. -/
def Suf {α : Type} (p : Pr α) : Prop := ∀ l a r, p l = some (a, r) → ∃ q, l = q ++ r
/-- More bytes behind turn nothing. -/
def Mono {α : Type} (p : Pr α) : Prop := ∀ l a r t, p l = some (a, r) → p (l ++ t) = some (a, r ++ t)
theorem Suf.pr {α : Type} (a : α) : Suf (pr a) := fun l b r h => by cases h; exact ⟨[], rfl⟩
theorem Mono.pr {α : Type} (a : α) : Mono (pr a) := fun l b r t h => by cases h; rfl
theorem Suf.pg (b : Bool) : Suf (pg b) := fun l a r h => by
  cases b with
  | true => cases h; exact ⟨[], rfl⟩
  | false => cases h
theorem Mono.pg (b : Bool) : Mono (pg b) := fun l a r t h => by
  cases b with
  | true => cases h; rfl
  | false => cases h
theorem pb_some {α β : Type} {p : Pr α} {f : α → Pr β} {l : List Int} {b : β} {r : List Int} (h : pb p f l = some (b, r)) : ∃ a r1, p l = some (a, r1) ∧ f a r1 = some (b, r) := by
  simp only [pb] at h
  cases hp : p l with
  | none => rw [hp] at h; cases h
  | some x => rw [hp] at h; exact ⟨x.1, x.2, rfl, h⟩
theorem Suf.bind {α β : Type} {p : Pr α} {f : α → Pr β} (h : Suf p) (k : ∀ a, Suf (f a)) : Suf (pb p f) := fun l b r e => by
  obtain ⟨a, r1, e1, e2⟩ := pb_some e
  obtain ⟨q1, rfl⟩ := h _ _ _ e1
  obtain ⟨q2, rfl⟩ := k a _ _ _ e2
  exact ⟨q1 ++ q2, by simp⟩
theorem Mono.bind {α β : Type} {p : Pr α} {f : α → Pr β} (h : Mono p) (k : ∀ a, Mono (f a)) : Mono (pb p f) := fun l b r t e => by
  obtain ⟨a, r1, e1, e2⟩ := pb_some e
  simp only [pb, h _ _ _ t e1, k a _ _ _ t e2]
theorem Suf.take (n : Nat) : Suf (ptake n) := fun l a r h => by
  simp only [ptake] at h
  split at h
  · cases h; exact ⟨l.take n, (List.take_append_drop n l).symm⟩
  · cases h
theorem Mono.take (n : Nat) : Mono (ptake n) := fun l a r t h => by
  simp only [ptake] at h
  split at h
  · rename_i hn
    cases h
    have : n ≤ (l ++ t).length := by simp; omega
    simp only [ptake, this, if_true, List.take_append_of_le_length hn, List.drop_append_of_le_length hn]
  · cases h
theorem vget_some {l : List Int} {n : Int} {r : List Int} (h : vget l = some (n, r)) : ∃ q, l = q ++ r ∧ 1 ≤ q.length ∧ (Byt l → In62 n) ∧ ∀ t, vget (q ++ t) = some (n, t) := by
  cases l with
  | nil => cases h
  | cons b l =>
    by_cases h1 : b < 64
    · simp only [vget, h1, if_true, Option.some.injEq, Prod.mk.injEq] at h
      obtain ⟨rfl, rfl⟩ := h
      exact ⟨[b], rfl, by simp, fun hb => by have := (Byt.cons.mp hb).1; unfold In62; omega, fun t => by simp [vget, h1]⟩
    · by_cases h2 : b < 128
      · rcases l with _ | ⟨b1, l⟩
        · simp [vget, h1, h2] at h
        · simp only [vget, h1, h2, if_true, if_false, Option.some.injEq, Prod.mk.injEq] at h
          obtain ⟨rfl, rfl⟩ := h
          refine ⟨[b, b1], rfl, by simp, fun hb => ?_, fun t => by simp [vget, h1, h2]⟩
          simp only [Byt.cons] at hb
          unfold In62; omega
      · by_cases h3 : b < 192
        · rcases l with _ | ⟨b1, _ | ⟨b2, _ | ⟨b3, l⟩⟩⟩
          case cons.cons.cons =>
            simp only [vget, h1, h2, h3, if_true, if_false, Option.some.injEq, Prod.mk.injEq] at h
            obtain ⟨rfl, rfl⟩ := h
            refine ⟨[b, b1, b2, b3], rfl, by simp, fun hb => ?_, fun t => by simp [vget, h1, h2, h3]⟩
            simp only [Byt.cons] at hb
            unfold In62; omega
          all_goals simp [vget, h1, h2, h3] at h
        · rcases l with _ | ⟨b1, _ | ⟨b2, _ | ⟨b3, _ | ⟨b4, _ | ⟨b5, _ | ⟨b6, _ | ⟨b7, l⟩⟩⟩⟩⟩⟩⟩
          case cons.cons.cons.cons.cons.cons.cons =>
            simp only [vget, h1, h2, h3, if_false, Option.some.injEq, Prod.mk.injEq] at h
            obtain ⟨rfl, rfl⟩ := h
            refine ⟨[b, b1, b2, b3, b4, b5, b6, b7], rfl, by simp, fun hb => ?_, fun t => by simp [vget, h1, h2, h3]⟩
            simp only [Byt.cons] at hb
            unfold In62; omega
          all_goals simp [vget, h1, h2, h3] at h
theorem Suf.vget : Suf vget := fun l a r h => by
  obtain ⟨q, e, _⟩ := vget_some h
  exact ⟨q, e⟩
theorem Mono.vget : Mono vget := fun l a r t h => by
  obtain ⟨q, rfl, _, _, k⟩ := vget_some h
  rw [List.append_assoc]; exact k _
theorem vget_vb (n : Int) (h : In62 n) (t : List Int) : vget (vb n ++ t) = some (n, t) := by
  obtain ⟨h0, h1⟩ := h
  unfold vb
  split
  · rename_i e; simp [vget, e]
  · split
    · rename_i e1 e2
      have c1 : ¬ 64 + n / 256 < 64 := by omega
      have c2 : 64 + n / 256 < 128 := by omega
      simp only [List.cons_append, List.nil_append, vget, c1, c2, if_true, if_false]
      congr 2; omega
    · split
      · rename_i e1 e2 e3
        have c1 : ¬ 128 + n / 16777216 < 64 := by omega
        have c2 : ¬ 128 + n / 16777216 < 128 := by omega
        have c3 : 128 + n / 16777216 < 192 := by omega
        simp only [List.cons_append, List.nil_append, vget, c1, c2, c3, if_true, if_false]
        congr 2; omega
      · rename_i e1 e2 e3
        have c1 : ¬ 192 + n / 72057594037927936 < 64 := by omega
        have c2 : ¬ 192 + n / 72057594037927936 < 128 := by omega
        have c3 : ¬ 192 + n / 72057594037927936 < 192 := by omega
        simp only [List.cons_append, List.nil_append, vget, c1, c2, c3, if_false]
        congr 2; omega
theorem vb_vsize (n : Int) (h : In62 n) : (((vb n).length : Nat) : Int) = vsize n := by
  obtain ⟨h0, h1⟩ := h
  unfold vb vsize
  split
  · rfl
  · split
    · rfl
    · split
      · rfl
      · rfl
/-! ### a frame -/
abbrev eB : ByteArray := ⟨#[]⟩
abbrev zF (k : Int) : D_frame_Frame := (k, 0, 0, 0, 0, 0, 0, 0, false, eB, eB, eB, [], ())
def plong : Pr ByteArray := pb vget fun n => pb (ptake n.toNat) fun bs => pr (bytesStr bs)
def pstr (n : Nat) : Pr ByteArray := pb (ptake n) fun bs => pr (bytesStr bs)
def prest : Pr ByteArray := fun l => some (bytesStr l, [])
def gapsP : Nat → Int → Pr (List D_ranges_Range)
  | 0, _ => pr []
  | n + 1, lo => pb vget fun gap => pb vget fun len => pb (pg (decide (gap + 2 ≤ lo) && decide (len ≤ lo - gap - 2))) fun _ =>
    pb (gapsP n (lo - gap - 2 - len)) fun rs => pr ((lo - gap - 2 - len, lo - gap - 2, ()) :: rs)
def ackP : Pr D_frame_Frame := pb vget fun hi => pb vget fun delay => pb vget fun cnt => pb vget fun first => pb (pg (decide (cnt < 32) && decide (first ≤ hi))) fun _ =>
  pb (gapsP cnt.toNat (hi - first)) fun rs => pr (2, 0, 0, 0, 0, 0, 0, delay, false, eB, eB, eB, ((hi - first, hi, ()) :: rs).reverse, ())
def streamP (fin : Bool) (off len : Bool) : Pr D_frame_Frame := pb vget fun id => pb (bif off then vget else pr 0) fun o => pb (bif len then plong else prest) fun data =>
  pr (8, id, o, 0, 0, 0, 0, 0, fin, data, eB, eB, [], ())
def bodyP (k : Int) : Pr D_frame_Frame :=
  bif k == 0 || (k == 1 || k == 30) then pr (zF k)
  else bif k == 2 then ackP
  else bif k == 4 then pb vget fun id => pb vget fun code => pb vget fun mx => pr (4, id, 0, mx, code, 0, 0, 0, false, eB, eB, eB, [], ())
  else bif k == 5 then pb vget fun id => pb vget fun code => pr (5, id, 0, 0, code, 0, 0, 0, false, eB, eB, eB, [], ())
  else bif k == 6 then pb vget fun off => pb plong fun data => pr (6, 0, off, 0, 0, 0, 0, 0, false, data, eB, eB, [], ())
  else bif k == 8 then streamP false false false
  else bif k == 9 then streamP true false false
  else bif k == 10 then streamP false false true
  else bif k == 11 then streamP true false true
  else bif k == 12 then streamP false true false
  else bif k == 13 then streamP true true false
  else bif k == 14 then streamP false true true
  else bif k == 15 then streamP true true true
  else bif k == 16 || (k == 18 || (k == 19 || (k == 20 || (k == 22 || k == 23)))) then pb vget fun mx => pr (k, 0, 0, mx, 0, 0, 0, 0, false, eB, eB, eB, [], ())
  else bif k == 17 || k == 21 then pb vget fun id => pb vget fun mx => pr (k, id, 0, mx, 0, 0, 0, 0, false, eB, eB, eB, [], ())
  else bif k == 24 then pb vget fun seq => pb vget fun prior => pb (ptake 1) fun n => pb (pg (n == [8])) fun _ => pb (pstr 8) fun cid => pb (pstr 16) fun tok =>
    pr (24, 0, 0, 0, 0, seq, prior, 0, false, eB, cid, tok, [], ())
  else bif k == 25 then pb vget fun seq => pr (25, 0, 0, 0, 0, seq, 0, 0, false, eB, eB, eB, [], ())
  else bif k == 26 || k == 27 then pb (pstr 8) fun tok => pr (k, 0, 0, 0, 0, 0, 0, 0, false, eB, eB, tok, [], ())
  else bif k == 28 then pb vget fun code => pb vget fun delay => pb plong fun data => pr (28, 0, 0, 0, code, 0, 0, delay, false, data, eB, eB, [], ())
  else bif k == 29 then pb vget fun code => pb plong fun data => pr (29, 0, 0, 0, code, 0, 0, 0, false, data, eB, eB, [], ())
  else fun _ => none
def finP' (f : D_frame_Frame) : Pr D_frame_Frame := pb (pg (mayFr f)) fun _ => pr f
def getL : Pr D_frame_Frame := fun l => pb vget (fun k r => bif decide (((l.length : Nat) : Int) - ((r.length : Nat) : Int) = vsize k) then pb (bodyP k) finP' r else none) l
/-! ### the program's reader -/
abbrev st (l : List Int) (f : D_frame_Frame) : D_frame_framer := ((bytesStr l, ()), (f, ()))
def outP (o : Option (D_frame_Frame × List Int)) : Option (Option (D_frame_framer × Unit)) := some (o.map fun x => (st x.2 x.1, ()))
theorem obindP_assoc {α β γ : Type} (o : Option (Option α)) (k1 : α → Option (Option β)) (a : Option γ) (k2 : β → Option γ) : obindP (obindP o (some none) k1) a k2 = obindP o a fun y => obindP (k1 y) a k2 := by
  cases o with
  | none => rfl
  | some x => cases x <;> rfl
theorem obindP_ss {α β : Type} (x : α) (a : Option β) (k : α → Option β) : obindP (some (some x)) a k = k x := rfl
theorem obindP_sn {α β : Type} (a : Option β) (k : α → Option β) : obindP (some none) a k = a := rfl
theorem need_is (b : Bool) (d : D_frame_framer) : frame_reader_need_h0 b d = some (bif b then some (d, ()) else none) := by
  rw [frame_reader_need_h0_eq, b_frame_reader_need_h0]
  cases b <;> rfl
theorem strBytes_bs {l : List Int} (h : Byt l) : strBytes (bytesStr l) = l := strBytes_bytesStr h
theorem number_is {l : List Int} (h : Byt l) (f : D_frame_Frame) : frame_reader_number_h0 (st l f) = some ((vget l).map fun x => (x.1, (st x.2 f, ()))) := by
  rw [frame_reader_number_h0_eq, b_frame_reader_number_h0]
  simp only [vget_is, strBytes_bs h, obind_some]
  cases vget l with
  | none => simp [need_is, obindP]
  | some x => simp [need_is, obindP]
theorem Byt.suf {q r : List Int} (h : Byt (q ++ r)) : Byt r := (Byt.app.mp h).2
/-- A number is read. -/
theorem num_pb {f : Int → Pr D_frame_Frame} {l : List Int} {fr : D_frame_Frame} {k : Int × D_frame_framer × Unit → Option (Option (D_frame_framer × Unit))} (hB : Byt l)
    (H : ∀ n r, In62 n → Byt r → r.length < l.length → k (n, (st r fr, ())) = outP (f n r)) : obindP (frame_reader_number_h0 (st l fr)) (some none) k = outP (pb vget f l) := by
  rw [number_is hB]
  cases hv : vget l with
  | none => simp [obindP, pb, hv, outP]
  | some x =>
    obtain ⟨n, r⟩ := x
    obtain ⟨q, rfl, hq, hn, _⟩ := vget_some hv
    simp only [Option.map_some, obindP_ss, pb, hv]
    exact H n r (hn hB) hB.suf (by simp; omega)
theorem take_is {l : List Int} (h : Byt l) (f : D_frame_Frame) (n : Nat) (hn : n ≤ 10000000) (hl : l.length ≤ 1000000) : frame_reader_take_h0 ((n : Nat) : Int) (st l f) = some ((ptake n l).map fun x => (bytesStr x.1, (st x.2 f, ()))) := by
  rw [frame_reader_take_h0_eq, b_frame_reader_take_h0]
  simp only [bytesStr_size, need_is, ptake]
  by_cases c : n ≤ l.length
  · have c1 : ((n : Nat) : Int) ≤ ((l.length : Nat) : Int) := by omega
    have e1 : (bytesStr l).extract 0 n = bytesStr (l.take n) := by
      rw [← strBytes_inj, strBytes_extract, strBytes_bs h, strBytes_bs (fun x hx => h x (List.mem_of_mem_take hx))]; rfl
    have e2 : (bytesStr l).extract n l.length = bytesStr (l.drop n) := by
      rw [← strBytes_inj, strBytes_extract, strBytes_bs h, strBytes_bs (fun x hx => h x (List.mem_of_mem_drop hx)), List.take_length]
    simp only [c1, c, if_true, decide_true, cond_true, obindP_ss, bytesStr_size, Int.toNat_natCast, nn, Int.le_refl, and_self, e1, e2, Option.map_some]
  · have c1 : ¬ ((n : Nat) : Int) ≤ ((l.length : Nat) : Int) := by omega
    simp only [c1, c, if_false, decide_false, cond_false, obindP_sn, Option.map_none]
theorem take_pb {f : ByteArray → Pr D_frame_Frame} {l : List Int} {fr : D_frame_Frame} {n : Nat} {k : ByteArray × D_frame_framer × Unit → Option (Option (D_frame_framer × Unit))} (hB : Byt l) (hn : n ≤ 10000000) (hl : l.length ≤ 1000000)
    (H : ∀ bs r, Byt r → r.length ≤ l.length → bs.length = n → Byt bs → l = bs ++ r → k (bytesStr bs, (st r fr, ())) = outP (f (bytesStr bs) r)) : obindP (frame_reader_take_h0 ((n : Nat) : Int) (st l fr)) (some none) k = outP (pb (pstr n) f l) := by
  rw [take_is hB fr n hn hl]
  simp only [pstr, pb_assoc, pb_pr]
  by_cases c : n ≤ l.length
  · simp only [ptake, c, if_true, Option.map_some, obindP_ss, pb]
    exact H _ _ (fun x hx => hB x (List.mem_of_mem_drop hx)) (by simp) (by simp; omega) (fun x hx => hB x (List.mem_of_mem_take hx)) (List.take_append_drop n l).symm
  · simp only [ptake, c, if_false, Option.map_none, obindP_sn, pb, outP]
theorem long_pb {f : ByteArray → Pr D_frame_Frame} {l : List Int} {fr : D_frame_Frame} {k : ByteArray × D_frame_framer × Unit → Option (Option (D_frame_framer × Unit))} (hB : Byt l) (hl : l.length ≤ 1000000)
    (H : ∀ bs r, Byt r → r.length ≤ l.length → Byt bs → k (bytesStr bs, (st r fr, ())) = outP (f (bytesStr bs) r)) : obindP (frame_reader_long_h0 (st l fr)) (some none) k = outP (pb plong f l) := by
  rw [frame_reader_long_h0_eq, b_frame_reader_long_h0]
  simp only [obindP_assoc, obindP_ss, plong, pb_assoc]
  refine num_pb hB fun n r hn hr hlr => ?_
  simp only [bytesStr_size]
  rw [wrap_u64 _ (by omega) (by omega), need_is]
  obtain ⟨n0, n1⟩ := hn
  by_cases c : n ≤ ((r.length : Nat) : Int)
  · simp only [c, decide_true, cond_true, obindP_ss]
    rw [wrap_i64 n (by omega) (by omega)]
    have := take_pb (f := f) (n := n.toNat) (fr := fr) (k := k) hr (by omega) (by omega) (fun bs r2 h1 h2 h3 h4 h5 => H bs r2 h1 (by omega) h4)
    rw [show ((n.toNat : Nat) : Int) = n by omega] at this
    simp only [pstr, pb_assoc] at this
    exact this
  · have c2 : ¬ n.toNat ≤ r.length := by omega
    simp only [c, decide_false, cond_false, obindP_sn, pb, ptake, c2, if_false, outP, Option.map_none]
end Go.Proofs.YtjdjlijjolibkaaDoor.V
/- What frame.Get answers: an Ack. -/
namespace Go.Proofs.YtjdjlijjolibkaaDoor.V
open Go.RowKit
section
variable (k id off mx code seq prior delay : Int) (fin : Bool) (data cid tok : ByteArray)
theorem number1_is {l : List Int} (h : Byt l) (L : List D_ranges_Range) : frame_reader_number_h1 (bytesStr l) k id off mx code seq prior delay fin data cid tok L =
    some ((vget l).map fun x => (x.1, (bytesStr x.2, (k, (id, (off, (mx, (code, (seq, (prior, (delay, (fin, (data, (cid, (tok, (L, ())))))))))))))))) := by
  rw [frame_reader_number_h1_eq, b_frame_reader_number_h1]
  simp only [vget_is, strBytes_bs h, obind_some, frame_reader_need_h1_eq, b_frame_reader_need_h1]
  cases vget l with
  | none => simp [obindP]
  | some x => simp [obindP]
theorem back_loop (s : ByteArray) : ∀ (n : Nat) (mid pre suf : List D_ranges_Range) (m : Nat), mid.length ≤ n → n < m → (pre ++ (mid ++ suf)).length ≤ 1000 →
    frame_framer_ack_h0_1 m ((pre.length : Nat) : Int) (((pre.length : Nat) : Int) + ((mid.length : Nat) : Int) - 1) s k id off mx code seq prior delay fin data cid tok (pre ++ (mid ++ suf)) =
      some (some (s, (k, (id, (off, (mx, (code, (seq, (prior, (delay, (fin, (data, (cid, (tok, (pre ++ (mid.reverse ++ suf), ())))))))))))))))  := by
  intro n
  induction n using Nat.strongRecOn with
  | _ n ih =>
    intro mid pre suf m hn hm hl
    obtain ⟨m, rfl⟩ : ∃ k, m = k + 1 := ⟨m - 1, by omega⟩
    have done : mid.length ≤ 1 → mid.reverse = mid := by
      intro h
      match mid, h with
      | [], _ => rfl
      | [x], _ => rfl
    by_cases h1 : mid.length ≤ 1
    · have c : ¬ ((pre.length : Nat) : Int) < ((pre.length : Nat) : Int) + ((mid.length : Nat) : Int) - 1 := by omega
      rw [done h1]
      simp only [frame_framer_ack_h0_1, t_frame_framer_ack_h0_1, c, decide_false, cond_false]
    · obtain ⟨x, r, rfl⟩ : ∃ x r, mid = x :: r := by
        cases mid with
        | nil => simp at h1
        | cons x r => exact ⟨x, r, rfl⟩
      obtain ⟨md, y, rfl⟩ : ∃ md y, r = md ++ [y] := by
        rcases List.eq_nil_or_concat r with e | ⟨md, y, e⟩
        · subst e; simp at h1
        · exact ⟨md, y, by simpa using e⟩
      have ej : ((pre.length : Nat) : Int) + (((x :: (md ++ [y])).length : Nat) : Int) - 1 = ((pre.length + 1 + md.length : Nat) : Int) := by simp; omega
      have eL : pre ++ ((x :: (md ++ [y])) ++ suf) = pre ++ x :: (md ++ y :: suf) := by simp
      rw [ej, eL]
      have c : ((pre.length : Nat) : Int) < ((pre.length + 1 + md.length : Nat) : Int) := by omega
      have c1 : ((pre.length + 1 + md.length : Nat) : Int) < (((pre ++ x :: (md ++ y :: suf)).length : Nat) : Int) := by simp; omega
      have c2 : ((pre.length + 1 + md.length : Nat) : Int) < (((pre ++ y :: (md ++ y :: suf)).length : Nat) : Int) := by simp; omega
      have ey : ((y.1, (y.2.1, ())) : D_ranges_Range) = y := rfl
      have ex : ((x.1, (x.2.1, ())) : D_ranges_Range) = x := rfl
      rw [frame_framer_ack_h0_1]
      simp only [t_frame_framer_ack_h0_1, c, c1, c2, mid_lt, nn, and_self, decide_true, cond_true, Int.toNat_natCast, getD_mid, getD_mid2, set_mid, set_mid2, ey, ex]
      have w1 : IntKind.wrap .i64 (((pre.length : Nat) : Int) + 1) = (((pre ++ [y]).length : Nat) : Int) := by rw [wrap_i64 _ (by simp at hl; omega) (by simp at hl; omega)]; simp
      have w2 : IntKind.wrap .i64 (((pre.length + 1 + md.length : Nat) : Int) - 1) = (((pre ++ [y]).length : Nat) : Int) + ((md.length : Nat) : Int) - 1 := by rw [wrap_i64 _ (by simp at hl; omega) (by simp at hl; omega)]; simp
      rw [w1, w2, show pre ++ y :: (md ++ x :: suf) = (pre ++ [y]) ++ (md ++ (x :: suf)) by simp]
      simp at hn
      rw [ih (n - 2) (by omega) md (pre ++ [y]) (x :: suf) m (by omega) (by omega) (by simp at hl ⊢; omega)]
      simp
/-- What an Ack's reader tells. -/
def ackOut (s : ByteArray) (L : List D_ranges_Range) : R_frame_framer_ack_h0 := (s, (k, (id, (off, (mx, (code, (seq, (prior, (delay, (fin, (data, (cid, (tok, (L, ()))))))))))))))
theorem ack_loop (cnt : Nat) (hc : cnt < 40) : ∀ (n : Nat) (l : List Int) (lo x : Int) (acc : List D_ranges_Range) (i70 : Int) (m : Nat), n < m → n ≤ cnt → Byt l → 0 ≤ lo → lo < 4611686018427387904 → acc.length + n ≤ 100 →
    frame_framer_ack_h0_0 m ((cnt : Nat) : Int) ((cnt - n : Nat) : Int) (bytesStr l) k id off mx code seq prior delay fin data cid tok i70 (acc ++ [(lo, x, ())]) =
      some ((gapsP n lo l).map fun r => ackOut k id off mx code seq prior delay fin data cid tok (bytesStr r.2) ((acc ++ [(lo, x, ())]) ++ r.1).reverse) := by
  intro n
  induction n with
  | zero =>
    intro l lo x acc i70 m hm _ hB _ _ ha
    obtain ⟨m, rfl⟩ : ∃ k, m = k + 1 := ⟨m - 1, by omega⟩
    have w : IntKind.wrap .i64 ((((acc ++ [(lo, x, ())]).length : Nat) : Int) - 1) = (((([] : List D_ranges_Range).length : Nat) : Int) + (((acc ++ [(lo, x, ())]).length : Nat) : Int) - 1) := by
      rw [wrap_i64 _ (by simp <;> omega) (by simp <;> omega)]; simp
    simp only [frame_framer_ack_h0_0, t_frame_framer_ack_h0_0, Nat.sub_zero, Int.lt_irrefl, decide_false, cond_false, w, frame_framer_ack_h0_1'_eq, b_frame_framer_ack_h0_1']
    have := back_loop k id off mx code seq prior delay fin data cid tok (bytesStr l) (acc ++ [(lo, x, ())]).length (acc ++ [(lo, x, ())]) [] [] (Int.toNat (((([] : List D_ranges_Range).length : Nat) : Int) + (((acc ++ [(lo, x, ())]).length : Nat) : Int) - 1 - 0) + 2) (Nat.le_refl _) (by simp) (by simp; omega)
    simp only [List.nil_append, List.append_nil] at this
    simp only [gapsP, pr, Option.map_some, List.append_nil, ackOut]
    exact this
  | succ n ih =>
    intro l lo x acc i70 m hm hn hB h0 h1 ha
    obtain ⟨m, rfl⟩ : ∃ k, m = k + 1 := ⟨m - 1, by omega⟩
    have c1 : ((cnt - (n + 1) : Nat) : Int) < ((cnt : Nat) : Int) := by omega
    have w : IntKind.wrap .i64 ((((acc ++ [(lo, x, ())]).length : Nat) : Int) - 1) = ((acc.length : Nat) : Int) := by rw [wrap_i64 _ (by simp <;> omega) (by simp <;> omega)]; simp
    have c2 : ((acc.length : Nat) : Int) < (((acc ++ [(lo, x, ())]).length : Nat) : Int) := by simp; omega
    have g : (acc ++ [(lo, x, ())]).getD acc.length (Ty.dflt T_ranges_Range) = (lo, x, ()) := getD_mid acc _ [] _
    have wi : IntKind.wrap .u64 (((cnt - (n + 1) : Nat) : Int) + 1) = ((cnt - n : Nat) : Int) := by rw [wrap_u64 _ (by omega) (by omega)]; omega
    simp only [frame_framer_ack_h0_0, t_frame_framer_ack_h0_0, c1, decide_true, cond_true, w, nn, c2, and_self, Int.toNat_natCast, g, frame_reader_into_h11_eq, b_frame_reader_into_h11, number1_is _ _ _ _ _ _ _ _ _ _ _ _ hB, gapsP, pb]
    cases hv : vget l with
    | none => simp [obindP]
    | some p =>
      obtain ⟨gap, l1⟩ := p
      obtain ⟨q, rfl, _, hg, _⟩ := vget_some hv
      have hgI := hg hB
      have hB1 := hB.suf
      simp only [Option.map_some, obindP_ss, number1_is _ _ _ _ _ _ _ _ _ _ _ _ hB1]
      cases hv2 : vget l1 with
      | none => simp [obindP]
      | some p =>
        obtain ⟨len, l2⟩ := p
        obtain ⟨q2, rfl, _, hlen, _⟩ := vget_some hv2
        have hlI := hlen hB1
        have hB2 := hB1.suf
        obtain ⟨g0, g1⟩ := hgI
        obtain ⟨n0, n1⟩ := hlI
        simp only [Option.map_some, obindP_ss]
        rw [wrap_u64 (gap + 2) (by omega) (by omega)]
        by_cases d1 : gap + 2 ≤ lo
        · rw [wrap_u64 (lo - gap) (by omega) (by omega), wrap_u64 (lo - gap - 2) (by omega) (by omega)]
          by_cases d2 : len ≤ lo - gap - 2
          · rw [wrap_u64 (lo - gap - 2 - len) (by omega) (by omega)]
            have c3 : (acc ++ [(lo, x, ())]).length + [((lo - gap - 2 - len, (lo - gap - 2, ())) : D_ranges_Range)].length ≤ 4294967296 := by simp; omega
            simp only [d1, d2, decide_true, cond_true, frame_reader_need_h1_eq, b_frame_reader_need_h1, Bool.not_true, cond_false, obindP_ss, c3, wi, Bool.and_self, pg]
            rw [ih l2 (lo - gap - 2 - len) (lo - gap - 2) (acc ++ [(lo, x, ())]) len m (by omega) (by omega) hB2 (by omega) (by omega) (by simp; omega)]
            cases gapsP n (lo - gap - 2 - len) l2 with
            | none => simp only [Option.map_none]
            | some r => simp only [pr, ackOut, Option.map_some, List.append_assoc, List.cons_append, List.nil_append]
          · simp only [d1, d2, decide_true, decide_false, cond_true, frame_reader_need_h1_eq, b_frame_reader_need_h1, Bool.not_false, obindP_sn, Bool.and_false, pg, cond_false, Option.map_none]
        · simp only [d1, decide_false, cond_false, frame_reader_need_h1_eq, b_frame_reader_need_h1, Bool.not_false, cond_true, obindP_sn, Bool.false_and, pg, Option.map_none]
end
end Go.Proofs.YtjdjlijjolibkaaDoor.V
/- What frame.Get answers: all kinds. -/
namespace Go.Proofs.YtjdjlijjolibkaaDoor.V
open Go.RowKit
theorem last_is (s : ByteArray) (k id off mx code seq prior delay : Int) (fin : Bool) (data cid tok : ByteArray) (set : List D_ranges_Range) (h : FrOk (k, id, off, mx, code, seq, prior, delay, fin, data, cid, tok, set, ())) :
    frame_framer_read_h0_4 s k id off mx code seq prior delay fin data cid tok set = some (bif mayFr (k, id, off, mx, code, seq, prior, delay, fin, data, cid, tok, set, ()) then some (((s, ()), ((k, id, off, mx, code, seq, prior, delay, fin, data, cid, tok, set, ()), ())), ()) else none) := by
  rw [frame_framer_read_h0_4_eq, b_frame_framer_read_h0_4, may_is_fr _ h]
  simp only [obind_some, need_is]
  cases mayFr (k, id, off, mx, code, seq, prior, delay, fin, data, cid, tok, set, ()) <;> rfl
theorem last_out (r : List Int) (k id off mx code seq prior delay : Int) (fin : Bool) (data cid tok : ByteArray) (set : List D_ranges_Range) (h : FrOk (k, id, off, mx, code, seq, prior, delay, fin, data, cid, tok, set, ())) :
    frame_framer_read_h0_4 (bytesStr r) k id off mx code seq prior delay fin data cid tok set = outP (finP' (k, id, off, mx, code, seq, prior, delay, fin, data, cid, tok, set, ()) r) := by
  rw [last_is _ _ _ _ _ _ _ _ _ _ _ _ _ _ h]
  simp only [finP', pb, pg]
  cases mayFr (k, id, off, mx, code, seq, prior, delay, fin, data, cid, tok, set, ()) <;> rfl
theorem in62_64 {n : Int} (h : In62 n) : 0 ≤ n ∧ n < 18446744073709551616 := by unfold In62 at h; omega
theorem in62_0 : In62 0 := by unfold In62; omega
/-- A frame out of numbers of 62 bits, without ranges. -/
theorem frok0 {k id off mx code seq prior delay : Int} {fin : Bool} {data cid tok : ByteArray} (h1 : In62 k) (h2 : In62 id) (h3 : In62 off) (h4 : In62 mx) (h5 : In62 code) (h6 : In62 seq) (h7 : In62 prior) (h8 : In62 delay) :
    FrOk (k, id, off, mx, code, seq, prior, delay, fin, data, cid, tok, [], ()) :=
  ⟨in62_64 h1, in62_64 h2, in62_64 h3, in62_64 h4, in62_64 h5, in62_64 h6, in62_64 h7, in62_64 h8, by simp, by simp⟩
theorem rest_pb {f : ByteArray → Pr D_frame_Frame} {l : List Int} {fr : D_frame_Frame} {k : ByteArray × D_frame_framer × Unit → Option (Option (D_frame_framer × Unit))} (hB : Byt l) (hl : l.length ≤ 1000000)
    (H : k (bytesStr l, (st [] fr, ())) = outP (f (bytesStr l) [])) : obindP (frame_reader_take_h0 ((l.length : Nat) : Int) (st l fr)) (some none) k = outP (pb prest f l) := by
  rw [take_is hB fr _ (by omega) hl]
  simp only [ptake, Nat.le_refl, if_true, Option.map_some, obindP_ss, List.take_length, List.drop_length, pb, prest]
  exact H
theorem stream0_is (q : Int) (len : Bool) (hq : (bits .and .u64 q 2 != 0) = len) (id off : Int) (fin : Bool) {l : List Int} (hB : Byt l) (hl : l.length ≤ 1000000) (h1 : In62 id) (h2 : In62 off) :
    obindP (frame_framer_stream_h0_0 q (st l (8, id, off, 0, 0, 0, 0, 0, fin, eB, eB, eB, [], ()))) (some none) (fun y => frame_framer_read_h0_4 y.1.1.1 y.1.2.1.1 y.1.2.1.2.1 y.1.2.1.2.2.1 y.1.2.1.2.2.2.1 y.1.2.1.2.2.2.2.1 y.1.2.1.2.2.2.2.2.1 y.1.2.1.2.2.2.2.2.2.1 y.1.2.1.2.2.2.2.2.2.2.1 y.1.2.1.2.2.2.2.2.2.2.2.1 y.1.2.1.2.2.2.2.2.2.2.2.2.1 y.1.2.1.2.2.2.2.2.2.2.2.2.2.1 y.1.2.1.2.2.2.2.2.2.2.2.2.2.2.1 y.1.2.1.2.2.2.2.2.2.2.2.2.2.2.2.1) =
      outP (pb (bif len then plong else prest) (fun data => finP' (8, id, off, 0, 0, 0, 0, 0, fin, data, eB, eB, [], ())) l) := by
  have i8 : In62 8 := by unfold In62; omega
  rw [frame_framer_stream_h0_0_eq, b_frame_framer_stream_h0_0]
  simp only [hq]
  cases len with
  | true =>
    simp only [cond_true, obindP_assoc, obindP_ss]
    refine long_pb hB hl fun bs r hr hlr hbs => ?_
    exact last_out r _ _ _ _ _ _ _ _ _ _ _ _ _ (frok0 i8 h1 h2 in62_0 in62_0 in62_0 in62_0 in62_0)
  | false =>
    simp only [cond_false, obindP_assoc, obindP_ss, bytesStr_size]
    refine rest_pb hB hl ?_
    exact last_out [] _ _ _ _ _ _ _ _ _ _ _ _ _ (frok0 i8 h1 h2 in62_0 in62_0 in62_0 in62_0 in62_0)
theorem stream_pb (q : Int) (fin off len : Bool) (h1 : (bits .and .u64 q 1 != 0) = fin) (h4 : (bits .and .u64 q 4 != 0) = off) (h2 : (bits .and .u64 q 2 != 0) = len) {l : List Int} (hB : Byt l) (hl : l.length ≤ 1000000) :
    obindP (frame_framer_stream_h0 q (st l (zF q))) (some none) (fun y => frame_framer_read_h0_4 y.1.1.1 y.1.2.1.1 y.1.2.1.2.1 y.1.2.1.2.2.1 y.1.2.1.2.2.2.1 y.1.2.1.2.2.2.2.1 y.1.2.1.2.2.2.2.2.1 y.1.2.1.2.2.2.2.2.2.1 y.1.2.1.2.2.2.2.2.2.2.1 y.1.2.1.2.2.2.2.2.2.2.2.1 y.1.2.1.2.2.2.2.2.2.2.2.2.1 y.1.2.1.2.2.2.2.2.2.2.2.2.2.1 y.1.2.1.2.2.2.2.2.2.2.2.2.2.2.1 y.1.2.1.2.2.2.2.2.2.2.2.2.2.2.2.1) =
      outP (pb (streamP fin off len) finP' l) := by
  rw [frame_framer_stream_h0_eq, b_frame_framer_stream_h0]
  simp only [h1, h4, frame_reader_into_h12_eq, b_frame_reader_into_h12, obindP_assoc, obindP_ss, streamP, pb_assoc, pb_pr]
  refine num_pb hB fun id r hid hr hlr => ?_
  cases off with
  | true =>
    simp only [cond_true, frame_reader_into_h1_eq, b_frame_reader_into_h1, obindP_assoc, obindP_ss]
    refine num_pb hr fun o r2 ho hr2 hlr2 => ?_
    exact stream0_is q len h2 id o fin hr2 (by omega) hid ho
  | false =>
    simp only [cond_false, pb_pr]
    exact stream0_is q len h2 id 0 fin hr (by omega) hid in62_0
theorem gaps_ok : ∀ (n : Nat) (lo : Int) (l : List Int) (rs : List D_ranges_Range) (r : List Int), gapsP n lo l = some (rs, r) → Byt l → 0 ≤ lo → In62 lo → rs.length = n ∧ ∀ x ∈ rs, In62 x.1 ∧ In62 x.2.1
  | 0, lo, l, rs, r, h, _, _, _ => by cases h; simp
  | n + 1, lo, l, rs, r, h, hB, h0, hlo => by
    simp only [gapsP] at h
    obtain ⟨gap, l1, e1, h⟩ := pb_some h
    obtain ⟨len, l2, e2, h⟩ := pb_some h
    obtain ⟨⟨⟩, l3, e3, h⟩ := pb_some h
    obtain ⟨rs', l4, e4, h⟩ := pb_some h
    cases h
    obtain ⟨q1, rfl, _, g1, _⟩ := vget_some e1
    obtain ⟨q2, rfl, _, g2, _⟩ := vget_some e2
    have i1 := g1 hB
    have i2 := g2 hB.suf
    cases hc : (decide (gap + 2 ≤ lo) && decide (len ≤ lo - gap - 2)) with
    | false => rw [hc] at e3; cases e3
    | true =>
      rw [hc] at e3
      cases e3
      simp only [Bool.and_eq_true, decide_eq_true_eq] at hc
      obtain ⟨c1, c2⟩ := hc
      obtain ⟨a0, a1⟩ := i1
      obtain ⟨b0, b1⟩ := i2
      obtain ⟨_, lo1⟩ := hlo
      obtain ⟨k1, k2⟩ := gaps_ok n _ _ _ _ e4 hB.suf.suf (by omega) ⟨by omega, by omega⟩
      refine ⟨by simp [k1], fun x hx => ?_⟩
      rcases List.mem_cons.mp hx with rfl | hx
      · exact ⟨⟨by show 0 ≤ lo - gap - 2 - len; omega, by show lo - gap - 2 - len < _; omega⟩, ⟨by show 0 ≤ lo - gap - 2; omega, by show lo - gap - 2 < _; omega⟩⟩
      · exact k2 x hx
theorem ack_pb {l : List Int} (hB : Byt l) :
    obindP (frame_framer_ack_h0 (st l (zF 2))) (some none) (fun y => frame_framer_read_h0_4 y.1 y.2.1 y.2.2.1 y.2.2.2.1 y.2.2.2.2.1 y.2.2.2.2.2.1 y.2.2.2.2.2.2.1 y.2.2.2.2.2.2.2.1 y.2.2.2.2.2.2.2.2.1 y.2.2.2.2.2.2.2.2.2.1 y.2.2.2.2.2.2.2.2.2.2.1 y.2.2.2.2.2.2.2.2.2.2.2.1 y.2.2.2.2.2.2.2.2.2.2.2.2.1 y.2.2.2.2.2.2.2.2.2.2.2.2.2.1) =
      outP (pb ackP finP' l) := by
  rw [frame_framer_ack_h0_eq, b_frame_framer_ack_h0]
  simp only [frame_reader_into_h10_eq, b_frame_reader_into_h10, obindP_assoc, obindP_ss, ackP, pb_assoc, pb_pr]
  refine num_pb hB fun hi r1 h1 hr1 _ => ?_
  refine num_pb hr1 fun delay r2 h2 hr2 _ => ?_
  refine num_pb hr2 fun cnt r3 h3 hr3 _ => ?_
  refine num_pb hr3 fun first r4 h4 hr4 _ => ?_
  simp only [need_is]
  obtain ⟨a0, a1⟩ := h1
  obtain ⟨c0, c1⟩ := h3
  obtain ⟨f0, f1⟩ := h4
  by_cases e1 : cnt < 32
  · by_cases e2 : first ≤ hi
    · rw [wrap_u64 (hi - first) (by omega) (by omega)]
      simp only [e1, e2, decide_true, cond_true, obindP_ss, Bool.and_self, frame_framer_ack_h0_0'_eq, b_frame_framer_ack_h0_0', pb_gt rfl]
      have := ack_loop 2 0 0 0 0 0 0 delay false eB eB eB cnt.toNat (by omega) cnt.toNat r4 (hi - first) hi [] first (Int.toNat (cnt - 0) + 2) (by omega) (Nat.le_refl _) hr4 (by omega) (by omega) (by simp; omega)
      rw [show ((cnt.toNat : Nat) : Int) = cnt by omega, Nat.sub_self] at this
      simp only [List.nil_append] at this
      rw [show ((0 : Nat) : Int) = 0 from rfl] at this
      rw [this]
      simp only [pb]
      cases hg : gapsP cnt.toNat (hi - first) r4 with
      | none => rfl
      | some x =>
        obtain ⟨rs, r5⟩ := x
        obtain ⟨k1, k2⟩ := gaps_ok _ _ _ _ _ hg hr4 (by omega) ⟨by omega, by omega⟩
        simp only [Option.map_some, obindP_ss, ackOut]
        have i2 : In62 2 := by unfold In62; omega
        have ok0 := frok0 (k := 2) (id := 0) (off := 0) (mx := 0) (code := 0) (seq := 0) (prior := 0) (delay := delay) (fin := false) (data := eB) (cid := eB) (tok := eB) i2 in62_0 in62_0 in62_0 in62_0 in62_0 in62_0 h2
        refine last_out r5 _ _ _ _ _ _ _ _ _ _ _ _ _ ⟨ok0.kind, ok0.id, ok0.off, ok0.max, ok0.code, ok0.seq, ok0.prior, ok0.delay, fun x hx => ?_, ?_⟩
        · simp only [List.mem_reverse, List.cons_append, List.nil_append, List.mem_cons] at hx
          rcases hx with rfl | hx
          · exact ⟨⟨by show 0 ≤ hi - first; omega, by show hi - first < _; omega⟩, ⟨a0, by show hi < _; omega⟩⟩
          · exact ⟨in62_64 (k2 x hx).1, in62_64 (k2 x hx).2⟩
        · show (([(hi - first, hi, ())] ++ rs).reverse).length ≤ 9223372036854775807
          simp; omega
    · simp only [e1, e2, decide_true, decide_false, cond_true, cond_false, obindP_sn, Bool.and_false]
      simp only [pb, pg, cond_false, outP, Option.map_none]
  · simp only [e1, decide_false, cond_false, obindP_sn, Bool.false_and]
    simp only [pb, pg, cond_false, outP, Option.map_none]
end Go.Proofs.YtjdjlijjolibkaaDoor.V
/- What frame.Get answers: each kind. -/
namespace Go.Proofs.YtjdjlijjolibkaaDoor.V
open Go.RowKit
set_option linter.unusedVariables false
/-- Behind the kind. -/
noncomputable def startR (k : Int) (r : List Int) : Option (Option (D_frame_framer × Unit)) :=
  bif k == 0 then frame_framer_read_h0_0 k true (st r (zF k)) else bif k == 1 then frame_framer_read_h0_0 k true (st r (zF k)) else frame_framer_read_h0_0 k (k == 30) (st r (zF k))
theorem i62 (n : Nat) (h : n < 1000) : In62 ((n : Nat) : Int) := by unfold In62; omega
/-- One byte. -/
theorem byte_pb {f : List Int → Pr D_frame_Frame} {l : List Int} {fr : D_frame_Frame} {k : ByteArray × D_frame_framer × Unit → Option (Option (D_frame_framer × Unit))} (hB : Byt l) (hl : l.length ≤ 1000000)
    (H : ∀ b r, (0 ≤ b ∧ b ≤ 255) → Byt r → r.length ≤ l.length → k (bytesStr [b], (st r fr, ())) = outP (f [b] r)) : obindP (frame_reader_take_h0 1 (st l fr)) (some none) k = outP (pb (ptake 1) f l) := by
  have e := take_is hB fr 1 (by omega) hl
  rw [show ((1 : Nat) : Int) = 1 from rfl] at e
  rw [e]
  cases l with
  | nil => rfl
  | cons b r =>
    obtain ⟨h1, h2⟩ := Byt.cons.mp hB
    have c : 1 ≤ (b :: r).length := by simp
    simp only [ptake, c, if_true, Option.map_some, obindP_ss, pb, List.take_succ_cons, List.take_zero, List.drop_succ_cons, List.drop_zero]
    exact H b r h1 h2 (by simp)
theorem body_0 {r : List Int} (hB : Byt r) (hl : r.length ≤ 1000000) : startR 0 r = outP (pb (bodyP 0) finP' r) := by
  have ik : In62 0 := i62 0 (by decide)
  simp only [startR, bodyP, frame_framer_read_h0_0_eq, b_frame_framer_read_h0_0, frame_framer_read_h0_1_eq, b_frame_framer_read_h0_1, frame_framer_read_h0_2_eq, b_frame_framer_read_h0_2, frame_framer_read_h0_3_eq, b_frame_framer_read_h0_3, Int.reduceBEq, Bool.or_false, Bool.or_self, cond_true, cond_false, ge_iff_le, Int.reduceLE, Int.reduceLT, decide_true, decide_false]
  exact last_out r _ _ _ _ _ _ _ _ _ _ _ _ _ (frok0 ik in62_0 in62_0 in62_0 in62_0 in62_0 in62_0 in62_0)
theorem body_1 {r : List Int} (hB : Byt r) (hl : r.length ≤ 1000000) : startR 1 r = outP (pb (bodyP 1) finP' r) := by
  have ik : In62 1 := i62 1 (by decide)
  simp only [startR, bodyP, frame_framer_read_h0_0_eq, b_frame_framer_read_h0_0, frame_framer_read_h0_1_eq, b_frame_framer_read_h0_1, frame_framer_read_h0_2_eq, b_frame_framer_read_h0_2, frame_framer_read_h0_3_eq, b_frame_framer_read_h0_3, Int.reduceBEq, Bool.or_true, Bool.or_false, Bool.or_self, cond_true, cond_false, ge_iff_le, Int.reduceLE, Int.reduceLT, decide_true, decide_false]
  exact last_out r _ _ _ _ _ _ _ _ _ _ _ _ _ (frok0 ik in62_0 in62_0 in62_0 in62_0 in62_0 in62_0 in62_0)
theorem body_2 {r : List Int} (hB : Byt r) (hl : r.length ≤ 1000000) : startR 2 r = outP (pb (bodyP 2) finP' r) := by
  have ik : In62 2 := i62 2 (by decide)
  simp only [startR, bodyP, frame_framer_read_h0_0_eq, b_frame_framer_read_h0_0, frame_framer_read_h0_1_eq, b_frame_framer_read_h0_1, frame_framer_read_h0_2_eq, b_frame_framer_read_h0_2, frame_framer_read_h0_3_eq, b_frame_framer_read_h0_3, Int.reduceBEq, Bool.or_self, cond_true, cond_false, ge_iff_le, Int.reduceLE, Int.reduceLT, decide_true, decide_false]
  exact ack_pb hB
theorem body_4 {r : List Int} (hB : Byt r) (hl : r.length ≤ 1000000) : startR 4 r = outP (pb (bodyP 4) finP' r) := by
  have ik : In62 4 := i62 4 (by decide)
  simp only [startR, bodyP, frame_framer_read_h0_0_eq, b_frame_framer_read_h0_0, frame_framer_read_h0_1_eq, b_frame_framer_read_h0_1, frame_framer_read_h0_2_eq, b_frame_framer_read_h0_2, frame_framer_read_h0_3_eq, b_frame_framer_read_h0_3, Int.reduceBEq, Bool.or_self, cond_true, cond_false, ge_iff_le, Int.reduceLE, Int.reduceLT, decide_true, decide_false]
  simp only [frame_reader_into_h9_eq, b_frame_reader_into_h9, obindP_assoc, obindP_ss, pb_assoc, pb_pr]
  refine num_pb hB fun id r0 hid hr0 hl0 => ?_
  refine num_pb hr0 fun code r1 hcode hr1 hl1 => ?_
  refine num_pb hr1 fun mx r2 hmx hr2 hl2 => ?_
  exact last_out r2 _ _ _ _ _ _ _ _ _ _ _ _ _ (frok0 ik hid in62_0 hmx hcode in62_0 in62_0 in62_0)
theorem body_5 {r : List Int} (hB : Byt r) (hl : r.length ≤ 1000000) : startR 5 r = outP (pb (bodyP 5) finP' r) := by
  have ik : In62 5 := i62 5 (by decide)
  simp only [startR, bodyP, frame_framer_read_h0_0_eq, b_frame_framer_read_h0_0, frame_framer_read_h0_1_eq, b_frame_framer_read_h0_1, frame_framer_read_h0_2_eq, b_frame_framer_read_h0_2, frame_framer_read_h0_3_eq, b_frame_framer_read_h0_3, Int.reduceBEq, Bool.or_self, cond_true, cond_false, ge_iff_le, Int.reduceLE, Int.reduceLT, decide_true, decide_false]
  simp only [frame_reader_into_h6_eq, b_frame_reader_into_h6, obindP_assoc, obindP_ss, pb_assoc, pb_pr]
  refine num_pb hB fun id r0 hid hr0 hl0 => ?_
  refine num_pb hr0 fun code r1 hcode hr1 hl1 => ?_
  exact last_out r1 _ _ _ _ _ _ _ _ _ _ _ _ _ (frok0 ik hid in62_0 in62_0 hcode in62_0 in62_0 in62_0)
theorem body_6 {r : List Int} (hB : Byt r) (hl : r.length ≤ 1000000) : startR 6 r = outP (pb (bodyP 6) finP' r) := by
  have ik : In62 6 := i62 6 (by decide)
  simp only [startR, bodyP, frame_framer_read_h0_0_eq, b_frame_framer_read_h0_0, frame_framer_read_h0_1_eq, b_frame_framer_read_h0_1, frame_framer_read_h0_2_eq, b_frame_framer_read_h0_2, frame_framer_read_h0_3_eq, b_frame_framer_read_h0_3, Int.reduceBEq, Bool.or_self, cond_true, cond_false, ge_iff_le, Int.reduceLE, Int.reduceLT, decide_true, decide_false]
  simp only [frame_reader_into_h1_eq, b_frame_reader_into_h1, obindP_assoc, obindP_ss, pb_assoc, pb_pr]
  refine num_pb hB fun off r0 hoff hr0 hl0 => ?_
  refine long_pb hr0 (by omega) fun bs r1 hr1 hl1 hbs => ?_
  exact last_out r1 _ _ _ _ _ _ _ _ _ _ _ _ _ (frok0 ik in62_0 hoff in62_0 in62_0 in62_0 in62_0 in62_0)
theorem body_8 {r : List Int} (hB : Byt r) (hl : r.length ≤ 1000000) : startR 8 r = outP (pb (bodyP 8) finP' r) := by
  have ik : In62 8 := i62 8 (by decide)
  simp only [startR, bodyP, frame_framer_read_h0_0_eq, b_frame_framer_read_h0_0, frame_framer_read_h0_1_eq, b_frame_framer_read_h0_1, frame_framer_read_h0_2_eq, b_frame_framer_read_h0_2, frame_framer_read_h0_3_eq, b_frame_framer_read_h0_3, Int.reduceBEq, Bool.or_self, cond_true, cond_false, ge_iff_le, Int.reduceLE, Int.reduceLT, decide_true]
  simp only [need_is, cond_true, obindP_ss]
  exact stream_pb 8 false false false (by rw [bits_and_u64 _ _ (by omega) (by omega)]; decide) (by rw [bits_and_u64 _ _ (by omega) (by omega)]; decide) (by rw [bits_and_u64 _ _ (by omega) (by omega)]; decide) hB hl
theorem body_9 {r : List Int} (hB : Byt r) (hl : r.length ≤ 1000000) : startR 9 r = outP (pb (bodyP 9) finP' r) := by
  have ik : In62 9 := i62 9 (by decide)
  simp only [startR, bodyP, frame_framer_read_h0_0_eq, b_frame_framer_read_h0_0, frame_framer_read_h0_1_eq, b_frame_framer_read_h0_1, frame_framer_read_h0_2_eq, b_frame_framer_read_h0_2, frame_framer_read_h0_3_eq, b_frame_framer_read_h0_3, Int.reduceBEq, Bool.or_self, cond_true, cond_false, ge_iff_le, Int.reduceLE, Int.reduceLT, decide_true]
  simp only [need_is, cond_true, obindP_ss]
  exact stream_pb 9 true false false (by rw [bits_and_u64 _ _ (by omega) (by omega)]; decide) (by rw [bits_and_u64 _ _ (by omega) (by omega)]; decide) (by rw [bits_and_u64 _ _ (by omega) (by omega)]; decide) hB hl
theorem body_10 {r : List Int} (hB : Byt r) (hl : r.length ≤ 1000000) : startR 10 r = outP (pb (bodyP 10) finP' r) := by
  have ik : In62 10 := i62 10 (by decide)
  simp only [startR, bodyP, frame_framer_read_h0_0_eq, b_frame_framer_read_h0_0, frame_framer_read_h0_1_eq, b_frame_framer_read_h0_1, frame_framer_read_h0_2_eq, b_frame_framer_read_h0_2, frame_framer_read_h0_3_eq, b_frame_framer_read_h0_3, Int.reduceBEq, Bool.or_self, cond_true, cond_false, ge_iff_le, Int.reduceLE, Int.reduceLT, decide_true]
  simp only [need_is, cond_true, obindP_ss]
  exact stream_pb 10 false false true (by rw [bits_and_u64 _ _ (by omega) (by omega)]; decide) (by rw [bits_and_u64 _ _ (by omega) (by omega)]; decide) (by rw [bits_and_u64 _ _ (by omega) (by omega)]; decide) hB hl
theorem body_11 {r : List Int} (hB : Byt r) (hl : r.length ≤ 1000000) : startR 11 r = outP (pb (bodyP 11) finP' r) := by
  have ik : In62 11 := i62 11 (by decide)
  simp only [startR, bodyP, frame_framer_read_h0_0_eq, b_frame_framer_read_h0_0, frame_framer_read_h0_1_eq, b_frame_framer_read_h0_1, frame_framer_read_h0_2_eq, b_frame_framer_read_h0_2, frame_framer_read_h0_3_eq, b_frame_framer_read_h0_3, Int.reduceBEq, Bool.or_self, cond_true, cond_false, ge_iff_le, Int.reduceLE, Int.reduceLT, decide_true]
  simp only [need_is, cond_true, obindP_ss]
  exact stream_pb 11 true false true (by rw [bits_and_u64 _ _ (by omega) (by omega)]; decide) (by rw [bits_and_u64 _ _ (by omega) (by omega)]; decide) (by rw [bits_and_u64 _ _ (by omega) (by omega)]; decide) hB hl
theorem body_12 {r : List Int} (hB : Byt r) (hl : r.length ≤ 1000000) : startR 12 r = outP (pb (bodyP 12) finP' r) := by
  have ik : In62 12 := i62 12 (by decide)
  simp only [startR, bodyP, frame_framer_read_h0_0_eq, b_frame_framer_read_h0_0, frame_framer_read_h0_1_eq, b_frame_framer_read_h0_1, frame_framer_read_h0_2_eq, b_frame_framer_read_h0_2, frame_framer_read_h0_3_eq, b_frame_framer_read_h0_3, Int.reduceBEq, Bool.or_self, cond_true, cond_false, ge_iff_le, Int.reduceLE, Int.reduceLT, decide_true]
  simp only [need_is, cond_true, obindP_ss]
  exact stream_pb 12 false true false (by rw [bits_and_u64 _ _ (by omega) (by omega)]; decide) (by rw [bits_and_u64 _ _ (by omega) (by omega)]; decide) (by rw [bits_and_u64 _ _ (by omega) (by omega)]; decide) hB hl
theorem body_13 {r : List Int} (hB : Byt r) (hl : r.length ≤ 1000000) : startR 13 r = outP (pb (bodyP 13) finP' r) := by
  have ik : In62 13 := i62 13 (by decide)
  simp only [startR, bodyP, frame_framer_read_h0_0_eq, b_frame_framer_read_h0_0, frame_framer_read_h0_1_eq, b_frame_framer_read_h0_1, frame_framer_read_h0_2_eq, b_frame_framer_read_h0_2, frame_framer_read_h0_3_eq, b_frame_framer_read_h0_3, Int.reduceBEq, Bool.or_self, cond_true, cond_false, ge_iff_le, Int.reduceLE, Int.reduceLT, decide_true]
  simp only [need_is, cond_true, obindP_ss]
  exact stream_pb 13 true true false (by rw [bits_and_u64 _ _ (by omega) (by omega)]; decide) (by rw [bits_and_u64 _ _ (by omega) (by omega)]; decide) (by rw [bits_and_u64 _ _ (by omega) (by omega)]; decide) hB hl
theorem body_14 {r : List Int} (hB : Byt r) (hl : r.length ≤ 1000000) : startR 14 r = outP (pb (bodyP 14) finP' r) := by
  have ik : In62 14 := i62 14 (by decide)
  simp only [startR, bodyP, frame_framer_read_h0_0_eq, b_frame_framer_read_h0_0, frame_framer_read_h0_1_eq, b_frame_framer_read_h0_1, frame_framer_read_h0_2_eq, b_frame_framer_read_h0_2, frame_framer_read_h0_3_eq, b_frame_framer_read_h0_3, Int.reduceBEq, Bool.or_self, cond_true, cond_false, ge_iff_le, Int.reduceLE, Int.reduceLT, decide_true]
  simp only [need_is, cond_true, obindP_ss]
  exact stream_pb 14 false true true (by rw [bits_and_u64 _ _ (by omega) (by omega)]; decide) (by rw [bits_and_u64 _ _ (by omega) (by omega)]; decide) (by rw [bits_and_u64 _ _ (by omega) (by omega)]; decide) hB hl
theorem body_15 {r : List Int} (hB : Byt r) (hl : r.length ≤ 1000000) : startR 15 r = outP (pb (bodyP 15) finP' r) := by
  have ik : In62 15 := i62 15 (by decide)
  simp only [startR, bodyP, frame_framer_read_h0_0_eq, b_frame_framer_read_h0_0, frame_framer_read_h0_1_eq, b_frame_framer_read_h0_1, frame_framer_read_h0_2_eq, b_frame_framer_read_h0_2, frame_framer_read_h0_3_eq, b_frame_framer_read_h0_3, Int.reduceBEq, Bool.or_self, cond_true, cond_false, ge_iff_le, Int.reduceLE, Int.reduceLT, decide_true]
  simp only [need_is, cond_true, obindP_ss]
  exact stream_pb 15 true true true (by rw [bits_and_u64 _ _ (by omega) (by omega)]; decide) (by rw [bits_and_u64 _ _ (by omega) (by omega)]; decide) (by rw [bits_and_u64 _ _ (by omega) (by omega)]; decide) hB hl
theorem body_16 {r : List Int} (hB : Byt r) (hl : r.length ≤ 1000000) : startR 16 r = outP (pb (bodyP 16) finP' r) := by
  have ik : In62 16 := i62 16 (by decide)
  simp only [startR, bodyP, frame_framer_read_h0_0_eq, b_frame_framer_read_h0_0, frame_framer_read_h0_1_eq, b_frame_framer_read_h0_1, frame_framer_read_h0_2_eq, b_frame_framer_read_h0_2, frame_framer_read_h0_3_eq, b_frame_framer_read_h0_3, Int.reduceBEq, Bool.or_false, Bool.or_self, cond_true, cond_false, ge_iff_le, Int.reduceLE, Int.reduceLT, decide_true, decide_false]
  simp only [frame_reader_into_h2_eq, b_frame_reader_into_h2, obindP_assoc, obindP_ss, pb_assoc, pb_pr]
  refine num_pb hB fun mx r0 hmx hr0 hl0 => ?_
  exact last_out r0 _ _ _ _ _ _ _ _ _ _ _ _ _ (frok0 ik in62_0 in62_0 hmx in62_0 in62_0 in62_0 in62_0)
theorem body_17 {r : List Int} (hB : Byt r) (hl : r.length ≤ 1000000) : startR 17 r = outP (pb (bodyP 17) finP' r) := by
  have ik : In62 17 := i62 17 (by decide)
  simp only [startR, bodyP, frame_framer_read_h0_0_eq, b_frame_framer_read_h0_0, frame_framer_read_h0_1_eq, b_frame_framer_read_h0_1, frame_framer_read_h0_2_eq, b_frame_framer_read_h0_2, frame_framer_read_h0_3_eq, b_frame_framer_read_h0_3, Int.reduceBEq, Bool.or_false, Bool.or_self, cond_true, cond_false, ge_iff_le, Int.reduceLE, Int.reduceLT, decide_true, decide_false]
  simp only [frame_reader_into_h5_eq, b_frame_reader_into_h5, obindP_assoc, obindP_ss, pb_assoc, pb_pr]
  refine num_pb hB fun id r0 hid hr0 hl0 => ?_
  refine num_pb hr0 fun mx r1 hmx hr1 hl1 => ?_
  exact last_out r1 _ _ _ _ _ _ _ _ _ _ _ _ _ (frok0 ik hid in62_0 hmx in62_0 in62_0 in62_0 in62_0)
theorem body_18 {r : List Int} (hB : Byt r) (hl : r.length ≤ 1000000) : startR 18 r = outP (pb (bodyP 18) finP' r) := by
  have ik : In62 18 := i62 18 (by decide)
  simp only [startR, bodyP, frame_framer_read_h0_0_eq, b_frame_framer_read_h0_0, frame_framer_read_h0_1_eq, b_frame_framer_read_h0_1, frame_framer_read_h0_2_eq, b_frame_framer_read_h0_2, frame_framer_read_h0_3_eq, b_frame_framer_read_h0_3, Int.reduceBEq, Bool.or_true, Bool.or_false, Bool.or_self, cond_true, cond_false, ge_iff_le, Int.reduceLE, Int.reduceLT, decide_true, decide_false]
  simp only [frame_reader_into_h2_eq, b_frame_reader_into_h2, obindP_assoc, obindP_ss, pb_assoc, pb_pr]
  refine num_pb hB fun mx r0 hmx hr0 hl0 => ?_
  exact last_out r0 _ _ _ _ _ _ _ _ _ _ _ _ _ (frok0 ik in62_0 in62_0 hmx in62_0 in62_0 in62_0 in62_0)
theorem body_19 {r : List Int} (hB : Byt r) (hl : r.length ≤ 1000000) : startR 19 r = outP (pb (bodyP 19) finP' r) := by
  have ik : In62 19 := i62 19 (by decide)
  simp only [startR, bodyP, frame_framer_read_h0_0_eq, b_frame_framer_read_h0_0, frame_framer_read_h0_1_eq, b_frame_framer_read_h0_1, frame_framer_read_h0_2_eq, b_frame_framer_read_h0_2, frame_framer_read_h0_3_eq, b_frame_framer_read_h0_3, Int.reduceBEq, Bool.or_true, Bool.or_false, Bool.or_self, cond_true, cond_false, ge_iff_le, Int.reduceLE, Int.reduceLT, decide_true, decide_false]
  simp only [frame_reader_into_h2_eq, b_frame_reader_into_h2, obindP_assoc, obindP_ss, pb_assoc, pb_pr]
  refine num_pb hB fun mx r0 hmx hr0 hl0 => ?_
  exact last_out r0 _ _ _ _ _ _ _ _ _ _ _ _ _ (frok0 ik in62_0 in62_0 hmx in62_0 in62_0 in62_0 in62_0)
theorem body_20 {r : List Int} (hB : Byt r) (hl : r.length ≤ 1000000) : startR 20 r = outP (pb (bodyP 20) finP' r) := by
  have ik : In62 20 := i62 20 (by decide)
  simp only [startR, bodyP, frame_framer_read_h0_0_eq, b_frame_framer_read_h0_0, frame_framer_read_h0_1_eq, b_frame_framer_read_h0_1, frame_framer_read_h0_2_eq, b_frame_framer_read_h0_2, frame_framer_read_h0_3_eq, b_frame_framer_read_h0_3, Int.reduceBEq, Bool.or_true, Bool.or_false, Bool.or_self, cond_true, cond_false, ge_iff_le, Int.reduceLE, Int.reduceLT, decide_true, decide_false]
  simp only [frame_reader_into_h2_eq, b_frame_reader_into_h2, obindP_assoc, obindP_ss, pb_assoc, pb_pr]
  refine num_pb hB fun mx r0 hmx hr0 hl0 => ?_
  exact last_out r0 _ _ _ _ _ _ _ _ _ _ _ _ _ (frok0 ik in62_0 in62_0 hmx in62_0 in62_0 in62_0 in62_0)
theorem body_21 {r : List Int} (hB : Byt r) (hl : r.length ≤ 1000000) : startR 21 r = outP (pb (bodyP 21) finP' r) := by
  have ik : In62 21 := i62 21 (by decide)
  simp only [startR, bodyP, frame_framer_read_h0_0_eq, b_frame_framer_read_h0_0, frame_framer_read_h0_1_eq, b_frame_framer_read_h0_1, frame_framer_read_h0_2_eq, b_frame_framer_read_h0_2, frame_framer_read_h0_3_eq, b_frame_framer_read_h0_3, Int.reduceBEq, Bool.or_true, Bool.or_self, cond_true, cond_false, ge_iff_le, Int.reduceLE, Int.reduceLT, decide_true, decide_false]
  simp only [frame_reader_into_h5_eq, b_frame_reader_into_h5, obindP_assoc, obindP_ss, pb_assoc, pb_pr]
  refine num_pb hB fun id r0 hid hr0 hl0 => ?_
  refine num_pb hr0 fun mx r1 hmx hr1 hl1 => ?_
  exact last_out r1 _ _ _ _ _ _ _ _ _ _ _ _ _ (frok0 ik hid in62_0 hmx in62_0 in62_0 in62_0 in62_0)
theorem body_22 {r : List Int} (hB : Byt r) (hl : r.length ≤ 1000000) : startR 22 r = outP (pb (bodyP 22) finP' r) := by
  have ik : In62 22 := i62 22 (by decide)
  simp only [startR, bodyP, frame_framer_read_h0_0_eq, b_frame_framer_read_h0_0, frame_framer_read_h0_1_eq, b_frame_framer_read_h0_1, frame_framer_read_h0_2_eq, b_frame_framer_read_h0_2, frame_framer_read_h0_3_eq, b_frame_framer_read_h0_3, Int.reduceBEq, Bool.or_true, Bool.or_false, Bool.or_self, cond_true, cond_false, ge_iff_le, Int.reduceLE, Int.reduceLT, decide_true, decide_false]
  simp only [frame_reader_into_h2_eq, b_frame_reader_into_h2, obindP_assoc, obindP_ss, pb_assoc, pb_pr]
  refine num_pb hB fun mx r0 hmx hr0 hl0 => ?_
  exact last_out r0 _ _ _ _ _ _ _ _ _ _ _ _ _ (frok0 ik in62_0 in62_0 hmx in62_0 in62_0 in62_0 in62_0)
theorem body_23 {r : List Int} (hB : Byt r) (hl : r.length ≤ 1000000) : startR 23 r = outP (pb (bodyP 23) finP' r) := by
  have ik : In62 23 := i62 23 (by decide)
  simp only [startR, bodyP, frame_framer_read_h0_0_eq, b_frame_framer_read_h0_0, frame_framer_read_h0_1_eq, b_frame_framer_read_h0_1, frame_framer_read_h0_2_eq, b_frame_framer_read_h0_2, frame_framer_read_h0_3_eq, b_frame_framer_read_h0_3, Int.reduceBEq, Bool.or_true, Bool.or_self, cond_true, cond_false, ge_iff_le, Int.reduceLE, Int.reduceLT, decide_true, decide_false]
  simp only [frame_reader_into_h2_eq, b_frame_reader_into_h2, obindP_assoc, obindP_ss, pb_assoc, pb_pr]
  refine num_pb hB fun mx r0 hmx hr0 hl0 => ?_
  exact last_out r0 _ _ _ _ _ _ _ _ _ _ _ _ _ (frok0 ik in62_0 in62_0 hmx in62_0 in62_0 in62_0 in62_0)
theorem body_24 {r : List Int} (hB : Byt r) (hl : r.length ≤ 1000000) : startR 24 r = outP (pb (bodyP 24) finP' r) := by
  have ik : In62 24 := i62 24 (by decide)
  simp only [startR, bodyP, frame_framer_read_h0_0_eq, b_frame_framer_read_h0_0, frame_framer_read_h0_1_eq, b_frame_framer_read_h0_1, frame_framer_read_h0_2_eq, b_frame_framer_read_h0_2, frame_framer_read_h0_3_eq, b_frame_framer_read_h0_3, Int.reduceBEq, Bool.or_self, cond_true, cond_false, ge_iff_le, Int.reduceLE, Int.reduceLT, decide_true, decide_false]
  simp only [frame_reader_into_h8_eq, b_frame_reader_into_h8, obindP_assoc, obindP_ss, pb_assoc, pb_pr]
  refine num_pb hB fun seq r0 hseq hr0 hl0 => ?_
  refine num_pb hr0 fun prior r1 hprior hr1 hl1 => ?_
  refine byte_pb hr1 (by omega) fun b r2 hb hr2 hl2 => ?_
  have eb : byteAt (bytesStr [b]) 0 = b := by rw [byteAt_is, strBytes_bs (Byt.cons.mpr ⟨hb, Byt.nil⟩)]; rfl
  have ec : (0 : Int) < (((bytesStr [b]).size : Nat) : Int) := by rw [bytesStr_size]; simp
  simp only [need_is, eb, ec, and_self, decide_true, cond_true]
  cases hb8 : (b == 8) with
  | false =>
    have : ([b] == [8]) = false := by simpa using hb8
    simp only [cond_false, obindP_sn, pb, pg, this, outP, Option.map_none]
  | true =>
    have e8 : ([b] == [8]) = true := by simpa using hb8
    simp only [cond_true, obindP_ss, e8, pb_gt rfl]
    refine take_pb (n := 8) hr2 (by omega) (by omega) fun cid r3 hr3 hl3 _ _ _ => ?_
    refine take_pb (n := 16) hr3 (by omega) (by omega) fun tok r4 hr4 hl4 _ _ _ => ?_
    exact last_out r4 _ _ _ _ _ _ _ _ _ _ _ _ _ (frok0 ik in62_0 in62_0 in62_0 in62_0 hseq hprior in62_0)
theorem body_25 {r : List Int} (hB : Byt r) (hl : r.length ≤ 1000000) : startR 25 r = outP (pb (bodyP 25) finP' r) := by
  have ik : In62 25 := i62 25 (by decide)
  simp only [startR, bodyP, frame_framer_read_h0_0_eq, b_frame_framer_read_h0_0, frame_framer_read_h0_1_eq, b_frame_framer_read_h0_1, frame_framer_read_h0_2_eq, b_frame_framer_read_h0_2, frame_framer_read_h0_3_eq, b_frame_framer_read_h0_3, Int.reduceBEq, Bool.or_self, cond_true, cond_false, ge_iff_le, Int.reduceLE, Int.reduceLT, decide_true, decide_false]
  simp only [frame_reader_into_h4_eq, b_frame_reader_into_h4, obindP_assoc, obindP_ss, pb_assoc, pb_pr]
  refine num_pb hB fun seq r0 hseq hr0 hl0 => ?_
  exact last_out r0 _ _ _ _ _ _ _ _ _ _ _ _ _ (frok0 ik in62_0 in62_0 in62_0 in62_0 hseq in62_0 in62_0)
theorem body_26 {r : List Int} (hB : Byt r) (hl : r.length ≤ 1000000) : startR 26 r = outP (pb (bodyP 26) finP' r) := by
  have ik : In62 26 := i62 26 (by decide)
  simp only [startR, bodyP, frame_framer_read_h0_0_eq, b_frame_framer_read_h0_0, frame_framer_read_h0_1_eq, b_frame_framer_read_h0_1, frame_framer_read_h0_2_eq, b_frame_framer_read_h0_2, frame_framer_read_h0_3_eq, b_frame_framer_read_h0_3, Int.reduceBEq, Bool.or_false, Bool.or_self, cond_true, cond_false, ge_iff_le, Int.reduceLE, Int.reduceLT, decide_true, decide_false]
  simp only [pb_assoc, pb_pr]
  refine take_pb (n := 8) hB (by omega) hl fun tok r1 hr1 hl1 _ _ _ => ?_
  exact last_out r1 _ _ _ _ _ _ _ _ _ _ _ _ _ (frok0 ik in62_0 in62_0 in62_0 in62_0 in62_0 in62_0 in62_0)
theorem body_27 {r : List Int} (hB : Byt r) (hl : r.length ≤ 1000000) : startR 27 r = outP (pb (bodyP 27) finP' r) := by
  have ik : In62 27 := i62 27 (by decide)
  simp only [startR, bodyP, frame_framer_read_h0_0_eq, b_frame_framer_read_h0_0, frame_framer_read_h0_1_eq, b_frame_framer_read_h0_1, frame_framer_read_h0_2_eq, b_frame_framer_read_h0_2, frame_framer_read_h0_3_eq, b_frame_framer_read_h0_3, Int.reduceBEq, Bool.or_true, Bool.or_self, cond_true, cond_false, ge_iff_le, Int.reduceLE, Int.reduceLT, decide_true, decide_false]
  simp only [pb_assoc, pb_pr]
  refine take_pb (n := 8) hB (by omega) hl fun tok r1 hr1 hl1 _ _ _ => ?_
  exact last_out r1 _ _ _ _ _ _ _ _ _ _ _ _ _ (frok0 ik in62_0 in62_0 in62_0 in62_0 in62_0 in62_0 in62_0)
theorem body_28 {r : List Int} (hB : Byt r) (hl : r.length ≤ 1000000) : startR 28 r = outP (pb (bodyP 28) finP' r) := by
  have ik : In62 28 := i62 28 (by decide)
  simp only [startR, bodyP, frame_framer_read_h0_0_eq, b_frame_framer_read_h0_0, frame_framer_read_h0_1_eq, b_frame_framer_read_h0_1, frame_framer_read_h0_2_eq, b_frame_framer_read_h0_2, frame_framer_read_h0_3_eq, b_frame_framer_read_h0_3, Int.reduceBEq, Bool.or_self, cond_true, cond_false, ge_iff_le, Int.reduceLE, Int.reduceLT, decide_true, decide_false]
  simp only [frame_reader_into_h7_eq, b_frame_reader_into_h7, obindP_assoc, obindP_ss, pb_assoc, pb_pr]
  refine num_pb hB fun code r0 hcode hr0 hl0 => ?_
  refine num_pb hr0 fun delay r1 hdelay hr1 hl1 => ?_
  refine long_pb hr1 (by omega) fun bs r2 hr2 hl2 hbs => ?_
  exact last_out r2 _ _ _ _ _ _ _ _ _ _ _ _ _ (frok0 ik in62_0 in62_0 in62_0 hcode in62_0 in62_0 hdelay)
theorem body_29 {r : List Int} (hB : Byt r) (hl : r.length ≤ 1000000) : startR 29 r = outP (pb (bodyP 29) finP' r) := by
  have ik : In62 29 := i62 29 (by decide)
  simp only [startR, bodyP, frame_framer_read_h0_0_eq, b_frame_framer_read_h0_0, frame_framer_read_h0_1_eq, b_frame_framer_read_h0_1, frame_framer_read_h0_2_eq, b_frame_framer_read_h0_2, frame_framer_read_h0_3_eq, b_frame_framer_read_h0_3, Int.reduceBEq, Bool.or_self, cond_true, cond_false, ge_iff_le, Int.reduceLE, Int.reduceLT, decide_true, decide_false]
  simp only [frame_reader_into_h3_eq, b_frame_reader_into_h3, obindP_assoc, obindP_ss, pb_assoc, pb_pr]
  refine num_pb hB fun code r0 hcode hr0 hl0 => ?_
  refine long_pb hr0 (by omega) fun bs r1 hr1 hl1 hbs => ?_
  exact last_out r1 _ _ _ _ _ _ _ _ _ _ _ _ _ (frok0 ik in62_0 in62_0 in62_0 hcode in62_0 in62_0 in62_0)
theorem body_30 {r : List Int} (hB : Byt r) (hl : r.length ≤ 1000000) : startR 30 r = outP (pb (bodyP 30) finP' r) := by
  have ik : In62 30 := i62 30 (by decide)
  simp only [startR, bodyP, frame_framer_read_h0_0_eq, b_frame_framer_read_h0_0, frame_framer_read_h0_1_eq, b_frame_framer_read_h0_1, frame_framer_read_h0_2_eq, b_frame_framer_read_h0_2, frame_framer_read_h0_3_eq, b_frame_framer_read_h0_3, Int.reduceBEq, Bool.or_true, Bool.or_self, cond_true, cond_false, ge_iff_le, Int.reduceLE, Int.reduceLT, decide_true, decide_false]
  exact last_out r _ _ _ _ _ _ _ _ _ _ _ _ _ (frok0 ik in62_0 in62_0 in62_0 in62_0 in62_0 in62_0 in62_0)
theorem body_none {k : Int} (r : List Int) (h0 : k ≠ 0) (h1 : k ≠ 1) (h2 : k ≠ 2) (h4 : k ≠ 4) (h5 : k ≠ 5) (h6 : k ≠ 6) (h8 : k ≠ 8) (h9 : k ≠ 9) (h10 : k ≠ 10) (h11 : k ≠ 11) (h12 : k ≠ 12) (h13 : k ≠ 13) (h14 : k ≠ 14) (h15 : k ≠ 15) (h16 : k ≠ 16) (h17 : k ≠ 17) (h18 : k ≠ 18) (h19 : k ≠ 19) (h20 : k ≠ 20) (h21 : k ≠ 21) (h22 : k ≠ 22) (h23 : k ≠ 23) (h24 : k ≠ 24) (h25 : k ≠ 25) (h26 : k ≠ 26) (h27 : k ≠ 27) (h28 : k ≠ 28) (h29 : k ≠ 29) (h30 : k ≠ 30) : startR k r = outP (pb (bodyP k) finP' r) := by
  have c : ¬ (k ≥ 8 ∧ k < 16) := by omega
  simp only [startR, bodyP, frame_framer_read_h0_0_eq, b_frame_framer_read_h0_0, frame_framer_read_h0_1_eq, b_frame_framer_read_h0_1, frame_framer_read_h0_2_eq, b_frame_framer_read_h0_2, frame_framer_read_h0_3_eq, b_frame_framer_read_h0_3, beq_false_of_ne h0, beq_false_of_ne h1, beq_false_of_ne h2, beq_false_of_ne h4, beq_false_of_ne h5, beq_false_of_ne h6, beq_false_of_ne h8, beq_false_of_ne h9, beq_false_of_ne h10, beq_false_of_ne h11, beq_false_of_ne h12, beq_false_of_ne h13, beq_false_of_ne h14, beq_false_of_ne h15, beq_false_of_ne h16, beq_false_of_ne h17, beq_false_of_ne h18, beq_false_of_ne h19, beq_false_of_ne h20, beq_false_of_ne h21, beq_false_of_ne h22, beq_false_of_ne h23, beq_false_of_ne h24, beq_false_of_ne h25, beq_false_of_ne h26, beq_false_of_ne h27, beq_false_of_ne h28, beq_false_of_ne h29, beq_false_of_ne h30, Bool.or_self, cond_false]
  have e : (outP (pb (fun _ => none) finP' r) : Option (Option (D_frame_framer × Unit))) = some none := rfl
  rw [e]
  by_cases c1 : k ≥ 8
  · have c2 : ¬ k < 16 := fun h => c ⟨c1, h⟩
    simp only [c1, c2, decide_true, decide_false, cond_true, need_is, cond_false, obindP_sn]
  · simp only [c1, decide_false, need_is, cond_false, obindP_sn]
theorem body_is (k : Int) {r : List Int} (hB : Byt r) (hl : r.length ≤ 1000000) : startR k r = outP (pb (bodyP k) finP' r) := by
  by_cases h0 : k = 0
  · subst h0; exact body_0 hB hl
  by_cases h1 : k = 1
  · subst h1; exact body_1 hB hl
  by_cases h2 : k = 2
  · subst h2; exact body_2 hB hl
  by_cases h4 : k = 4
  · subst h4; exact body_4 hB hl
  by_cases h5 : k = 5
  · subst h5; exact body_5 hB hl
  by_cases h6 : k = 6
  · subst h6; exact body_6 hB hl
  by_cases h8 : k = 8
  · subst h8; exact body_8 hB hl
  by_cases h9 : k = 9
  · subst h9; exact body_9 hB hl
  by_cases h10 : k = 10
  · subst h10; exact body_10 hB hl
  by_cases h11 : k = 11
  · subst h11; exact body_11 hB hl
  by_cases h12 : k = 12
  · subst h12; exact body_12 hB hl
  by_cases h13 : k = 13
  · subst h13; exact body_13 hB hl
  by_cases h14 : k = 14
  · subst h14; exact body_14 hB hl
  by_cases h15 : k = 15
  · subst h15; exact body_15 hB hl
  by_cases h16 : k = 16
  · subst h16; exact body_16 hB hl
  by_cases h17 : k = 17
  · subst h17; exact body_17 hB hl
  by_cases h18 : k = 18
  · subst h18; exact body_18 hB hl
  by_cases h19 : k = 19
  · subst h19; exact body_19 hB hl
  by_cases h20 : k = 20
  · subst h20; exact body_20 hB hl
  by_cases h21 : k = 21
  · subst h21; exact body_21 hB hl
  by_cases h22 : k = 22
  · subst h22; exact body_22 hB hl
  by_cases h23 : k = 23
  · subst h23; exact body_23 hB hl
  by_cases h24 : k = 24
  · subst h24; exact body_24 hB hl
  by_cases h25 : k = 25
  · subst h25; exact body_25 hB hl
  by_cases h26 : k = 26
  · subst h26; exact body_26 hB hl
  by_cases h27 : k = 27
  · subst h27; exact body_27 hB hl
  by_cases h28 : k = 28
  · subst h28; exact body_28 hB hl
  by_cases h29 : k = 29
  · subst h29; exact body_29 hB hl
  by_cases h30 : k = 30
  · subst h30; exact body_30 hB hl
  exact body_none r h0 h1 h2 h4 h5 h6 h8 h9 h10 h11 h12 h13 h14 h15 h16 h17 h18 h19 h20 h21 h22 h23 h24 h25 h26 h27 h28 h29 h30
end Go.Proofs.YtjdjlijjolibkaaDoor.V
/- What frame.Get answers, and what its reader is like. -/
namespace Go.Proofs.YtjdjlijjolibkaaDoor.V
open Go.RowKit
set_option linter.unusedVariables false
theorem read_is {l : List Int} (hB : Byt l) (hl : l.length ≤ 1000000) : frame_framer_read_h0 (st l (zF 0)) = outP (getL l) := by
  rw [frame_framer_read_h0_eq, b_frame_framer_read_h0]
  simp only [frame_reader_into_h0_eq, b_frame_reader_into_h0, obindP_assoc, obindP_ss, getL]
  refine num_pb hB fun k r hk hr hlr => ?_
  simp only [bytesStr_size]
  rw [wrap_i64 _ (by omega) (by omega), vsize_is k hk.1 (in62_64 hk).2]
  simp only [obind_some, need_is, beq_dec]
  by_cases c : ((l.length : Nat) : Int) - ((r.length : Nat) : Int) = vsize k
  · simp only [c, decide_true, cond_true, obindP_ss]
    have := body_is k hr (by omega)
    simp only [startR, beq_dec] at this
    exact this
  · simp only [c, decide_false, cond_false, obindP_sn, outP, Option.map_none]
theorem get_is (s : ByteArray) (hl : s.size ≤ 1000000) : frame_Get s = some (match getL (strBytes s) with | some (f, r) => (f, bytesStr r, 0, ()) | none => (zF 0, eB, 60, ())) := by
  rw [frame_Get_eq, b_frame_Get]
  have e := read_is (l := strBytes s) (strBytes_range s) (by rw [strBytes_len]; exact hl)
  simp only [st, bytesStr_strBytes] at e
  rw [e]
  cases getL (strBytes s) with
  | none => rfl
  | some x => rfl
/-! ### what is behind was there -/
theorem Suf.long : Suf plong := Suf.bind Suf.vget fun n => Suf.bind (Suf.take _) fun _ => Suf.pr _
theorem Mono.long : Mono plong := Mono.bind Mono.vget fun n => Mono.bind (Mono.take _) fun _ => Mono.pr _
theorem Suf.str (n : Nat) : Suf (pstr n) := Suf.bind (Suf.take _) fun _ => Suf.pr _
theorem Mono.str (n : Nat) : Mono (pstr n) := Mono.bind (Mono.take _) fun _ => Mono.pr _
theorem Suf.rest : Suf prest := fun l a r h => by cases h; exact ⟨l, by simp⟩
theorem Suf.gaps : ∀ (n : Nat) (lo : Int), Suf (gapsP n lo)
  | 0, _ => Suf.pr _
  | n + 1, lo => Suf.bind Suf.vget fun _ => Suf.bind Suf.vget fun _ => Suf.bind (Suf.pg _) fun _ => Suf.bind (Suf.gaps n _) fun _ => Suf.pr _
theorem Mono.gaps : ∀ (n : Nat) (lo : Int), Mono (gapsP n lo)
  | 0, _ => Mono.pr _
  | n + 1, lo => Mono.bind Mono.vget fun _ => Mono.bind Mono.vget fun _ => Mono.bind (Mono.pg _) fun _ => Mono.bind (Mono.gaps n _) fun _ => Mono.pr _
theorem Suf.ack : Suf ackP := Suf.bind Suf.vget fun _ => Suf.bind Suf.vget fun _ => Suf.bind Suf.vget fun _ => Suf.bind Suf.vget fun _ => Suf.bind (Suf.pg _) fun _ => Suf.bind (Suf.gaps _ _) fun _ => Suf.pr _
theorem Mono.ack : Mono ackP := Mono.bind Mono.vget fun _ => Mono.bind Mono.vget fun _ => Mono.bind Mono.vget fun _ => Mono.bind Mono.vget fun _ => Mono.bind (Mono.pg _) fun _ => Mono.bind (Mono.gaps _ _) fun _ => Mono.pr _
theorem Suf.stream (a b c : Bool) : Suf (streamP a b c) := Suf.bind Suf.vget fun _ => Suf.bind (by cases b; exact Suf.pr _; exact Suf.vget) fun _ => Suf.bind (by cases c; exact Suf.rest; exact Suf.long) fun _ => Suf.pr _
theorem Mono.stream (a b : Bool) : Mono (streamP a b true) := Mono.bind Mono.vget fun _ => Mono.bind (by cases b; exact Mono.pr _; exact Mono.vget) fun _ => Mono.bind Mono.long fun _ => Mono.pr _
theorem Suf.none {α : Type} : Suf (fun _ => none : Pr α) := fun _ _ _ h => by cases h
theorem Mono.none {α : Type} : Mono (fun _ => none : Pr α) := fun _ _ _ _ h => by cases h
theorem Suf.cond {α : Type} {b : Bool} {p q : Pr α} (h : Suf p) (k : Suf q) : Suf (bif b then p else q) := by cases b; exact k; exact h
theorem Mono.cond {α : Type} {b : Bool} {p q : Pr α} (h : b = true → Mono p) (k : b = false → Mono q) : Mono (bif b then p else q) := by cases b; exact k rfl; exact h rfl
theorem Suf.body (k : Int) : Suf (bodyP k) := by
  unfold bodyP
  refine Suf.cond (Suf.pr _) (Suf.cond Suf.ack (Suf.cond (Suf.bind Suf.vget fun _ => Suf.bind Suf.vget fun _ => Suf.bind Suf.vget fun _ => Suf.pr _) (Suf.cond (Suf.bind Suf.vget fun _ => Suf.bind Suf.vget fun _ => Suf.pr _) (Suf.cond (Suf.bind Suf.vget fun _ => Suf.bind Suf.long fun _ => Suf.pr _) ?_))))
  refine Suf.cond (Suf.stream _ _ _) (Suf.cond (Suf.stream _ _ _) (Suf.cond (Suf.stream _ _ _) (Suf.cond (Suf.stream _ _ _) (Suf.cond (Suf.stream _ _ _) (Suf.cond (Suf.stream _ _ _) (Suf.cond (Suf.stream _ _ _) (Suf.cond (Suf.stream _ _ _) ?_)))))))
  refine Suf.cond (Suf.bind Suf.vget fun _ => Suf.pr _) (Suf.cond (Suf.bind Suf.vget fun _ => Suf.bind Suf.vget fun _ => Suf.pr _) ?_)
  refine Suf.cond (Suf.bind Suf.vget fun _ => Suf.bind Suf.vget fun _ => Suf.bind (Suf.take _) fun _ => Suf.bind (Suf.pg _) fun _ => Suf.bind (Suf.str _) fun _ => Suf.bind (Suf.str _) fun _ => Suf.pr _) ?_
  refine Suf.cond (Suf.bind Suf.vget fun _ => Suf.pr _) (Suf.cond (Suf.bind (Suf.str _) fun _ => Suf.pr _) ?_)
  exact Suf.cond (Suf.bind Suf.vget fun _ => Suf.bind Suf.vget fun _ => Suf.bind Suf.long fun _ => Suf.pr _) (Suf.cond (Suf.bind Suf.vget fun _ => Suf.bind Suf.long fun _ => Suf.pr _) Suf.none)
theorem Mono.body (k : Int) (h8 : k ≠ 8) (h9 : k ≠ 9) (h12 : k ≠ 12) (h13 : k ≠ 13) : Mono (bodyP k) := by
  unfold bodyP
  rw [beq_false_of_ne h8, beq_false_of_ne h9, beq_false_of_ne h12, beq_false_of_ne h13]
  simp only [cond_false]
  refine Mono.cond (fun _ => Mono.pr _) fun _ => Mono.cond (fun _ => Mono.ack) fun _ => Mono.cond (fun _ => Mono.bind Mono.vget fun _ => Mono.bind Mono.vget fun _ => Mono.bind Mono.vget fun _ => Mono.pr _) fun _ => Mono.cond (fun _ => Mono.bind Mono.vget fun _ => Mono.bind Mono.vget fun _ => Mono.pr _) fun _ => Mono.cond (fun _ => Mono.bind Mono.vget fun _ => Mono.bind Mono.long fun _ => Mono.pr _) fun _ => ?_
  refine Mono.cond (fun _ => Mono.stream _ _) fun _ => Mono.cond (fun _ => Mono.stream _ _) fun _ => Mono.cond (fun _ => Mono.stream _ _) fun _ => Mono.cond (fun _ => Mono.stream _ _) fun _ => ?_
  refine Mono.cond (fun _ => Mono.bind Mono.vget fun _ => Mono.pr _) fun _ => Mono.cond (fun _ => Mono.bind Mono.vget fun _ => Mono.bind Mono.vget fun _ => Mono.pr _) fun _ => ?_
  refine Mono.cond (fun _ => Mono.bind Mono.vget fun _ => Mono.bind Mono.vget fun _ => Mono.bind (Mono.take _) fun _ => Mono.bind (Mono.pg _) fun _ => Mono.bind (Mono.str _) fun _ => Mono.bind (Mono.str _) fun _ => Mono.pr _) fun _ => ?_
  refine Mono.cond (fun _ => Mono.bind Mono.vget fun _ => Mono.pr _) fun _ => Mono.cond (fun _ => Mono.bind (Mono.str _) fun _ => Mono.pr _) fun _ => ?_
  exact Mono.cond (fun _ => Mono.bind Mono.vget fun _ => Mono.bind Mono.vget fun _ => Mono.bind Mono.long fun _ => Mono.pr _) fun _ => Mono.cond (fun _ => Mono.bind Mono.vget fun _ => Mono.bind Mono.long fun _ => Mono.pr _) fun _ => Mono.none
theorem Suf.fin (f : D_frame_Frame) : Suf (finP' f) := Suf.bind (Suf.pg _) fun _ => Suf.pr _
theorem Mono.fin (f : D_frame_Frame) : Mono (finP' f) := Mono.bind (Mono.pg _) fun _ => Mono.pr _
/-- What is got: its kind first, then its body; it may be. -/
theorem getL_some {l : List Int} {f : D_frame_Frame} {r : List Int} (h : getL l = some (f, r)) : ∃ k r1, vget l = some (k, r1) ∧ ((l.length : Nat) : Int) - ((r1.length : Nat) : Int) = vsize k ∧ bodyP k r1 = some (f, r) ∧ mayFr f = true := by
  unfold getL at h
  obtain ⟨k, r1, h1, h2⟩ := pb_some h
  by_cases c : ((l.length : Nat) : Int) - ((r1.length : Nat) : Int) = vsize k
  · simp only [c, decide_true, cond_true] at h2
    obtain ⟨f', r2, h3, h4⟩ := pb_some h2
    unfold finP' at h4
    obtain ⟨⟨⟩, r3, h5, h6⟩ := pb_some h4
    cases h6
    cases hm : mayFr f with
    | true =>
      rw [hm] at h5
      cases h5
      exact ⟨k, r1, h1, c, h3, rfl⟩
    | false => rw [hm] at h5; cases h5
  · simp only [c, decide_false, cond_false] at h2
    cases h2
theorem getL_of {l : List Int} {f : D_frame_Frame} {r r1 : List Int} {k : Int} (h1 : vget l = some (k, r1)) (h2 : ((l.length : Nat) : Int) - ((r1.length : Nat) : Int) = vsize k) (h3 : bodyP k r1 = some (f, r)) (h4 : mayFr f = true) : getL l = some (f, r) := by
  unfold getL
  simp only [pb, h1, h2, decide_true, cond_true, h3, finP', h4, pg, pr]
theorem getL_suf {l : List Int} {f : D_frame_Frame} {r : List Int} (h : getL l = some (f, r)) : ∃ q, l = q ++ r ∧ 1 ≤ q.length := by
  obtain ⟨k, r1, h1, _, h3, _⟩ := getL_some h
  obtain ⟨q, rfl, hq, _⟩ := vget_some h1
  obtain ⟨q2, rfl⟩ := Suf.body k _ _ _ h3
  exact ⟨q ++ q2, by simp, by simp; omega⟩
end Go.Proofs.YtjdjlijjolibkaaDoor.V
/- A frame that was put is got back. -/
namespace Go.Proofs.YtjdjlijjolibkaaDoor.V
open Go.RowKit
theorem pb_vb {β : Type} (n : Int) (h : In62 n) (f : Int → Pr β) (t : List Int) : pb vget f (vb n ++ t) = f n t := by
  simp only [pb, vget_vb n h t]
theorem pb_bytes {β : Type} (s : ByteArray) (n : Nat) (h : s.size = n) (f : List Int → Pr β) (t : List Int) : pb (ptake n) f (strBytes s ++ t) = f (strBytes s) t := by
  have hl : (strBytes s).length = n := by rw [strBytes_len, h]
  have c : n ≤ (strBytes s ++ t).length := by simp; omega
  simp only [pb, ptake, c, if_true]
  subst hl
  rw [List.take_left, List.drop_left]
theorem pb_str {β : Type} (s : ByteArray) (n : Nat) (h : s.size = n) (f : ByteArray → Pr β) (t : List Int) : pb (pstr n) f (strBytes s ++ t) = f s t := by
  rw [pstr, pb_assoc, pb_bytes s n h]
  simp only [pb_pr, bytesStr_strBytes]
theorem pb_text {β : Type} (s : ByteArray) (h : s.size ≤ 100000) (f : ByteArray → Pr β) (t : List Int) : pb plong f (textL s ++ t) = f s t := by
  rw [plong, textL, pb_assoc, List.append_assoc, pb_vb _ (size62 h)]
  simp only [Int.toNat_natCast]
  rw [pb_assoc, pb_bytes s _ rfl]
  simp only [pb_pr, bytesStr_strBytes]
theorem gaps_back (t : List Int) : ∀ (l : List D_ranges_Range) (lo : Int), descR lo l → lo < 4611686018427387904 → gapsP l.length lo (ackGaps lo l ++ t) = some (l, t)
  | [], lo, _, _ => rfl
  | r :: l, lo, ⟨d1, d2, d3, d4⟩, hlo => by
    have e1 : lo - (lo - r.2.1 - 2) - 2 = r.2.1 := by omega
    have e2 : r.2.1 - (r.2.1 - r.1) = r.1 := by omega
    have c1 : lo - r.2.1 - 2 + 2 ≤ lo := by omega
    have c2 : r.2.1 - r.1 ≤ r.2.1 := by omega
    simp only [gapsP, List.length_cons, ackGaps, List.append_assoc]
    rw [pb_vb _ ⟨by omega, by omega⟩, pb_vb _ ⟨by omega, by omega⟩]
    simp only [e1, e2, c1, c2, decide_true, Bool.and_self, pb_gt rfl]
    have ih := gaps_back t l r.1 d4 (by omega)
    simp only [pb, ih, pr]
theorem only_parts {k id off mx code seq prior delay : Int} {fin : Bool} {data cid tok : ByteArray} {set : List D_ranges_Range} (h : (k, id, off, mx, code, seq, prior, delay, fin, data, cid, tok, set, ()) = onlyF (k, id, off, mx, code, seq, prior, delay, fin, data, cid, tok, set, ())) :
    (hasId k = false → id = 0) ∧ (hasOff k = false → off = 0) ∧ (hasMax k = false → mx = 0) ∧ (hasCode k = false → code = 0) ∧ (hasSeq k = false → seq = 0) ∧ (hasPrior k = false → prior = 0) ∧ (hasDelay k = false → delay = 0) ∧ (hasFin k = false → fin = false) ∧
    (hasData k = false → data = eB) ∧ (hasCid k = false → cid = eB) ∧ (hasToken k = false → tok = eB) ∧ (hasSet k = false → set = []) := by
  simp only [onlyF, Prod.mk.injEq, and_true, true_and] at h
  obtain ⟨h1, h2, h3, h4, h5, h6, h7, h8, h9, h10, h11, h12⟩ := h
  refine ⟨fun e => ?_, fun e => ?_, fun e => ?_, fun e => ?_, fun e => ?_, fun e => ?_, fun e => ?_, fun e => ?_, fun e => ?_, fun e => ?_, fun e => ?_, fun e => ?_⟩
  · rw [h1, e]; rfl
  · rw [h2, e]; rfl
  · rw [h3, e]; rfl
  · rw [h4, e]; rfl
  · rw [h5, e]; rfl
  · rw [h6, e]; rfl
  · rw [h7, e]; rfl
  · rw [h8, e]; rfl
  · rw [h9, e]; rfl
  · rw [h10, e]; rfl
  · rw [h11, e]; rfl
  · rw [h12, e]; rfl
theorem getL_vb {k : Int} (hk : In62 k) {l t : List Int} {f : D_frame_Frame} (h : bodyP k l = some (f, t)) (hm : mayFr f = true) : getL (vb k ++ l) = some (f, t) :=
  getL_of (vget_vb k hk l) (by rw [List.length_append]; have := vb_vsize k hk; omega) h hm
theorem back_is (f : D_frame_Frame) (h : FrOk f) (hm : mayFr f = true) (t : List Int) : getL (putL f ++ t) = some (f, t) := by
  obtain ⟨hk, ho, hn, hd, he⟩ := mayFr_parts hm
  obtain ⟨n1, n2, n3, n4, n5, n6, n7⟩ := nums62 h hn
  have hset := h.set
  obtain ⟨k, id, off, mx, code, seq, prior, delay, fin, data, cid, tok, set, ⟨⟩⟩ := f
  obtain ⟨o1, o2, o3, o4, o5, o6, o7, o8, o9, o10, o11, o12⟩ := only_parts ho
  simp only at n1 n2 n3 n4 n5 n6 n7 hd hset hk
  have v1 : ∀ (a : Int) (t : List Int), vbs [a] ++ t = vb a ++ t := fun a t => by simp [vbs]
  have v2 : ∀ (a b : Int) (t : List Int), vbs [a, b] ++ t = vb a ++ (vb b ++ t) := fun a b t => by simp [vbs]
  have v3 : ∀ (a b c : Int) (t : List Int), vbs [a, b, c] ++ t = vb a ++ (vb b ++ (vb c ++ t)) := fun a b c t => by simp [vbs]
  have K : In62 k := by rcases kinds hk with rfl | rfl | rfl | rfl | rfl | rfl | rfl | rfl | rfl | rfl | rfl | rfl | rfl | rfl | rfl | rfl | rfl | rfl | rfl | rfl | rfl | rfl <;> (unfold In62; omega)
  by_cases h8 : k = 8
  · subst h8
    have z3 := o3 rfl; have z4 := o4 rfl; have z5 := o5 rfl; have z6 := o6 rfl; have z7 := o7 rfl; have z10 := o10 rfl; have z11 := o11 rfl; have z12 := o12 rfl
    subst z3 z4 z5 z6 z7 z10 z11 z12
    simp only [putL, beq_self_eq_true, cond_true, List.append_assoc, v2, streamK]
    have i10 := i62 10 (by decide); have i11 := i62 11 (by decide); have i14 := i62 14 (by decide); have i15 := i62 15 (by decide)
    by_cases h0 : off = 0
    · subst h0
      cases fin
      · refine getL_vb (k := 10) i10 ?_ hm
        show streamP false false true _ = _
        simp only [streamP, cond_false, cond_true, pb_pr, beq_self_eq_true, List.nil_append]
        rw [pb_vb _ n1, pb_text data (by omega)]; rfl
      · refine getL_vb (k := 11) i11 ?_ hm
        show streamP true false true _ = _
        simp only [streamP, cond_false, cond_true, pb_pr, beq_self_eq_true, List.nil_append]
        rw [pb_vb _ n1, pb_text data (by omega)]; rfl
    · have e0 : (off == 0) = false := beq_false_of_ne h0
      simp only [e0, cond_false, v1]
      cases fin
      · refine getL_vb (k := 14) i14 ?_ hm
        show streamP false true true _ = _
        simp only [streamP, cond_true]
        rw [pb_vb _ n1, pb_vb _ n2, pb_text data (by omega)]; rfl
      · refine getL_vb (k := 15) i15 ?_ hm
        show streamP true true true _ = _
        simp only [streamP, cond_true]
        rw [pb_vb _ n1, pb_vb _ n2, pb_text data (by omega)]; rfl
  · have hb : (k == 8) = false := beq_false_of_ne h8
    simp only [putL, hb, cond_false, List.append_assoc, v1]
    refine getL_vb K ?_ hm
    rcases kinds hk with rfl | rfl | rfl | rfl | rfl | rfl | rfl | rfl | rfl | rfl | rfl | rfl | rfl | rfl | rfl | rfl | rfl | rfl | rfl | rfl | rfl | rfl
    case inr.inr.inl =>
      simp only [extraF, beq_self_eq_true, cond_true, Bool.and_eq_true, decide_eq_true_eq] at he
      obtain ⟨⟨⟨e1, e2⟩, e3⟩, e4⟩ := he
      obtain ⟨r, l, er, el, d1, d2, d3, d4⟩ := ack_desc (fun r hr => (hset r hr).1.1) e1 e2 e4
      have z1 := o1 rfl; have z2 := o2 rfl; have z3 := o3 rfl; have z4 := o4 rfl; have z5 := o5 rfl; have z6 := o6 rfl; have z8 := o8 rfl; have z9 := o9 rfl; have z10 := o10 rfl; have z11 := o11 rfl
      subst z1 z2 z3 z4 z5 z6 z8 z9 z10 z11
      have e5 : r.2.1 - (r.2.1 - r.1) = r.1 := by omega
      have c1 : ((l.length : Nat) : Int) < 32 := by omega
      have c2 : r.2.1 - r.1 ≤ r.2.1 := by omega
      show ackP (ackL delay set.reverse ++ t) = _
      rw [er]
      simp only [ackP, ackL, List.append_assoc]
      rw [pb_vb _ ⟨by omega, by omega⟩, pb_vb _ n7, pb_vb _ ⟨by omega, by omega⟩, pb_vb _ ⟨by omega, by omega⟩]
      simp only [e5, c1, c2, decide_true, Bool.and_self, pb_gt rfl, Int.toNat_natCast]
      have g := gaps_back t l r.1 d4 (by omega)
      simp only [pb, g, pr]
      have e6 : ((r.1, (r.2.1, ())) : D_ranges_Range) = r := rfl
      rw [e6, ← er, List.reverse_reverse]
    · have z1 := o1 rfl; have z2 := o2 rfl; have z3 := o3 rfl; have z4 := o4 rfl; have z5 := o5 rfl; have z6 := o6 rfl; have z7 := o7 rfl; have z8 := o8 rfl; have z9 := o9 rfl; have z10 := o10 rfl; have z11 := o11 rfl; have z12 := o12 rfl
      subst z1 z2 z3 z4 z5 z6 z7 z8 z9 z10 z11 z12
      simp only [partsL, bodyP, Int.reduceBEq, Bool.or_false, Bool.or_self, cond_true, cond_false, v1, v2, List.append_assoc, List.nil_append]
      rfl
    · have z1 := o1 rfl; have z2 := o2 rfl; have z3 := o3 rfl; have z4 := o4 rfl; have z5 := o5 rfl; have z6 := o6 rfl; have z7 := o7 rfl; have z8 := o8 rfl; have z9 := o9 rfl; have z10 := o10 rfl; have z11 := o11 rfl; have z12 := o12 rfl
      subst z1 z2 z3 z4 z5 z6 z7 z8 z9 z10 z11 z12
      simp only [partsL, bodyP, Int.reduceBEq, Bool.or_true, Bool.or_false, Bool.or_self, cond_true, cond_false, v1, v2, List.append_assoc, List.nil_append]
      rfl
    · have z2 := o2 rfl; have z5 := o5 rfl; have z6 := o6 rfl; have z7 := o7 rfl; have z8 := o8 rfl; have z9 := o9 rfl; have z10 := o10 rfl; have z11 := o11 rfl; have z12 := o12 rfl
      subst z2 z5 z6 z7 z8 z9 z10 z11 z12
      simp only [partsL, bodyP, Int.reduceBEq, Bool.or_self, cond_true, cond_false, v1, v2, v3, List.append_assoc]
      rw [pb_vb _ n1, pb_vb _ n4, pb_vb _ n3]; rfl
    · have z2 := o2 rfl; have z3 := o3 rfl; have z5 := o5 rfl; have z6 := o6 rfl; have z7 := o7 rfl; have z8 := o8 rfl; have z9 := o9 rfl; have z10 := o10 rfl; have z11 := o11 rfl; have z12 := o12 rfl
      subst z2 z3 z5 z6 z7 z8 z9 z10 z11 z12
      simp only [partsL, bodyP, Int.reduceBEq, Bool.or_self, cond_true, cond_false, v1, v2, List.append_assoc]
      rw [pb_vb _ n1, pb_vb _ n4]; rfl
    · have z1 := o1 rfl; have z3 := o3 rfl; have z4 := o4 rfl; have z5 := o5 rfl; have z6 := o6 rfl; have z7 := o7 rfl; have z8 := o8 rfl; have z10 := o10 rfl; have z11 := o11 rfl; have z12 := o12 rfl
      subst z1 z3 z4 z5 z6 z7 z8 z10 z11 z12
      simp only [partsL, bodyP, Int.reduceBEq, Bool.or_self, cond_true, cond_false, v1, v2, List.append_assoc]
      rw [pb_vb _ n2, pb_text data (by omega)]; rfl
    · exact absurd rfl h8
    · have z1 := o1 rfl; have z2 := o2 rfl; have z4 := o4 rfl; have z5 := o5 rfl; have z6 := o6 rfl; have z7 := o7 rfl; have z8 := o8 rfl; have z9 := o9 rfl; have z10 := o10 rfl; have z11 := o11 rfl; have z12 := o12 rfl
      subst z1 z2 z4 z5 z6 z7 z8 z9 z10 z11 z12
      simp only [partsL, bodyP, Int.reduceBEq, Bool.or_false, Bool.or_self, cond_true, cond_false, v1, v2, List.append_assoc]
      rw [pb_vb _ n3]; rfl
    · have z2 := o2 rfl; have z4 := o4 rfl; have z5 := o5 rfl; have z6 := o6 rfl; have z7 := o7 rfl; have z8 := o8 rfl; have z9 := o9 rfl; have z10 := o10 rfl; have z11 := o11 rfl; have z12 := o12 rfl
      subst z2 z4 z5 z6 z7 z8 z9 z10 z11 z12
      simp only [partsL, bodyP, Int.reduceBEq, Bool.or_false, Bool.or_self, cond_true, cond_false, v1, v2, List.append_assoc]
      rw [pb_vb _ n1, pb_vb _ n3]; rfl
    · have z1 := o1 rfl; have z2 := o2 rfl; have z4 := o4 rfl; have z5 := o5 rfl; have z6 := o6 rfl; have z7 := o7 rfl; have z8 := o8 rfl; have z9 := o9 rfl; have z10 := o10 rfl; have z11 := o11 rfl; have z12 := o12 rfl
      subst z1 z2 z4 z5 z6 z7 z8 z9 z10 z11 z12
      simp only [partsL, bodyP, Int.reduceBEq, Bool.or_true, Bool.or_false, Bool.or_self, cond_true, cond_false, v1, v2, List.append_assoc]
      rw [pb_vb _ n3]; rfl
    · have z1 := o1 rfl; have z2 := o2 rfl; have z4 := o4 rfl; have z5 := o5 rfl; have z6 := o6 rfl; have z7 := o7 rfl; have z8 := o8 rfl; have z9 := o9 rfl; have z10 := o10 rfl; have z11 := o11 rfl; have z12 := o12 rfl
      subst z1 z2 z4 z5 z6 z7 z8 z9 z10 z11 z12
      simp only [partsL, bodyP, Int.reduceBEq, Bool.or_true, Bool.or_false, Bool.or_self, cond_true, cond_false, v1, v2, List.append_assoc]
      rw [pb_vb _ n3]; rfl
    · have z1 := o1 rfl; have z2 := o2 rfl; have z4 := o4 rfl; have z5 := o5 rfl; have z6 := o6 rfl; have z7 := o7 rfl; have z8 := o8 rfl; have z9 := o9 rfl; have z10 := o10 rfl; have z11 := o11 rfl; have z12 := o12 rfl
      subst z1 z2 z4 z5 z6 z7 z8 z9 z10 z11 z12
      simp only [partsL, bodyP, Int.reduceBEq, Bool.or_true, Bool.or_false, Bool.or_self, cond_true, cond_false, v1, v2, List.append_assoc]
      rw [pb_vb _ n3]; rfl
    · have z2 := o2 rfl; have z4 := o4 rfl; have z5 := o5 rfl; have z6 := o6 rfl; have z7 := o7 rfl; have z8 := o8 rfl; have z9 := o9 rfl; have z10 := o10 rfl; have z11 := o11 rfl; have z12 := o12 rfl
      subst z2 z4 z5 z6 z7 z8 z9 z10 z11 z12
      simp only [partsL, bodyP, Int.reduceBEq, Bool.or_true, Bool.or_self, cond_true, cond_false, v1, v2, List.append_assoc]
      rw [pb_vb _ n1, pb_vb _ n3]; rfl
    · have z1 := o1 rfl; have z2 := o2 rfl; have z4 := o4 rfl; have z5 := o5 rfl; have z6 := o6 rfl; have z7 := o7 rfl; have z8 := o8 rfl; have z9 := o9 rfl; have z10 := o10 rfl; have z11 := o11 rfl; have z12 := o12 rfl
      subst z1 z2 z4 z5 z6 z7 z8 z9 z10 z11 z12
      simp only [partsL, bodyP, Int.reduceBEq, Bool.or_true, Bool.or_false, Bool.or_self, cond_true, cond_false, v1, v2, List.append_assoc]
      rw [pb_vb _ n3]; rfl
    · have z1 := o1 rfl; have z2 := o2 rfl; have z4 := o4 rfl; have z5 := o5 rfl; have z6 := o6 rfl; have z7 := o7 rfl; have z8 := o8 rfl; have z9 := o9 rfl; have z10 := o10 rfl; have z11 := o11 rfl; have z12 := o12 rfl
      subst z1 z2 z4 z5 z6 z7 z8 z9 z10 z11 z12
      simp only [partsL, bodyP, Int.reduceBEq, Bool.or_true, Bool.or_self, cond_true, cond_false, v1, v2, List.append_assoc]
      rw [pb_vb _ n3]; rfl
    · have z1 := o1 rfl; have z2 := o2 rfl; have z3 := o3 rfl; have z4 := o4 rfl; have z7 := o7 rfl; have z8 := o8 rfl; have z9 := o9 rfl; have z12 := o12 rfl
      subst z1 z2 z3 z4 z7 z8 z9 z12
      have hc : cid.size = 8 ∧ tok.size = 16 := by
        simp [extraF] at he
        omega
      simp only [partsL, bodyP, Int.reduceBEq, Bool.or_self, cond_true, cond_false, v1, v2, List.append_assoc]
      rw [pb_vb _ n5, pb_vb _ n6]
      have e1 : ∀ (f : List Int → Pr D_frame_Frame) (l : List Int), pb (ptake 1) f ([8] ++ l) = f [8] l := fun f l => by simp [pb, ptake]
      rw [e1]
      simp only [beq_self_eq_true, pb_gt rfl]
      rw [pb_str cid 8 hc.1, pb_str tok 16 hc.2]; rfl
    · have z1 := o1 rfl; have z2 := o2 rfl; have z3 := o3 rfl; have z4 := o4 rfl; have z6 := o6 rfl; have z7 := o7 rfl; have z8 := o8 rfl; have z9 := o9 rfl; have z10 := o10 rfl; have z11 := o11 rfl; have z12 := o12 rfl
      subst z1 z2 z3 z4 z6 z7 z8 z9 z10 z11 z12
      simp only [partsL, bodyP, Int.reduceBEq, Bool.or_self, cond_true, cond_false, v1, v2, List.append_assoc]
      rw [pb_vb _ n5]; rfl
    · have z1 := o1 rfl; have z2 := o2 rfl; have z3 := o3 rfl; have z4 := o4 rfl; have z5 := o5 rfl; have z6 := o6 rfl; have z7 := o7 rfl; have z8 := o8 rfl; have z9 := o9 rfl; have z10 := o10 rfl; have z12 := o12 rfl
      subst z1 z2 z3 z4 z5 z6 z7 z8 z9 z10 z12
      have hc : tok.size = 8 := by
        simp [extraF] at he
        omega
      simp only [partsL, bodyP, Int.reduceBEq, Bool.or_false, Bool.or_self, cond_true, cond_false, v1, v2, List.append_assoc]
      rw [pb_str tok 8 hc]; rfl
    · have z1 := o1 rfl; have z2 := o2 rfl; have z3 := o3 rfl; have z4 := o4 rfl; have z5 := o5 rfl; have z6 := o6 rfl; have z7 := o7 rfl; have z8 := o8 rfl; have z9 := o9 rfl; have z10 := o10 rfl; have z12 := o12 rfl
      subst z1 z2 z3 z4 z5 z6 z7 z8 z9 z10 z12
      have hc : tok.size = 8 := by
        simp [extraF] at he
        omega
      simp only [partsL, bodyP, Int.reduceBEq, Bool.or_true, Bool.or_self, cond_true, cond_false, v1, v2, List.append_assoc]
      rw [pb_str tok 8 hc]; rfl
    · have z1 := o1 rfl; have z2 := o2 rfl; have z3 := o3 rfl; have z5 := o5 rfl; have z6 := o6 rfl; have z8 := o8 rfl; have z10 := o10 rfl; have z11 := o11 rfl; have z12 := o12 rfl
      subst z1 z2 z3 z5 z6 z8 z10 z11 z12
      simp only [partsL, bodyP, Int.reduceBEq, Bool.or_self, cond_true, cond_false, v1, v2, List.append_assoc]
      rw [pb_vb _ n4, pb_vb _ n7, pb_text data (by omega)]; rfl
    · have z1 := o1 rfl; have z2 := o2 rfl; have z3 := o3 rfl; have z5 := o5 rfl; have z6 := o6 rfl; have z7 := o7 rfl; have z8 := o8 rfl; have z10 := o10 rfl; have z11 := o11 rfl; have z12 := o12 rfl
      subst z1 z2 z3 z5 z6 z7 z8 z10 z11 z12
      simp only [partsL, bodyP, Int.reduceBEq, Bool.or_self, cond_true, cond_false, v1, v2, List.append_assoc]
      rw [pb_vb _ n4, pb_text data (by omega)]; rfl
    · have z1 := o1 rfl; have z2 := o2 rfl; have z3 := o3 rfl; have z4 := o4 rfl; have z5 := o5 rfl; have z6 := o6 rfl; have z7 := o7 rfl; have z8 := o8 rfl; have z9 := o9 rfl; have z10 := o10 rfl; have z11 := o11 rfl; have z12 := o12 rfl
      subst z1 z2 z3 z4 z5 z6 z7 z8 z9 z10 z11 z12
      simp only [partsL, bodyP, Int.reduceBEq, Bool.or_true, Bool.or_self, cond_true, cond_false, v1, v2, List.append_assoc, List.nil_append]
      rfl
end Go.Proofs.YtjdjlijjolibkaaDoor.V
namespace Go.Proofs.YtjdjlijjolibkaaDoor.V
open Go.RowKit Go.Proofs.Tryd
set_option maxRecDepth 100000
set_option linter.unusedVariables false
noncomputable def m_slices_Index_uint64 : Mach prog Inv gInv := mach bas [(121, f121)] ⟨ok121, trivial⟩ [] trivial [] trivial [] trivial
/-! ### slices.Index[[]uint64,uint64] -/
@[reducible] def r_slices_Index_uint64 : List Ty := [(.int .i64)]
def ks_slices_Index_uint64 : List Nat := [121]
abbrev H_slices_Index_uint64 (base : Base) (S0 : Nat → Prop) := base.n = 0 ∧ FinOk (finR r_slices_Index_uint64) base S0 (Post r_slices_Index_uint64 S0)
abbrev J_slices_Index_uint64 (base : Base) (S0 : Nat → Prop) (cs0 : List Go.Frame) (p : CPat) (J : denC p → Option (denL r_slices_Index_uint64)) := JSound m_slices_Index_uint64 base S0 cs0 (Post r_slices_Index_uint64 S0) p J
abbrev O_slices_Index_uint64 (base : Base) (S0 : Nat → Prop) (cs0 : List Go.Frame) (X : Cfg → Option (Option (denL r_slices_Index_uint64))) := OSound m_slices_Index_uint64 base S0 cs0 (Post r_slices_Index_uint64 S0) X
@[reducible] noncomputable def p_slices_Index_uint64_0 : CPat := ⟨⟨121, [1, 0, 1, 0], none, [.rows (.int .u64) false, .int .u64, .any, .any, .any, .any, .any, .int .i64, .int .i64], 10⟩, [], [], 0⟩
@[reducible] noncomputable def u_slices_Index_uint64_0 (k : (List Int) → Int → Int → Int → Option (Int × Unit)) : denC p_slices_Index_uint64_0 → Option (Int × Unit) := fun x => k x.1.1 x.1.2.1 x.1.2.2.2.2.2.2.2.1 x.1.2.2.2.2.2.2.2.2.1
noncomputable def t_slices_Index_uint64_0 (k0 : (List Int) → Int → Int → Int → Option (Int × Unit)) (l9 : (List Int)) (i10 : Int) (i11 : Int) (i12 : Int) : Option (Int × Unit) :=
  let b13 : Bool := (decide (i12 < i11))
  bif b13 then
    bif (decide (((0 : Int) ≤ i12) ∧ (i12 < (((List.length l9) : Nat) : Int)))) then
      let x14 : Int := (List.getD l9 (Int.toNat i12) (0 : Int))
      let b15 : Bool := (i10 == x14)
      bif b15 then
        some (i12, ())
      else
        let n16 : Int := (Go.IntKind.wrap Go.IntKind.i64 (i12 + (1 : Int)))
        k0 l9 i10 i11 n16
    else none
  else
    some ((-1 : Int), ())
noncomputable def slices_Index_uint64_0 : Nat → (List Int) → Int → Int → Int → Option (Int × Unit)
  | 0 => fun _ _ _ _ => none
  | m + 1 => t_slices_Index_uint64_0 (slices_Index_uint64_0 m)
noncomputable def b_slices_Index_uint64_0' (l9 : (List Int)) (i10 : Int) (i11 : Int) (i12 : Int) : Option (Int × Unit) := slices_Index_uint64_0 (Int.toNat (i11 - i12) + 2) l9 i10 i11 i12
theorem ex_slices_Index_uint64_0' : ∃ f, f = @b_slices_Index_uint64_0' := ⟨_, rfl⟩
noncomputable def slices_Index_uint64_0' := Classical.choose ex_slices_Index_uint64_0'
theorem slices_Index_uint64_0'_eq : @slices_Index_uint64_0' = @b_slices_Index_uint64_0' := Classical.choose_spec ex_slices_Index_uint64_0'
theorem s_slices_Index_uint64_0 {base S0 cs0} (hfin : H_slices_Index_uint64 base S0) : ∀ m, J_slices_Index_uint64 base S0 cs0 p_slices_Index_uint64_0 (u_slices_Index_uint64_0 (slices_Index_uint64_0 m)) :=
  JSound.loop' hfin.2 ks_slices_Index_uint64 100000 u_slices_Index_uint64_0 (fun k0 => cut p_slices_Index_uint64_0 (u_slices_Index_uint64_0 k0) (nowhere)) (fun k0 h0 => OSound.cut (OSound.nowhere) (Nat.le_of_eq hfin.1) h0) (slices_Index_uint64_0) (by intro x; rfl) (by intro m x; kernel_rfl)
theorem s_slices_Index_uint64_0' {base S0 cs0} (hfin : H_slices_Index_uint64 base S0) : J_slices_Index_uint64 base S0 cs0 p_slices_Index_uint64_0 (u_slices_Index_uint64_0 (slices_Index_uint64_0')) := by
  rw [slices_Index_uint64_0'_eq]; exact fun x r hx => s_slices_Index_uint64_0 hfin _ x r hx
noncomputable def x_slices_Index_uint64_0 : Cfg → Option (Option (Int × Unit)) := cut p_slices_Index_uint64_0 (u_slices_Index_uint64_0 (slices_Index_uint64_0')) (nowhere)
theorem o_slices_Index_uint64_0 {base S0 cs0} (hfin : H_slices_Index_uint64 base S0) : O_slices_Index_uint64 base S0 cs0 (x_slices_Index_uint64_0) := OSound.cut (OSound.nowhere) (Nat.le_of_eq hfin.1) (s_slices_Index_uint64_0' hfin)
noncomputable def b_slices_Index_uint64 (a0 : (List Int)) (a1 : Int) : Option (Int × Unit) :=
  let n2 : Int := (((List.length a0) : Nat) : Int)
  slices_Index_uint64_0' a0 a1 n2 (0 : Int)
theorem ex_slices_Index_uint64 : ∃ f, f = @b_slices_Index_uint64 := ⟨_, rfl⟩
noncomputable def slices_Index_uint64 := Classical.choose ex_slices_Index_uint64
theorem slices_Index_uint64_eq : @slices_Index_uint64 = @b_slices_Index_uint64 := Classical.choose_spec ex_slices_Index_uint64
noncomputable def cb_slices_Index_uint64 : Con := ⟨[(.slice (.int .u64)), (.int .u64)], r_slices_Index_uint64, fun x => b_slices_Index_uint64 x.1 x.2.1⟩
noncomputable def c_slices_Index_uint64 : Con := ⟨[(.slice (.int .u64)), (.int .u64)], r_slices_Index_uint64, fun x => slices_Index_uint64 x.1 x.2.1⟩
theorem cb_slices_Index_uint64_ok : cb_slices_Index_uint64.Sound prog Inv gInv 121 :=
  con_run (M := m_slices_Index_uint64) inv_g (f := f121) rfl ks_slices_Index_uint64 100000 (X := x_slices_Index_uint64_0) (fun base S0 cs0 hn hf => have hfin : H_slices_Index_uint64 base S0 := ⟨hn, hf⟩; o_slices_Index_uint64_0 hfin) (by intro x; kernel_rfl)
theorem c_slices_Index_uint64_ok : c_slices_Index_uint64.Sound prog Inv gInv 121 := by
  have e : c_slices_Index_uint64 = cb_slices_Index_uint64 := by unfold c_slices_Index_uint64 cb_slices_Index_uint64; rw [slices_Index_uint64_eq]
  rw [e]; exact cb_slices_Index_uint64_ok
end Go.Proofs.YtjdjlijjolibkaaDoor.V
namespace Go.Proofs.YtjdjlijjolibkaaDoor.V
open Go.RowKit Go.Proofs.Tryd
set_option maxRecDepth 100000
set_option linter.unusedVariables false
noncomputable def m_slices_Contains_uint64 : Mach prog Inv gInv := mach bas [(86, f86)] ⟨ok86, trivial⟩ [(121, c_slices_Index_uint64)] ⟨⟨c_slices_Index_uint64_ok, FnOk.callable ok121⟩, trivial⟩ [] trivial [] trivial
/-! ### slices.Contains[[]uint64,uint64] -/
@[reducible] def r_slices_Contains_uint64 : List Ty := [.bool]
def ks_slices_Contains_uint64 : List Nat := [86]
noncomputable def b_slices_Contains_uint64 (a0 : (List Int)) (a1 : Int) : Option (Bool × Unit) :=
  obind (slices_Index_uint64 a0 a1) fun y2 =>
  let b3 : Bool := (decide (y2.1 ≥ (0 : Int)))
  some (b3, ())
theorem ex_slices_Contains_uint64 : ∃ f, f = @b_slices_Contains_uint64 := ⟨_, rfl⟩
noncomputable def slices_Contains_uint64 := Classical.choose ex_slices_Contains_uint64
theorem slices_Contains_uint64_eq : @slices_Contains_uint64 = @b_slices_Contains_uint64 := Classical.choose_spec ex_slices_Contains_uint64
noncomputable def cb_slices_Contains_uint64 : Con := ⟨[(.slice (.int .u64)), (.int .u64)], r_slices_Contains_uint64, fun x => b_slices_Contains_uint64 x.1 x.2.1⟩
noncomputable def c_slices_Contains_uint64 : Con := ⟨[(.slice (.int .u64)), (.int .u64)], r_slices_Contains_uint64, fun x => slices_Contains_uint64 x.1 x.2.1⟩
theorem cb_slices_Contains_uint64_ok : cb_slices_Contains_uint64.Sound prog Inv gInv 86 :=
  con_run (M := m_slices_Contains_uint64) inv_g (f := f86) rfl ks_slices_Contains_uint64 100000 (X := nowhere) (fun base S0 cs0 hn hf => OSound.nowhere) (by intro x; kernel_rfl)
theorem c_slices_Contains_uint64_ok : c_slices_Contains_uint64.Sound prog Inv gInv 86 := by
  have e : c_slices_Contains_uint64 = cb_slices_Contains_uint64 := by unfold c_slices_Contains_uint64 cb_slices_Contains_uint64; rw [slices_Contains_uint64_eq]
  rw [e]; exact cb_slices_Contains_uint64_ok
end Go.Proofs.YtjdjlijjolibkaaDoor.V
namespace Go.Proofs.YtjdjlijjolibkaaDoor.V
open Go.RowKit Go.Proofs.Tryd
set_option maxRecDepth 100000
set_option linter.unusedVariables false
noncomputable def m_frame_Elicits : Mach prog Inv gInv := mach bas [(36, f36)] ⟨ok36, trivial⟩ [(86, c_slices_Contains_uint64)] ⟨⟨c_slices_Contains_uint64_ok, FnOk.callable ok86⟩, trivial⟩ [] trivial [] trivial
/-! ### domino/frame.Elicits -/
@[reducible] def r_frame_Elicits : List Ty := [.bool]
def ks_frame_Elicits : List Nat := [36]
noncomputable def b_frame_Elicits (a0 : D_frame_Frame) : Option (Bool × Unit) :=
  obind (slices_Contains_uint64 ((0 : Int) :: ((2 : Int) :: ((28 : Int) :: ((29 : Int) :: ([] : List Int))))) a0.1) fun y1 =>
  let b2 : Bool := (!y1.1)
  some (b2, ())
theorem ex_frame_Elicits : ∃ f, f = @b_frame_Elicits := ⟨_, rfl⟩
noncomputable def frame_Elicits := Classical.choose ex_frame_Elicits
theorem frame_Elicits_eq : @frame_Elicits = @b_frame_Elicits := Classical.choose_spec ex_frame_Elicits
noncomputable def cb_frame_Elicits : Con := ⟨[T_frame_Frame], r_frame_Elicits, fun x => b_frame_Elicits x.1⟩
noncomputable def c_frame_Elicits : Con := ⟨[T_frame_Frame], r_frame_Elicits, fun x => frame_Elicits x.1⟩
theorem cb_frame_Elicits_ok : cb_frame_Elicits.Sound prog Inv gInv 36 :=
  con_run (M := m_frame_Elicits) inv_g (f := f36) rfl ks_frame_Elicits 100000 (X := nowhere) (fun base S0 cs0 hn hf => OSound.nowhere) (by intro x; kernel_rfl)
theorem c_frame_Elicits_ok : c_frame_Elicits.Sound prog Inv gInv 36 := by
  have e : c_frame_Elicits = cb_frame_Elicits := by unfold c_frame_Elicits cb_frame_Elicits; rw [frame_Elicits_eq]
  rw [e]; exact cb_frame_Elicits_ok
end Go.Proofs.YtjdjlijjolibkaaDoor.V
namespace Go.Proofs.YtjdjlijjolibkaaDoor.V
open Go.RowKit Go.Proofs.Tryd
set_option maxRecDepth 100000
set_option linter.unusedVariables false
noncomputable def m_law06_shown : Mach prog Inv gInv := mach bas [(30, f30)] ⟨ok30, trivial⟩ [(31, c_frame_Put), (36, c_frame_Elicits), (38, c_frame_Get), (39, c_frame_Same)] ⟨⟨c_frame_Put_ok, FnOk.callable ok31⟩, ⟨c_frame_Elicits_ok, FnOk.callable ok36⟩, ⟨c_frame_Get_ok, FnOk.callable ok38⟩, ⟨c_frame_Same_ok, FnOk.callable ok39⟩, trivial⟩ [] trivial [] trivial
/-! ### domino/dominolaw06.shown -/
@[reducible] def r_law06_shown : List Ty := [.bool]
def ks_law06_shown : List Nat := [30]
noncomputable def b_law06_shown : Option (Bool × Unit) :=
  let e0 : (Int × (Int × Unit)) := ((1 : Int), ((3 : Int), ()))
  let e1 : (Int × (Int × Unit)) := ((6 : Int), ((6 : Int), ()))
  let s2 : ByteArray := (ByteArray.mk (List.toArray ([] : List UInt8)))
  let s3 : ByteArray := (ByteArray.mk (List.toArray ([] : List UInt8)))
  obind (frame_Put ((2 : Int), ((0 : Int), ((0 : Int), ((0 : Int), ((0 : Int), ((0 : Int), ((0 : Int), ((0 : Int), (false, (s2, (s2, (s2, ((e0 :: (e1 :: ([] : List D_ranges_Range))), ())))))))))))))) fun y4 =>
  bif (decide (((ByteArray.size y4.1) + 1) ≤ 9223372036854775807)) then
    let s5 : ByteArray := (y4.1 ++ (ByteArray.mk (List.toArray ((1 : UInt8) :: ([] : List UInt8)))))
    obind (frame_Get s5) fun y6 =>
    let s7 : ByteArray := (ByteArray.mk (List.toArray ([] : List UInt8)))
    let b8 : Bool := (y4.2.1 == (0 : Int))
    bif b8 then
      let b9 : Bool := (y6.2.2.1 == (0 : Int))
      bif b9 then
        let b10 : Bool := ((ByteArray.toList y4.1) == (ByteArray.toList (ByteArray.mk (List.toArray ((2 : UInt8) :: ((6 : UInt8) :: ((0 : UInt8) :: ((1 : UInt8) :: ((0 : UInt8) :: ((1 : UInt8) :: ((2 : UInt8) :: ([] : List UInt8))))))))))))
        bif b10 then
          let b11 : Bool := ((ByteArray.toList y6.2.1) == (ByteArray.toList (ByteArray.mk (List.toArray ((1 : UInt8) :: ([] : List UInt8))))))
          bif b11 then
            obind (frame_Same ((2 : Int), ((0 : Int), ((0 : Int), ((0 : Int), ((0 : Int), ((0 : Int), ((0 : Int), ((0 : Int), (false, (s2, (s2, (s2, ((e0 :: (e1 :: ([] : List D_ranges_Range))), ()))))))))))))) y6.1) fun y12 =>
            bif y12.1 then
              obind (frame_Elicits y6.1) fun y13 =>
              let b14 : Bool := (!y13.1)
              some (b14, ())
            else
              some (false, ())
          else
            some (false, ())
        else
          some (false, ())
      else
        some (false, ())
    else
      some (false, ())
  else none
theorem ex_law06_shown : ∃ f, f = @b_law06_shown := ⟨_, rfl⟩
noncomputable def law06_shown := Classical.choose ex_law06_shown
theorem law06_shown_eq : @law06_shown = @b_law06_shown := Classical.choose_spec ex_law06_shown
noncomputable def cb_law06_shown : Con := ⟨[], r_law06_shown, fun x => b_law06_shown⟩
noncomputable def c_law06_shown : Con := ⟨[], r_law06_shown, fun x => law06_shown⟩
theorem cb_law06_shown_ok : cb_law06_shown.Sound prog Inv gInv 30 :=
  con_run (M := m_law06_shown) inv_g (f := f30) rfl ks_law06_shown 100000 (X := nowhere) (fun base S0 cs0 hn hf => OSound.nowhere) (by intro x; kernel_rfl)
theorem c_law06_shown_ok : c_law06_shown.Sound prog Inv gInv 30 := by
  have e : c_law06_shown = cb_law06_shown := by unfold c_law06_shown cb_law06_shown; rw [law06_shown_eq]
  rw [e]; exact cb_law06_shown_ok
end Go.Proofs.YtjdjlijjolibkaaDoor.V
namespace Go.Proofs.YtjdjlijjolibkaaDoor.V
open Go.RowKit Go.Proofs.Tryd
set_option maxRecDepth 100000
set_option linter.unusedVariables false
noncomputable def m_law06_bounded : Mach prog Inv gInv := mach bas [(29, f29)] ⟨ok29, trivial⟩ [] trivial [] trivial [] trivial
/-! ### domino/dominolaw06.bounded -/
@[reducible] def r_law06_bounded : List Ty := [.bool]
def ks_law06_bounded : List Nat := [29]
noncomputable def b_law06_bounded (a0 : D_frame_Frame) : Option (Bool × Unit) :=
  let n1 : Int := (((ByteArray.size a0.2.2.2.2.2.2.2.2.2.1) : Nat) : Int)
  let b2 : Bool := (decide (n1 ≤ (1300 : Int)))
  bif b2 then
    let n3 : Int := (((ByteArray.size a0.2.2.2.2.2.2.2.2.2.2.1) : Nat) : Int)
    let b4 : Bool := (decide (n3 ≤ (100 : Int)))
    bif b4 then
      let n5 : Int := (((ByteArray.size a0.2.2.2.2.2.2.2.2.2.2.2.1) : Nat) : Int)
      let b6 : Bool := (decide (n5 ≤ (100 : Int)))
      bif b6 then
        let n7 : Int := (((List.length a0.2.2.2.2.2.2.2.2.2.2.2.2.1) : Nat) : Int)
        let b8 : Bool := (decide (n7 ≤ (50 : Int)))
        some (b8, ())
      else
        some (false, ())
    else
      some (false, ())
  else
    some (false, ())
theorem ex_law06_bounded : ∃ f, f = @b_law06_bounded := ⟨_, rfl⟩
noncomputable def law06_bounded := Classical.choose ex_law06_bounded
theorem law06_bounded_eq : @law06_bounded = @b_law06_bounded := Classical.choose_spec ex_law06_bounded
noncomputable def cb_law06_bounded : Con := ⟨[T_frame_Frame], r_law06_bounded, fun x => b_law06_bounded x.1⟩
noncomputable def c_law06_bounded : Con := ⟨[T_frame_Frame], r_law06_bounded, fun x => law06_bounded x.1⟩
theorem cb_law06_bounded_ok : cb_law06_bounded.Sound prog Inv gInv 29 :=
  con_run (M := m_law06_bounded) inv_g (f := f29) rfl ks_law06_bounded 100000 (X := nowhere) (fun base S0 cs0 hn hf => OSound.nowhere) (by intro x; kernel_rfl)
theorem c_law06_bounded_ok : c_law06_bounded.Sound prog Inv gInv 29 := by
  have e : c_law06_bounded = cb_law06_bounded := by unfold c_law06_bounded cb_law06_bounded; rw [law06_bounded_eq]
  rw [e]; exact cb_law06_bounded_ok
end Go.Proofs.YtjdjlijjolibkaaDoor.V
/- What the laws of frames share. -/
namespace Go.Proofs.YtjdjlijjolibkaaDoor.V
open Go.RowKit
theorem frok_of_wf {f : D_frame_Frame} (h : Wf T_frame_Frame f) : FrOk f := by
  obtain ⟨k, id, off, mx, code, seq, prior, delay, fin, data, cid, tok, set, ⟨⟩⟩ := f
  obtain ⟨h1, h2, h3, h4, h5, h6, h7, h8, _, _, _, _, ⟨h9, h10⟩, _⟩ := h
  have w : ∀ {n : Int}, (Lit.int .u64 n).wf = true → 0 ≤ n ∧ n < 18446744073709551616 := fun h => by have := wf_u64 h; omega
  refine ⟨w h1, w h2, w h3, w h4, w h5, w h6, w h7, w h8, fun r hr => ?_, h9⟩
  obtain ⟨g1, g2, _⟩ := h10 r hr
  exact ⟨w g1, w g2⟩
def boundF (f : D_frame_Frame) : Bool := decide (f.2.2.2.2.2.2.2.2.2.1.size ≤ 1300) && decide (f.2.2.2.2.2.2.2.2.2.2.1.size ≤ 100) && decide (f.2.2.2.2.2.2.2.2.2.2.2.1.size ≤ 100) && decide (f.2.2.2.2.2.2.2.2.2.2.2.2.1.length ≤ 50)
theorem bounded_is (f : D_frame_Frame) : law06_bounded f = some (boundF f, ()) := by
  rw [law06_bounded_eq, b_law06_bounded]
  have c1 : decide (((f.2.2.2.2.2.2.2.2.2.1.size : Nat) : Int) ≤ 1300) = decide (f.2.2.2.2.2.2.2.2.2.1.size ≤ 1300) := decide_eq_decide.mpr (by omega)
  have c2 : decide (((f.2.2.2.2.2.2.2.2.2.2.1.size : Nat) : Int) ≤ 100) = decide (f.2.2.2.2.2.2.2.2.2.2.1.size ≤ 100) := decide_eq_decide.mpr (by omega)
  have c3 : decide (((f.2.2.2.2.2.2.2.2.2.2.2.1.size : Nat) : Int) ≤ 100) = decide (f.2.2.2.2.2.2.2.2.2.2.2.1.size ≤ 100) := decide_eq_decide.mpr (by omega)
  have c4 : decide (((f.2.2.2.2.2.2.2.2.2.2.2.2.1.length : Nat) : Int) ≤ 50) = decide (f.2.2.2.2.2.2.2.2.2.2.2.2.1.length ≤ 50) := decide_eq_decide.mpr (by omega)
  simp only [c1, c2, c3, c4, boundF]
  cases decide (f.2.2.2.2.2.2.2.2.2.1.size ≤ 1300) <;> cases decide (f.2.2.2.2.2.2.2.2.2.2.1.size ≤ 100) <;> cases decide (f.2.2.2.2.2.2.2.2.2.2.2.1.size ≤ 100) <;> rfl
def f0 : D_frame_Frame := (2, 0, 0, 0, 0, 0, 0, 0, false, eB, eB, eB, [(1, (3, ())), (6, (6, ()))], ())
theorem f0_ok : FrOk f0 := ⟨by decide, by decide, by decide, by decide, by decide, by decide, by decide, by decide, by decide, by decide⟩
theorem f0_may : mayFr f0 = true := by decide +kernel
theorem f0_put : putL f0 = [2, 6, 0, 1, 0, 1, 2] := by decide +kernel
theorem index_loop (x : Int) : ∀ (suf pre : List Int) (m : Nat), suf.length < m → (pre ++ suf).length ≤ 9223372036854775807 →
    ∃ i, slices_Index_uint64_0 m (pre ++ suf) x (((pre ++ suf).length : Nat) : Int) ((pre.length : Nat) : Int) = some (i, ()) ∧ (0 ≤ i ↔ x ∈ suf) := by
  intro suf
  induction suf with
  | nil =>
    intro pre m hm _
    obtain ⟨m, rfl⟩ : ∃ k, m = k + 1 := ⟨m - 1, by omega⟩
    refine ⟨-1, ?_, by simp⟩
    simp only [slices_Index_uint64_0, t_slices_Index_uint64_0, mid_end, decide_false, cond_false]
  | cons y suf ih =>
    intro pre m hm hl
    obtain ⟨m, rfl⟩ : ∃ k, m = k + 1 := ⟨m - 1, by omega⟩
    by_cases e : x = y
    · subst e
      refine ⟨((pre.length : Nat) : Int), ?_, by simp⟩
      simp only [slices_Index_uint64_0, t_slices_Index_uint64_0, mid_lt, nn, and_true, decide_true, cond_true, toNat_len, getD_mid, beq_self_eq_true]
    · obtain ⟨i, h1, h2⟩ := ih (pre ++ [y]) m (by simp at hm; omega) (by simpa using hl)
      refine ⟨i, ?_, by rw [h2]; simp [e]⟩
      simp only [slices_Index_uint64_0, t_slices_Index_uint64_0, mid_lt, nn, and_true, decide_true, cond_true, toNat_len, getD_mid, beq_false_of_ne e, cond_false]
      rw [mid_next' pre y y suf hl, snoc_app, h1]
theorem contains_is (x : Int) (l : List Int) (hl : l.length ≤ 9223372036854775807) : slices_Contains_uint64 l x = some (decide (x ∈ l), ()) := by
  rw [slices_Contains_uint64_eq, b_slices_Contains_uint64, slices_Index_uint64_eq, b_slices_Index_uint64]
  simp only
  rw [slices_Index_uint64_0'_eq, b_slices_Index_uint64_0']
  obtain ⟨i, h1, h2⟩ := index_loop x l [] (Int.toNat (((l.length : Nat) : Int) - 0) + 2) (by omega) (by simpa using hl)
  simp only [List.nil_append, List.length_nil] at h1
  rw [show ((0 : Nat) : Int) = 0 from rfl] at h1
  rw [h1]
  simp only [obind_some]
  exact some_b (decide_eq_decide.mpr h2)
theorem elicits_is (f : D_frame_Frame) : frame_Elicits f = some (!decide (f.1 ∈ ([0, 2, 28, 29] : List Int)), ()) := by
  rw [frame_Elicits_eq, b_frame_Elicits, contains_is _ _ (by simp)]
  simp only [obind_some]
theorem size_app (a b : ByteArray) : (a ++ b).size = a.size + b.size := by
  rw [← strBytes_len, strBytes_app, List.length_append, strBytes_len, strBytes_len]
/-- A frame that was put, with bytes behind: it is got back. -/
theorem got_back (f : D_frame_Frame) (h : FrOk f) (hm : mayFr f = true) (t : ByteArray) (ht : t.size ≤ 900000) : frame_Get (bytesStr (putL f) ++ t) = some (f, t, 0, ()) := by
  obtain ⟨p1, p2, p3⟩ := put_ok f h hm
  rw [get_is _ (by rw [size_app, bytesStr_size]; omega), strBytes_app, strBytes_bs p1, back_is f h hm]
  simp only [bytesStr_strBytes]
theorem shown_is : law06_shown = some (true, ()) := by
  rw [law06_shown_eq, b_law06_shown]
  have e0 : ByteArray.mk (List.toArray ([] : List UInt8)) = eB := rfl
  simp only [e0]
  have ep := put_is f0 f0_ok
  rw [f0_may, f0_put] at ep
  simp only [f0, if_true] at ep
  simp only [ep, obind_some]
  have es : (bytesStr [2, 6, 0, 1, 0, 1, 2]).size = 7 := by rw [bytesStr_size]; rfl
  have eg := got_back f0 f0_ok f0_may (ByteArray.mk (List.toArray ((1 : UInt8) :: ([] : List UInt8)))) (by decide)
  rw [f0_put] at eg
  have eb : bytesStr [2, 6, 0, 1, 0, 1, 2] = ByteArray.mk (List.toArray ((2 : UInt8) :: ((6 : UInt8) :: ((0 : UInt8) :: ((1 : UInt8) :: ((0 : UInt8) :: ((1 : UInt8) :: ((2 : UInt8) :: ([] : List UInt8))))))))) := by
    rw [byt_eq, bytesStr_data]; decide
  have esame : frame_Same f0 f0 = some (true, ()) := by rw [same_is _ _ f0_ok.few]; simp
  have eel : frame_Elicits f0 = some (false, ()) := by rw [elicits_is]; rfl
  simp only [f0] at eg esame eel
  simp only [es, eg, obind_some, toList_beq, ← eb, esame, eel]
  simp
end Go.Proofs.YtjdjlijjolibkaaDoor.V
namespace Go.Proofs.YtjdjlijjolibkaaDoor.V
open Go.RowKit Go.Proofs.Tryd
set_option maxRecDepth 100000
set_option linter.unusedVariables false
noncomputable def m_law06_its : Mach prog Inv gInv := mach bas [(33, f33)] ⟨ok33, trivial⟩ [] trivial [] trivial [] trivial
/-! ### domino/dominolaw06.its -/
@[reducible] def r_law06_its : List Ty := [T_frame_Frame]
def ks_law06_its : List Nat := [33]
abbrev H_law06_its (base : Base) (S0 : Nat → Prop) := base.n = 0 ∧ FinOk (finR r_law06_its) base S0 (Post r_law06_its S0)
abbrev J_law06_its (base : Base) (S0 : Nat → Prop) (cs0 : List Go.Frame) (p : CPat) (J : denC p → Option (denL r_law06_its)) := JSound m_law06_its base S0 cs0 (Post r_law06_its S0) p J
abbrev O_law06_its (base : Base) (S0 : Nat → Prop) (cs0 : List Go.Frame) (X : Cfg → Option (Option (denL r_law06_its))) := OSound m_law06_its base S0 cs0 (Post r_law06_its S0) X
@[reducible] noncomputable def p_law06_its_0 : CPat := ⟨⟨33, [1, 1, 0, 1, 0], none, [.any, .ptr 0 0, .ptr 1 0, .ptr 2 0, .int .i64], 43⟩, [], [.dat 34 T_frame_Frame, .cells 60 [.intC .u64 (0), .intC .u64 (0), .intC .u64 (0), .intC .u64 (0), .intC .u64 (0), .intC .u64 (0), .intC .u64 (0), .intC .u64 (0), .boolC false, .str, .str, .str, .nilSlice], .cells 60 [.int .u64, .int .u64, .int .u64, .int .u64, .int .u64, .int .u64, .int .u64, .int .u64, .bool, .str, .str, .str, .all 3], .row T_ranges_Range], 0⟩
@[reducible] noncomputable def u_law06_its_0 (k : Int → D_frame_Frame → ByteArray → ByteArray → ByteArray → Int → Int → Int → Int → Int → Int → Int → Int → Bool → ByteArray → ByteArray → ByteArray → (List D_ranges_Range) → Option (D_frame_Frame × Unit)) : denC p_law06_its_0 → Option (D_frame_Frame × Unit) := fun x => k x.1.2.2.2.2.1 x.2.2.1 x.2.2.2.1.2.2.2.2.2.2.2.2.2.1 x.2.2.2.1.2.2.2.2.2.2.2.2.2.2.1 x.2.2.2.1.2.2.2.2.2.2.2.2.2.2.2.1 x.2.2.2.2.1.1 x.2.2.2.2.1.2.1 x.2.2.2.2.1.2.2.1 x.2.2.2.2.1.2.2.2.1 x.2.2.2.2.1.2.2.2.2.1 x.2.2.2.2.1.2.2.2.2.2.1 x.2.2.2.2.1.2.2.2.2.2.2.1 x.2.2.2.2.1.2.2.2.2.2.2.2.1 x.2.2.2.2.1.2.2.2.2.2.2.2.2.1 x.2.2.2.2.1.2.2.2.2.2.2.2.2.2.1 x.2.2.2.2.1.2.2.2.2.2.2.2.2.2.2.1 x.2.2.2.2.1.2.2.2.2.2.2.2.2.2.2.2.1 x.2.2.2.2.2.1
noncomputable def t_law06_its_0 (k0 : Int → D_frame_Frame → ByteArray → ByteArray → ByteArray → Int → Int → Int → Int → Int → Int → Int → Int → Bool → ByteArray → ByteArray → ByteArray → (List D_ranges_Range) → Option (D_frame_Frame × Unit)) (i23 : Int) (d24 : D_frame_Frame) (s25 : ByteArray) (s26 : ByteArray) (s27 : ByteArray) (i28 : Int) (i29 : Int) (i30 : Int) (i31 : Int) (i32 : Int) (i33 : Int) (i34 : Int) (i35 : Int) (b36 : Bool) (s37 : ByteArray) (s38 : ByteArray) (s39 : ByteArray) (l40 : (List D_ranges_Range)) : Option (D_frame_Frame × Unit) :=
  let n41 : Int := (((List.length d24.2.2.2.2.2.2.2.2.2.2.2.2.1) : Nat) : Int)
  let b42 : Bool := (decide (i23 < n41))
  bif b42 then
    bif (decide (((0 : Int) ≤ i23) ∧ (i23 < (((List.length d24.2.2.2.2.2.2.2.2.2.2.2.2.1) : Nat) : Int)))) then
      let x43 : D_ranges_Range := (List.getD d24.2.2.2.2.2.2.2.2.2.2.2.2.1 (Int.toNat i23) (Ty.dflt T_ranges_Range))
      let e44 : (Int × (Int × Unit)) := (x43.1, (x43.2.1, ()))
      bif (decide (((List.length l40) + (List.length (e44 :: ([] : List D_ranges_Range)))) ≤ 4294967296)) then
        let l45 : (List D_ranges_Range) := (l40 ++ (e44 :: ([] : List D_ranges_Range)))
        let n46 : Int := (Go.IntKind.wrap Go.IntKind.i64 (i23 + (1 : Int)))
        k0 n46 d24 s25 s26 s27 i28 i29 i30 i31 i32 i33 i34 i35 b36 s37 s38 s39 l45
      else none
    else none
  else
    some ((i28, (i29, (i30, (i31, (i32, (i33, (i34, (i35, (b36, (s37, (s38, (s39, (l40, ()))))))))))))), ())
noncomputable def law06_its_0 : Nat → Int → D_frame_Frame → ByteArray → ByteArray → ByteArray → Int → Int → Int → Int → Int → Int → Int → Int → Bool → ByteArray → ByteArray → ByteArray → (List D_ranges_Range) → Option (D_frame_Frame × Unit)
  | 0 => fun _ _ _ _ _ _ _ _ _ _ _ _ _ _ _ _ _ _ => none
  | m + 1 => t_law06_its_0 (law06_its_0 m)
noncomputable def b_law06_its_0' (i23 : Int) (d24 : D_frame_Frame) (s25 : ByteArray) (s26 : ByteArray) (s27 : ByteArray) (i28 : Int) (i29 : Int) (i30 : Int) (i31 : Int) (i32 : Int) (i33 : Int) (i34 : Int) (i35 : Int) (b36 : Bool) (s37 : ByteArray) (s38 : ByteArray) (s39 : ByteArray) (l40 : (List D_ranges_Range)) : Option (D_frame_Frame × Unit) := law06_its_0 (Int.toNat ((((List.length d24.2.2.2.2.2.2.2.2.2.2.2.2.1) : Nat) : Int) - i23) + 2) i23 d24 s25 s26 s27 i28 i29 i30 i31 i32 i33 i34 i35 b36 s37 s38 s39 l40
theorem ex_law06_its_0' : ∃ f, f = @b_law06_its_0' := ⟨_, rfl⟩
noncomputable def law06_its_0' := Classical.choose ex_law06_its_0'
theorem law06_its_0'_eq : @law06_its_0' = @b_law06_its_0' := Classical.choose_spec ex_law06_its_0'
theorem s_law06_its_0 {base S0 cs0} (hfin : H_law06_its base S0) : ∀ m, J_law06_its base S0 cs0 p_law06_its_0 (u_law06_its_0 (law06_its_0 m)) :=
  JSound.loop' hfin.2 ks_law06_its 100000 u_law06_its_0 (fun k0 => cut p_law06_its_0 (u_law06_its_0 k0) (nowhere)) (fun k0 h0 => OSound.cut (OSound.nowhere) (Nat.le_of_eq hfin.1) h0) (law06_its_0) (by intro x; rfl) (by intro m x; kernel_rfl)
theorem s_law06_its_0' {base S0 cs0} (hfin : H_law06_its base S0) : J_law06_its base S0 cs0 p_law06_its_0 (u_law06_its_0 (law06_its_0')) := by
  rw [law06_its_0'_eq]; exact fun x r hx => s_law06_its_0 hfin _ x r hx
noncomputable def x_law06_its_0 : Cfg → Option (Option (D_frame_Frame × Unit)) := cut p_law06_its_0 (u_law06_its_0 (law06_its_0')) (nowhere)
theorem o_law06_its_0 {base S0 cs0} (hfin : H_law06_its base S0) : O_law06_its base S0 cs0 (x_law06_its_0) := OSound.cut (OSound.nowhere) (Nat.le_of_eq hfin.1) (s_law06_its_0' hfin)
noncomputable def b_law06_its (a0 : D_frame_Frame) : Option (D_frame_Frame × Unit) :=
  let s1 : ByteArray := (ByteArray.mk (List.toArray ([] : List UInt8)))
  let s2 : ByteArray := (ByteArray.mk (List.toArray ([] : List UInt8)))
  law06_its_0' (0 : Int) a0 s1 s1 s1 a0.1 a0.2.1 a0.2.2.1 a0.2.2.2.1 a0.2.2.2.2.1 a0.2.2.2.2.2.1 a0.2.2.2.2.2.2.1 a0.2.2.2.2.2.2.2.1 a0.2.2.2.2.2.2.2.2.1 a0.2.2.2.2.2.2.2.2.2.1 a0.2.2.2.2.2.2.2.2.2.2.1 a0.2.2.2.2.2.2.2.2.2.2.2.1 ([] : List D_ranges_Range)
theorem ex_law06_its : ∃ f, f = @b_law06_its := ⟨_, rfl⟩
noncomputable def law06_its := Classical.choose ex_law06_its
theorem law06_its_eq : @law06_its = @b_law06_its := Classical.choose_spec ex_law06_its
noncomputable def cb_law06_its : Con := ⟨[T_frame_Frame], r_law06_its, fun x => b_law06_its x.1⟩
noncomputable def c_law06_its : Con := ⟨[T_frame_Frame], r_law06_its, fun x => law06_its x.1⟩
theorem cb_law06_its_ok : cb_law06_its.Sound prog Inv gInv 33 :=
  con_run (M := m_law06_its) inv_g (f := f33) rfl ks_law06_its 100000 (X := x_law06_its_0) (fun base S0 cs0 hn hf => have hfin : H_law06_its base S0 := ⟨hn, hf⟩; o_law06_its_0 hfin) (by intro x; kernel_rfl)
theorem c_law06_its_ok : c_law06_its.Sound prog Inv gInv 33 := by
  have e : c_law06_its = cb_law06_its := by unfold c_law06_its cb_law06_its; rw [law06_its_eq]
  rw [e]; exact cb_law06_its_ok
end Go.Proofs.YtjdjlijjolibkaaDoor.V
namespace Go.Proofs.YtjdjlijjolibkaaDoor.V
open Go.RowKit Go.Proofs.Tryd
set_option maxRecDepth 100000
set_option linter.unusedVariables false
noncomputable def m_ref03_Same : Mach prog Inv gInv := mach bas [(91, f91)] ⟨ok91, trivial⟩ [] trivial [] trivial [] trivial
/-! ### domino/dominoref03.Same -/
@[reducible] def r_ref03_Same : List Ty := [.bool]
def ks_ref03_Same : List Nat := [91]
abbrev H_ref03_Same (base : Base) (S0 : Nat → Prop) := base.n = 0 ∧ FinOk (finR r_ref03_Same) base S0 (Post r_ref03_Same S0)
abbrev J_ref03_Same (base : Base) (S0 : Nat → Prop) (cs0 : List Go.Frame) (p : CPat) (J : denC p → Option (denL r_ref03_Same)) := JSound m_ref03_Same base S0 cs0 (Post r_ref03_Same S0) p J
abbrev O_ref03_Same (base : Base) (S0 : Nat → Prop) (cs0 : List Go.Frame) (X : Cfg → Option (Option (denL r_ref03_Same))) := OSound m_ref03_Same base S0 cs0 (Post r_ref03_Same S0) X
@[reducible] noncomputable def p_ref03_Same_0 : CPat := ⟨⟨91, [1, 1, 0, 1, 0], none, [.rows T_ranges_Range false, .rows T_ranges_Range false, .any, .any, .any, .int .i64], 20⟩, [], [], 0⟩
@[reducible] noncomputable def u_ref03_Same_0 (k : (List D_ranges_Range) → (List D_ranges_Range) → Int → Option (Bool × Unit)) : denC p_ref03_Same_0 → Option (Bool × Unit) := fun x => k x.1.1 x.1.2.1 x.1.2.2.2.2.2.1
noncomputable def t_ref03_Same_0 (k0 : (List D_ranges_Range) → (List D_ranges_Range) → Int → Option (Bool × Unit)) (l12 : (List D_ranges_Range)) (l13 : (List D_ranges_Range)) (i14 : Int) : Option (Bool × Unit) :=
  let n15 : Int := (((List.length l12) : Nat) : Int)
  let b16 : Bool := (decide (i14 < n15))
  bif b16 then
    bif (decide (((0 : Int) ≤ i14) ∧ (i14 < (((List.length l12) : Nat) : Int)))) then
      let x17 : D_ranges_Range := (List.getD l12 (Int.toNat i14) (Ty.dflt T_ranges_Range))
      bif (decide (((0 : Int) ≤ i14) ∧ (i14 < (((List.length l13) : Nat) : Int)))) then
        let x18 : D_ranges_Range := (List.getD l13 (Int.toNat i14) (Ty.dflt T_ranges_Range))
        let b19 : Bool := (!((x17.1 == x18.1) && ((x17.2.1 == x18.2.1) && true)))
        bif b19 then
          some (false, ())
        else
          let n20 : Int := (Go.IntKind.wrap Go.IntKind.i64 (i14 + (1 : Int)))
          k0 l12 l13 n20
      else none
    else none
  else
    some (true, ())
noncomputable def ref03_Same_0 : Nat → (List D_ranges_Range) → (List D_ranges_Range) → Int → Option (Bool × Unit)
  | 0 => fun _ _ _ => none
  | m + 1 => t_ref03_Same_0 (ref03_Same_0 m)
noncomputable def b_ref03_Same_0' (l12 : (List D_ranges_Range)) (l13 : (List D_ranges_Range)) (i14 : Int) : Option (Bool × Unit) := ref03_Same_0 (Int.toNat ((((List.length l12) : Nat) : Int) - i14) + 2) l12 l13 i14
theorem ex_ref03_Same_0' : ∃ f, f = @b_ref03_Same_0' := ⟨_, rfl⟩
noncomputable def ref03_Same_0' := Classical.choose ex_ref03_Same_0'
theorem ref03_Same_0'_eq : @ref03_Same_0' = @b_ref03_Same_0' := Classical.choose_spec ex_ref03_Same_0'
theorem s_ref03_Same_0 {base S0 cs0} (hfin : H_ref03_Same base S0) : ∀ m, J_ref03_Same base S0 cs0 p_ref03_Same_0 (u_ref03_Same_0 (ref03_Same_0 m)) :=
  JSound.loop' hfin.2 ks_ref03_Same 100000 u_ref03_Same_0 (fun k0 => cut p_ref03_Same_0 (u_ref03_Same_0 k0) (nowhere)) (fun k0 h0 => OSound.cut (OSound.nowhere) (Nat.le_of_eq hfin.1) h0) (ref03_Same_0) (by intro x; rfl) (by intro m x; kernel_rfl)
theorem s_ref03_Same_0' {base S0 cs0} (hfin : H_ref03_Same base S0) : J_ref03_Same base S0 cs0 p_ref03_Same_0 (u_ref03_Same_0 (ref03_Same_0')) := by
  rw [ref03_Same_0'_eq]; exact fun x r hx => s_ref03_Same_0 hfin _ x r hx
noncomputable def x_ref03_Same_0 : Cfg → Option (Option (Bool × Unit)) := cut p_ref03_Same_0 (u_ref03_Same_0 (ref03_Same_0')) (nowhere)
theorem o_ref03_Same_0 {base S0 cs0} (hfin : H_ref03_Same base S0) : O_ref03_Same base S0 cs0 (x_ref03_Same_0) := OSound.cut (OSound.nowhere) (Nat.le_of_eq hfin.1) (s_ref03_Same_0' hfin)
noncomputable def b_ref03_Same (a0 : (List D_ranges_Range)) (a1 : (List D_ranges_Range)) : Option (Bool × Unit) :=
  let n2 : Int := (((List.length a0) : Nat) : Int)
  let n3 : Int := (((List.length a1) : Nat) : Int)
  let b4 : Bool := (n2 != n3)
  bif b4 then
    some (false, ())
  else
    ref03_Same_0' a0 a1 (0 : Int)
theorem ex_ref03_Same : ∃ f, f = @b_ref03_Same := ⟨_, rfl⟩
noncomputable def ref03_Same := Classical.choose ex_ref03_Same
theorem ref03_Same_eq : @ref03_Same = @b_ref03_Same := Classical.choose_spec ex_ref03_Same
noncomputable def cb_ref03_Same : Con := ⟨[(.slice T_ranges_Range), (.slice T_ranges_Range)], r_ref03_Same, fun x => b_ref03_Same x.1 x.2.1⟩
noncomputable def c_ref03_Same : Con := ⟨[(.slice T_ranges_Range), (.slice T_ranges_Range)], r_ref03_Same, fun x => ref03_Same x.1 x.2.1⟩
theorem cb_ref03_Same_ok : cb_ref03_Same.Sound prog Inv gInv 91 :=
  con_run (M := m_ref03_Same) inv_g (f := f91) rfl ks_ref03_Same 100000 (X := x_ref03_Same_0) (fun base S0 cs0 hn hf => have hfin : H_ref03_Same base S0 := ⟨hn, hf⟩; o_ref03_Same_0 hfin) (by intro x; kernel_rfl)
theorem c_ref03_Same_ok : c_ref03_Same.Sound prog Inv gInv 91 := by
  have e : c_ref03_Same = cb_ref03_Same := by unfold c_ref03_Same cb_ref03_Same; rw [ref03_Same_eq]
  rw [e]; exact cb_ref03_Same_ok
end Go.Proofs.YtjdjlijjolibkaaDoor.V
namespace Go.Proofs.YtjdjlijjolibkaaDoor.V
open Go.RowKit Go.Proofs.Tryd
set_option maxRecDepth 100000
set_option linter.unusedVariables false
noncomputable def m_ref06_Same : Mach prog Inv gInv := mach bas [(40, f40)] ⟨ok40, trivial⟩ [(91, c_ref03_Same)] ⟨⟨c_ref03_Same_ok, FnOk.callable ok91⟩, trivial⟩ [] trivial [] trivial
/-! ### domino/dominoref06.Same -/
@[reducible] def r_ref06_Same : List Ty := [.bool]
def ks_ref06_Same : List Nat := [40]
noncomputable def b_ref06_Same (a0 : D_frame_Frame) (a1 : D_frame_Frame) : Option (Bool × Unit) :=
  let b2 : Bool := (a0.1 == a1.1)
  bif b2 then
    let b3 : Bool := (a0.2.1 == a1.2.1)
    bif b3 then
      let b4 : Bool := (a0.2.2.1 == a1.2.2.1)
      bif b4 then
        let b5 : Bool := (a0.2.2.2.1 == a1.2.2.2.1)
        bif b5 then
          let b6 : Bool := (a0.2.2.2.2.1 == a1.2.2.2.2.1)
          bif b6 then
            let b7 : Bool := (a0.2.2.2.2.2.1 == a1.2.2.2.2.2.1)
            bif b7 then
              let b8 : Bool := (a0.2.2.2.2.2.2.1 == a1.2.2.2.2.2.2.1)
              bif b8 then
                let b9 : Bool := (a0.2.2.2.2.2.2.2.1 == a1.2.2.2.2.2.2.2.1)
                bif b9 then
                  let b10 : Bool := (a0.2.2.2.2.2.2.2.2.1 == a1.2.2.2.2.2.2.2.2.1)
                  bif b10 then
                    let b11 : Bool := ((ByteArray.toList a0.2.2.2.2.2.2.2.2.2.1) == (ByteArray.toList a1.2.2.2.2.2.2.2.2.2.1))
                    bif b11 then
                      let b12 : Bool := ((ByteArray.toList a0.2.2.2.2.2.2.2.2.2.2.1) == (ByteArray.toList a1.2.2.2.2.2.2.2.2.2.2.1))
                      bif b12 then
                        let b13 : Bool := ((ByteArray.toList a0.2.2.2.2.2.2.2.2.2.2.2.1) == (ByteArray.toList a1.2.2.2.2.2.2.2.2.2.2.2.1))
                        bif b13 then
                          obind (ref03_Same a0.2.2.2.2.2.2.2.2.2.2.2.2.1 a1.2.2.2.2.2.2.2.2.2.2.2.2.1) fun y14 =>
                          some y14
                        else
                          some (false, ())
                      else
                        some (false, ())
                    else
                      some (false, ())
                  else
                    some (false, ())
                else
                  some (false, ())
              else
                some (false, ())
            else
              some (false, ())
          else
            some (false, ())
        else
          some (false, ())
      else
        some (false, ())
    else
      some (false, ())
  else
    some (false, ())
theorem ex_ref06_Same : ∃ f, f = @b_ref06_Same := ⟨_, rfl⟩
noncomputable def ref06_Same := Classical.choose ex_ref06_Same
theorem ref06_Same_eq : @ref06_Same = @b_ref06_Same := Classical.choose_spec ex_ref06_Same
noncomputable def cb_ref06_Same : Con := ⟨[T_frame_Frame, T_frame_Frame], r_ref06_Same, fun x => b_ref06_Same x.1 x.2.1⟩
noncomputable def c_ref06_Same : Con := ⟨[T_frame_Frame, T_frame_Frame], r_ref06_Same, fun x => ref06_Same x.1 x.2.1⟩
theorem cb_ref06_Same_ok : cb_ref06_Same.Sound prog Inv gInv 40 :=
  con_run (M := m_ref06_Same) inv_g (f := f40) rfl ks_ref06_Same 100000 (X := nowhere) (fun base S0 cs0 hn hf => OSound.nowhere) (by intro x; kernel_rfl)
theorem c_ref06_Same_ok : c_ref06_Same.Sound prog Inv gInv 40 := by
  have e : c_ref06_Same = cb_ref06_Same := by unfold c_ref06_Same cb_ref06_Same; rw [ref06_Same_eq]
  rw [e]; exact cb_ref06_Same_ok
end Go.Proofs.YtjdjlijjolibkaaDoor.V
/- law06.its, ref06.Same, in plain Lean. -/
namespace Go.Proofs.YtjdjlijjolibkaaDoor.V
open Go.RowKit
set_option linter.unusedVariables false
theorem its_loop (f : D_frame_Frame) (s1 s2 s3 : ByteArray) (i1 i2 i3 i4 i5 i6 i7 i8 : Int) (b : Bool) (t1 t2 t3 : ByteArray) (hl : f.2.2.2.2.2.2.2.2.2.2.2.2.1.length ≤ 1000000) : ∀ (suf pre : List D_ranges_Range) (m : Nat), suf.length < m → f.2.2.2.2.2.2.2.2.2.2.2.2.1 = pre ++ suf →
    law06_its_0 m ((pre.length : Nat) : Int) f s1 s2 s3 i1 i2 i3 i4 i5 i6 i7 i8 b t1 t2 t3 pre = some ((i1, (i2, (i3, (i4, (i5, (i6, (i7, (i8, (b, (t1, (t2, (t3, (pre ++ suf, ()))))))))))))), ()) := by
  intro suf
  induction suf with
  | nil =>
    intro pre m hm e
    obtain ⟨m, rfl⟩ : ∃ k, m = k + 1 := ⟨m - 1, by omega⟩
    rw [List.append_nil] at e
    simp only [law06_its_0, t_law06_its_0, e, Int.lt_irrefl, decide_false, cond_false, List.append_nil]
  | cons x suf ih =>
    intro pre m hm e
    obtain ⟨m, rfl⟩ : ∃ k, m = k + 1 := ⟨m - 1, by omega⟩
    have hl' : (pre ++ x :: suf).length ≤ 1000000 := by rw [← e]; exact hl
    have c : pre.length + [((x.1, (x.2.1, ())) : D_ranges_Range)].length ≤ 4294967296 := by simp at hl' ⊢; omega
    have ex : ((x.1, (x.2.1, ())) : D_ranges_Range) = x := rfl
    simp only [law06_its_0, t_law06_its_0, e, mid_lt, nn, and_true, decide_true, cond_true, toNat_len, getD_mid, c]
    rw [mid_next pre x x suf (by omega), ex, ih (pre ++ [x]) m (by simp at hm; omega) (by rw [e]; simp)]
    simp
theorem its_is (f : D_frame_Frame) (hl : f.2.2.2.2.2.2.2.2.2.2.2.2.1.length ≤ 1000000) : law06_its f = some (f, ()) := by
  rw [law06_its_eq, b_law06_its]
  rw [law06_its_0'_eq, b_law06_its_0']
  have := its_loop f eB eB eB f.1 f.2.1 f.2.2.1 f.2.2.2.1 f.2.2.2.2.1 f.2.2.2.2.2.1 f.2.2.2.2.2.2.1 f.2.2.2.2.2.2.2.1 f.2.2.2.2.2.2.2.2.1 f.2.2.2.2.2.2.2.2.2.1 f.2.2.2.2.2.2.2.2.2.2.1 f.2.2.2.2.2.2.2.2.2.2.2.1 hl f.2.2.2.2.2.2.2.2.2.2.2.2.1 [] (Int.toNat (((f.2.2.2.2.2.2.2.2.2.2.2.2.1.length : Nat) : Int) - 0) + 2) (by omega) rfl
  exact this
theorem same3_loop : ∀ (s1 s2 p1 p2 : List D_ranges_Range) (m : Nat), s1.length < m → p1.length = p2.length → s1.length = s2.length → (p1 ++ s1).length ≤ 9223372036854775807 →
    ref03_Same_0 m (p1 ++ s1) (p2 ++ s2) ((p1.length : Nat) : Int) = some (decide (s1 = s2), ()) := by
  intro s1
  induction s1 with
  | nil =>
    intro s2 p1 p2 m hm _ h2 _
    obtain ⟨m, rfl⟩ : ∃ k, m = k + 1 := ⟨m - 1, by omega⟩
    obtain rfl : s2 = [] := List.eq_nil_of_length_eq_zero (by simpa using h2.symm)
    simp only [ref03_Same_0, t_ref03_Same_0, mid_end, decide_false, cond_false, decide_true]
  | cons x s1 ih =>
    intro s2 p1 p2 m hm h1 h2 hl
    obtain ⟨m, rfl⟩ : ∃ k, m = k + 1 := ⟨m - 1, by omega⟩
    obtain ⟨y, s2, rfl⟩ : ∃ y t, s2 = y :: t := by
      cases s2 with
      | nil => simp at h2
      | cons y t => exact ⟨y, t, rfl⟩
    have e : ((p1.length : Nat) : Int) = ((p2.length : Nat) : Int) := by rw [h1]
    have g2 : ((p1.length : Nat) : Int) < (((p2 ++ y :: s2).length : Nat) : Int) := by rw [h1]; simp; omega
    have g3 : (p2 ++ y :: s2).getD p1.length (Ty.dflt T_ranges_Range) = y := by rw [h1, getD_mid]
    simp only [ref03_Same_0, t_ref03_Same_0, mid_lt, nn, and_true, decide_true, cond_true, toNat_len, getD_mid, g2, g3]
    obtain ⟨a, b, ⟨⟩⟩ := x
    obtain ⟨c, d, ⟨⟩⟩ := y
    by_cases hx : a = c ∧ b = d
    · obtain ⟨rfl, rfl⟩ := hx
      simp only [beq_self_eq_true, Bool.and_self, Bool.not_true, cond_false]
      rw [mid_next' p1 (a, b, ()) (a, b, ()) s1 hl, snoc_app p1, snoc_app p2, ih s2 (p1 ++ [(a, b, ())]) (p2 ++ [(a, b, ())]) m (by simp at hm; omega) (by simp [h1]) (by simpa using h2) (by simpa using hl)]
      simp
    · have : ((a == c) && ((b == d) && true)) = false := by
        simp only [Bool.and_true, Bool.and_eq_false_iff, beq_eq_false_iff_ne]
        by_cases e : a = c
        · exact .inr fun e2 => hx ⟨e, e2⟩
        · exact .inl e
      simp only [this, Bool.not_false, cond_true]
      rw [decide_eq_false]
      intro e
      simp only [List.cons.injEq, Prod.mk.injEq, and_true] at e
      exact hx e.1
theorem same3_is (a b : List D_ranges_Range) (ha : a.length ≤ 9223372036854775807) : ref03_Same a b = some (decide (a = b), ()) := by
  rw [ref03_Same_eq, b_ref03_Same]
  by_cases h : a.length = b.length
  · have : (((a.length : Nat) : Int) != ((b.length : Nat) : Int)) = false := by rw [h]; simp
    simp only [this, cond_false]
    rw [ref03_Same_0'_eq, b_ref03_Same_0']
    exact same3_loop a b [] [] _ (by simp) rfl h (by simp; omega)
  · have : (((a.length : Nat) : Int) != ((b.length : Nat) : Int)) = true := by simp; omega
    simp only [this, cond_true]
    rw [decide_eq_false (fun e => h (by rw [e]))]
theorem same6_is (f g : D_frame_Frame) (hf : f.2.2.2.2.2.2.2.2.2.2.2.2.1.length ≤ 9223372036854775807) : ref06_Same f g = some (decide (f = g), ()) := by
  rw [ref06_Same_eq, b_ref06_Same, same3_is _ _ hf]
  simp only [obind_some, toList_beq, beq_dec]
  obtain ⟨a1, a2, a3, a4, a5, a6, a7, a8, a9, a10, a11, a12, a13, ⟨⟩⟩ := f
  obtain ⟨b1, b2, b3, b4, b5, b6, b7, b8, b9, b10, b11, b12, b13, ⟨⟩⟩ := g
  simp only [Prod.mk.injEq, and_true]
  have hb : (a9 == b9) = decide (a9 = b9) := by cases a9 <;> cases b9 <;> rfl
  simp only [hb]
  by_cases h1 : a1 = b1
  · by_cases h2 : a2 = b2
    · by_cases h3 : a3 = b3
      · by_cases h4 : a4 = b4
        · by_cases h5 : a5 = b5
          · by_cases h6 : a6 = b6
            · by_cases h7 : a7 = b7
              · by_cases h8 : a8 = b8
                · by_cases h9 : a9 = b9
                  · by_cases h10 : a10 = b10
                    · by_cases h11 : a11 = b11
                      · by_cases h12 : a12 = b12
                        · simp only [h1, h2, h3, h4, h5, h6, h7, h8, h9, h10, h11, h12, decide_true, cond_true, true_and]
                        · simp only [h1, h2, h3, h4, h5, h6, h7, h8, h9, h10, h11, h12, decide_true, decide_false, cond_true, cond_false, true_and, false_and]
                      · simp only [h1, h2, h3, h4, h5, h6, h7, h8, h9, h10, h11, decide_true, decide_false, cond_true, cond_false, true_and, false_and]
                    · simp only [h1, h2, h3, h4, h5, h6, h7, h8, h9, h10, decide_true, decide_false, cond_true, cond_false, true_and, false_and]
                  · simp only [h1, h2, h3, h4, h5, h6, h7, h8, h9, decide_true, decide_false, cond_true, cond_false, true_and, false_and]
                · simp only [h1, h2, h3, h4, h5, h6, h7, h8, decide_true, decide_false, cond_true, cond_false, true_and, false_and]
              · simp only [h1, h2, h3, h4, h5, h6, h7, decide_true, decide_false, cond_true, cond_false, true_and, false_and]
            · simp only [h1, h2, h3, h4, h5, h6, decide_true, decide_false, cond_true, cond_false, true_and, false_and]
          · simp only [h1, h2, h3, h4, h5, decide_true, decide_false, cond_true, cond_false, true_and, false_and]
        · simp only [h1, h2, h3, h4, decide_true, decide_false, cond_true, cond_false, true_and, false_and]
      · simp only [h1, h2, h3, decide_true, decide_false, cond_true, cond_false, true_and, false_and]
    · simp only [h1, h2, decide_true, decide_false, cond_true, cond_false, true_and, false_and]
  · simp only [h1, decide_false, cond_false, false_and]
theorem bound_set {f : D_frame_Frame} (h : boundF f = true) : f.2.2.2.2.2.2.2.2.2.2.2.2.1.length ≤ 50 := by
  simp only [boundF, Bool.and_eq_true, decide_eq_true_eq] at h
  exact h.2
end Go.Proofs.YtjdjlijjolibkaaDoor.V
namespace Go.Proofs.YtjdjlijjolibkaaDoor.V
open Go.RowKit Go.Proofs.Tryd
set_option maxRecDepth 100000
set_option linter.unusedVariables false
noncomputable def m_ref06_shape : Mach prog Inv gInv := mach bas [(83, f83)] ⟨ok83, trivial⟩ [] trivial [] trivial [] trivial
/-! ### domino/dominoref06.shape -/
@[reducible] def r_ref06_shape : List Ty := [.str]
def ks_ref06_shape : List Nat := [83]
abbrev H_ref06_shape (base : Base) (S0 : Nat → Prop) := base.n = 0 ∧ FinOk (finR r_ref06_shape) base S0 (Post r_ref06_shape S0)
abbrev J_ref06_shape (base : Base) (S0 : Nat → Prop) (cs0 : List Go.Frame) (p : CPat) (J : denC p → Option (denL r_ref06_shape)) := JSound m_ref06_shape base S0 cs0 (Post r_ref06_shape S0) p J
abbrev O_ref06_shape (base : Base) (S0 : Nat → Prop) (cs0 : List Go.Frame) (X : Cfg → Option (Option (denL r_ref06_shape))) := OSound m_ref06_shape base S0 cs0 (Post r_ref06_shape S0) X
@[reducible] noncomputable def p_ref06_shape_3 : CPat := ⟨⟨83, [1, 0, 1, 0, 1, 1, 1, 1, 1, 1, 1, 1, 1, 1, 1, 1, 1, 1, 1, 1, 1, 1, 1, 1, 1], none, [.any, .any, .any, .int .u64, .any, .any, .any, .any, .any, .any, .any, .any, .any, .any, .any, .any, .any, .any, .any, .any, .any, .any, .any, .any, .any, .any, .any, .any, .any, .any, .any, .any, .bool], 6⟩, [], [], 0⟩
@[reducible] noncomputable def u_ref06_shape_3 (k : Int → Bool → Option (ByteArray × Unit)) : denC p_ref06_shape_3 → Option (ByteArray × Unit) := fun x => k x.1.2.2.2.1 x.1.2.2.2.2.2.2.2.2.2.2.2.2.2.2.2.2.2.2.2.2.2.2.2.2.2.2.2.2.2.2.2.2.1
noncomputable def b_ref06_shape_3 (i38 : Int) (b39 : Bool) : Option (ByteArray × Unit) :=
  bif b39 then
    let s40 : ByteArray := (ByteArray.mk (List.toArray ((116 : UInt8) :: ([] : List UInt8))))
    some (s40, ())
  else
    let b41 : Bool := (i38 == (28 : Int))
    bif b41 then
      let s42 : ByteArray := (ByteArray.mk (List.toArray ((99 : UInt8) :: ((101 : UInt8) :: ((100 : UInt8) :: ([] : List UInt8))))))
      some (s42, ())
    else
      let b43 : Bool := (i38 == (29 : Int))
      bif b43 then
        let s44 : ByteArray := (ByteArray.mk (List.toArray ((99 : UInt8) :: ((100 : UInt8) :: ([] : List UInt8)))))
        some (s44, ())
      else
        let s45 : ByteArray := (ByteArray.mk (List.toArray ([] : List UInt8)))
        some (s45, ())
theorem ex_ref06_shape_3 : ∃ f, f = @b_ref06_shape_3 := ⟨_, rfl⟩
noncomputable def ref06_shape_3 := Classical.choose ex_ref06_shape_3
theorem ref06_shape_3_eq : @ref06_shape_3 = @b_ref06_shape_3 := Classical.choose_spec ex_ref06_shape_3
theorem s_ref06_shape_3 {base S0 cs0} (hfin : H_ref06_shape base S0) : J_ref06_shape base S0 cs0 p_ref06_shape_3 (u_ref06_shape_3 (ref06_shape_3)) :=
  JSound.join hfin.2 (OSound.nowhere) ks_ref06_shape 100000 (by rw [ref06_shape_3_eq]; intro x; kernel_rfl)
noncomputable def x_ref06_shape_3 : Cfg → Option (Option (ByteArray × Unit)) := cut p_ref06_shape_3 (u_ref06_shape_3 (ref06_shape_3)) (nowhere)
theorem o_ref06_shape_3 {base S0 cs0} (hfin : H_ref06_shape base S0) : O_ref06_shape base S0 cs0 (x_ref06_shape_3) := OSound.cut (OSound.nowhere) (Nat.le_of_eq hfin.1) (s_ref06_shape_3 hfin)
@[reducible] noncomputable def p_ref06_shape_2 : CPat := ⟨⟨83, [1, 0, 1, 0, 1, 1, 1, 1, 1, 1, 1, 1, 1, 1, 1, 1, 1, 1, 1], none, [.any, .any, .any, .int .u64, .any, .any, .any, .any, .any, .any, .any, .any, .any, .any, .any, .any, .any, .any, .any, .any, .any, .any, .any, .any, .any, .bool], 13⟩, [], [], 0⟩
@[reducible] noncomputable def u_ref06_shape_2 (k : Int → Bool → Option (ByteArray × Unit)) : denC p_ref06_shape_2 → Option (ByteArray × Unit) := fun x => k x.1.2.2.2.1 x.1.2.2.2.2.2.2.2.2.2.2.2.2.2.2.2.2.2.2.2.2.2.2.2.2.2.1
noncomputable def b_ref06_shape_2 (i29 : Int) (b30 : Bool) : Option (ByteArray × Unit) :=
  bif b30 then
    let s31 : ByteArray := (ByteArray.mk (List.toArray ((105 : UInt8) :: ((109 : UInt8) :: ([] : List UInt8)))))
    some (s31, ())
  else
    let b32 : Bool := (i29 == (24 : Int))
    bif b32 then
      let s33 : ByteArray := (ByteArray.mk (List.toArray ((113 : UInt8) :: ((112 : UInt8) :: ((110 : UInt8) :: ((116 : UInt8) :: ([] : List UInt8)))))))
      some (s33, ())
    else
      let b34 : Bool := (i29 == (25 : Int))
      bif b34 then
        let s35 : ByteArray := (ByteArray.mk (List.toArray ((113 : UInt8) :: ([] : List UInt8))))
        some (s35, ())
      else
        let b36 : Bool := (i29 == (26 : Int))
        bif b36 then
          ref06_shape_3 i29 true
        else
          let b37 : Bool := (i29 == (27 : Int))
          ref06_shape_3 i29 b37
theorem ex_ref06_shape_2 : ∃ f, f = @b_ref06_shape_2 := ⟨_, rfl⟩
noncomputable def ref06_shape_2 := Classical.choose ex_ref06_shape_2
theorem ref06_shape_2_eq : @ref06_shape_2 = @b_ref06_shape_2 := Classical.choose_spec ex_ref06_shape_2
theorem s_ref06_shape_2 {base S0 cs0} (hfin : H_ref06_shape base S0) : J_ref06_shape base S0 cs0 p_ref06_shape_2 (u_ref06_shape_2 (ref06_shape_2)) :=
  JSound.join hfin.2 (o_ref06_shape_3 hfin) ks_ref06_shape 100000 (by rw [ref06_shape_2_eq]; intro x; kernel_rfl)
noncomputable def x_ref06_shape_2 : Cfg → Option (Option (ByteArray × Unit)) := cut p_ref06_shape_2 (u_ref06_shape_2 (ref06_shape_2)) (x_ref06_shape_3)
theorem o_ref06_shape_2 {base S0 cs0} (hfin : H_ref06_shape base S0) : O_ref06_shape base S0 cs0 (x_ref06_shape_2) := OSound.cut (o_ref06_shape_3 hfin) (Nat.le_of_eq hfin.1) (s_ref06_shape_2 hfin)
@[reducible] noncomputable def p_ref06_shape_1 : CPat := ⟨⟨83, [1, 0, 1, 0, 1, 1, 1, 1, 1, 1, 1, 1, 1, 1, 1, 1, 1], none, [.any, .any, .any, .int .u64, .any, .any, .any, .any, .any, .any, .any, .any, .any, .any, .any, .any, .any, .any, .bool], 20⟩, [], [], 0⟩
@[reducible] noncomputable def u_ref06_shape_1 (k : Int → Bool → Option (ByteArray × Unit)) : denC p_ref06_shape_1 → Option (ByteArray × Unit) := fun x => k x.1.2.2.2.1 x.1.2.2.2.2.2.2.2.2.2.2.2.2.2.2.2.2.2.2.1
noncomputable def b_ref06_shape_1 (i24 : Int) (b25 : Bool) : Option (ByteArray × Unit) :=
  bif b25 then
    let s26 : ByteArray := (ByteArray.mk (List.toArray ((109 : UInt8) :: ([] : List UInt8))))
    some (s26, ())
  else
    let b27 : Bool := (i24 == (17 : Int))
    bif b27 then
      ref06_shape_2 i24 true
    else
      let b28 : Bool := (i24 == (21 : Int))
      ref06_shape_2 i24 b28
theorem ex_ref06_shape_1 : ∃ f, f = @b_ref06_shape_1 := ⟨_, rfl⟩
noncomputable def ref06_shape_1 := Classical.choose ex_ref06_shape_1
theorem ref06_shape_1_eq : @ref06_shape_1 = @b_ref06_shape_1 := Classical.choose_spec ex_ref06_shape_1
theorem s_ref06_shape_1 {base S0 cs0} (hfin : H_ref06_shape base S0) : J_ref06_shape base S0 cs0 p_ref06_shape_1 (u_ref06_shape_1 (ref06_shape_1)) :=
  JSound.join hfin.2 (o_ref06_shape_2 hfin) ks_ref06_shape 100000 (by rw [ref06_shape_1_eq]; intro x; kernel_rfl)
noncomputable def x_ref06_shape_1 : Cfg → Option (Option (ByteArray × Unit)) := cut p_ref06_shape_1 (u_ref06_shape_1 (ref06_shape_1)) (x_ref06_shape_2)
theorem o_ref06_shape_1 {base S0 cs0} (hfin : H_ref06_shape base S0) : O_ref06_shape base S0 cs0 (x_ref06_shape_1) := OSound.cut (o_ref06_shape_2 hfin) (Nat.le_of_eq hfin.1) (s_ref06_shape_1 hfin)
@[reducible] noncomputable def p_ref06_shape_0 : CPat := ⟨⟨83, [1, 0, 1, 0, 1], none, [.any, .any, .any, .int .u64, .bool], 34⟩, [], [], 0⟩
@[reducible] noncomputable def u_ref06_shape_0 (k : Int → Bool → Option (ByteArray × Unit)) : denC p_ref06_shape_0 → Option (ByteArray × Unit) := fun x => k x.1.2.2.2.1 x.1.2.2.2.2.1
noncomputable def b_ref06_shape_0 (i5 : Int) (b6 : Bool) : Option (ByteArray × Unit) :=
  bif b6 then
    let s7 : ByteArray := (ByteArray.mk (List.toArray ((45 : UInt8) :: ([] : List UInt8))))
    some (s7, ())
  else
    let b8 : Bool := (i5 == (2 : Int))
    bif b8 then
      let s9 : ByteArray := (ByteArray.mk (List.toArray ((101 : UInt8) :: ((115 : UInt8) :: ([] : List UInt8)))))
      some (s9, ())
    else
      let b10 : Bool := (i5 == (4 : Int))
      bif b10 then
        let s11 : ByteArray := (ByteArray.mk (List.toArray ((105 : UInt8) :: ((99 : UInt8) :: ((109 : UInt8) :: ([] : List UInt8))))))
        some (s11, ())
      else
        let b12 : Bool := (i5 == (5 : Int))
        bif b12 then
          let s13 : ByteArray := (ByteArray.mk (List.toArray ((105 : UInt8) :: ((99 : UInt8) :: ([] : List UInt8)))))
          some (s13, ())
        else
          let b14 : Bool := (i5 == (6 : Int))
          bif b14 then
            let s15 : ByteArray := (ByteArray.mk (List.toArray ((111 : UInt8) :: ((100 : UInt8) :: ([] : List UInt8)))))
            some (s15, ())
          else
            let b16 : Bool := (i5 == (8 : Int))
            bif b16 then
              let s17 : ByteArray := (ByteArray.mk (List.toArray ((105 : UInt8) :: ((111 : UInt8) :: ((102 : UInt8) :: ((100 : UInt8) :: ([] : List UInt8)))))))
              some (s17, ())
            else
              let b18 : Bool := (i5 == (16 : Int))
              bif b18 then
                ref06_shape_1 i5 true
              else
                let b19 : Bool := (i5 == (18 : Int))
                bif b19 then
                  ref06_shape_1 i5 true
                else
                  let b20 : Bool := (i5 == (19 : Int))
                  bif b20 then
                    ref06_shape_1 i5 true
                  else
                    let b21 : Bool := (i5 == (20 : Int))
                    bif b21 then
                      ref06_shape_1 i5 true
                    else
                      let b22 : Bool := (i5 == (22 : Int))
                      bif b22 then
                        ref06_shape_1 i5 true
                      else
                        let b23 : Bool := (i5 == (23 : Int))
                        ref06_shape_1 i5 b23
theorem ex_ref06_shape_0 : ∃ f, f = @b_ref06_shape_0 := ⟨_, rfl⟩
noncomputable def ref06_shape_0 := Classical.choose ex_ref06_shape_0
theorem ref06_shape_0_eq : @ref06_shape_0 = @b_ref06_shape_0 := Classical.choose_spec ex_ref06_shape_0
theorem s_ref06_shape_0 {base S0 cs0} (hfin : H_ref06_shape base S0) : J_ref06_shape base S0 cs0 p_ref06_shape_0 (u_ref06_shape_0 (ref06_shape_0)) :=
  JSound.join hfin.2 (o_ref06_shape_1 hfin) ks_ref06_shape 100000 (by rw [ref06_shape_0_eq]; intro x; kernel_rfl)
noncomputable def x_ref06_shape_0 : Cfg → Option (Option (ByteArray × Unit)) := cut p_ref06_shape_0 (u_ref06_shape_0 (ref06_shape_0)) (x_ref06_shape_1)
theorem o_ref06_shape_0 {base S0 cs0} (hfin : H_ref06_shape base S0) : O_ref06_shape base S0 cs0 (x_ref06_shape_0) := OSound.cut (o_ref06_shape_1 hfin) (Nat.le_of_eq hfin.1) (s_ref06_shape_0 hfin)
noncomputable def b_ref06_shape (a0 : Int) : Option (ByteArray × Unit) :=
  let s1 : ByteArray := (ByteArray.mk (List.toArray ([] : List UInt8)))
  let b2 : Bool := (a0 == (0 : Int))
  bif b2 then
    ref06_shape_0 a0 true
  else
    let b3 : Bool := (a0 == (1 : Int))
    bif b3 then
      ref06_shape_0 a0 true
    else
      let b4 : Bool := (a0 == (30 : Int))
      ref06_shape_0 a0 b4
theorem ex_ref06_shape : ∃ f, f = @b_ref06_shape := ⟨_, rfl⟩
noncomputable def ref06_shape := Classical.choose ex_ref06_shape
theorem ref06_shape_eq : @ref06_shape = @b_ref06_shape := Classical.choose_spec ex_ref06_shape
noncomputable def cb_ref06_shape : Con := ⟨[(.int .u64)], r_ref06_shape, fun x => b_ref06_shape x.1⟩
noncomputable def c_ref06_shape : Con := ⟨[(.int .u64)], r_ref06_shape, fun x => ref06_shape x.1⟩
theorem cb_ref06_shape_ok : cb_ref06_shape.Sound prog Inv gInv 83 :=
  con_run (M := m_ref06_shape) inv_g (f := f83) rfl ks_ref06_shape 100000 (X := x_ref06_shape_0) (fun base S0 cs0 hn hf => have hfin : H_ref06_shape base S0 := ⟨hn, hf⟩; o_ref06_shape_0 hfin) (by intro x; kernel_rfl)
theorem c_ref06_shape_ok : c_ref06_shape.Sound prog Inv gInv 83 := by
  have e : c_ref06_shape = cb_ref06_shape := by unfold c_ref06_shape cb_ref06_shape; rw [ref06_shape_eq]
  rw [e]; exact cb_ref06_shape_ok
end Go.Proofs.YtjdjlijjolibkaaDoor.V
namespace Go.Proofs.YtjdjlijjolibkaaDoor.V
open Go.RowKit Go.Proofs.Tryd
set_option maxRecDepth 100000
set_option linter.unusedVariables false
noncomputable def m_ref06_in : Mach prog Inv gInv := mach bas [(84, f84)] ⟨ok84, trivial⟩ [] trivial [] trivial [] trivial
/-! ### domino/dominoref06.in -/
@[reducible] def r_ref06_in : List Ty := [.bool]
def ks_ref06_in : List Nat := [84]
abbrev H_ref06_in (base : Base) (S0 : Nat → Prop) := base.n = 0 ∧ FinOk (finR r_ref06_in) base S0 (Post r_ref06_in S0)
abbrev J_ref06_in (base : Base) (S0 : Nat → Prop) (cs0 : List Go.Frame) (p : CPat) (J : denC p → Option (denL r_ref06_in)) := JSound m_ref06_in base S0 cs0 (Post r_ref06_in S0) p J
abbrev O_ref06_in (base : Base) (S0 : Nat → Prop) (cs0 : List Go.Frame) (X : Cfg → Option (Option (denL r_ref06_in))) := OSound m_ref06_in base S0 cs0 (Post r_ref06_in S0) X
@[reducible] noncomputable def p_ref06_in_0 : CPat := ⟨⟨84, [1, 0, 1, 0], none, [.str, .int .u8, .any, .any, .any, .int .i64], 11⟩, [], [], 0⟩
@[reducible] noncomputable def u_ref06_in_0 (k : ByteArray → Int → Int → Option (Bool × Unit)) : denC p_ref06_in_0 → Option (Bool × Unit) := fun x => k x.1.1 x.1.2.1 x.1.2.2.2.2.2.1
noncomputable def t_ref06_in_0 (k0 : ByteArray → Int → Int → Option (Bool × Unit)) (s8 : ByteArray) (i9 : Int) (i10 : Int) : Option (Bool × Unit) :=
  let n11 : Int := (((ByteArray.size s8) : Nat) : Int)
  let b12 : Bool := (decide (i10 < n11))
  bif b12 then
    bif (decide (((0 : Int) ≤ i10) ∧ (i10 < (((ByteArray.size s8) : Nat) : Int)))) then
      let n13 : Int := (byteAt s8 i10)
      let b14 : Bool := (n13 == i9)
      bif b14 then
        some (true, ())
      else
        let n15 : Int := (Go.IntKind.wrap Go.IntKind.i64 (i10 + (1 : Int)))
        k0 s8 i9 n15
    else none
  else
    some (false, ())
noncomputable def ref06_in_0 : Nat → ByteArray → Int → Int → Option (Bool × Unit)
  | 0 => fun _ _ _ => none
  | m + 1 => t_ref06_in_0 (ref06_in_0 m)
noncomputable def b_ref06_in_0' (s8 : ByteArray) (i9 : Int) (i10 : Int) : Option (Bool × Unit) := ref06_in_0 (Int.toNat ((((ByteArray.size s8) : Nat) : Int) - i10) + 2) s8 i9 i10
theorem ex_ref06_in_0' : ∃ f, f = @b_ref06_in_0' := ⟨_, rfl⟩
noncomputable def ref06_in_0' := Classical.choose ex_ref06_in_0'
theorem ref06_in_0'_eq : @ref06_in_0' = @b_ref06_in_0' := Classical.choose_spec ex_ref06_in_0'
theorem s_ref06_in_0 {base S0 cs0} (hfin : H_ref06_in base S0) : ∀ m, J_ref06_in base S0 cs0 p_ref06_in_0 (u_ref06_in_0 (ref06_in_0 m)) :=
  JSound.loop' hfin.2 ks_ref06_in 100000 u_ref06_in_0 (fun k0 => cut p_ref06_in_0 (u_ref06_in_0 k0) (nowhere)) (fun k0 h0 => OSound.cut (OSound.nowhere) (Nat.le_of_eq hfin.1) h0) (ref06_in_0) (by intro x; rfl) (by intro m x; kernel_rfl)
theorem s_ref06_in_0' {base S0 cs0} (hfin : H_ref06_in base S0) : J_ref06_in base S0 cs0 p_ref06_in_0 (u_ref06_in_0 (ref06_in_0')) := by
  rw [ref06_in_0'_eq]; exact fun x r hx => s_ref06_in_0 hfin _ x r hx
noncomputable def x_ref06_in_0 : Cfg → Option (Option (Bool × Unit)) := cut p_ref06_in_0 (u_ref06_in_0 (ref06_in_0')) (nowhere)
theorem o_ref06_in_0 {base S0 cs0} (hfin : H_ref06_in base S0) : O_ref06_in base S0 cs0 (x_ref06_in_0) := OSound.cut (OSound.nowhere) (Nat.le_of_eq hfin.1) (s_ref06_in_0' hfin)
noncomputable def b_ref06_in (a0 : ByteArray) (a1 : Int) : Option (Bool × Unit) :=
  ref06_in_0' a0 a1 (0 : Int)
theorem ex_ref06_in : ∃ f, f = @b_ref06_in := ⟨_, rfl⟩
noncomputable def ref06_in := Classical.choose ex_ref06_in
theorem ref06_in_eq : @ref06_in = @b_ref06_in := Classical.choose_spec ex_ref06_in
noncomputable def cb_ref06_in : Con := ⟨[.str, (.int .u8)], r_ref06_in, fun x => b_ref06_in x.1 x.2.1⟩
noncomputable def c_ref06_in : Con := ⟨[.str, (.int .u8)], r_ref06_in, fun x => ref06_in x.1 x.2.1⟩
theorem cb_ref06_in_ok : cb_ref06_in.Sound prog Inv gInv 84 :=
  con_run (M := m_ref06_in) inv_g (f := f84) rfl ks_ref06_in 100000 (X := x_ref06_in_0) (fun base S0 cs0 hn hf => have hfin : H_ref06_in base S0 := ⟨hn, hf⟩; o_ref06_in_0 hfin) (by intro x; kernel_rfl)
theorem c_ref06_in_ok : c_ref06_in.Sound prog Inv gInv 84 := by
  have e : c_ref06_in = cb_ref06_in := by unfold c_ref06_in cb_ref06_in; rw [ref06_in_eq]
  rw [e]; exact cb_ref06_in_ok
end Go.Proofs.YtjdjlijjolibkaaDoor.V
namespace Go.Proofs.YtjdjlijjolibkaaDoor.V
open Go.RowKit Go.Proofs.Tryd
set_option maxRecDepth 100000
set_option linter.unusedVariables false
noncomputable def m_ref03_May : Mach prog Inv gInv := mach bas [(85, f85)] ⟨ok85, trivial⟩ [] trivial [] trivial [] trivial
/-! ### domino/dominoref03.May -/
@[reducible] def r_ref03_May : List Ty := [.bool]
def ks_ref03_May : List Nat := [85]
abbrev H_ref03_May (base : Base) (S0 : Nat → Prop) := base.n = 0 ∧ FinOk (finR r_ref03_May) base S0 (Post r_ref03_May S0)
abbrev J_ref03_May (base : Base) (S0 : Nat → Prop) (cs0 : List Go.Frame) (p : CPat) (J : denC p → Option (denL r_ref03_May)) := JSound m_ref03_May base S0 cs0 (Post r_ref03_May S0) p J
abbrev O_ref03_May (base : Base) (S0 : Nat → Prop) (cs0 : List Go.Frame) (X : Cfg → Option (Option (denL r_ref03_May))) := OSound m_ref03_May base S0 cs0 (Post r_ref03_May S0) X
@[reducible] noncomputable def p_ref03_May_0 : CPat := ⟨⟨85, [1, 0, 1, 0], none, [.rows T_ranges_Range false, .any, .any, .int .i64], 44⟩, [], [], 0⟩
@[reducible] noncomputable def u_ref03_May_0 (k : (List D_ranges_Range) → Int → Option (Bool × Unit)) : denC p_ref03_May_0 → Option (Bool × Unit) := fun x => k x.1.1 x.1.2.2.2.1
@[reducible] noncomputable def p_ref03_May_1 : CPat := ⟨⟨85, [1, 0, 1, 0, 0, 1, 0, 0, 1, 1], none, [.rows T_ranges_Range false, .any, .any, .int .i64], 44⟩, [], [], 0⟩
@[reducible] noncomputable def u_ref03_May_1 (k : (List D_ranges_Range) → Int → Option (Bool × Unit)) : denC p_ref03_May_1 → Option (Bool × Unit) := fun x => k x.1.1 x.1.2.2.2.1
noncomputable def b_ref03_May_1 (k0 : (List D_ranges_Range) → Int → Option (Bool × Unit)) (l25 : (List D_ranges_Range)) (i26 : Int) : Option (Bool × Unit) :=
  let n27 : Int := (Go.IntKind.wrap Go.IntKind.i64 (i26 + (1 : Int)))
  k0 l25 n27
theorem ex_ref03_May_1 : ∃ f, f = @b_ref03_May_1 := ⟨_, rfl⟩
noncomputable def ref03_May_1 := Classical.choose ex_ref03_May_1
theorem ref03_May_1_eq : @ref03_May_1 = @b_ref03_May_1 := Classical.choose_spec ex_ref03_May_1
theorem s_ref03_May_1 {base S0 cs0} (hfin : H_ref03_May base S0) (k0) (h0 : J_ref03_May base S0 cs0 p_ref03_May_0 (u_ref03_May_0 k0)) : J_ref03_May base S0 cs0 p_ref03_May_1 (u_ref03_May_1 (ref03_May_1 k0)) :=
  JSound.join hfin.2 (OSound.cut (OSound.nowhere) (Nat.le_of_eq hfin.1) h0) ks_ref03_May 100000 (by rw [ref03_May_1_eq]; intro x; kernel_rfl)
noncomputable def x_ref03_May_1 (k0 : (List D_ranges_Range) → Int → Option (Bool × Unit)) : Cfg → Option (Option (Bool × Unit)) := cut p_ref03_May_1 (u_ref03_May_1 (ref03_May_1 k0)) (cut p_ref03_May_0 (u_ref03_May_0 k0) (nowhere))
theorem o_ref03_May_1 {base S0 cs0} (hfin : H_ref03_May base S0) (k0) (h0 : J_ref03_May base S0 cs0 p_ref03_May_0 (u_ref03_May_0 k0)) : O_ref03_May base S0 cs0 (x_ref03_May_1 k0) := OSound.cut (OSound.cut (OSound.nowhere) (Nat.le_of_eq hfin.1) h0) (Nat.le_of_eq hfin.1) (s_ref03_May_1 hfin k0 h0)
noncomputable def t_ref03_May_0 (k0 : (List D_ranges_Range) → Int → Option (Bool × Unit)) (l9 : (List D_ranges_Range)) (i10 : Int) : Option (Bool × Unit) :=
  let n11 : Int := (((List.length l9) : Nat) : Int)
  let b12 : Bool := (decide (i10 < n11))
  bif b12 then
    bif (decide (((0 : Int) ≤ i10) ∧ (i10 < (((List.length l9) : Nat) : Int)))) then
      let x13 : D_ranges_Range := (List.getD l9 (Int.toNat i10) (Ty.dflt T_ranges_Range))
      bif (decide (((0 : Int) ≤ i10) ∧ (i10 < (((List.length l9) : Nat) : Int)))) then
        let x14 : D_ranges_Range := (List.getD l9 (Int.toNat i10) (Ty.dflt T_ranges_Range))
        let b15 : Bool := (decide (x13.2.1 < x14.1))
        bif b15 then
          some (false, ())
        else
          bif (decide (((0 : Int) ≤ i10) ∧ (i10 < (((List.length l9) : Nat) : Int)))) then
            let x16 : D_ranges_Range := (List.getD l9 (Int.toNat i10) (Ty.dflt T_ranges_Range))
            let b17 : Bool := (decide (x16.2.1 ≥ (9223372036854775808 : Int)))
            bif b17 then
              some (false, ())
            else
              let b18 : Bool := (decide (i10 > (0 : Int)))
              bif b18 then
                bif (decide (((0 : Int) ≤ i10) ∧ (i10 < (((List.length l9) : Nat) : Int)))) then
                  let x19 : D_ranges_Range := (List.getD l9 (Int.toNat i10) (Ty.dflt T_ranges_Range))
                  let n20 : Int := (Go.IntKind.wrap Go.IntKind.i64 (i10 - (1 : Int)))
                  bif (decide (((0 : Int) ≤ n20) ∧ (n20 < (((List.length l9) : Nat) : Int)))) then
                    let x21 : D_ranges_Range := (List.getD l9 (Int.toNat n20) (Ty.dflt T_ranges_Range))
                    let n22 : Int := (Go.IntKind.wrap Go.IntKind.u64 (x21.2.1 + (2 : Int)))
                    let b23 : Bool := (decide (x19.1 < n22))
                    bif b23 then
                      some (false, ())
                    else
                      ref03_May_1 k0 l9 i10
                  else none
                else none
              else
                ref03_May_1 k0 l9 i10
          else none
      else none
    else none
  else
    some (true, ())
noncomputable def ref03_May_0 : Nat → (List D_ranges_Range) → Int → Option (Bool × Unit)
  | 0 => fun _ _ => none
  | m + 1 => t_ref03_May_0 (ref03_May_0 m)
noncomputable def b_ref03_May_0' (l9 : (List D_ranges_Range)) (i10 : Int) : Option (Bool × Unit) := ref03_May_0 (Int.toNat ((((List.length l9) : Nat) : Int) - i10) + 2) l9 i10
theorem ex_ref03_May_0' : ∃ f, f = @b_ref03_May_0' := ⟨_, rfl⟩
noncomputable def ref03_May_0' := Classical.choose ex_ref03_May_0'
theorem ref03_May_0'_eq : @ref03_May_0' = @b_ref03_May_0' := Classical.choose_spec ex_ref03_May_0'
theorem s_ref03_May_0 {base S0 cs0} (hfin : H_ref03_May base S0) : ∀ m, J_ref03_May base S0 cs0 p_ref03_May_0 (u_ref03_May_0 (ref03_May_0 m)) :=
  JSound.loop' hfin.2 ks_ref03_May 100000 u_ref03_May_0 (fun k0 => x_ref03_May_1 k0) (fun k0 h0 => o_ref03_May_1 hfin k0 h0) (ref03_May_0) (by intro x; rfl) (by intro m x; kernel_rfl)
theorem s_ref03_May_0' {base S0 cs0} (hfin : H_ref03_May base S0) : J_ref03_May base S0 cs0 p_ref03_May_0 (u_ref03_May_0 (ref03_May_0')) := by
  rw [ref03_May_0'_eq]; exact fun x r hx => s_ref03_May_0 hfin _ x r hx
noncomputable def x_ref03_May_0 : Cfg → Option (Option (Bool × Unit)) := cut p_ref03_May_0 (u_ref03_May_0 (ref03_May_0')) (nowhere)
theorem o_ref03_May_0 {base S0 cs0} (hfin : H_ref03_May base S0) : O_ref03_May base S0 cs0 (x_ref03_May_0) := OSound.cut (OSound.nowhere) (Nat.le_of_eq hfin.1) (s_ref03_May_0' hfin)
noncomputable def b_ref03_May (a0 : (List D_ranges_Range)) : Option (Bool × Unit) :=
  ref03_May_0' a0 (0 : Int)
theorem ex_ref03_May : ∃ f, f = @b_ref03_May := ⟨_, rfl⟩
noncomputable def ref03_May := Classical.choose ex_ref03_May
theorem ref03_May_eq : @ref03_May = @b_ref03_May := Classical.choose_spec ex_ref03_May
noncomputable def cb_ref03_May : Con := ⟨[(.slice T_ranges_Range)], r_ref03_May, fun x => b_ref03_May x.1⟩
noncomputable def c_ref03_May : Con := ⟨[(.slice T_ranges_Range)], r_ref03_May, fun x => ref03_May x.1⟩
theorem cb_ref03_May_ok : cb_ref03_May.Sound prog Inv gInv 85 :=
  con_run (M := m_ref03_May) inv_g (f := f85) rfl ks_ref03_May 100000 (X := x_ref03_May_0) (fun base S0 cs0 hn hf => have hfin : H_ref03_May base S0 := ⟨hn, hf⟩; o_ref03_May_0 hfin) (by intro x; kernel_rfl)
theorem c_ref03_May_ok : c_ref03_May.Sound prog Inv gInv 85 := by
  have e : c_ref03_May = cb_ref03_May := by unfold c_ref03_May cb_ref03_May; rw [ref03_May_eq]
  rw [e]; exact cb_ref03_May_ok
end Go.Proofs.YtjdjlijjolibkaaDoor.V
namespace Go.Proofs.YtjdjlijjolibkaaDoor.V
open Go.RowKit Go.Proofs.Tryd
set_option maxRecDepth 100000
set_option linter.unusedVariables false
noncomputable def m_ref06_May : Mach prog Inv gInv := mach bas [(35, f35)] ⟨ok35, trivial⟩ [(83, c_ref06_shape), (84, c_ref06_in), (85, c_ref03_May)] ⟨⟨c_ref06_shape_ok, FnOk.callable ok83⟩, ⟨c_ref06_in_ok, FnOk.callable ok84⟩, ⟨c_ref03_May_ok, FnOk.callable ok85⟩, trivial⟩ [] trivial [] trivial
/-! ### domino/dominoref06.May -/
@[reducible] def r_ref06_May : List Ty := [.bool]
def ks_ref06_May : List Nat := [35]
abbrev H_ref06_May (base : Base) (S0 : Nat → Prop) := base.n = 0 ∧ FinOk (finR r_ref06_May) base S0 (Post r_ref06_May S0)
abbrev J_ref06_May (base : Base) (S0 : Nat → Prop) (cs0 : List Go.Frame) (p : CPat) (J : denC p → Option (denL r_ref06_May)) := JSound m_ref06_May base S0 cs0 (Post r_ref06_May S0) p J
abbrev O_ref06_May (base : Base) (S0 : Nat → Prop) (cs0 : List Go.Frame) (X : Cfg → Option (Option (denL r_ref06_May))) := OSound m_ref06_May base S0 cs0 (Post r_ref06_May S0) X
@[reducible] noncomputable def p_ref06_May_7 : CPat := ⟨⟨35, [1, 1, 1, 1, 1, 0, 1, 0, 1, 1, 1, 1, 1, 1, 1, 1, 1, 1, 1], none, [.any, .ptr 0 0, .any, .any, .any, .any, .any, .any, .any, .any, .any, .any, .any, .any, .any, .any, .any, .any, .any, .any, .any, .any, .any, .any, .any, .any, .any, .any, .any, .any, .any, .any, .any, .any, .any, .any, .any, .any, .any, .any, .any, .any, .any, .any, .any, .any, .any, .any, .any, .any, .any, .any, .any, .any, .any, .any, .any, .any, .any, .any, .any, .any, .any, .any, .any, .any, .any, .any, .any, .any, .any, .any, .any, .any, .any, .any, .any, .any, .any, .any, .any, .any, .any, .any, .any, .any, .any, .any, .any, .any, .any, .any, .any, .any, .any, .any, .any, .any, .any, .any, .any, .any, .any, .any, .any, .any, .any, .any, .any, .any, .any, .any, .any, .any, .any, .any, .any, .any, .any, .any, .any, .any, .any, .any, .any, .any, .any, .any, .any, .any, .any, .any, .any, .any, .any, .any, .any, .any, .any, .any, .any, .any, .any, .any, .any, .any, .any, .any, .any, .any, .any, .any, .any, .any, .any, .any, .any, .any, .any, .any, .any, .any, .any, .any, .any, .any, .any, .any, .any, .any, .any, .any, .any, .any, .any, .any, .any, .any, .any, .any, .bool], 7⟩, [], [.dat 60 T_frame_Frame], 0⟩
@[reducible] noncomputable def u_ref06_May_7 (k : Bool → D_frame_Frame → Option (Bool × Unit)) : denC p_ref06_May_7 → Option (Bool × Unit) := fun x => k x.1.2.2.2.2.2.2.2.2.2.2.2.2.2.2.2.2.2.2.2.2.2.2.2.2.2.2.2.2.2.2.2.2.2.2.2.2.2.2.2.2.2.2.2.2.2.2.2.2.2.2.2.2.2.2.2.2.2.2.2.2.2.2.2.2.2.2.2.2.2.2.2.2.2.2.2.2.2.2.2.2.2.2.2.2.2.2.2.2.2.2.2.2.2.2.2.2.2.2.2.2.2.2.2.2.2.2.2.2.2.2.2.2.2.2.2.2.2.2.2.2.2.2.2.2.2.2.2.2.2.2.2.2.2.2.2.2.2.2.2.2.2.2.2.2.2.2.2.2.2.2.2.2.2.2.2.2.2.2.2.2.2.2.2.2.2.2.2.2.2.2.2.2.2.2.2.2.2.2.2.2.1 x.2.2.1
noncomputable def b_ref06_May_7 (b300 : Bool) (d301 : D_frame_Frame) : Option (Bool × Unit) :=
  bif b300 then
    let b302 : Bool := (decide (d301.2.2.2.1 ≤ (1152921504606846976 : Int)))
    some (b302, ())
  else
    some (true, ())
theorem ex_ref06_May_7 : ∃ f, f = @b_ref06_May_7 := ⟨_, rfl⟩
noncomputable def ref06_May_7 := Classical.choose ex_ref06_May_7
theorem ref06_May_7_eq : @ref06_May_7 = @b_ref06_May_7 := Classical.choose_spec ex_ref06_May_7
theorem s_ref06_May_7 {base S0 cs0} (hfin : H_ref06_May base S0) : J_ref06_May base S0 cs0 p_ref06_May_7 (u_ref06_May_7 (ref06_May_7)) :=
  JSound.join hfin.2 (OSound.nowhere) ks_ref06_May 100000 (by rw [ref06_May_7_eq]; intro x; kernel_rfl)
noncomputable def x_ref06_May_7 : Cfg → Option (Option (Bool × Unit)) := cut p_ref06_May_7 (u_ref06_May_7 (ref06_May_7)) (nowhere)
theorem o_ref06_May_7 {base S0 cs0} (hfin : H_ref06_May base S0) : O_ref06_May base S0 cs0 (x_ref06_May_7) := OSound.cut (OSound.nowhere) (Nat.le_of_eq hfin.1) (s_ref06_May_7 hfin)
@[reducible] noncomputable def p_ref06_May_6 : CPat := ⟨⟨35, [1, 1, 1, 1, 1, 0, 1, 0, 1, 1, 1, 1, 1, 1, 1, 1, 1], none, [.any, .ptr 0 0, .any, .any, .any, .any, .any, .any, .any, .any, .any, .any, .any, .any, .any, .any, .any, .any, .any, .any, .any, .any, .any, .any, .any, .any, .any, .any, .any, .any, .any, .any, .any, .any, .any, .any, .any, .any, .any, .any, .any, .any, .any, .any, .any, .any, .any, .any, .any, .any, .any, .any, .any, .any, .any, .any, .any, .any, .any, .any, .any, .any, .any, .any, .any, .any, .any, .any, .any, .any, .any, .any, .any, .any, .any, .any, .any, .any, .any, .any, .any, .any, .any, .any, .any, .any, .any, .any, .any, .any, .any, .any, .any, .any, .any, .any, .any, .any, .any, .any, .any, .any, .any, .int .u64, .any, .any, .any, .any, .any, .any, .any, .any, .any, .any, .any, .any, .any, .any, .any, .any, .any, .any, .any, .any, .any, .any, .any, .any, .any, .any, .any, .any, .any, .any, .any, .any, .any, .any, .any, .any, .any, .any, .any, .any, .any, .any, .any, .any, .any, .any, .any, .any, .any, .any, .any, .any, .any, .any, .any, .any, .any, .any, .any, .any, .any, .any, .any, .any, .any, .any, .any, .any, .any, .bool], 14⟩, [], [.dat 60 T_frame_Frame], 0⟩
@[reducible] noncomputable def u_ref06_May_6 (k : Int → Bool → D_frame_Frame → Option (Bool × Unit)) : denC p_ref06_May_6 → Option (Bool × Unit) := fun x => k x.1.2.2.2.2.2.2.2.2.2.2.2.2.2.2.2.2.2.2.2.2.2.2.2.2.2.2.2.2.2.2.2.2.2.2.2.2.2.2.2.2.2.2.2.2.2.2.2.2.2.2.2.2.2.2.2.2.2.2.2.2.2.2.2.2.2.2.2.2.2.2.2.2.2.2.2.2.2.2.2.2.2.2.2.2.2.2.2.2.2.2.2.2.2.2.2.2.2.2.2.2.2.2.2.1 x.1.2.2.2.2.2.2.2.2.2.2.2.2.2.2.2.2.2.2.2.2.2.2.2.2.2.2.2.2.2.2.2.2.2.2.2.2.2.2.2.2.2.2.2.2.2.2.2.2.2.2.2.2.2.2.2.2.2.2.2.2.2.2.2.2.2.2.2.2.2.2.2.2.2.2.2.2.2.2.2.2.2.2.2.2.2.2.2.2.2.2.2.2.2.2.2.2.2.2.2.2.2.2.2.2.2.2.2.2.2.2.2.2.2.2.2.2.2.2.2.2.2.2.2.2.2.2.2.2.2.2.2.2.2.2.2.2.2.2.2.2.2.2.2.2.2.2.2.2.2.2.2.2.2.2.2.2.2.2.2.2.2.2.2.2.2.2.2.2.2.2.2.2.2.1 x.2.2.1
noncomputable def b_ref06_May_6 (i291 : Int) (b292 : Bool) (d293 : D_frame_Frame) : Option (Bool × Unit) :=
  bif b292 then
    let n294 : Int := (((ByteArray.size d293.2.2.2.2.2.2.2.2.2.2.2.1) : Nat) : Int)
    let b295 : Bool := (n294 == (8 : Int))
    some (b295, ())
  else
    let b296 : Bool := (i291 == (18 : Int))
    bif b296 then
      ref06_May_7 true d293
    else
      let b297 : Bool := (i291 == (19 : Int))
      bif b297 then
        ref06_May_7 true d293
      else
        let b298 : Bool := (i291 == (22 : Int))
        bif b298 then
          ref06_May_7 true d293
        else
          let b299 : Bool := (i291 == (23 : Int))
          ref06_May_7 b299 d293
theorem ex_ref06_May_6 : ∃ f, f = @b_ref06_May_6 := ⟨_, rfl⟩
noncomputable def ref06_May_6 := Classical.choose ex_ref06_May_6
theorem ref06_May_6_eq : @ref06_May_6 = @b_ref06_May_6 := Classical.choose_spec ex_ref06_May_6
theorem s_ref06_May_6 {base S0 cs0} (hfin : H_ref06_May base S0) : J_ref06_May base S0 cs0 p_ref06_May_6 (u_ref06_May_6 (ref06_May_6)) :=
  JSound.join hfin.2 (o_ref06_May_7 hfin) ks_ref06_May 100000 (by rw [ref06_May_6_eq]; intro x; kernel_rfl)
noncomputable def x_ref06_May_6 : Cfg → Option (Option (Bool × Unit)) := cut p_ref06_May_6 (u_ref06_May_6 (ref06_May_6)) (x_ref06_May_7)
theorem o_ref06_May_6 {base S0 cs0} (hfin : H_ref06_May base S0) : O_ref06_May base S0 cs0 (x_ref06_May_6) := OSound.cut (o_ref06_May_7 hfin) (Nat.le_of_eq hfin.1) (s_ref06_May_6 hfin)
@[reducible] noncomputable def p_ref06_May_5 : CPat := ⟨⟨35, [1, 1, 1, 1, 1, 0, 1, 0, 1, 1, 1, 1, 1], none, [.any, .ptr 0 0, .any, .any, .any, .any, .any, .any, .any, .any, .any, .any, .any, .any, .any, .any, .any, .any, .any, .any, .any, .any, .any, .any, .any, .any, .any, .any, .any, .any, .any, .any, .any, .any, .any, .any, .any, .any, .any, .any, .any, .any, .any, .any, .any, .any, .any, .any, .any, .any, .any, .any, .any, .any, .any, .any, .any, .any, .any, .any, .any, .any, .any, .any, .any, .any, .any, .any, .any, .any, .any, .any, .any, .any, .any, .any, .any, .any, .any, .any, .any, .any, .any, .any, .any, .any, .any, .any, .any, .any, .any, .any, .any, .any, .any, .any, .any, .any, .any, .any, .any, .any, .any, .int .u64, .any, .any, .any, .any, .any, .any, .any, .any, .any, .any, .any, .any, .any, .any, .any, .any, .any, .any, .any, .any, .any, .any, .any, .any, .any, .any, .any, .any, .any, .any, .any, .any, .any, .any, .any, .any, .any, .any, .any, .any, .any, .any, .any, .bool], 40⟩, [], [.dat 60 T_frame_Frame], 0⟩
@[reducible] noncomputable def u_ref06_May_5 (k : Int → Bool → D_frame_Frame → Option (Bool × Unit)) : denC p_ref06_May_5 → Option (Bool × Unit) := fun x => k x.1.2.2.2.2.2.2.2.2.2.2.2.2.2.2.2.2.2.2.2.2.2.2.2.2.2.2.2.2.2.2.2.2.2.2.2.2.2.2.2.2.2.2.2.2.2.2.2.2.2.2.2.2.2.2.2.2.2.2.2.2.2.2.2.2.2.2.2.2.2.2.2.2.2.2.2.2.2.2.2.2.2.2.2.2.2.2.2.2.2.2.2.2.2.2.2.2.2.2.2.2.2.2.2.1 x.1.2.2.2.2.2.2.2.2.2.2.2.2.2.2.2.2.2.2.2.2.2.2.2.2.2.2.2.2.2.2.2.2.2.2.2.2.2.2.2.2.2.2.2.2.2.2.2.2.2.2.2.2.2.2.2.2.2.2.2.2.2.2.2.2.2.2.2.2.2.2.2.2.2.2.2.2.2.2.2.2.2.2.2.2.2.2.2.2.2.2.2.2.2.2.2.2.2.2.2.2.2.2.2.2.2.2.2.2.2.2.2.2.2.2.2.2.2.2.2.2.2.2.2.2.2.2.2.2.2.2.2.2.2.2.2.2.2.2.2.2.2.2.2.2.2.2.2.1 x.2.2.1
noncomputable def b_ref06_May_5 (i278 : Int) (b279 : Bool) (d280 : D_frame_Frame) : Option (Bool × Unit) :=
  bif b279 then
    let n281 : Int := (((ByteArray.size d280.2.2.2.2.2.2.2.2.2.1) : Nat) : Int)
    let b282 : Bool := (decide (n281 ≤ (1200 : Int)))
    some (b282, ())
  else
    let b283 : Bool := (i278 == (24 : Int))
    bif b283 then
      let b284 : Bool := (decide (d280.2.2.2.2.2.2.1 ≤ d280.2.2.2.2.2.1))
      bif b284 then
        let n285 : Int := (((ByteArray.size d280.2.2.2.2.2.2.2.2.2.2.1) : Nat) : Int)
        let b286 : Bool := (n285 == (8 : Int))
        bif b286 then
          let n287 : Int := (((ByteArray.size d280.2.2.2.2.2.2.2.2.2.2.2.1) : Nat) : Int)
          let b288 : Bool := (n287 == (16 : Int))
          some (b288, ())
        else
          some (false, ())
      else
        some (false, ())
    else
      let b289 : Bool := (i278 == (26 : Int))
      bif b289 then
        ref06_May_6 i278 true d280
      else
        let b290 : Bool := (i278 == (27 : Int))
        ref06_May_6 i278 b290 d280
theorem ex_ref06_May_5 : ∃ f, f = @b_ref06_May_5 := ⟨_, rfl⟩
noncomputable def ref06_May_5 := Classical.choose ex_ref06_May_5
theorem ref06_May_5_eq : @ref06_May_5 = @b_ref06_May_5 := Classical.choose_spec ex_ref06_May_5
theorem s_ref06_May_5 {base S0 cs0} (hfin : H_ref06_May base S0) : J_ref06_May base S0 cs0 p_ref06_May_5 (u_ref06_May_5 (ref06_May_5)) :=
  JSound.join hfin.2 (o_ref06_May_6 hfin) ks_ref06_May 100000 (by rw [ref06_May_5_eq]; intro x; kernel_rfl)
noncomputable def x_ref06_May_5 : Cfg → Option (Option (Bool × Unit)) := cut p_ref06_May_5 (u_ref06_May_5 (ref06_May_5)) (x_ref06_May_6)
theorem o_ref06_May_5 {base S0 cs0} (hfin : H_ref06_May base S0) : O_ref06_May base S0 cs0 (x_ref06_May_5) := OSound.cut (o_ref06_May_6 hfin) (Nat.le_of_eq hfin.1) (s_ref06_May_5 hfin)
@[reducible] noncomputable def p_ref06_May_4 : CPat := ⟨⟨35, [1, 1, 1, 1, 1, 0, 1, 0, 1, 1, 1], none, [.any, .ptr 0 0, .any, .any, .any, .any, .any, .any, .any, .any, .any, .any, .any, .any, .any, .any, .any, .any, .any, .any, .any, .any, .any, .any, .any, .any, .any, .any, .any, .any, .any, .any, .any, .any, .any, .any, .any, .any, .any, .any, .any, .any, .any, .any, .any, .any, .any, .any, .any, .any, .any, .any, .any, .any, .any, .any, .any, .any, .any, .any, .any, .any, .any, .any, .any, .any, .any, .any, .any, .any, .any, .any, .any, .any, .any, .any, .any, .any, .any, .any, .any, .any, .any, .any, .any, .any, .any, .any, .any, .any, .any, .any, .any, .any, .any, .any, .any, .any, .any, .any, .any, .any, .any, .int .u64, .any, .any, .any, .any, .any, .any, .any, .any, .any, .any, .any, .any, .any, .any, .any, .any, .any, .any, .any, .any, .any, .any, .any, .any, .any, .any, .bool], 57⟩, [], [.dat 60 T_frame_Frame], 0⟩
@[reducible] noncomputable def u_ref06_May_4 (k : Int → Bool → D_frame_Frame → Option (Bool × Unit)) : denC p_ref06_May_4 → Option (Bool × Unit) := fun x => k x.1.2.2.2.2.2.2.2.2.2.2.2.2.2.2.2.2.2.2.2.2.2.2.2.2.2.2.2.2.2.2.2.2.2.2.2.2.2.2.2.2.2.2.2.2.2.2.2.2.2.2.2.2.2.2.2.2.2.2.2.2.2.2.2.2.2.2.2.2.2.2.2.2.2.2.2.2.2.2.2.2.2.2.2.2.2.2.2.2.2.2.2.2.2.2.2.2.2.2.2.2.2.2.2.1 x.1.2.2.2.2.2.2.2.2.2.2.2.2.2.2.2.2.2.2.2.2.2.2.2.2.2.2.2.2.2.2.2.2.2.2.2.2.2.2.2.2.2.2.2.2.2.2.2.2.2.2.2.2.2.2.2.2.2.2.2.2.2.2.2.2.2.2.2.2.2.2.2.2.2.2.2.2.2.2.2.2.2.2.2.2.2.2.2.2.2.2.2.2.2.2.2.2.2.2.2.2.2.2.2.2.2.2.2.2.2.2.2.2.2.2.2.2.2.2.2.2.2.2.2.2.2.2.2.2.2.2.1 x.2.2.1
noncomputable def b_ref06_May_4 (i267 : Int) (b268 : Bool) (d269 : D_frame_Frame) : Option (Bool × Unit) :=
  bif b268 then
    let n270 : Int := (((ByteArray.size d269.2.2.2.2.2.2.2.2.2.1) : Nat) : Int)
    let b271 : Bool := (decide (n270 ≤ (1200 : Int)))
    bif b271 then
      let n272 : Int := (((ByteArray.size d269.2.2.2.2.2.2.2.2.2.1) : Nat) : Int)
      let n273 : Int := (Go.IntKind.wrap Go.IntKind.u64 n272)
      let n274 : Int := (Go.IntKind.wrap Go.IntKind.u64 (d269.2.2.1 + n273))
      let b275 : Bool := (decide (n274 ≤ (4611686018427387903 : Int)))
      some (b275, ())
    else
      some (false, ())
  else
    let b276 : Bool := (i267 == (28 : Int))
    bif b276 then
      ref06_May_5 i267 true d269
    else
      let b277 : Bool := (i267 == (29 : Int))
      ref06_May_5 i267 b277 d269
theorem ex_ref06_May_4 : ∃ f, f = @b_ref06_May_4 := ⟨_, rfl⟩
noncomputable def ref06_May_4 := Classical.choose ex_ref06_May_4
theorem ref06_May_4_eq : @ref06_May_4 = @b_ref06_May_4 := Classical.choose_spec ex_ref06_May_4
theorem s_ref06_May_4 {base S0 cs0} (hfin : H_ref06_May base S0) : J_ref06_May base S0 cs0 p_ref06_May_4 (u_ref06_May_4 (ref06_May_4)) :=
  JSound.join hfin.2 (o_ref06_May_5 hfin) ks_ref06_May 100000 (by rw [ref06_May_4_eq]; intro x; kernel_rfl)
noncomputable def x_ref06_May_4 : Cfg → Option (Option (Bool × Unit)) := cut p_ref06_May_4 (u_ref06_May_4 (ref06_May_4)) (x_ref06_May_5)
theorem o_ref06_May_4 {base S0 cs0} (hfin : H_ref06_May base S0) : O_ref06_May base S0 cs0 (x_ref06_May_4) := OSound.cut (o_ref06_May_5 hfin) (Nat.le_of_eq hfin.1) (s_ref06_May_4 hfin)
@[reducible] noncomputable def p_ref06_May_3 : CPat := ⟨⟨35, [1, 1, 1, 1, 0, 1, 1], none, [.any, .ptr 0 0], 186⟩, [], [.dat 60 T_frame_Frame], 0⟩
@[reducible] noncomputable def u_ref06_May_3 (k : D_frame_Frame → Option (Bool × Unit)) : denC p_ref06_May_3 → Option (Bool × Unit) := fun x => k x.2.2.1
noncomputable def b_ref06_May_3 (d256 : D_frame_Frame) : Option (Bool × Unit) :=
  let b257 : Bool := (d256.1 == (2 : Int))
  bif b257 then
    let n258 : Int := (((List.length d256.2.2.2.2.2.2.2.2.2.2.2.2.1) : Nat) : Int)
    obind (ref03_May d256.2.2.2.2.2.2.2.2.2.2.2.2.1) fun y259 =>
    bif y259.1 then
      let b260 : Bool := (decide (n258 ≥ (1 : Int)))
      bif b260 then
        let b261 : Bool := (decide (n258 ≤ (32 : Int)))
        bif b261 then
          let n262 : Int := (Go.IntKind.wrap Go.IntKind.i64 (n258 - (1 : Int)))
          bif (decide (((0 : Int) ≤ n262) ∧ (n262 < (((List.length d256.2.2.2.2.2.2.2.2.2.2.2.2.1) : Nat) : Int)))) then
            let x263 : D_ranges_Range := (List.getD d256.2.2.2.2.2.2.2.2.2.2.2.2.1 (Int.toNat n262) (Ty.dflt T_ranges_Range))
            let b264 : Bool := (decide (x263.2.1 ≤ (4611686018427387903 : Int)))
            some (b264, ())
          else none
        else
          some (false, ())
      else
        some (false, ())
    else
      some (false, ())
  else
    let b265 : Bool := (d256.1 == (6 : Int))
    bif b265 then
      ref06_May_4 d256.1 true d256
    else
      let b266 : Bool := (d256.1 == (8 : Int))
      ref06_May_4 d256.1 b266 d256
theorem ex_ref06_May_3 : ∃ f, f = @b_ref06_May_3 := ⟨_, rfl⟩
noncomputable def ref06_May_3 := Classical.choose ex_ref06_May_3
theorem ref06_May_3_eq : @ref06_May_3 = @b_ref06_May_3 := Classical.choose_spec ex_ref06_May_3
theorem s_ref06_May_3 {base S0 cs0} (hfin : H_ref06_May base S0) : J_ref06_May base S0 cs0 p_ref06_May_3 (u_ref06_May_3 (ref06_May_3)) :=
  JSound.join hfin.2 (o_ref06_May_4 hfin) ks_ref06_May 100000 (by rw [ref06_May_3_eq]; intro x; kernel_rfl)
noncomputable def x_ref06_May_3 : Cfg → Option (Option (Bool × Unit)) := cut p_ref06_May_3 (u_ref06_May_3 (ref06_May_3)) (x_ref06_May_4)
theorem o_ref06_May_3 {base S0 cs0} (hfin : H_ref06_May base S0) : O_ref06_May base S0 cs0 (x_ref06_May_3) := OSound.cut (o_ref06_May_4 hfin) (Nat.le_of_eq hfin.1) (s_ref06_May_3 hfin)
@[reducible] noncomputable def p_ref06_May_0 : CPat := ⟨⟨35, [1, 1, 1, 0, 1, 0], none, [.any, .ptr 0 0, .any, .str, .all 1, .int .i64], 182⟩, [], [.dat 60 T_frame_Frame, .row (.int .u64)], 0⟩
@[reducible] noncomputable def u_ref06_May_0 (k : ByteArray → Int → D_frame_Frame → (List Int) → Option (Bool × Unit)) : denC p_ref06_May_0 → Option (Bool × Unit) := fun x => k x.1.2.2.2.1 x.1.2.2.2.2.2.1 x.2.2.1 x.2.2.2.1
@[reducible] noncomputable def p_ref06_May_2 : CPat := ⟨⟨35, [1, 1, 1, 0, 1, 0, 0, 1, 0, 0, 1, 1], none, [.any, .ptr 0 0, .any, .str, .all 1, .int .i64], 182⟩, [], [.dat 60 T_frame_Frame, .row (.int .u64)], 0⟩
@[reducible] noncomputable def u_ref06_May_2 (k : ByteArray → Int → D_frame_Frame → (List Int) → Option (Bool × Unit)) : denC p_ref06_May_2 → Option (Bool × Unit) := fun x => k x.1.2.2.2.1 x.1.2.2.2.2.2.1 x.2.2.1 x.2.2.2.1
noncomputable def b_ref06_May_2 (k0 : ByteArray → Int → D_frame_Frame → (List Int) → Option (Bool × Unit)) (s250 : ByteArray) (i251 : Int) (d252 : D_frame_Frame) (l253 : (List Int)) : Option (Bool × Unit) :=
  let n254 : Int := (Go.IntKind.wrap Go.IntKind.i64 (i251 + (1 : Int)))
  k0 s250 n254 d252 l253
theorem ex_ref06_May_2 : ∃ f, f = @b_ref06_May_2 := ⟨_, rfl⟩
noncomputable def ref06_May_2 := Classical.choose ex_ref06_May_2
theorem ref06_May_2_eq : @ref06_May_2 = @b_ref06_May_2 := Classical.choose_spec ex_ref06_May_2
theorem s_ref06_May_2 {base S0 cs0} (hfin : H_ref06_May base S0) (k0) (h0 : J_ref06_May base S0 cs0 p_ref06_May_0 (u_ref06_May_0 k0)) : J_ref06_May base S0 cs0 p_ref06_May_2 (u_ref06_May_2 (ref06_May_2 k0)) :=
  JSound.join hfin.2 (OSound.cut (o_ref06_May_3 hfin) (Nat.le_of_eq hfin.1) h0) ks_ref06_May 100000 (by rw [ref06_May_2_eq]; intro x; kernel_rfl)
noncomputable def x_ref06_May_2 (k0 : ByteArray → Int → D_frame_Frame → (List Int) → Option (Bool × Unit)) : Cfg → Option (Option (Bool × Unit)) := cut p_ref06_May_2 (u_ref06_May_2 (ref06_May_2 k0)) (cut p_ref06_May_0 (u_ref06_May_0 k0) (x_ref06_May_3))
theorem o_ref06_May_2 {base S0 cs0} (hfin : H_ref06_May base S0) (k0) (h0 : J_ref06_May base S0 cs0 p_ref06_May_0 (u_ref06_May_0 k0)) : O_ref06_May base S0 cs0 (x_ref06_May_2 k0) := OSound.cut (OSound.cut (o_ref06_May_3 hfin) (Nat.le_of_eq hfin.1) h0) (Nat.le_of_eq hfin.1) (s_ref06_May_2 hfin k0 h0)
noncomputable def t_ref06_May_0 (k0 : ByteArray → Int → D_frame_Frame → (List Int) → Option (Bool × Unit)) (s125 : ByteArray) (i126 : Int) (d127 : D_frame_Frame) (l128 : (List Int)) : Option (Bool × Unit) :=
  let n129 : Int := (((List.length l128) : Nat) : Int)
  let b130 : Bool := (decide (i126 < n129))
  bif b130 then
    bif (decide (((0 : Int) ≤ i126) ∧ (i126 < (((List.length l128) : Nat) : Int)))) then
      let i131 : Nat := (Int.toNat i126)
      let n132 : Int := (List.getD l128 i131 (0 : Int))
      let b133 : Bool := (decide (n132 > (4611686018427387903 : Int)))
      bif b133 then
        some (false, ())
      else
        bif (decide (((0 : Int) ≤ i126) ∧ (i126 < (((List.length l128) : Nat) : Int)))) then
          let i134 : Nat := (Int.toNat i126)
          let n135 : Int := (List.getD l128 i134 (0 : Int))
          let b136 : Bool := (n135 != (0 : Int))
          bif b136 then
            bif (decide (((0 : Int) ≤ i126) ∧ (i126 < (7 : Int)))) then
              let n137 : Int := (byteAt (ByteArray.mk (List.toArray ((105 : UInt8) :: ((111 : UInt8) :: ((109 : UInt8) :: ((99 : UInt8) :: ((113 : UInt8) :: ((112 : UInt8) :: ((101 : UInt8) :: ([] : List UInt8)))))))))) i126)
              obind (ref06_in s125 n137) fun y138 =>
              let b139 : Bool := (!y138.1)
              bif b139 then
                some (false, ())
              else
                ref06_May_2 k0 s125 i126 d127 l128
            else none
          else
            ref06_May_2 k0 s125 i126 d127 l128
        else none
    else none
  else
    let b140 : Bool := ((ByteArray.toList s125) == (ByteArray.toList (ByteArray.mk (List.toArray ([] : List UInt8)))))
    bif b140 then
      some (false, ())
    else
      bif d127.2.2.2.2.2.2.2.2.1 then
        obind (ref06_in s125 (102 : Int)) fun y141 =>
        let b142 : Bool := (!y141.1)
        bif b142 then
          some (false, ())
        else
          let b143 : Bool := (!((ByteArray.toList d127.2.2.2.2.2.2.2.2.2.1) == (ByteArray.toList (ByteArray.mk (List.toArray ([] : List UInt8))))))
          bif b143 then
            obind (ref06_in s125 (100 : Int)) fun y144 =>
            let b145 : Bool := (!y144.1)
            bif b145 then
              some (false, ())
            else
              let b146 : Bool := (!((ByteArray.toList d127.2.2.2.2.2.2.2.2.2.2.1) == (ByteArray.toList (ByteArray.mk (List.toArray ([] : List UInt8))))))
              bif b146 then
                obind (ref06_in s125 (110 : Int)) fun y147 =>
                let b148 : Bool := (!y147.1)
                bif b148 then
                  some (false, ())
                else
                  let b149 : Bool := (!((ByteArray.toList d127.2.2.2.2.2.2.2.2.2.2.2.1) == (ByteArray.toList (ByteArray.mk (List.toArray ([] : List UInt8))))))
                  bif b149 then
                    obind (ref06_in s125 (116 : Int)) fun y150 =>
                    let b151 : Bool := (!y150.1)
                    bif b151 then
                      some (false, ())
                    else
                      let n152 : Int := (((List.length d127.2.2.2.2.2.2.2.2.2.2.2.2.1) : Nat) : Int)
                      let b153 : Bool := (decide (n152 > (0 : Int)))
                      bif b153 then
                        obind (ref06_in s125 (115 : Int)) fun y154 =>
                        let b155 : Bool := (!y154.1)
                        bif b155 then
                          some (false, ())
                        else
                          ref06_May_3 d127
                      else
                        ref06_May_3 d127
                  else
                    let n156 : Int := (((List.length d127.2.2.2.2.2.2.2.2.2.2.2.2.1) : Nat) : Int)
                    let b157 : Bool := (decide (n156 > (0 : Int)))
                    bif b157 then
                      obind (ref06_in s125 (115 : Int)) fun y158 =>
                      let b159 : Bool := (!y158.1)
                      bif b159 then
                        some (false, ())
                      else
                        ref06_May_3 d127
                    else
                      ref06_May_3 d127
              else
                let b160 : Bool := (!((ByteArray.toList d127.2.2.2.2.2.2.2.2.2.2.2.1) == (ByteArray.toList (ByteArray.mk (List.toArray ([] : List UInt8))))))
                bif b160 then
                  obind (ref06_in s125 (116 : Int)) fun y161 =>
                  let b162 : Bool := (!y161.1)
                  bif b162 then
                    some (false, ())
                  else
                    let n163 : Int := (((List.length d127.2.2.2.2.2.2.2.2.2.2.2.2.1) : Nat) : Int)
                    let b164 : Bool := (decide (n163 > (0 : Int)))
                    bif b164 then
                      obind (ref06_in s125 (115 : Int)) fun y165 =>
                      let b166 : Bool := (!y165.1)
                      bif b166 then
                        some (false, ())
                      else
                        ref06_May_3 d127
                    else
                      ref06_May_3 d127
                else
                  let n167 : Int := (((List.length d127.2.2.2.2.2.2.2.2.2.2.2.2.1) : Nat) : Int)
                  let b168 : Bool := (decide (n167 > (0 : Int)))
                  bif b168 then
                    obind (ref06_in s125 (115 : Int)) fun y169 =>
                    let b170 : Bool := (!y169.1)
                    bif b170 then
                      some (false, ())
                    else
                      ref06_May_3 d127
                  else
                    ref06_May_3 d127
          else
            let b171 : Bool := (!((ByteArray.toList d127.2.2.2.2.2.2.2.2.2.2.1) == (ByteArray.toList (ByteArray.mk (List.toArray ([] : List UInt8))))))
            bif b171 then
              obind (ref06_in s125 (110 : Int)) fun y172 =>
              let b173 : Bool := (!y172.1)
              bif b173 then
                some (false, ())
              else
                let b174 : Bool := (!((ByteArray.toList d127.2.2.2.2.2.2.2.2.2.2.2.1) == (ByteArray.toList (ByteArray.mk (List.toArray ([] : List UInt8))))))
                bif b174 then
                  obind (ref06_in s125 (116 : Int)) fun y175 =>
                  let b176 : Bool := (!y175.1)
                  bif b176 then
                    some (false, ())
                  else
                    let n177 : Int := (((List.length d127.2.2.2.2.2.2.2.2.2.2.2.2.1) : Nat) : Int)
                    let b178 : Bool := (decide (n177 > (0 : Int)))
                    bif b178 then
                      obind (ref06_in s125 (115 : Int)) fun y179 =>
                      let b180 : Bool := (!y179.1)
                      bif b180 then
                        some (false, ())
                      else
                        ref06_May_3 d127
                    else
                      ref06_May_3 d127
                else
                  let n181 : Int := (((List.length d127.2.2.2.2.2.2.2.2.2.2.2.2.1) : Nat) : Int)
                  let b182 : Bool := (decide (n181 > (0 : Int)))
                  bif b182 then
                    obind (ref06_in s125 (115 : Int)) fun y183 =>
                    let b184 : Bool := (!y183.1)
                    bif b184 then
                      some (false, ())
                    else
                      ref06_May_3 d127
                  else
                    ref06_May_3 d127
            else
              let b185 : Bool := (!((ByteArray.toList d127.2.2.2.2.2.2.2.2.2.2.2.1) == (ByteArray.toList (ByteArray.mk (List.toArray ([] : List UInt8))))))
              bif b185 then
                obind (ref06_in s125 (116 : Int)) fun y186 =>
                let b187 : Bool := (!y186.1)
                bif b187 then
                  some (false, ())
                else
                  let n188 : Int := (((List.length d127.2.2.2.2.2.2.2.2.2.2.2.2.1) : Nat) : Int)
                  let b189 : Bool := (decide (n188 > (0 : Int)))
                  bif b189 then
                    obind (ref06_in s125 (115 : Int)) fun y190 =>
                    let b191 : Bool := (!y190.1)
                    bif b191 then
                      some (false, ())
                    else
                      ref06_May_3 d127
                  else
                    ref06_May_3 d127
              else
                let n192 : Int := (((List.length d127.2.2.2.2.2.2.2.2.2.2.2.2.1) : Nat) : Int)
                let b193 : Bool := (decide (n192 > (0 : Int)))
                bif b193 then
                  obind (ref06_in s125 (115 : Int)) fun y194 =>
                  let b195 : Bool := (!y194.1)
                  bif b195 then
                    some (false, ())
                  else
                    ref06_May_3 d127
                else
                  ref06_May_3 d127
      else
        let b196 : Bool := (!((ByteArray.toList d127.2.2.2.2.2.2.2.2.2.1) == (ByteArray.toList (ByteArray.mk (List.toArray ([] : List UInt8))))))
        bif b196 then
          obind (ref06_in s125 (100 : Int)) fun y197 =>
          let b198 : Bool := (!y197.1)
          bif b198 then
            some (false, ())
          else
            let b199 : Bool := (!((ByteArray.toList d127.2.2.2.2.2.2.2.2.2.2.1) == (ByteArray.toList (ByteArray.mk (List.toArray ([] : List UInt8))))))
            bif b199 then
              obind (ref06_in s125 (110 : Int)) fun y200 =>
              let b201 : Bool := (!y200.1)
              bif b201 then
                some (false, ())
              else
                let b202 : Bool := (!((ByteArray.toList d127.2.2.2.2.2.2.2.2.2.2.2.1) == (ByteArray.toList (ByteArray.mk (List.toArray ([] : List UInt8))))))
                bif b202 then
                  obind (ref06_in s125 (116 : Int)) fun y203 =>
                  let b204 : Bool := (!y203.1)
                  bif b204 then
                    some (false, ())
                  else
                    let n205 : Int := (((List.length d127.2.2.2.2.2.2.2.2.2.2.2.2.1) : Nat) : Int)
                    let b206 : Bool := (decide (n205 > (0 : Int)))
                    bif b206 then
                      obind (ref06_in s125 (115 : Int)) fun y207 =>
                      let b208 : Bool := (!y207.1)
                      bif b208 then
                        some (false, ())
                      else
                        ref06_May_3 d127
                    else
                      ref06_May_3 d127
                else
                  let n209 : Int := (((List.length d127.2.2.2.2.2.2.2.2.2.2.2.2.1) : Nat) : Int)
                  let b210 : Bool := (decide (n209 > (0 : Int)))
                  bif b210 then
                    obind (ref06_in s125 (115 : Int)) fun y211 =>
                    let b212 : Bool := (!y211.1)
                    bif b212 then
                      some (false, ())
                    else
                      ref06_May_3 d127
                  else
                    ref06_May_3 d127
            else
              let b213 : Bool := (!((ByteArray.toList d127.2.2.2.2.2.2.2.2.2.2.2.1) == (ByteArray.toList (ByteArray.mk (List.toArray ([] : List UInt8))))))
              bif b213 then
                obind (ref06_in s125 (116 : Int)) fun y214 =>
                let b215 : Bool := (!y214.1)
                bif b215 then
                  some (false, ())
                else
                  let n216 : Int := (((List.length d127.2.2.2.2.2.2.2.2.2.2.2.2.1) : Nat) : Int)
                  let b217 : Bool := (decide (n216 > (0 : Int)))
                  bif b217 then
                    obind (ref06_in s125 (115 : Int)) fun y218 =>
                    let b219 : Bool := (!y218.1)
                    bif b219 then
                      some (false, ())
                    else
                      ref06_May_3 d127
                  else
                    ref06_May_3 d127
              else
                let n220 : Int := (((List.length d127.2.2.2.2.2.2.2.2.2.2.2.2.1) : Nat) : Int)
                let b221 : Bool := (decide (n220 > (0 : Int)))
                bif b221 then
                  obind (ref06_in s125 (115 : Int)) fun y222 =>
                  let b223 : Bool := (!y222.1)
                  bif b223 then
                    some (false, ())
                  else
                    ref06_May_3 d127
                else
                  ref06_May_3 d127
        else
          let b224 : Bool := (!((ByteArray.toList d127.2.2.2.2.2.2.2.2.2.2.1) == (ByteArray.toList (ByteArray.mk (List.toArray ([] : List UInt8))))))
          bif b224 then
            obind (ref06_in s125 (110 : Int)) fun y225 =>
            let b226 : Bool := (!y225.1)
            bif b226 then
              some (false, ())
            else
              let b227 : Bool := (!((ByteArray.toList d127.2.2.2.2.2.2.2.2.2.2.2.1) == (ByteArray.toList (ByteArray.mk (List.toArray ([] : List UInt8))))))
              bif b227 then
                obind (ref06_in s125 (116 : Int)) fun y228 =>
                let b229 : Bool := (!y228.1)
                bif b229 then
                  some (false, ())
                else
                  let n230 : Int := (((List.length d127.2.2.2.2.2.2.2.2.2.2.2.2.1) : Nat) : Int)
                  let b231 : Bool := (decide (n230 > (0 : Int)))
                  bif b231 then
                    obind (ref06_in s125 (115 : Int)) fun y232 =>
                    let b233 : Bool := (!y232.1)
                    bif b233 then
                      some (false, ())
                    else
                      ref06_May_3 d127
                  else
                    ref06_May_3 d127
              else
                let n234 : Int := (((List.length d127.2.2.2.2.2.2.2.2.2.2.2.2.1) : Nat) : Int)
                let b235 : Bool := (decide (n234 > (0 : Int)))
                bif b235 then
                  obind (ref06_in s125 (115 : Int)) fun y236 =>
                  let b237 : Bool := (!y236.1)
                  bif b237 then
                    some (false, ())
                  else
                    ref06_May_3 d127
                else
                  ref06_May_3 d127
          else
            let b238 : Bool := (!((ByteArray.toList d127.2.2.2.2.2.2.2.2.2.2.2.1) == (ByteArray.toList (ByteArray.mk (List.toArray ([] : List UInt8))))))
            bif b238 then
              obind (ref06_in s125 (116 : Int)) fun y239 =>
              let b240 : Bool := (!y239.1)
              bif b240 then
                some (false, ())
              else
                let n241 : Int := (((List.length d127.2.2.2.2.2.2.2.2.2.2.2.2.1) : Nat) : Int)
                let b242 : Bool := (decide (n241 > (0 : Int)))
                bif b242 then
                  obind (ref06_in s125 (115 : Int)) fun y243 =>
                  let b244 : Bool := (!y243.1)
                  bif b244 then
                    some (false, ())
                  else
                    ref06_May_3 d127
                else
                  ref06_May_3 d127
            else
              let n245 : Int := (((List.length d127.2.2.2.2.2.2.2.2.2.2.2.2.1) : Nat) : Int)
              let b246 : Bool := (decide (n245 > (0 : Int)))
              bif b246 then
                obind (ref06_in s125 (115 : Int)) fun y247 =>
                let b248 : Bool := (!y247.1)
                bif b248 then
                  some (false, ())
                else
                  ref06_May_3 d127
              else
                ref06_May_3 d127
noncomputable def ref06_May_0 : Nat → ByteArray → Int → D_frame_Frame → (List Int) → Option (Bool × Unit)
  | 0 => fun _ _ _ _ => none
  | m + 1 => t_ref06_May_0 (ref06_May_0 m)
noncomputable def b_ref06_May_0' (s125 : ByteArray) (i126 : Int) (d127 : D_frame_Frame) (l128 : (List Int)) : Option (Bool × Unit) := ref06_May_0 (Int.toNat ((((List.length l128) : Nat) : Int) - i126) + 2) s125 i126 d127 l128
theorem ex_ref06_May_0' : ∃ f, f = @b_ref06_May_0' := ⟨_, rfl⟩
noncomputable def ref06_May_0' := Classical.choose ex_ref06_May_0'
theorem ref06_May_0'_eq : @ref06_May_0' = @b_ref06_May_0' := Classical.choose_spec ex_ref06_May_0'
theorem s_ref06_May_0 {base S0 cs0} (hfin : H_ref06_May base S0) : ∀ m, J_ref06_May base S0 cs0 p_ref06_May_0 (u_ref06_May_0 (ref06_May_0 m)) :=
  JSound.loop' hfin.2 ks_ref06_May 100000 u_ref06_May_0 (fun k0 => x_ref06_May_2 k0) (fun k0 h0 => o_ref06_May_2 hfin k0 h0) (ref06_May_0) (by intro x; rfl) (by intro m x; kernel_rfl)
theorem s_ref06_May_0' {base S0 cs0} (hfin : H_ref06_May base S0) : J_ref06_May base S0 cs0 p_ref06_May_0 (u_ref06_May_0 (ref06_May_0')) := by
  rw [ref06_May_0'_eq]; exact fun x r hx => s_ref06_May_0 hfin _ x r hx
noncomputable def x_ref06_May_0 : Cfg → Option (Option (Bool × Unit)) := cut p_ref06_May_0 (u_ref06_May_0 (ref06_May_0')) (x_ref06_May_3)
theorem o_ref06_May_0 {base S0 cs0} (hfin : H_ref06_May base S0) : O_ref06_May base S0 cs0 (x_ref06_May_0) := OSound.cut (o_ref06_May_3 hfin) (Nat.le_of_eq hfin.1) (s_ref06_May_0' hfin)
noncomputable def b_ref06_May (a0 : D_frame_Frame) : Option (Bool × Unit) :=
  obind (ref06_shape a0.1) fun y1 =>
  ref06_May_0' y1.1 (0 : Int) a0 (a0.2.1 :: (a0.2.2.1 :: (a0.2.2.2.1 :: (a0.2.2.2.2.1 :: (a0.2.2.2.2.2.1 :: (a0.2.2.2.2.2.2.1 :: (a0.2.2.2.2.2.2.2.1 :: ([] : List Int))))))))
theorem ex_ref06_May : ∃ f, f = @b_ref06_May := ⟨_, rfl⟩
noncomputable def ref06_May := Classical.choose ex_ref06_May
theorem ref06_May_eq : @ref06_May = @b_ref06_May := Classical.choose_spec ex_ref06_May
noncomputable def cb_ref06_May : Con := ⟨[T_frame_Frame], r_ref06_May, fun x => b_ref06_May x.1⟩
noncomputable def c_ref06_May : Con := ⟨[T_frame_Frame], r_ref06_May, fun x => ref06_May x.1⟩
theorem cb_ref06_May_ok : cb_ref06_May.Sound prog Inv gInv 35 :=
  con_run (M := m_ref06_May) inv_g (f := f35) rfl ks_ref06_May 100000 (X := x_ref06_May_0) (fun base S0 cs0 hn hf => have hfin : H_ref06_May base S0 := ⟨hn, hf⟩; o_ref06_May_0 hfin) (by intro x; kernel_rfl)
theorem c_ref06_May_ok : c_ref06_May.Sound prog Inv gInv 35 := by
  have e : c_ref06_May = cb_ref06_May := by unfold c_ref06_May cb_ref06_May; rw [ref06_May_eq]
  rw [e]; exact cb_ref06_May_ok
end Go.Proofs.YtjdjlijjolibkaaDoor.V
namespace Go.Proofs.YtjdjlijjolibkaaDoor.V
open Go.RowKit Go.Proofs.Tryd
set_option maxRecDepth 100000
set_option linter.unusedVariables false
noncomputable def m_ref01_power : Mach prog Inv gInv := mach bas [(130, f130)] ⟨ok130, trivial⟩ [] trivial [] trivial [] trivial
/-! ### domino/dominoref01.power -/
@[reducible] def r_ref01_power : List Ty := [(.int .u64)]
def ks_ref01_power : List Nat := [130]
abbrev H_ref01_power (base : Base) (S0 : Nat → Prop) := base.n = 0 ∧ FinOk (finR r_ref01_power) base S0 (Post r_ref01_power S0)
abbrev J_ref01_power (base : Base) (S0 : Nat → Prop) (cs0 : List Go.Frame) (p : CPat) (J : denC p → Option (denL r_ref01_power)) := JSound m_ref01_power base S0 cs0 (Post r_ref01_power S0) p J
abbrev O_ref01_power (base : Base) (S0 : Nat → Prop) (cs0 : List Go.Frame) (X : Cfg → Option (Option (denL r_ref01_power))) := OSound m_ref01_power base S0 cs0 (Post r_ref01_power S0) X
@[reducible] noncomputable def p_ref01_power_0 : CPat := ⟨⟨130, [1, 1, 0, 1, 0], none, [.int .i64, .any, .any, .int .u64, .int .i64], 8⟩, [], [], 0⟩
@[reducible] noncomputable def u_ref01_power_0 (k : Int → Int → Int → Option (Int × Unit)) : denC p_ref01_power_0 → Option (Int × Unit) := fun x => k x.1.1 x.1.2.2.2.1 x.1.2.2.2.2.1
noncomputable def t_ref01_power_0 (k0 : Int → Int → Int → Option (Int × Unit)) (i3 : Int) (i4 : Int) (i5 : Int) : Option (Int × Unit) :=
  let b6 : Bool := (decide (i5 < i3))
  bif b6 then
    let n7 : Int := (Go.IntKind.wrap Go.IntKind.u64 (i4 * (2 : Int)))
    let n8 : Int := (Go.IntKind.wrap Go.IntKind.i64 (i5 + (1 : Int)))
    k0 i3 n7 n8
  else
    some (i4, ())
noncomputable def ref01_power_0 : Nat → Int → Int → Int → Option (Int × Unit)
  | 0 => fun _ _ _ => none
  | m + 1 => t_ref01_power_0 (ref01_power_0 m)
noncomputable def b_ref01_power_0' (i3 : Int) (i4 : Int) (i5 : Int) : Option (Int × Unit) := ref01_power_0 (Int.toNat (i3 - i5) + 2) i3 i4 i5
theorem ex_ref01_power_0' : ∃ f, f = @b_ref01_power_0' := ⟨_, rfl⟩
noncomputable def ref01_power_0' := Classical.choose ex_ref01_power_0'
theorem ref01_power_0'_eq : @ref01_power_0' = @b_ref01_power_0' := Classical.choose_spec ex_ref01_power_0'
theorem s_ref01_power_0 {base S0 cs0} (hfin : H_ref01_power base S0) : ∀ m, J_ref01_power base S0 cs0 p_ref01_power_0 (u_ref01_power_0 (ref01_power_0 m)) :=
  JSound.loop' hfin.2 ks_ref01_power 100000 u_ref01_power_0 (fun k0 => cut p_ref01_power_0 (u_ref01_power_0 k0) (nowhere)) (fun k0 h0 => OSound.cut (OSound.nowhere) (Nat.le_of_eq hfin.1) h0) (ref01_power_0) (by intro x; rfl) (by intro m x; kernel_rfl)
theorem s_ref01_power_0' {base S0 cs0} (hfin : H_ref01_power base S0) : J_ref01_power base S0 cs0 p_ref01_power_0 (u_ref01_power_0 (ref01_power_0')) := by
  rw [ref01_power_0'_eq]; exact fun x r hx => s_ref01_power_0 hfin _ x r hx
noncomputable def x_ref01_power_0 : Cfg → Option (Option (Int × Unit)) := cut p_ref01_power_0 (u_ref01_power_0 (ref01_power_0')) (nowhere)
theorem o_ref01_power_0 {base S0 cs0} (hfin : H_ref01_power base S0) : O_ref01_power base S0 cs0 (x_ref01_power_0) := OSound.cut (OSound.nowhere) (Nat.le_of_eq hfin.1) (s_ref01_power_0' hfin)
noncomputable def b_ref01_power (a0 : Int) : Option (Int × Unit) :=
  ref01_power_0' a0 (1 : Int) (0 : Int)
theorem ex_ref01_power : ∃ f, f = @b_ref01_power := ⟨_, rfl⟩
noncomputable def ref01_power := Classical.choose ex_ref01_power
theorem ref01_power_eq : @ref01_power = @b_ref01_power := Classical.choose_spec ex_ref01_power
noncomputable def cb_ref01_power : Con := ⟨[(.int .i64)], r_ref01_power, fun x => b_ref01_power x.1⟩
noncomputable def c_ref01_power : Con := ⟨[(.int .i64)], r_ref01_power, fun x => ref01_power x.1⟩
theorem cb_ref01_power_ok : cb_ref01_power.Sound prog Inv gInv 130 :=
  con_run (M := m_ref01_power) inv_g (f := f130) rfl ks_ref01_power 100000 (X := x_ref01_power_0) (fun base S0 cs0 hn hf => have hfin : H_ref01_power base S0 := ⟨hn, hf⟩; o_ref01_power_0 hfin) (by intro x; kernel_rfl)
theorem c_ref01_power_ok : c_ref01_power.Sound prog Inv gInv 130 := by
  have e : c_ref01_power = cb_ref01_power := by unfold c_ref01_power cb_ref01_power; rw [ref01_power_eq]
  rw [e]; exact cb_ref01_power_ok
end Go.Proofs.YtjdjlijjolibkaaDoor.V
namespace Go.Proofs.YtjdjlijjolibkaaDoor.V
open Go.RowKit Go.Proofs.Tryd
set_option maxRecDepth 100000
set_option linter.unusedVariables false
noncomputable def m_ref01_Size : Mach prog Inv gInv := mach bas [(93, f93)] ⟨ok93, trivial⟩ [(130, c_ref01_power)] ⟨⟨c_ref01_power_ok, FnOk.callable ok130⟩, trivial⟩ [] trivial [] trivial
/-! ### domino/dominoref01.Size -/
@[reducible] def r_ref01_Size : List Ty := [(.int .i64)]
def ks_ref01_Size : List Nat := [93]
noncomputable def b_ref01_Size (a0 : Int) : Option (Int × Unit) :=
  obind (ref01_power (6 : Int)) fun y1 =>
  let b2 : Bool := (decide (a0 < y1.1))
  bif b2 then
    some ((1 : Int), ())
  else
    obind (ref01_power (14 : Int)) fun y3 =>
    let b4 : Bool := (decide (a0 < y3.1))
    bif b4 then
      some ((2 : Int), ())
    else
      obind (ref01_power (30 : Int)) fun y5 =>
      let b6 : Bool := (decide (a0 < y5.1))
      bif b6 then
        some ((4 : Int), ())
      else
        obind (ref01_power (62 : Int)) fun y7 =>
        let b8 : Bool := (decide (a0 < y7.1))
        bif b8 then
          some ((8 : Int), ())
        else
          some ((0 : Int), ())
theorem ex_ref01_Size : ∃ f, f = @b_ref01_Size := ⟨_, rfl⟩
noncomputable def ref01_Size := Classical.choose ex_ref01_Size
theorem ref01_Size_eq : @ref01_Size = @b_ref01_Size := Classical.choose_spec ex_ref01_Size
noncomputable def cb_ref01_Size : Con := ⟨[(.int .u64)], r_ref01_Size, fun x => b_ref01_Size x.1⟩
noncomputable def c_ref01_Size : Con := ⟨[(.int .u64)], r_ref01_Size, fun x => ref01_Size x.1⟩
theorem cb_ref01_Size_ok : cb_ref01_Size.Sound prog Inv gInv 93 :=
  con_run (M := m_ref01_Size) inv_g (f := f93) rfl ks_ref01_Size 100000 (X := nowhere) (fun base S0 cs0 hn hf => OSound.nowhere) (by intro x; kernel_rfl)
theorem c_ref01_Size_ok : c_ref01_Size.Sound prog Inv gInv 93 := by
  have e : c_ref01_Size = cb_ref01_Size := by unfold c_ref01_Size cb_ref01_Size; rw [ref01_Size_eq]
  rw [e]; exact cb_ref01_Size_ok
end Go.Proofs.YtjdjlijjolibkaaDoor.V
namespace Go.Proofs.YtjdjlijjolibkaaDoor.V
open Go.RowKit Go.Proofs.Tryd
set_option maxRecDepth 100000
set_option linter.unusedVariables false
noncomputable def m_ref01_Fixed : Mach prog Inv gInv := mach bas [(148, f148)] ⟨ok148, trivial⟩ [(130, c_ref01_power)] ⟨⟨c_ref01_power_ok, FnOk.callable ok130⟩, trivial⟩ [] trivial [] trivial
/-! ### domino/dominoref01.Fixed -/
@[reducible] def r_ref01_Fixed : List Ty := [.str]
def ks_ref01_Fixed : List Nat := [148]
abbrev H_ref01_Fixed (base : Base) (S0 : Nat → Prop) := base.n = 0 ∧ FinOk (finR r_ref01_Fixed) base S0 (Post r_ref01_Fixed S0)
abbrev J_ref01_Fixed (base : Base) (S0 : Nat → Prop) (cs0 : List Go.Frame) (p : CPat) (J : denC p → Option (denL r_ref01_Fixed)) := JSound m_ref01_Fixed base S0 cs0 (Post r_ref01_Fixed S0) p J
abbrev O_ref01_Fixed (base : Base) (S0 : Nat → Prop) (cs0 : List Go.Frame) (X : Cfg → Option (Option (denL r_ref01_Fixed))) := OSound m_ref01_Fixed base S0 cs0 (Post r_ref01_Fixed S0) X
@[reducible] noncomputable def p_ref01_Fixed_0 : CPat := ⟨⟨148, [1, 1, 0, 1, 0], none, [.int .u64, .any, .any, .any, .any, .all 0, .int .i64], 21⟩, [], [.row (.byt 5)], 0⟩
@[reducible] noncomputable def u_ref01_Fixed_0 (k : Int → Int → (List Int) → Option (ByteArray × Unit)) : denC p_ref01_Fixed_0 → Option (ByteArray × Unit) := fun x => k x.1.1 x.1.2.2.2.2.2.2.1 x.2.2.1
noncomputable def t_ref01_Fixed_0 (k0 : Int → Int → (List Int) → Option (ByteArray × Unit)) (i6 : Int) (i7 : Int) (l8 : (List Int)) : Option (ByteArray × Unit) :=
  let b9 : Bool := (decide (i7 ≥ (0 : Int)))
  bif b9 then
    let n10 : Int := (Go.IntKind.wrap Go.IntKind.i64 ((8 : Int) * i7))
    obind (ref01_power n10) fun y11 =>
    bif (decide (y11.1 ≠ (0 : Int))) then
      let n12 : Int := (Go.IntKind.wrap Go.IntKind.u64 (Int.tdiv i6 y11.1))
      let n13 : Int := (Int.tmod n12 (256 : Int))
      let n14 : Int := (Go.IntKind.wrap Go.IntKind.u8 n13)
      bif (decide (((List.length l8) + (List.length (n14 :: ([] : List Int)))) ≤ 4294967296)) then
        let l15 : (List Int) := (l8 ++ (n14 :: ([] : List Int)))
        let n16 : Int := (Go.IntKind.wrap Go.IntKind.i64 (i7 - (1 : Int)))
        k0 i6 n16 l15
      else none
    else none
  else
    let s17 : ByteArray := (bytesStr l8)
    some (s17, ())
noncomputable def ref01_Fixed_0 : Nat → Int → Int → (List Int) → Option (ByteArray × Unit)
  | 0 => fun _ _ _ => none
  | m + 1 => t_ref01_Fixed_0 (ref01_Fixed_0 m)
noncomputable def b_ref01_Fixed_0' (i6 : Int) (i7 : Int) (l8 : (List Int)) : Option (ByteArray × Unit) := ref01_Fixed_0 (Int.toNat (i7 - (0 : Int)) + 2) i6 i7 l8
theorem ex_ref01_Fixed_0' : ∃ f, f = @b_ref01_Fixed_0' := ⟨_, rfl⟩
noncomputable def ref01_Fixed_0' := Classical.choose ex_ref01_Fixed_0'
theorem ref01_Fixed_0'_eq : @ref01_Fixed_0' = @b_ref01_Fixed_0' := Classical.choose_spec ex_ref01_Fixed_0'
theorem s_ref01_Fixed_0 {base S0 cs0} (hfin : H_ref01_Fixed base S0) : ∀ m, J_ref01_Fixed base S0 cs0 p_ref01_Fixed_0 (u_ref01_Fixed_0 (ref01_Fixed_0 m)) :=
  JSound.loop' hfin.2 ks_ref01_Fixed 100000 u_ref01_Fixed_0 (fun k0 => cut p_ref01_Fixed_0 (u_ref01_Fixed_0 k0) (nowhere)) (fun k0 h0 => OSound.cut (OSound.nowhere) (Nat.le_of_eq hfin.1) h0) (ref01_Fixed_0) (by intro x; rfl) (by intro m x; kernel_rfl)
theorem s_ref01_Fixed_0' {base S0 cs0} (hfin : H_ref01_Fixed base S0) : J_ref01_Fixed base S0 cs0 p_ref01_Fixed_0 (u_ref01_Fixed_0 (ref01_Fixed_0')) := by
  rw [ref01_Fixed_0'_eq]; exact fun x r hx => s_ref01_Fixed_0 hfin _ x r hx
noncomputable def x_ref01_Fixed_0 : Cfg → Option (Option (ByteArray × Unit)) := cut p_ref01_Fixed_0 (u_ref01_Fixed_0 (ref01_Fixed_0')) (nowhere)
theorem o_ref01_Fixed_0 {base S0 cs0} (hfin : H_ref01_Fixed base S0) : O_ref01_Fixed base S0 cs0 (x_ref01_Fixed_0) := OSound.cut (OSound.nowhere) (Nat.le_of_eq hfin.1) (s_ref01_Fixed_0' hfin)
noncomputable def b_ref01_Fixed (a0 : Int) (a1 : Int) : Option (ByteArray × Unit) :=
  let s2 : ByteArray := (ByteArray.mk (List.toArray ([] : List UInt8)))
  let n3 : Int := (if ((8 : Int) < a1) then (8 : Int) else a1)
  let n4 : Int := (if ((0 : Int) > n3) then (0 : Int) else n3)
  let n5 : Int := (Go.IntKind.wrap Go.IntKind.i64 (n4 - (1 : Int)))
  ref01_Fixed_0' a0 n5 ([] : List Int)
theorem ex_ref01_Fixed : ∃ f, f = @b_ref01_Fixed := ⟨_, rfl⟩
noncomputable def ref01_Fixed := Classical.choose ex_ref01_Fixed
theorem ref01_Fixed_eq : @ref01_Fixed = @b_ref01_Fixed := Classical.choose_spec ex_ref01_Fixed
noncomputable def cb_ref01_Fixed : Con := ⟨[(.int .u64), (.int .i64)], r_ref01_Fixed, fun x => b_ref01_Fixed x.1 x.2.1⟩
noncomputable def c_ref01_Fixed : Con := ⟨[(.int .u64), (.int .i64)], r_ref01_Fixed, fun x => ref01_Fixed x.1 x.2.1⟩
theorem cb_ref01_Fixed_ok : cb_ref01_Fixed.Sound prog Inv gInv 148 :=
  con_run (M := m_ref01_Fixed) inv_g (f := f148) rfl ks_ref01_Fixed 100000 (X := x_ref01_Fixed_0) (fun base S0 cs0 hn hf => have hfin : H_ref01_Fixed base S0 := ⟨hn, hf⟩; o_ref01_Fixed_0 hfin) (by intro x; kernel_rfl)
theorem c_ref01_Fixed_ok : c_ref01_Fixed.Sound prog Inv gInv 148 := by
  have e : c_ref01_Fixed = cb_ref01_Fixed := by unfold c_ref01_Fixed cb_ref01_Fixed; rw [ref01_Fixed_eq]
  rw [e]; exact cb_ref01_Fixed_ok
end Go.Proofs.YtjdjlijjolibkaaDoor.V
namespace Go.Proofs.YtjdjlijjolibkaaDoor.V
open Go.RowKit Go.Proofs.Tryd
set_option maxRecDepth 100000
set_option linter.unusedVariables false
noncomputable def m_ref01_Put : Mach prog Inv gInv := mach bas [(119, f119)] ⟨ok119, trivial⟩ [(93, c_ref01_Size), (130, c_ref01_power), (148, c_ref01_Fixed)] ⟨⟨c_ref01_Size_ok, FnOk.callable ok93⟩, ⟨c_ref01_power_ok, FnOk.callable ok130⟩, ⟨c_ref01_Fixed_ok, FnOk.callable ok148⟩, trivial⟩ [] trivial [] trivial
/-! ### domino/dominoref01.Put -/
@[reducible] def r_ref01_Put : List Ty := [.str, (.int .i64)]
def ks_ref01_Put : List Nat := [119]
noncomputable def b_ref01_Put (a0 : Int) : Option (ByteArray × Int × Unit) :=
  let s1 : ByteArray := (ByteArray.mk (List.toArray ([] : List UInt8)))
  obind (ref01_Size a0) fun y2 =>
  let b3 : Bool := (y2.1 == (1 : Int))
  bif b3 then
    obind (ref01_Fixed a0 (1 : Int)) fun y4 =>
    some (y4.1, ((0 : Int), ()))
  else
    let b5 : Bool := (y2.1 == (2 : Int))
    bif b5 then
      obind (ref01_power (14 : Int)) fun y6 =>
      let n7 : Int := (Go.IntKind.wrap Go.IntKind.u64 (a0 + y6.1))
      obind (ref01_Fixed n7 (2 : Int)) fun y8 =>
      some (y8.1, ((0 : Int), ()))
    else
      let b9 : Bool := (y2.1 == (4 : Int))
      bif b9 then
        obind (ref01_power (30 : Int)) fun y10 =>
        let n11 : Int := (Go.IntKind.wrap Go.IntKind.u64 ((2 : Int) * y10.1))
        let n12 : Int := (Go.IntKind.wrap Go.IntKind.u64 (a0 + n11))
        obind (ref01_Fixed n12 (4 : Int)) fun y13 =>
        some (y13.1, ((0 : Int), ()))
      else
        let b14 : Bool := (y2.1 == (8 : Int))
        bif b14 then
          obind (ref01_power (62 : Int)) fun y15 =>
          let n16 : Int := (Go.IntKind.wrap Go.IntKind.u64 ((3 : Int) * y15.1))
          let n17 : Int := (Go.IntKind.wrap Go.IntKind.u64 (a0 + n16))
          obind (ref01_Fixed n17 (8 : Int)) fun y18 =>
          some (y18.1, ((0 : Int), ()))
        else
          let s19 : ByteArray := (ByteArray.mk (List.toArray ([] : List UInt8)))
          some (s19, ((1 : Int), ()))
theorem ex_ref01_Put : ∃ f, f = @b_ref01_Put := ⟨_, rfl⟩
noncomputable def ref01_Put := Classical.choose ex_ref01_Put
theorem ref01_Put_eq : @ref01_Put = @b_ref01_Put := Classical.choose_spec ex_ref01_Put
noncomputable def cb_ref01_Put : Con := ⟨[(.int .u64)], r_ref01_Put, fun x => b_ref01_Put x.1⟩
noncomputable def c_ref01_Put : Con := ⟨[(.int .u64)], r_ref01_Put, fun x => ref01_Put x.1⟩
theorem cb_ref01_Put_ok : cb_ref01_Put.Sound prog Inv gInv 119 :=
  con_run (M := m_ref01_Put) inv_g (f := f119) rfl ks_ref01_Put 100000 (X := nowhere) (fun base S0 cs0 hn hf => OSound.nowhere) (by intro x; kernel_rfl)
theorem c_ref01_Put_ok : c_ref01_Put.Sound prog Inv gInv 119 := by
  have e : c_ref01_Put = cb_ref01_Put := by unfold c_ref01_Put cb_ref01_Put; rw [ref01_Put_eq]
  rw [e]; exact cb_ref01_Put_ok
end Go.Proofs.YtjdjlijjolibkaaDoor.V
namespace Go.Proofs.YtjdjlijjolibkaaDoor.V
open Go.RowKit Go.Proofs.Tryd
set_option maxRecDepth 100000
set_option linter.unusedVariables false
noncomputable def m_ref06_v : Mach prog Inv gInv := mach bas [(77, f77)] ⟨ok77, trivial⟩ [(119, c_ref01_Put)] ⟨⟨c_ref01_Put_ok, FnOk.callable ok119⟩, trivial⟩ [] trivial [] trivial
/-! ### domino/dominoref06.v -/
@[reducible] def r_ref06_v : List Ty := [.str]
def ks_ref06_v : List Nat := [77]
noncomputable def b_ref06_v (a0 : Int) : Option (ByteArray × Unit) :=
  let s1 : ByteArray := (ByteArray.mk (List.toArray ([] : List UInt8)))
  obind (ref01_Put a0) fun y2 =>
  some (y2.1, ())
theorem ex_ref06_v : ∃ f, f = @b_ref06_v := ⟨_, rfl⟩
noncomputable def ref06_v := Classical.choose ex_ref06_v
theorem ref06_v_eq : @ref06_v = @b_ref06_v := Classical.choose_spec ex_ref06_v
noncomputable def cb_ref06_v : Con := ⟨[(.int .u64)], r_ref06_v, fun x => b_ref06_v x.1⟩
noncomputable def c_ref06_v : Con := ⟨[(.int .u64)], r_ref06_v, fun x => ref06_v x.1⟩
theorem cb_ref06_v_ok : cb_ref06_v.Sound prog Inv gInv 77 :=
  con_run (M := m_ref06_v) inv_g (f := f77) rfl ks_ref06_v 100000 (X := nowhere) (fun base S0 cs0 hn hf => OSound.nowhere) (by intro x; kernel_rfl)
theorem c_ref06_v_ok : c_ref06_v.Sound prog Inv gInv 77 := by
  have e : c_ref06_v = cb_ref06_v := by unfold c_ref06_v cb_ref06_v; rw [ref06_v_eq]
  rw [e]; exact cb_ref06_v_ok
end Go.Proofs.YtjdjlijjolibkaaDoor.V
namespace Go.Proofs.YtjdjlijjolibkaaDoor.V
open Go.RowKit Go.Proofs.Tryd
set_option maxRecDepth 100000
set_option linter.unusedVariables false
noncomputable def m_ref06_ack : Mach prog Inv gInv := mach bas [(78, f78)] ⟨ok78, trivial⟩ [(77, c_ref06_v)] ⟨⟨c_ref06_v_ok, FnOk.callable ok77⟩, trivial⟩ [] trivial [] trivial
/-! ### domino/dominoref06.ack -/
@[reducible] def r_ref06_ack : List Ty := [.str]
def ks_ref06_ack : List Nat := [78]
abbrev H_ref06_ack (base : Base) (S0 : Nat → Prop) := base.n = 0 ∧ FinOk (finR r_ref06_ack) base S0 (Post r_ref06_ack S0)
abbrev J_ref06_ack (base : Base) (S0 : Nat → Prop) (cs0 : List Go.Frame) (p : CPat) (J : denC p → Option (denL r_ref06_ack)) := JSound m_ref06_ack base S0 cs0 (Post r_ref06_ack S0) p J
abbrev O_ref06_ack (base : Base) (S0 : Nat → Prop) (cs0 : List Go.Frame) (X : Cfg → Option (Option (denL r_ref06_ack))) := OSound m_ref06_ack base S0 cs0 (Post r_ref06_ack S0) X
@[reducible] noncomputable def p_ref06_ack_0 : CPat := ⟨⟨78, [1, 1, 1, 0, 1, 0], none, [.any, .ptr 0 0, .any, .any, .str, .int .i64], 74⟩, [], [.dat 60 T_frame_Frame], 0⟩
@[reducible] noncomputable def u_ref06_ack_0 (k : ByteArray → Int → D_frame_Frame → Option (ByteArray × Unit)) : denC p_ref06_ack_0 → Option (ByteArray × Unit) := fun x => k x.1.2.2.2.2.1 x.1.2.2.2.2.2.1 x.2.2.1
noncomputable def t_ref06_ack_0 (k0 : ByteArray → Int → D_frame_Frame → Option (ByteArray × Unit)) (s17 : ByteArray) (i18 : Int) (d19 : D_frame_Frame) : Option (ByteArray × Unit) :=
  let b20 : Bool := (decide (i18 ≥ (0 : Int)))
  bif b20 then
    let n21 : Int := (Go.IntKind.wrap Go.IntKind.i64 (i18 + (1 : Int)))
    bif (decide (((0 : Int) ≤ n21) ∧ (n21 < (((List.length d19.2.2.2.2.2.2.2.2.2.2.2.2.1) : Nat) : Int)))) then
      let x22 : D_ranges_Range := (List.getD d19.2.2.2.2.2.2.2.2.2.2.2.2.1 (Int.toNat n21) (Ty.dflt T_ranges_Range))
      bif (decide (((0 : Int) ≤ i18) ∧ (i18 < (((List.length d19.2.2.2.2.2.2.2.2.2.2.2.2.1) : Nat) : Int)))) then
        let x23 : D_ranges_Range := (List.getD d19.2.2.2.2.2.2.2.2.2.2.2.2.1 (Int.toNat i18) (Ty.dflt T_ranges_Range))
        let n24 : Int := (Go.IntKind.wrap Go.IntKind.u64 (x22.1 - x23.2.1))
        let n25 : Int := (Go.IntKind.wrap Go.IntKind.u64 (n24 - (2 : Int)))
        obind (ref06_v n25) fun y26 =>
        bif (decide (((ByteArray.size s17) + (ByteArray.size y26.1)) ≤ 9223372036854775807)) then
          let s27 : ByteArray := (s17 ++ y26.1)
          bif (decide (((0 : Int) ≤ i18) ∧ (i18 < (((List.length d19.2.2.2.2.2.2.2.2.2.2.2.2.1) : Nat) : Int)))) then
            let x28 : D_ranges_Range := (List.getD d19.2.2.2.2.2.2.2.2.2.2.2.2.1 (Int.toNat i18) (Ty.dflt T_ranges_Range))
            bif (decide (((0 : Int) ≤ i18) ∧ (i18 < (((List.length d19.2.2.2.2.2.2.2.2.2.2.2.2.1) : Nat) : Int)))) then
              let x29 : D_ranges_Range := (List.getD d19.2.2.2.2.2.2.2.2.2.2.2.2.1 (Int.toNat i18) (Ty.dflt T_ranges_Range))
              let n30 : Int := (Go.IntKind.wrap Go.IntKind.u64 (x28.2.1 - x29.1))
              obind (ref06_v n30) fun y31 =>
              bif (decide (((ByteArray.size s27) + (ByteArray.size y31.1)) ≤ 9223372036854775807)) then
                let s32 : ByteArray := (s27 ++ y31.1)
                let n33 : Int := (Go.IntKind.wrap Go.IntKind.i64 (i18 - (1 : Int)))
                k0 s32 n33 d19
              else none
            else none
          else none
        else none
      else none
    else none
  else
    some (s17, ())
noncomputable def ref06_ack_0 : Nat → ByteArray → Int → D_frame_Frame → Option (ByteArray × Unit)
  | 0 => fun _ _ _ => none
  | m + 1 => t_ref06_ack_0 (ref06_ack_0 m)
noncomputable def b_ref06_ack_0' (s17 : ByteArray) (i18 : Int) (d19 : D_frame_Frame) : Option (ByteArray × Unit) := ref06_ack_0 (Int.toNat (i18 - (0 : Int)) + 2) s17 i18 d19
theorem ex_ref06_ack_0' : ∃ f, f = @b_ref06_ack_0' := ⟨_, rfl⟩
noncomputable def ref06_ack_0' := Classical.choose ex_ref06_ack_0'
theorem ref06_ack_0'_eq : @ref06_ack_0' = @b_ref06_ack_0' := Classical.choose_spec ex_ref06_ack_0'
theorem s_ref06_ack_0 {base S0 cs0} (hfin : H_ref06_ack base S0) : ∀ m, J_ref06_ack base S0 cs0 p_ref06_ack_0 (u_ref06_ack_0 (ref06_ack_0 m)) :=
  JSound.loop' hfin.2 ks_ref06_ack 100000 u_ref06_ack_0 (fun k0 => cut p_ref06_ack_0 (u_ref06_ack_0 k0) (nowhere)) (fun k0 h0 => OSound.cut (OSound.nowhere) (Nat.le_of_eq hfin.1) h0) (ref06_ack_0) (by intro x; rfl) (by intro m x; kernel_rfl)
theorem s_ref06_ack_0' {base S0 cs0} (hfin : H_ref06_ack base S0) : J_ref06_ack base S0 cs0 p_ref06_ack_0 (u_ref06_ack_0 (ref06_ack_0')) := by
  rw [ref06_ack_0'_eq]; exact fun x r hx => s_ref06_ack_0 hfin _ x r hx
noncomputable def x_ref06_ack_0 : Cfg → Option (Option (ByteArray × Unit)) := cut p_ref06_ack_0 (u_ref06_ack_0 (ref06_ack_0')) (nowhere)
theorem o_ref06_ack_0 {base S0 cs0} (hfin : H_ref06_ack base S0) : O_ref06_ack base S0 cs0 (x_ref06_ack_0) := OSound.cut (OSound.nowhere) (Nat.le_of_eq hfin.1) (s_ref06_ack_0' hfin)
noncomputable def b_ref06_ack (a0 : D_frame_Frame) : Option (ByteArray × Unit) :=
  let s1 : ByteArray := (ByteArray.mk (List.toArray ([] : List UInt8)))
  let n2 : Int := (((List.length a0.2.2.2.2.2.2.2.2.2.2.2.2.1) : Nat) : Int)
  let n3 : Int := (Go.IntKind.wrap Go.IntKind.i64 (n2 - (1 : Int)))
  bif (decide (((0 : Int) ≤ n3) ∧ (n3 < (((List.length a0.2.2.2.2.2.2.2.2.2.2.2.2.1) : Nat) : Int)))) then
    let x4 : D_ranges_Range := (List.getD a0.2.2.2.2.2.2.2.2.2.2.2.2.1 (Int.toNat n3) (Ty.dflt T_ranges_Range))
    obind (ref06_v x4.2.1) fun y5 =>
    obind (ref06_v a0.2.2.2.2.2.2.2.1) fun y6 =>
    bif (decide (((ByteArray.size y5.1) + (ByteArray.size y6.1)) ≤ 9223372036854775807)) then
      let s7 : ByteArray := (y5.1 ++ y6.1)
      let n8 : Int := (Go.IntKind.wrap Go.IntKind.u64 n3)
      obind (ref06_v n8) fun y9 =>
      bif (decide (((ByteArray.size s7) + (ByteArray.size y9.1)) ≤ 9223372036854775807)) then
        let s10 : ByteArray := (s7 ++ y9.1)
        bif (decide (((0 : Int) ≤ n3) ∧ (n3 < (((List.length a0.2.2.2.2.2.2.2.2.2.2.2.2.1) : Nat) : Int)))) then
          let x11 : D_ranges_Range := (List.getD a0.2.2.2.2.2.2.2.2.2.2.2.2.1 (Int.toNat n3) (Ty.dflt T_ranges_Range))
          bif (decide (((0 : Int) ≤ n3) ∧ (n3 < (((List.length a0.2.2.2.2.2.2.2.2.2.2.2.2.1) : Nat) : Int)))) then
            let x12 : D_ranges_Range := (List.getD a0.2.2.2.2.2.2.2.2.2.2.2.2.1 (Int.toNat n3) (Ty.dflt T_ranges_Range))
            let n13 : Int := (Go.IntKind.wrap Go.IntKind.u64 (x11.2.1 - x12.1))
            obind (ref06_v n13) fun y14 =>
            bif (decide (((ByteArray.size s10) + (ByteArray.size y14.1)) ≤ 9223372036854775807)) then
              let s15 : ByteArray := (s10 ++ y14.1)
              let n16 : Int := (Go.IntKind.wrap Go.IntKind.i64 (n3 - (1 : Int)))
              ref06_ack_0' s15 n16 a0
            else none
          else none
        else none
      else none
    else none
  else none
theorem ex_ref06_ack : ∃ f, f = @b_ref06_ack := ⟨_, rfl⟩
noncomputable def ref06_ack := Classical.choose ex_ref06_ack
theorem ref06_ack_eq : @ref06_ack = @b_ref06_ack := Classical.choose_spec ex_ref06_ack
noncomputable def cb_ref06_ack : Con := ⟨[T_frame_Frame], r_ref06_ack, fun x => b_ref06_ack x.1⟩
noncomputable def c_ref06_ack : Con := ⟨[T_frame_Frame], r_ref06_ack, fun x => ref06_ack x.1⟩
theorem cb_ref06_ack_ok : cb_ref06_ack.Sound prog Inv gInv 78 :=
  con_run (M := m_ref06_ack) inv_g (f := f78) rfl ks_ref06_ack 100000 (X := x_ref06_ack_0) (fun base S0 cs0 hn hf => have hfin : H_ref06_ack base S0 := ⟨hn, hf⟩; o_ref06_ack_0 hfin) (by intro x; kernel_rfl)
theorem c_ref06_ack_ok : c_ref06_ack.Sound prog Inv gInv 78 := by
  have e : c_ref06_ack = cb_ref06_ack := by unfold c_ref06_ack cb_ref06_ack; rw [ref06_ack_eq]
  rw [e]; exact cb_ref06_ack_ok
end Go.Proofs.YtjdjlijjolibkaaDoor.V
namespace Go.Proofs.YtjdjlijjolibkaaDoor.V
open Go.RowKit Go.Proofs.Tryd
set_option maxRecDepth 100000
set_option linter.unusedVariables false
noncomputable def m_ref06_text : Mach prog Inv gInv := mach bas [(79, f79)] ⟨ok79, trivial⟩ [(77, c_ref06_v)] ⟨⟨c_ref06_v_ok, FnOk.callable ok77⟩, trivial⟩ [] trivial [] trivial
/-! ### domino/dominoref06.text -/
@[reducible] def r_ref06_text : List Ty := [.str]
def ks_ref06_text : List Nat := [79]
noncomputable def b_ref06_text (a0 : ByteArray) : Option (ByteArray × Unit) :=
  let s1 : ByteArray := (ByteArray.mk (List.toArray ([] : List UInt8)))
  let n2 : Int := (((ByteArray.size a0) : Nat) : Int)
  let n3 : Int := (Go.IntKind.wrap Go.IntKind.u64 n2)
  obind (ref06_v n3) fun y4 =>
  bif (decide (((ByteArray.size y4.1) + (ByteArray.size a0)) ≤ 9223372036854775807)) then
    let s5 : ByteArray := (y4.1 ++ a0)
    some (s5, ())
  else none
theorem ex_ref06_text : ∃ f, f = @b_ref06_text := ⟨_, rfl⟩
noncomputable def ref06_text := Classical.choose ex_ref06_text
theorem ref06_text_eq : @ref06_text = @b_ref06_text := Classical.choose_spec ex_ref06_text
noncomputable def cb_ref06_text : Con := ⟨[.str], r_ref06_text, fun x => b_ref06_text x.1⟩
noncomputable def c_ref06_text : Con := ⟨[.str], r_ref06_text, fun x => ref06_text x.1⟩
theorem cb_ref06_text_ok : cb_ref06_text.Sound prog Inv gInv 79 :=
  con_run (M := m_ref06_text) inv_g (f := f79) rfl ks_ref06_text 100000 (X := nowhere) (fun base S0 cs0 hn hf => OSound.nowhere) (by intro x; kernel_rfl)
theorem c_ref06_text_ok : c_ref06_text.Sound prog Inv gInv 79 := by
  have e : c_ref06_text = cb_ref06_text := by unfold c_ref06_text cb_ref06_text; rw [ref06_text_eq]
  rw [e]; exact cb_ref06_text_ok
end Go.Proofs.YtjdjlijjolibkaaDoor.V
namespace Go.Proofs.YtjdjlijjolibkaaDoor.V
open Go.RowKit Go.Proofs.Tryd
set_option maxRecDepth 100000
set_option linter.unusedVariables false
noncomputable def m_ref06_Put : Mach prog Inv gInv := mach bas [(32, f32)] ⟨ok32, trivial⟩ [(35, c_ref06_May), (77, c_ref06_v), (78, c_ref06_ack), (79, c_ref06_text)] ⟨⟨c_ref06_May_ok, FnOk.callable ok35⟩, ⟨c_ref06_v_ok, FnOk.callable ok77⟩, ⟨c_ref06_ack_ok, FnOk.callable ok78⟩, ⟨c_ref06_text_ok, FnOk.callable ok79⟩, trivial⟩ [] trivial [] trivial
/-! ### domino/dominoref06.Put -/
@[reducible] def r_ref06_Put : List Ty := [.str, (.int .i64)]
def ks_ref06_Put : List Nat := [32]
abbrev H_ref06_Put (base : Base) (S0 : Nat → Prop) := base.n = 0 ∧ FinOk (finR r_ref06_Put) base S0 (Post r_ref06_Put S0)
abbrev J_ref06_Put (base : Base) (S0 : Nat → Prop) (cs0 : List Go.Frame) (p : CPat) (J : denC p → Option (denL r_ref06_Put)) := JSound m_ref06_Put base S0 cs0 (Post r_ref06_Put S0) p J
abbrev O_ref06_Put (base : Base) (S0 : Nat → Prop) (cs0 : List Go.Frame) (X : Cfg → Option (Option (denL r_ref06_Put))) := OSound m_ref06_Put base S0 cs0 (Post r_ref06_Put S0) X
@[reducible] noncomputable def p_ref06_Put_4 : CPat := ⟨⟨32, [1, 1, 1, 0, 1, 0, 1, 1, 1, 1, 1, 1, 1, 1, 1, 1, 1, 1, 1, 1, 1, 1, 1, 1, 1], none, [.any, .ptr 0 0, .any, .any, .str, .any, .any, .any, .any, .any, .any, .any, .any, .any, .int .u64, .any, .any, .any, .any, .any, .any, .any, .any, .any, .any, .any, .any, .any, .any, .any, .any, .any, .any, .any, .any, .any, .any, .any, .any, .any, .any, .any, .any, .any, .any, .any, .any, .any, .any, .any, .any, .any, .any, .any, .any, .any, .any, .any, .any, .any, .any, .any, .any, .any, .any, .any, .any, .any, .any, .any, .any, .any, .any, .any, .any, .any, .any, .any, .any, .any, .any, .any, .any, .any, .any, .any, .any, .any, .any, .any, .any, .any, .any, .any, .any, .any, .any, .any, .any, .any, .any, .any, .any, .any, .any, .any, .any, .any, .any, .any, .any, .any, .any, .any, .any, .any, .any, .any, .any, .any, .any, .any, .any, .any, .any, .any, .any, .any, .any, .any, .any, .any, .any, .bool], 33⟩, [], [.dat 60 T_frame_Frame], 0⟩
@[reducible] noncomputable def u_ref06_Put_4 (k : ByteArray → Int → Bool → D_frame_Frame → Option (ByteArray × Int × Unit)) : denC p_ref06_Put_4 → Option (ByteArray × Int × Unit) := fun x => k x.1.2.2.2.2.1 x.1.2.2.2.2.2.2.2.2.2.2.2.2.2.2.1 x.1.2.2.2.2.2.2.2.2.2.2.2.2.2.2.2.2.2.2.2.2.2.2.2.2.2.2.2.2.2.2.2.2.2.2.2.2.2.2.2.2.2.2.2.2.2.2.2.2.2.2.2.2.2.2.2.2.2.2.2.2.2.2.2.2.2.2.2.2.2.2.2.2.2.2.2.2.2.2.2.2.2.2.2.2.2.2.2.2.2.2.2.2.2.2.2.2.2.2.2.2.2.2.2.2.2.2.2.2.2.2.2.2.2.2.2.2.2.2.2.2.2.2.2.2.2.2.2.2.2.2.2.2.2.1 x.2.2.1
noncomputable def b_ref06_Put_4 (s84 : ByteArray) (i85 : Int) (b86 : Bool) (d87 : D_frame_Frame) : Option (ByteArray × Int × Unit) :=
  bif b86 then
    bif (decide (((ByteArray.size s84) + (ByteArray.size d87.2.2.2.2.2.2.2.2.2.2.2.1)) ≤ 9223372036854775807)) then
      let s88 : ByteArray := (s84 ++ d87.2.2.2.2.2.2.2.2.2.2.2.1)
      some (s88, ((0 : Int), ()))
    else none
  else
    let b89 : Bool := (i85 == (28 : Int))
    bif b89 then
      obind (ref06_v d87.2.2.2.2.1) fun y90 =>
      bif (decide (((ByteArray.size s84) + (ByteArray.size y90.1)) ≤ 9223372036854775807)) then
        let s91 : ByteArray := (s84 ++ y90.1)
        obind (ref06_v d87.2.2.2.2.2.2.2.1) fun y92 =>
        bif (decide (((ByteArray.size s91) + (ByteArray.size y92.1)) ≤ 9223372036854775807)) then
          let s93 : ByteArray := (s91 ++ y92.1)
          obind (ref06_text d87.2.2.2.2.2.2.2.2.2.1) fun y94 =>
          bif (decide (((ByteArray.size s93) + (ByteArray.size y94.1)) ≤ 9223372036854775807)) then
            let s95 : ByteArray := (s93 ++ y94.1)
            some (s95, ((0 : Int), ()))
          else none
        else none
      else none
    else
      let b96 : Bool := (i85 == (29 : Int))
      bif b96 then
        obind (ref06_v d87.2.2.2.2.1) fun y97 =>
        bif (decide (((ByteArray.size s84) + (ByteArray.size y97.1)) ≤ 9223372036854775807)) then
          let s98 : ByteArray := (s84 ++ y97.1)
          obind (ref06_text d87.2.2.2.2.2.2.2.2.2.1) fun y99 =>
          bif (decide (((ByteArray.size s98) + (ByteArray.size y99.1)) ≤ 9223372036854775807)) then
            let s100 : ByteArray := (s98 ++ y99.1)
            some (s100, ((0 : Int), ()))
          else none
        else none
      else
        some (s84, ((0 : Int), ()))
theorem ex_ref06_Put_4 : ∃ f, f = @b_ref06_Put_4 := ⟨_, rfl⟩
noncomputable def ref06_Put_4 := Classical.choose ex_ref06_Put_4
theorem ref06_Put_4_eq : @ref06_Put_4 = @b_ref06_Put_4 := Classical.choose_spec ex_ref06_Put_4
theorem s_ref06_Put_4 {base S0 cs0} (hfin : H_ref06_Put base S0) : J_ref06_Put base S0 cs0 p_ref06_Put_4 (u_ref06_Put_4 (ref06_Put_4)) :=
  JSound.join hfin.2 (OSound.nowhere) ks_ref06_Put 100000 (by rw [ref06_Put_4_eq]; intro x; kernel_rfl)
noncomputable def x_ref06_Put_4 : Cfg → Option (Option (ByteArray × Int × Unit)) := cut p_ref06_Put_4 (u_ref06_Put_4 (ref06_Put_4)) (nowhere)
theorem o_ref06_Put_4 {base S0 cs0} (hfin : H_ref06_Put base S0) : O_ref06_Put base S0 cs0 (x_ref06_Put_4) := OSound.cut (OSound.nowhere) (Nat.le_of_eq hfin.1) (s_ref06_Put_4 hfin)
@[reducible] noncomputable def p_ref06_Put_3 : CPat := ⟨⟨32, [1, 1, 1, 0, 1, 0, 1, 1, 1, 1, 1, 1, 1, 1, 1, 1, 1, 1, 1], none, [.any, .ptr 0 0, .any, .any, .str, .any, .any, .any, .any, .any, .any, .any, .any, .any, .int .u64, .any, .any, .any, .any, .any, .any, .any, .any, .any, .any, .any, .any, .any, .any, .any, .any, .any, .any, .any, .any, .any, .any, .any, .any, .any, .any, .any, .any, .any, .any, .any, .any, .any, .any, .any, .any, .any, .any, .any, .any, .any, .any, .any, .any, .any, .any, .any, .any, .any, .any, .any, .any, .any, .any, .any, .any, .any, .any, .any, .any, .any, .any, .any, .any, .any, .any, .any, .any, .any, .any, .any, .any, .any, .any, .any, .any, .any, .any, .any, .any, .any, .bool], 70⟩, [], [.dat 60 T_frame_Frame], 0⟩
@[reducible] noncomputable def u_ref06_Put_3 (k : ByteArray → Int → Bool → D_frame_Frame → Option (ByteArray × Int × Unit)) : denC p_ref06_Put_3 → Option (ByteArray × Int × Unit) := fun x => k x.1.2.2.2.2.1 x.1.2.2.2.2.2.2.2.2.2.2.2.2.2.2.1 x.1.2.2.2.2.2.2.2.2.2.2.2.2.2.2.2.2.2.2.2.2.2.2.2.2.2.2.2.2.2.2.2.2.2.2.2.2.2.2.2.2.2.2.2.2.2.2.2.2.2.2.2.2.2.2.2.2.2.2.2.2.2.2.2.2.2.2.2.2.2.2.2.2.2.2.2.2.2.2.2.2.2.2.2.2.2.2.2.2.2.2.2.2.2.2.2.2.1 x.2.2.1
noncomputable def b_ref06_Put_3 (s63 : ByteArray) (i64 : Int) (b65 : Bool) (d66 : D_frame_Frame) : Option (ByteArray × Int × Unit) :=
  bif b65 then
    obind (ref06_v d66.2.1) fun y67 =>
    bif (decide (((ByteArray.size s63) + (ByteArray.size y67.1)) ≤ 9223372036854775807)) then
      let s68 : ByteArray := (s63 ++ y67.1)
      obind (ref06_v d66.2.2.2.1) fun y69 =>
      bif (decide (((ByteArray.size s68) + (ByteArray.size y69.1)) ≤ 9223372036854775807)) then
        let s70 : ByteArray := (s68 ++ y69.1)
        some (s70, ((0 : Int), ()))
      else none
    else none
  else
    let b71 : Bool := (i64 == (24 : Int))
    bif b71 then
      obind (ref06_v d66.2.2.2.2.2.1) fun y72 =>
      bif (decide (((ByteArray.size s63) + (ByteArray.size y72.1)) ≤ 9223372036854775807)) then
        let s73 : ByteArray := (s63 ++ y72.1)
        obind (ref06_v d66.2.2.2.2.2.2.1) fun y74 =>
        bif (decide (((ByteArray.size s73) + (ByteArray.size y74.1)) ≤ 9223372036854775807)) then
          let s75 : ByteArray := (s73 ++ y74.1)
          bif (decide (((ByteArray.size s75) + 1) ≤ 9223372036854775807)) then
            let s76 : ByteArray := (s75 ++ (ByteArray.mk (List.toArray ((8 : UInt8) :: ([] : List UInt8)))))
            bif (decide (((ByteArray.size s76) + (ByteArray.size d66.2.2.2.2.2.2.2.2.2.2.1)) ≤ 9223372036854775807)) then
              let s77 : ByteArray := (s76 ++ d66.2.2.2.2.2.2.2.2.2.2.1)
              bif (decide (((ByteArray.size s77) + (ByteArray.size d66.2.2.2.2.2.2.2.2.2.2.2.1)) ≤ 9223372036854775807)) then
                let s78 : ByteArray := (s77 ++ d66.2.2.2.2.2.2.2.2.2.2.2.1)
                some (s78, ((0 : Int), ()))
              else none
            else none
          else none
        else none
      else none
    else
      let b79 : Bool := (i64 == (25 : Int))
      bif b79 then
        obind (ref06_v d66.2.2.2.2.2.1) fun y80 =>
        bif (decide (((ByteArray.size s63) + (ByteArray.size y80.1)) ≤ 9223372036854775807)) then
          let s81 : ByteArray := (s63 ++ y80.1)
          some (s81, ((0 : Int), ()))
        else none
      else
        let b82 : Bool := (i64 == (26 : Int))
        bif b82 then
          ref06_Put_4 s63 i64 true d66
        else
          let b83 : Bool := (i64 == (27 : Int))
          ref06_Put_4 s63 i64 b83 d66
theorem ex_ref06_Put_3 : ∃ f, f = @b_ref06_Put_3 := ⟨_, rfl⟩
noncomputable def ref06_Put_3 := Classical.choose ex_ref06_Put_3
theorem ref06_Put_3_eq : @ref06_Put_3 = @b_ref06_Put_3 := Classical.choose_spec ex_ref06_Put_3
theorem s_ref06_Put_3 {base S0 cs0} (hfin : H_ref06_Put base S0) : J_ref06_Put base S0 cs0 p_ref06_Put_3 (u_ref06_Put_3 (ref06_Put_3)) :=
  JSound.join hfin.2 (o_ref06_Put_4 hfin) ks_ref06_Put 100000 (by rw [ref06_Put_3_eq]; intro x; kernel_rfl)
noncomputable def x_ref06_Put_3 : Cfg → Option (Option (ByteArray × Int × Unit)) := cut p_ref06_Put_3 (u_ref06_Put_3 (ref06_Put_3)) (x_ref06_Put_4)
theorem o_ref06_Put_3 {base S0 cs0} (hfin : H_ref06_Put base S0) : O_ref06_Put base S0 cs0 (x_ref06_Put_3) := OSound.cut (o_ref06_Put_4 hfin) (Nat.le_of_eq hfin.1) (s_ref06_Put_3 hfin)
@[reducible] noncomputable def p_ref06_Put_2 : CPat := ⟨⟨32, [1, 1, 1, 0, 1, 0, 1, 1, 1, 1, 1, 1, 1, 1, 1, 1, 1], none, [.any, .ptr 0 0, .any, .any, .str, .any, .any, .any, .any, .any, .any, .any, .any, .any, .int .u64, .any, .any, .any, .any, .any, .any, .any, .any, .any, .any, .any, .any, .any, .any, .any, .any, .any, .any, .any, .any, .any, .any, .any, .any, .any, .any, .any, .any, .any, .any, .any, .any, .any, .any, .any, .any, .any, .any, .any, .any, .any, .any, .any, .any, .any, .any, .any, .any, .any, .any, .any, .any, .any, .any, .any, .any, .any, .any, .any, .any, .any, .any, .any, .any, .any, .any, .any, .any, .any, .bool], 82⟩, [], [.dat 60 T_frame_Frame], 0⟩
@[reducible] noncomputable def u_ref06_Put_2 (k : ByteArray → Int → Bool → D_frame_Frame → Option (ByteArray × Int × Unit)) : denC p_ref06_Put_2 → Option (ByteArray × Int × Unit) := fun x => k x.1.2.2.2.2.1 x.1.2.2.2.2.2.2.2.2.2.2.2.2.2.2.1 x.1.2.2.2.2.2.2.2.2.2.2.2.2.2.2.2.2.2.2.2.2.2.2.2.2.2.2.2.2.2.2.2.2.2.2.2.2.2.2.2.2.2.2.2.2.2.2.2.2.2.2.2.2.2.2.2.2.2.2.2.2.2.2.2.2.2.2.2.2.2.2.2.2.2.2.2.2.2.2.2.2.2.2.2.2.1 x.2.2.1
noncomputable def b_ref06_Put_2 (s55 : ByteArray) (i56 : Int) (b57 : Bool) (d58 : D_frame_Frame) : Option (ByteArray × Int × Unit) :=
  bif b57 then
    obind (ref06_v d58.2.2.2.1) fun y59 =>
    bif (decide (((ByteArray.size s55) + (ByteArray.size y59.1)) ≤ 9223372036854775807)) then
      let s60 : ByteArray := (s55 ++ y59.1)
      some (s60, ((0 : Int), ()))
    else none
  else
    let b61 : Bool := (i56 == (17 : Int))
    bif b61 then
      ref06_Put_3 s55 i56 true d58
    else
      let b62 : Bool := (i56 == (21 : Int))
      ref06_Put_3 s55 i56 b62 d58
theorem ex_ref06_Put_2 : ∃ f, f = @b_ref06_Put_2 := ⟨_, rfl⟩
noncomputable def ref06_Put_2 := Classical.choose ex_ref06_Put_2
theorem ref06_Put_2_eq : @ref06_Put_2 = @b_ref06_Put_2 := Classical.choose_spec ex_ref06_Put_2
theorem s_ref06_Put_2 {base S0 cs0} (hfin : H_ref06_Put base S0) : J_ref06_Put base S0 cs0 p_ref06_Put_2 (u_ref06_Put_2 (ref06_Put_2)) :=
  JSound.join hfin.2 (o_ref06_Put_3 hfin) ks_ref06_Put 100000 (by rw [ref06_Put_2_eq]; intro x; kernel_rfl)
noncomputable def x_ref06_Put_2 : Cfg → Option (Option (ByteArray × Int × Unit)) := cut p_ref06_Put_2 (u_ref06_Put_2 (ref06_Put_2)) (x_ref06_Put_3)
theorem o_ref06_Put_2 {base S0 cs0} (hfin : H_ref06_Put base S0) : O_ref06_Put base S0 cs0 (x_ref06_Put_2) := OSound.cut (o_ref06_Put_3 hfin) (Nat.le_of_eq hfin.1) (s_ref06_Put_2 hfin)
@[reducible] noncomputable def p_ref06_Put_1 : CPat := ⟨⟨32, [1, 1, 1, 0, 1, 0, 1, 1, 1, 1, 1, 1, 1, 1, 1, 0, 1, 1, 1, 1], none, [.any, .ptr 0 0, .any, .any, .any, .int .u64, .str], 160⟩, [], [.dat 60 T_frame_Frame], 0⟩
@[reducible] noncomputable def u_ref06_Put_1 (k : Int → ByteArray → D_frame_Frame → Option (ByteArray × Int × Unit)) : denC p_ref06_Put_1 → Option (ByteArray × Int × Unit) := fun x => k x.1.2.2.2.2.2.1 x.1.2.2.2.2.2.2.1 x.2.2.1
noncomputable def b_ref06_Put_1 (i40 : Int) (s41 : ByteArray) (d42 : D_frame_Frame) : Option (ByteArray × Int × Unit) :=
  obind (ref06_v i40) fun y43 =>
  obind (ref06_v d42.2.1) fun y44 =>
  bif (decide (((ByteArray.size y43.1) + (ByteArray.size y44.1)) ≤ 9223372036854775807)) then
    let s45 : ByteArray := (y43.1 ++ y44.1)
    bif (decide (((ByteArray.size s45) + (ByteArray.size s41)) ≤ 9223372036854775807)) then
      let s46 : ByteArray := (s45 ++ s41)
      obind (ref06_text d42.2.2.2.2.2.2.2.2.2.1) fun y47 =>
      bif (decide (((ByteArray.size s46) + (ByteArray.size y47.1)) ≤ 9223372036854775807)) then
        let s48 : ByteArray := (s46 ++ y47.1)
        some (s48, ((0 : Int), ()))
      else none
    else none
  else none
theorem ex_ref06_Put_1 : ∃ f, f = @b_ref06_Put_1 := ⟨_, rfl⟩
noncomputable def ref06_Put_1 := Classical.choose ex_ref06_Put_1
theorem ref06_Put_1_eq : @ref06_Put_1 = @b_ref06_Put_1 := Classical.choose_spec ex_ref06_Put_1
theorem s_ref06_Put_1 {base S0 cs0} (hfin : H_ref06_Put base S0) : J_ref06_Put base S0 cs0 p_ref06_Put_1 (u_ref06_Put_1 (ref06_Put_1)) :=
  JSound.join hfin.2 (o_ref06_Put_2 hfin) ks_ref06_Put 100000 (by rw [ref06_Put_1_eq]; intro x; kernel_rfl)
noncomputable def x_ref06_Put_1 : Cfg → Option (Option (ByteArray × Int × Unit)) := cut p_ref06_Put_1 (u_ref06_Put_1 (ref06_Put_1)) (x_ref06_Put_2)
theorem o_ref06_Put_1 {base S0 cs0} (hfin : H_ref06_Put base S0) : O_ref06_Put base S0 cs0 (x_ref06_Put_1) := OSound.cut (o_ref06_Put_2 hfin) (Nat.le_of_eq hfin.1) (s_ref06_Put_1 hfin)
@[reducible] noncomputable def p_ref06_Put_0 : CPat := ⟨⟨32, [1, 1, 1, 0, 1, 0, 1, 1, 1, 1, 1, 1, 1, 1, 1, 0, 1, 1, 1], none, [.any, .ptr 0 0, .any, .any, .any, .int .u64, .str], 160⟩, [], [.dat 60 T_frame_Frame], 0⟩
@[reducible] noncomputable def u_ref06_Put_0 (k : Int → ByteArray → D_frame_Frame → Option (ByteArray × Int × Unit)) : denC p_ref06_Put_0 → Option (ByteArray × Int × Unit) := fun x => k x.1.2.2.2.2.2.1 x.1.2.2.2.2.2.2.1 x.2.2.1
noncomputable def b_ref06_Put_0 (i30 : Int) (s31 : ByteArray) (d32 : D_frame_Frame) : Option (ByteArray × Int × Unit) :=
  bif d32.2.2.2.2.2.2.2.2.1 then
    let n33 : Int := (Go.IntKind.wrap Go.IntKind.u64 (i30 + (1 : Int)))
    ref06_Put_1 n33 s31 d32
  else
    ref06_Put_1 i30 s31 d32
theorem ex_ref06_Put_0 : ∃ f, f = @b_ref06_Put_0 := ⟨_, rfl⟩
noncomputable def ref06_Put_0 := Classical.choose ex_ref06_Put_0
theorem ref06_Put_0_eq : @ref06_Put_0 = @b_ref06_Put_0 := Classical.choose_spec ex_ref06_Put_0
theorem s_ref06_Put_0 {base S0 cs0} (hfin : H_ref06_Put base S0) : J_ref06_Put base S0 cs0 p_ref06_Put_0 (u_ref06_Put_0 (ref06_Put_0)) :=
  JSound.join hfin.2 (o_ref06_Put_1 hfin) ks_ref06_Put 100000 (by rw [ref06_Put_0_eq]; intro x; kernel_rfl)
noncomputable def x_ref06_Put_0 : Cfg → Option (Option (ByteArray × Int × Unit)) := cut p_ref06_Put_0 (u_ref06_Put_0 (ref06_Put_0)) (x_ref06_Put_1)
theorem o_ref06_Put_0 {base S0 cs0} (hfin : H_ref06_Put base S0) : O_ref06_Put base S0 cs0 (x_ref06_Put_0) := OSound.cut (o_ref06_Put_1 hfin) (Nat.le_of_eq hfin.1) (s_ref06_Put_0 hfin)
noncomputable def b_ref06_Put (a0 : D_frame_Frame) : Option (ByteArray × Int × Unit) :=
  let s1 : ByteArray := (ByteArray.mk (List.toArray ([] : List UInt8)))
  obind (ref06_May a0) fun y2 =>
  let b3 : Bool := (!y2.1)
  bif b3 then
    let s4 : ByteArray := (ByteArray.mk (List.toArray ([] : List UInt8)))
    some (s4, ((1 : Int), ()))
  else
    obind (ref06_v a0.1) fun y5 =>
    let b6 : Bool := (a0.1 == (2 : Int))
    bif b6 then
      obind (ref06_ack a0) fun y7 =>
      bif (decide (((ByteArray.size y5.1) + (ByteArray.size y7.1)) ≤ 9223372036854775807)) then
        let s8 : ByteArray := (y5.1 ++ y7.1)
        some (s8, ((0 : Int), ()))
      else none
    else
      let b9 : Bool := (a0.1 == (4 : Int))
      bif b9 then
        obind (ref06_v a0.2.1) fun y10 =>
        bif (decide (((ByteArray.size y5.1) + (ByteArray.size y10.1)) ≤ 9223372036854775807)) then
          let s11 : ByteArray := (y5.1 ++ y10.1)
          obind (ref06_v a0.2.2.2.2.1) fun y12 =>
          bif (decide (((ByteArray.size s11) + (ByteArray.size y12.1)) ≤ 9223372036854775807)) then
            let s13 : ByteArray := (s11 ++ y12.1)
            obind (ref06_v a0.2.2.2.1) fun y14 =>
            bif (decide (((ByteArray.size s13) + (ByteArray.size y14.1)) ≤ 9223372036854775807)) then
              let s15 : ByteArray := (s13 ++ y14.1)
              some (s15, ((0 : Int), ()))
            else none
          else none
        else none
      else
        let b16 : Bool := (a0.1 == (5 : Int))
        bif b16 then
          obind (ref06_v a0.2.1) fun y17 =>
          bif (decide (((ByteArray.size y5.1) + (ByteArray.size y17.1)) ≤ 9223372036854775807)) then
            let s18 : ByteArray := (y5.1 ++ y17.1)
            obind (ref06_v a0.2.2.2.2.1) fun y19 =>
            bif (decide (((ByteArray.size s18) + (ByteArray.size y19.1)) ≤ 9223372036854775807)) then
              let s20 : ByteArray := (s18 ++ y19.1)
              some (s20, ((0 : Int), ()))
            else none
          else none
        else
          let b21 : Bool := (a0.1 == (6 : Int))
          bif b21 then
            obind (ref06_v a0.2.2.1) fun y22 =>
            bif (decide (((ByteArray.size y5.1) + (ByteArray.size y22.1)) ≤ 9223372036854775807)) then
              let s23 : ByteArray := (y5.1 ++ y22.1)
              obind (ref06_text a0.2.2.2.2.2.2.2.2.2.1) fun y24 =>
              bif (decide (((ByteArray.size s23) + (ByteArray.size y24.1)) ≤ 9223372036854775807)) then
                let s25 : ByteArray := (s23 ++ y24.1)
                some (s25, ((0 : Int), ()))
              else none
            else none
          else
            let b26 : Bool := (a0.1 == (8 : Int))
            bif b26 then
              let s27 : ByteArray := (ByteArray.mk (List.toArray ([] : List UInt8)))
              let b28 : Bool := (a0.2.2.1 != (0 : Int))
              bif b28 then
                obind (ref06_v a0.2.2.1) fun y29 =>
                ref06_Put_0 (14 : Int) y29.1 a0
              else
                ref06_Put_0 (10 : Int) s27 a0
            else
              let b49 : Bool := (a0.1 == (16 : Int))
              bif b49 then
                ref06_Put_2 y5.1 a0.1 true a0
              else
                let b50 : Bool := (a0.1 == (18 : Int))
                bif b50 then
                  ref06_Put_2 y5.1 a0.1 true a0
                else
                  let b51 : Bool := (a0.1 == (19 : Int))
                  bif b51 then
                    ref06_Put_2 y5.1 a0.1 true a0
                  else
                    let b52 : Bool := (a0.1 == (20 : Int))
                    bif b52 then
                      ref06_Put_2 y5.1 a0.1 true a0
                    else
                      let b53 : Bool := (a0.1 == (22 : Int))
                      bif b53 then
                        ref06_Put_2 y5.1 a0.1 true a0
                      else
                        let b54 : Bool := (a0.1 == (23 : Int))
                        ref06_Put_2 y5.1 a0.1 b54 a0
theorem ex_ref06_Put : ∃ f, f = @b_ref06_Put := ⟨_, rfl⟩
noncomputable def ref06_Put := Classical.choose ex_ref06_Put
theorem ref06_Put_eq : @ref06_Put = @b_ref06_Put := Classical.choose_spec ex_ref06_Put
noncomputable def cb_ref06_Put : Con := ⟨[T_frame_Frame], r_ref06_Put, fun x => b_ref06_Put x.1⟩
noncomputable def c_ref06_Put : Con := ⟨[T_frame_Frame], r_ref06_Put, fun x => ref06_Put x.1⟩
theorem cb_ref06_Put_ok : cb_ref06_Put.Sound prog Inv gInv 32 :=
  con_run (M := m_ref06_Put) inv_g (f := f32) rfl ks_ref06_Put 100000 (X := x_ref06_Put_0) (fun base S0 cs0 hn hf => have hfin : H_ref06_Put base S0 := ⟨hn, hf⟩; o_ref06_Put_0 hfin) (by intro x; kernel_rfl)
theorem c_ref06_Put_ok : c_ref06_Put.Sound prog Inv gInv 32 := by
  have e : c_ref06_Put = cb_ref06_Put := by unfold c_ref06_Put cb_ref06_Put; rw [ref06_Put_eq]
  rw [e]; exact cb_ref06_Put_ok
end Go.Proofs.YtjdjlijjolibkaaDoor.V
/- What the document's frames answer, in plain Lean. -/
namespace Go.Proofs.YtjdjlijjolibkaaDoor.V
open Go.RowKit
set_option linter.unusedVariables false
theorem in_loop (s : ByteArray) (x : Int) : ∀ (suf pre : List Int) (m : Nat), suf.length < m → strBytes s = pre ++ suf → s.size ≤ 9223372036854775807 →
    ref06_in_0 m s x ((pre.length : Nat) : Int) = some (decide (x ∈ suf), ()) := by
  intro suf
  induction suf with
  | nil =>
    intro pre m hm hs hl
    obtain ⟨m, rfl⟩ : ∃ k, m = k + 1 := ⟨m - 1, by omega⟩
    have hsz : s.size = pre.length := by rw [← strBytes_len, hs]; simp
    have c : ¬ ((pre.length : Nat) : Int) < ((s.size : Nat) : Int) := by omega
    simp only [ref06_in_0, t_ref06_in_0, c, decide_false, cond_false, List.not_mem_nil]
  | cons y suf ih =>
    intro pre m hm hs hl
    obtain ⟨m, rfl⟩ : ∃ k, m = k + 1 := ⟨m - 1, by omega⟩
    have hsz : s.size = pre.length + 1 + suf.length := by rw [← strBytes_len, hs]; simp; omega
    have c : ((pre.length : Nat) : Int) < ((s.size : Nat) : Int) := by omega
    have e : byteAt s ((pre.length : Nat) : Int) = y := by rw [byteAt_is, hs, Int.toNat_natCast, getD_mid]
    have w : IntKind.wrap .i64 (((pre.length : Nat) : Int) + 1) = (((pre ++ [y]).length : Nat) : Int) := by rw [wrap_i64 _ (by omega) (by omega)]; simp
    simp only [ref06_in_0, t_ref06_in_0, c, nn, and_self, decide_true, cond_true, e]
    by_cases h : y = x
    · subst h; simp
    · have h' : ¬ x = y := fun e => h e.symm
      simp only [beq_false_of_ne h, cond_false, w]
      rw [ih (pre ++ [y]) m (by simp at hm; omega) (by rw [hs]; simp) hl]
      simp [h']
theorem in_is (s : ByteArray) (x : Int) (hl : s.size ≤ 9223372036854775807) : ref06_in s x = some (decide (x ∈ strBytes s), ()) := by
  rw [ref06_in_eq, b_ref06_in, ref06_in_0'_eq, b_ref06_in_0']
  exact in_loop s x (strBytes s) [] _ (by rw [strBytes_len]; omega) rfl hl
/-- The letters of a kind's parts. -/
def shapeL (k : Int) : List Int :=
  if k = 0 ∨ k = 1 ∨ k = 30 then [45] else if k = 2 then [101, 115] else if k = 4 then [105, 99, 109] else if k = 5 then [105, 99] else if k = 6 then [111, 100] else if k = 8 then [105, 111, 102, 100]
  else if k = 16 ∨ k = 18 ∨ k = 19 ∨ k = 20 ∨ k = 22 ∨ k = 23 then [109] else if k = 17 ∨ k = 21 then [105, 109] else if k = 24 then [113, 112, 110, 116] else if k = 25 then [113] else if k = 26 ∨ k = 27 then [116]
  else if k = 28 then [99, 101, 100] else if k = 29 then [99, 100] else []
theorem shape_is (k : Int) : ref06_shape k = some (bytesStr (shapeL k), ()) := by
  rw [ref06_shape_eq, b_ref06_shape]
  simp only [ref06_shape_0_eq, b_ref06_shape_0, ref06_shape_1_eq, b_ref06_shape_1, ref06_shape_2_eq, b_ref06_shape_2, ref06_shape_3_eq, b_ref06_shape_3]
  cases h : kindB k with
  | true =>
    rcases kinds h with rfl | rfl | rfl | rfl | rfl | rfl | rfl | rfl | rfl | rfl | rfl | rfl | rfl | rfl | rfl | rfl | rfl | rfl | rfl | rfl | rfl | rfl <;> rfl
  | false =>
    obtain ⟨h0, h1, h2, h4, h5, h6, h8, h16, h17, h18, h19, h20, h21, h22, h23, h24, h25, h26, h27, h28, h29, h30⟩ := nokind h
    simp only [beq_false_of_ne h0, beq_false_of_ne h1, beq_false_of_ne h2, beq_false_of_ne h4, beq_false_of_ne h5, beq_false_of_ne h6, beq_false_of_ne h8, beq_false_of_ne h16, beq_false_of_ne h17, beq_false_of_ne h18, beq_false_of_ne h19,
      beq_false_of_ne h20, beq_false_of_ne h21, beq_false_of_ne h22, beq_false_of_ne h23, beq_false_of_ne h24, beq_false_of_ne h25, beq_false_of_ne h26, beq_false_of_ne h27, beq_false_of_ne h28, beq_false_of_ne h29, beq_false_of_ne h30, cond_false,
      shapeL, h0, h1, h2, h4, h5, h6, h8, h16, h17, h18, h19, h20, h21, h22, h23, h24, h25, h26, h27, h28, h29, h30, or_self, if_false]
    rfl
end Go.Proofs.YtjdjlijjolibkaaDoor.V
