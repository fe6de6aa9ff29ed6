/- The law FrameLong, part 5 of 5: what is proved: for every input that can be read the call of FrameLong returns true and leaves its arguments alone. No conditions but the listed tables of the card. -/
import Derived.OpenShut
import Derived.LaidHandle
import Derived.LaidMore
import Derived.Stop.Joined
import Derived.Test.YtjdjlijjolibkaaDoorRows
import Derived.Test.YtjdjlijjolibkaaDoorCards
import Derived.Test.YtjdjlijjolibkaaDoorTie
import Derived.SevenTiedAt
import Derived.Test.YtjdjlijjolibkaaDoorZ4
namespace Go.Proofs.YtjdjlijjolibkaaDoor.V
open Go.RowKit Go.Proofs.Tryd
set_option maxRecDepth 100000
set_option linter.unusedVariables false
noncomputable def m_frame_framer_read_h0 : Mach prog Inv gInv := mach bas [(88, f88), (117, f117), (122, f122), (123, f123), (125, f125), (126, f126), (127, f127), (128, f128), (149, f149)] ⟨ok88, ok117, ok122, ok123, ok125, ok126, ok127, ok128, ok149, trivial⟩ [(34, c_frame_May), (124, c_varint_Size), (163, c_varint_Get)] ⟨⟨c_frame_May_ok, FnOk.callable ok34⟩, ⟨c_varint_Size_ok, FnOk.callable ok124⟩, ⟨c_varint_Get_ok, FnOk.callable ok163⟩, trivial⟩ [] trivial [(123, h_frame_reader_need_h0), (149, h_frame_reader_number_h0), (122, h_frame_reader_into_h0), (122, h_frame_reader_into_h1), (122, h_frame_reader_into_h2), (122, h_frame_reader_into_h3), (122, h_frame_reader_into_h4), (122, h_frame_reader_into_h5), (122, h_frame_reader_into_h6), (122, h_frame_reader_into_h7), (122, h_frame_reader_into_h8), (122, h_frame_reader_into_h9), (122, h_frame_reader_into_h10), (123, h_frame_reader_need_h1), (149, h_frame_reader_number_h1), (122, h_frame_reader_into_h11), (125, h_frame_framer_ack_h0), (127, h_frame_reader_take_h0), (122, h_frame_reader_into_h12), (126, h_frame_reader_long_h0), (128, h_frame_framer_stream_h0)] ⟨⟨h_frame_reader_need_h0_ok, FnOk.callable ok123⟩, ⟨h_frame_reader_number_h0_ok, FnOk.callable ok149⟩, ⟨h_frame_reader_into_h0_ok, FnOk.callable ok122⟩, ⟨h_frame_reader_into_h1_ok, FnOk.callable ok122⟩, ⟨h_frame_reader_into_h2_ok, FnOk.callable ok122⟩, ⟨h_frame_reader_into_h3_ok, FnOk.callable ok122⟩, ⟨h_frame_reader_into_h4_ok, FnOk.callable ok122⟩, ⟨h_frame_reader_into_h5_ok, FnOk.callable ok122⟩, ⟨h_frame_reader_into_h6_ok, FnOk.callable ok122⟩, ⟨h_frame_reader_into_h7_ok, FnOk.callable ok122⟩, ⟨h_frame_reader_into_h8_ok, FnOk.callable ok122⟩, ⟨h_frame_reader_into_h9_ok, FnOk.callable ok122⟩, ⟨h_frame_reader_into_h10_ok, FnOk.callable ok122⟩, ⟨h_frame_reader_need_h1_ok, FnOk.callable ok123⟩, ⟨h_frame_reader_number_h1_ok, FnOk.callable ok149⟩, ⟨h_frame_reader_into_h11_ok, FnOk.callable ok122⟩, ⟨h_frame_framer_ack_h0_ok, FnOk.callable ok125⟩, ⟨h_frame_reader_take_h0_ok, FnOk.callable ok127⟩, ⟨h_frame_reader_into_h12_ok, FnOk.callable ok122⟩, ⟨h_frame_reader_long_h0_ok, FnOk.callable ok126⟩, ⟨h_frame_framer_stream_h0_ok, FnOk.callable ok128⟩, trivial⟩
@[reducible] noncomputable def pa_frame_framer_read_h0 : List Pat := [.ptr 0 0]
@[reducible] noncomputable def pH_frame_framer_read_h0 : List HPat := [.dat 154 T_frame_framer]
/-! ### (*domino/frame.framer).read -/
abbrev R_frame_framer_read_h0 : Type := D_frame_framer × Unit
@[reducible] noncomputable def qa_frame_framer_read_h0 : List Pat := []
@[reducible] noncomputable def qH_frame_framer_read_h0 : List HPat := [.dat 154 T_frame_framer]
noncomputable def g_frame_framer_read_h0 : HCon := HCon.mkP 149 pa_frame_framer_read_h0 pH_frame_framer_read_h0 qa_frame_framer_read_h0 qH_frame_framer_read_h0 R_frame_framer_read_h0 default (fun _ => none) (fun r => ((), (r.1, ()))) (fun y => (y.2.1, ())) (fun _ => rfl)
def ks_frame_framer_read_h0 : List Nat := [88, 117, 122, 123, 125, 126, 127, 128, 149]
abbrev H_frame_framer_read_h0 (base : Base) (S0 : Nat → Prop) := base.n = 1 ∧ FinOk (finH g_frame_framer_read_h0) base S0 (HPost g_frame_framer_read_h0 base S0)
abbrev J_frame_framer_read_h0 (base : Base) (S0 : Nat → Prop) (cs0 : List Go.Frame) (p : CPat) (J : denC p → Option (Option R_frame_framer_read_h0)) := JSound m_frame_framer_read_h0 base S0 cs0 (HPost g_frame_framer_read_h0 base S0) p J
abbrev O_frame_framer_read_h0 (base : Base) (S0 : Nat → Prop) (cs0 : List Go.Frame) (X : Cfg → Option (Option (Option R_frame_framer_read_h0))) := OSound m_frame_framer_read_h0 base S0 cs0 (HPost g_frame_framer_read_h0 base S0) X
@[reducible] noncomputable def p_frame_framer_read_h0_4 : CPat := ⟨⟨88, [1, 1, 1, 1], none, [.ptr 0 0], 273⟩, [], [.cells 154 [.str, .int .u64, .int .u64, .int .u64, .int .u64, .int .u64, .int .u64, .int .u64, .int .u64, .bool, .str, .str, .str, .rows T_ranges_Range false]], 1⟩
@[reducible] noncomputable def u_frame_framer_read_h0_4 (k : ByteArray → Int → Int → Int → Int → Int → Int → Int → Int → Bool → ByteArray → ByteArray → ByteArray → (List D_ranges_Range) → Option (Option R_frame_framer_read_h0)) : denC p_frame_framer_read_h0_4 → Option (Option R_frame_framer_read_h0) := fun x => k x.2.2.1.1 x.2.2.1.2.1 x.2.2.1.2.2.1 x.2.2.1.2.2.2.1 x.2.2.1.2.2.2.2.1 x.2.2.1.2.2.2.2.2.1 x.2.2.1.2.2.2.2.2.2.1 x.2.2.1.2.2.2.2.2.2.2.1 x.2.2.1.2.2.2.2.2.2.2.2.1 x.2.2.1.2.2.2.2.2.2.2.2.2.1 x.2.2.1.2.2.2.2.2.2.2.2.2.2.1 x.2.2.1.2.2.2.2.2.2.2.2.2.2.2.1 x.2.2.1.2.2.2.2.2.2.2.2.2.2.2.2.1 x.2.2.1.2.2.2.2.2.2.2.2.2.2.2.2.2.1
noncomputable def b_frame_framer_read_h0_4 (s69 : ByteArray) (i70 : Int) (i71 : Int) (i72 : Int) (i73 : Int) (i74 : Int) (i75 : Int) (i76 : Int) (i77 : Int) (b78 : Bool) (s79 : ByteArray) (s80 : ByteArray) (s81 : ByteArray) (l82 : (List D_ranges_Range)) : Option (Option R_frame_framer_read_h0) :=
  obind (frame_May (i70, (i71, (i72, (i73, (i74, (i75, (i76, (i77, (b78, (s79, (s80, (s81, (l82, ())))))))))))))) fun y83 =>
  obindP (frame_reader_need_h0 y83.1 ((s69, ()), ((i70, (i71, (i72, (i73, (i74, (i75, (i76, (i77, (b78, (s79, (s80, (s81, (l82, ()))))))))))))), ()))) (
    some none) fun y84 =>
  some (some (y84.1, ()))
theorem ex_frame_framer_read_h0_4 : ∃ f, f = @b_frame_framer_read_h0_4 := ⟨_, rfl⟩
noncomputable def frame_framer_read_h0_4 := Classical.choose ex_frame_framer_read_h0_4
theorem frame_framer_read_h0_4_eq : @frame_framer_read_h0_4 = @b_frame_framer_read_h0_4 := Classical.choose_spec ex_frame_framer_read_h0_4
theorem s_frame_framer_read_h0_4 {base S0 cs0} (hfin : H_frame_framer_read_h0 base S0) : J_frame_framer_read_h0 base S0 cs0 p_frame_framer_read_h0_4 (u_frame_framer_read_h0_4 (frame_framer_read_h0_4)) :=
  JSound.join hfin.2 (OSound.nowhere) ks_frame_framer_read_h0 100000 (by rw [frame_framer_read_h0_4_eq]; intro x; kernel_rfl)
noncomputable def x_frame_framer_read_h0_4 : Cfg → Option (Option (Option R_frame_framer_read_h0)) := cut p_frame_framer_read_h0_4 (u_frame_framer_read_h0_4 (frame_framer_read_h0_4)) (nowhere)
theorem o_frame_framer_read_h0_4 {base S0 cs0} (hfin : H_frame_framer_read_h0 base S0) : O_frame_framer_read_h0 base S0 cs0 (x_frame_framer_read_h0_4) := OSound.cut (OSound.nowhere) (Nat.le_of_eq hfin.1) (s_frame_framer_read_h0_4 hfin)
@[reducible] noncomputable def p_frame_framer_read_h0_3 : CPat := ⟨⟨88, [1, 1, 1, 0, 1, 0, 1, 1, 1, 1, 1, 1, 1, 1, 1, 1, 1, 1, 1, 1, 1, 1, 1, 1, 1], none, [.ptr 0 0, .any, .any, .any, .any, .any, .any, .any, .any, .any, .any, .any, .any, .any, .any, .any, .any, .any, .any, .any, .any, .any, .any, .any, .any, .any, .any, .any, .any, .any, .any, .any, .any, .any, .any, .any, .any, .any, .any, .any, .any, .int .u64, .any, .any, .any, .any, .any, .any, .any, .any, .any, .any, .any, .any, .any, .any, .any, .any, .any, .any, .any, .any, .any, .any, .any, .any, .any, .any, .any, .any, .any, .any, .any, .any, .any, .any, .any, .any, .any, .any, .any, .any, .any, .any, .any, .any, .any, .any, .any, .any, .any, .any, .any, .any, .any, .any, .any, .any, .any, .any, .any, .any, .any, .any, .any, .any, .any, .any, .any, .any, .any, .any, .any, .any, .any, .any, .any, .any, .any, .any, .any, .any, .any, .any, .any, .any, .any, .any, .any, .any, .any, .any, .any, .any, .any, .any, .any, .any, .any, .any, .any, .any, .any, .any, .any, .any, .any, .any, .any, .any, .any, .any, .any, .any, .any, .any, .any, .any, .any, .any, .any, .any, .any, .any, .any, .any, .any, .any, .any, .any, .any, .any, .any, .any, .any, .any, .any, .any, .any, .any, .any, .any, .any, .any, .any, .any, .any, .any, .any, .any, .any, .any, .any, .any, .any, .any, .any, .any, .any, .any, .any, .any, .any, .any, .any, .any, .any, .any, .any, .any, .any, .any, .bool], 61⟩, [], [.dat 154 T_frame_framer], 1⟩
@[reducible] noncomputable def u_frame_framer_read_h0_3 (k : Int → Bool → D_frame_framer → Option (Option R_frame_framer_read_h0)) : denC p_frame_framer_read_h0_3 → Option (Option R_frame_framer_read_h0) := fun x => k x.1.2.2.2.2.2.2.2.2.2.2.2.2.2.2.2.2.2.2.2.2.2.2.2.2.2.2.2.2.2.2.2.2.2.2.2.2.2.2.2.2.2.1 x.1.2.2.2.2.2.2.2.2.2.2.2.2.2.2.2.2.2.2.2.2.2.2.2.2.2.2.2.2.2.2.2.2.2.2.2.2.2.2.2.2.2.2.2.2.2.2.2.2.2.2.2.2.2.2.2.2.2.2.2.2.2.2.2.2.2.2.2.2.2.2.2.2.2.2.2.2.2.2.2.2.2.2.2.2.2.2.2.2.2.2.2.2.2.2.2.2.2.2.2.2.2.2.2.2.2.2.2.2.2.2.2.2.2.2.2.2.2.2.2.2.2.2.2.2.2.2.2.2.2.2.2.2.2.2.2.2.2.2.2.2.2.2.2.2.2.2.2.2.2.2.2.2.2.2.2.2.2.2.2.2.2.2.2.2.2.2.2.2.2.2.2.2.2.2.2.2.2.2.2.2.2.2.2.2.2.2.2.2.2.2.2.2.2.2.2.2.2.2.2.2.2.2.2.2.2.2.2.2.2.2.2.2.1 x.2.2.1
noncomputable def b_frame_framer_read_h0_3 (i51 : Int) (b52 : Bool) (d53 : D_frame_framer) : Option (Option R_frame_framer_read_h0) :=
  bif b52 then
    obindP (frame_reader_take_h0 (8 : Int) d53) (
      some none) fun y54 =>
    frame_framer_read_h0_4 y54.2.1.1.1 y54.2.1.2.1.1 y54.2.1.2.1.2.1 y54.2.1.2.1.2.2.1 y54.2.1.2.1.2.2.2.1 y54.2.1.2.1.2.2.2.2.1 y54.2.1.2.1.2.2.2.2.2.1 y54.2.1.2.1.2.2.2.2.2.2.1 y54.2.1.2.1.2.2.2.2.2.2.2.1 y54.2.1.2.1.2.2.2.2.2.2.2.2.1 y54.2.1.2.1.2.2.2.2.2.2.2.2.2.1 y54.2.1.2.1.2.2.2.2.2.2.2.2.2.2.1 y54.1 y54.2.1.2.1.2.2.2.2.2.2.2.2.2.2.2.2.1
  else
    let b55 : Bool := (i51 == (28 : Int))
    bif b55 then
      obindP (frame_reader_into_h7 d53) (
        some none) fun y56 =>
      obindP (frame_reader_long_h0 y56.1) (
        some none) fun y57 =>
      frame_framer_read_h0_4 y57.2.1.1.1 y57.2.1.2.1.1 y57.2.1.2.1.2.1 y57.2.1.2.1.2.2.1 y57.2.1.2.1.2.2.2.1 y57.2.1.2.1.2.2.2.2.1 y57.2.1.2.1.2.2.2.2.2.1 y57.2.1.2.1.2.2.2.2.2.2.1 y57.2.1.2.1.2.2.2.2.2.2.2.1 y57.2.1.2.1.2.2.2.2.2.2.2.2.1 y57.1 y57.2.1.2.1.2.2.2.2.2.2.2.2.2.2.1 y57.2.1.2.1.2.2.2.2.2.2.2.2.2.2.2.1 y57.2.1.2.1.2.2.2.2.2.2.2.2.2.2.2.2.1
    else
      let b58 : Bool := (i51 == (29 : Int))
      bif b58 then
        obindP (frame_reader_into_h3 d53) (
          some none) fun y59 =>
        obindP (frame_reader_long_h0 y59.1) (
          some none) fun y60 =>
        frame_framer_read_h0_4 y60.2.1.1.1 y60.2.1.2.1.1 y60.2.1.2.1.2.1 y60.2.1.2.1.2.2.1 y60.2.1.2.1.2.2.2.1 y60.2.1.2.1.2.2.2.2.1 y60.2.1.2.1.2.2.2.2.2.1 y60.2.1.2.1.2.2.2.2.2.2.1 y60.2.1.2.1.2.2.2.2.2.2.2.1 y60.2.1.2.1.2.2.2.2.2.2.2.2.1 y60.1 y60.2.1.2.1.2.2.2.2.2.2.2.2.2.2.1 y60.2.1.2.1.2.2.2.2.2.2.2.2.2.2.2.1 y60.2.1.2.1.2.2.2.2.2.2.2.2.2.2.2.2.1
      else
        let b61 : Bool := (decide (d53.2.1.1 ≥ (8 : Int)))
        bif b61 then
          let b62 : Bool := (decide (d53.2.1.1 < (16 : Int)))
          obindP (frame_reader_need_h0 b62 d53) (
            some none) fun y63 =>
          obindP (frame_framer_stream_h0 y63.1.2.1.1 y63.1) (
            some none) fun y64 =>
          frame_framer_read_h0_4 y64.1.1.1 y64.1.2.1.1 y64.1.2.1.2.1 y64.1.2.1.2.2.1 y64.1.2.1.2.2.2.1 y64.1.2.1.2.2.2.2.1 y64.1.2.1.2.2.2.2.2.1 y64.1.2.1.2.2.2.2.2.2.1 y64.1.2.1.2.2.2.2.2.2.2.1 y64.1.2.1.2.2.2.2.2.2.2.2.1 y64.1.2.1.2.2.2.2.2.2.2.2.2.1 y64.1.2.1.2.2.2.2.2.2.2.2.2.2.1 y64.1.2.1.2.2.2.2.2.2.2.2.2.2.2.1 y64.1.2.1.2.2.2.2.2.2.2.2.2.2.2.2.1
        else
          obindP (frame_reader_need_h0 false d53) (
            some none) fun y65 =>
          obindP (frame_framer_stream_h0 y65.1.2.1.1 y65.1) (
            some none) fun y66 =>
          frame_framer_read_h0_4 y66.1.1.1 y66.1.2.1.1 y66.1.2.1.2.1 y66.1.2.1.2.2.1 y66.1.2.1.2.2.2.1 y66.1.2.1.2.2.2.2.1 y66.1.2.1.2.2.2.2.2.1 y66.1.2.1.2.2.2.2.2.2.1 y66.1.2.1.2.2.2.2.2.2.2.1 y66.1.2.1.2.2.2.2.2.2.2.2.1 y66.1.2.1.2.2.2.2.2.2.2.2.2.1 y66.1.2.1.2.2.2.2.2.2.2.2.2.2.1 y66.1.2.1.2.2.2.2.2.2.2.2.2.2.2.1 y66.1.2.1.2.2.2.2.2.2.2.2.2.2.2.2.1
theorem ex_frame_framer_read_h0_3 : ∃ f, f = @b_frame_framer_read_h0_3 := ⟨_, rfl⟩
noncomputable def frame_framer_read_h0_3 := Classical.choose ex_frame_framer_read_h0_3
theorem frame_framer_read_h0_3_eq : @frame_framer_read_h0_3 = @b_frame_framer_read_h0_3 := Classical.choose_spec ex_frame_framer_read_h0_3
theorem s_frame_framer_read_h0_3 {base S0 cs0} (hfin : H_frame_framer_read_h0 base S0) : J_frame_framer_read_h0 base S0 cs0 p_frame_framer_read_h0_3 (u_frame_framer_read_h0_3 (frame_framer_read_h0_3)) :=
  JSound.join hfin.2 (o_frame_framer_read_h0_4 hfin) ks_frame_framer_read_h0 100000 (by rw [frame_framer_read_h0_3_eq]; intro x; kernel_rfl)
noncomputable def x_frame_framer_read_h0_3 : Cfg → Option (Option (Option R_frame_framer_read_h0)) := cut p_frame_framer_read_h0_3 (u_frame_framer_read_h0_3 (frame_framer_read_h0_3)) (x_frame_framer_read_h0_4)
theorem o_frame_framer_read_h0_3 {base S0 cs0} (hfin : H_frame_framer_read_h0 base S0) : O_frame_framer_read_h0 base S0 cs0 (x_frame_framer_read_h0_3) := OSound.cut (o_frame_framer_read_h0_4 hfin) (Nat.le_of_eq hfin.1) (s_frame_framer_read_h0_3 hfin)
@[reducible] noncomputable def p_frame_framer_read_h0_2 : CPat := ⟨⟨88, [1, 1, 1, 0, 1, 0, 1, 1, 1, 1, 1, 1, 1, 1, 1, 1, 1, 1, 1], none, [.ptr 0 0, .any, .any, .any, .any, .any, .any, .any, .any, .any, .any, .any, .any, .any, .any, .any, .any, .any, .any, .any, .any, .any, .any, .any, .any, .any, .any, .any, .any, .any, .any, .any, .any, .any, .any, .any, .any, .any, .any, .any, .any, .int .u64, .any, .any, .any, .any, .any, .any, .any, .any, .any, .any, .any, .any, .any, .any, .any, .any, .any, .any, .any, .any, .any, .any, .any, .any, .any, .any, .any, .any, .any, .any, .any, .any, .any, .any, .any, .any, .any, .any, .any, .any, .any, .any, .any, .any, .any, .any, .any, .any, .any, .any, .any, .any, .any, .any, .any, .any, .any, .any, .any, .any, .any, .any, .any, .any, .any, .any, .any, .any, .any, .any, .any, .any, .any, .any, .any, .any, .any, .any, .any, .any, .any, .any, .any, .any, .any, .any, .any, .any, .any, .any, .any, .any, .any, .any, .any, .any, .any, .any, .any, .any, .any, .any, .bool], 129⟩, [], [.dat 154 T_frame_framer], 1⟩
@[reducible] noncomputable def u_frame_framer_read_h0_2 (k : Int → Bool → D_frame_framer → Option (Option R_frame_framer_read_h0)) : denC p_frame_framer_read_h0_2 → Option (Option R_frame_framer_read_h0) := fun x => k x.1.2.2.2.2.2.2.2.2.2.2.2.2.2.2.2.2.2.2.2.2.2.2.2.2.2.2.2.2.2.2.2.2.2.2.2.2.2.2.2.2.2.1 x.1.2.2.2.2.2.2.2.2.2.2.2.2.2.2.2.2.2.2.2.2.2.2.2.2.2.2.2.2.2.2.2.2.2.2.2.2.2.2.2.2.2.2.2.2.2.2.2.2.2.2.2.2.2.2.2.2.2.2.2.2.2.2.2.2.2.2.2.2.2.2.2.2.2.2.2.2.2.2.2.2.2.2.2.2.2.2.2.2.2.2.2.2.2.2.2.2.2.2.2.2.2.2.2.2.2.2.2.2.2.2.2.2.2.2.2.2.2.2.2.2.2.2.2.2.2.2.2.2.2.2.2.2.2.2.2.2.2.2.2.2.2.2.2.2.1 x.2.2.1
noncomputable def b_frame_framer_read_h0_2 (i35 : Int) (b36 : Bool) (d37 : D_frame_framer) : Option (Option R_frame_framer_read_h0) :=
  bif b36 then
    obindP (frame_reader_into_h5 d37) (
      some none) fun y38 =>
    frame_framer_read_h0_4 y38.1.1.1 y38.1.2.1.1 y38.1.2.1.2.1 y38.1.2.1.2.2.1 y38.1.2.1.2.2.2.1 y38.1.2.1.2.2.2.2.1 y38.1.2.1.2.2.2.2.2.1 y38.1.2.1.2.2.2.2.2.2.1 y38.1.2.1.2.2.2.2.2.2.2.1 y38.1.2.1.2.2.2.2.2.2.2.2.1 y38.1.2.1.2.2.2.2.2.2.2.2.2.1 y38.1.2.1.2.2.2.2.2.2.2.2.2.2.1 y38.1.2.1.2.2.2.2.2.2.2.2.2.2.2.1 y38.1.2.1.2.2.2.2.2.2.2.2.2.2.2.2.1
  else
    let b39 : Bool := (i35 == (24 : Int))
    bif b39 then
      obindP (frame_reader_into_h8 d37) (
        some none) fun y40 =>
      obindP (frame_reader_take_h0 (1 : Int) y40.1) (
        some none) fun y41 =>
      bif (decide (((0 : Int) ≤ (0 : Int)) ∧ ((0 : Int) < (((ByteArray.size y41.1) : Nat) : Int)))) then
        let n42 : Int := (byteAt y41.1 (0 : Int))
        let b43 : Bool := (n42 == (8 : Int))
        obindP (frame_reader_need_h0 b43 y41.2.1) (
          some none) fun y44 =>
        obindP (frame_reader_take_h0 (8 : Int) y44.1) (
          some none) fun y45 =>
        obindP (frame_reader_take_h0 (16 : Int) y45.2.1) (
          some none) fun y46 =>
        frame_framer_read_h0_4 y46.2.1.1.1 y46.2.1.2.1.1 y46.2.1.2.1.2.1 y46.2.1.2.1.2.2.1 y46.2.1.2.1.2.2.2.1 y46.2.1.2.1.2.2.2.2.1 y46.2.1.2.1.2.2.2.2.2.1 y46.2.1.2.1.2.2.2.2.2.2.1 y46.2.1.2.1.2.2.2.2.2.2.2.1 y46.2.1.2.1.2.2.2.2.2.2.2.2.1 y46.2.1.2.1.2.2.2.2.2.2.2.2.2.1 y45.1 y46.1 y46.2.1.2.1.2.2.2.2.2.2.2.2.2.2.2.2.1
      else none
    else
      let b47 : Bool := (i35 == (25 : Int))
      bif b47 then
        obindP (frame_reader_into_h4 d37) (
          some none) fun y48 =>
        frame_framer_read_h0_4 y48.1.1.1 y48.1.2.1.1 y48.1.2.1.2.1 y48.1.2.1.2.2.1 y48.1.2.1.2.2.2.1 y48.1.2.1.2.2.2.2.1 y48.1.2.1.2.2.2.2.2.1 y48.1.2.1.2.2.2.2.2.2.1 y48.1.2.1.2.2.2.2.2.2.2.1 y48.1.2.1.2.2.2.2.2.2.2.2.1 y48.1.2.1.2.2.2.2.2.2.2.2.2.1 y48.1.2.1.2.2.2.2.2.2.2.2.2.2.1 y48.1.2.1.2.2.2.2.2.2.2.2.2.2.2.1 y48.1.2.1.2.2.2.2.2.2.2.2.2.2.2.2.1
      else
        let b49 : Bool := (i35 == (26 : Int))
        bif b49 then
          frame_framer_read_h0_3 i35 true d37
        else
          let b50 : Bool := (i35 == (27 : Int))
          frame_framer_read_h0_3 i35 b50 d37
theorem ex_frame_framer_read_h0_2 : ∃ f, f = @b_frame_framer_read_h0_2 := ⟨_, rfl⟩
noncomputable def frame_framer_read_h0_2 := Classical.choose ex_frame_framer_read_h0_2
theorem frame_framer_read_h0_2_eq : @frame_framer_read_h0_2 = @b_frame_framer_read_h0_2 := Classical.choose_spec ex_frame_framer_read_h0_2
theorem s_frame_framer_read_h0_2 {base S0 cs0} (hfin : H_frame_framer_read_h0 base S0) : J_frame_framer_read_h0 base S0 cs0 p_frame_framer_read_h0_2 (u_frame_framer_read_h0_2 (frame_framer_read_h0_2)) :=
  JSound.join hfin.2 (o_frame_framer_read_h0_3 hfin) ks_frame_framer_read_h0 100000 (by rw [frame_framer_read_h0_2_eq]; intro x; kernel_rfl)
noncomputable def x_frame_framer_read_h0_2 : Cfg → Option (Option (Option R_frame_framer_read_h0)) := cut p_frame_framer_read_h0_2 (u_frame_framer_read_h0_2 (frame_framer_read_h0_2)) (x_frame_framer_read_h0_3)
theorem o_frame_framer_read_h0_2 {base S0 cs0} (hfin : H_frame_framer_read_h0 base S0) : O_frame_framer_read_h0 base S0 cs0 (x_frame_framer_read_h0_2) := OSound.cut (o_frame_framer_read_h0_3 hfin) (Nat.le_of_eq hfin.1) (s_frame_framer_read_h0_2 hfin)
@[reducible] noncomputable def p_frame_framer_read_h0_1 : CPat := ⟨⟨88, [1, 1, 1, 0, 1, 0, 1, 1, 1, 1, 1, 1, 1, 1, 1, 1, 1], none, [.ptr 0 0, .any, .any, .any, .any, .any, .any, .any, .any, .any, .any, .any, .any, .any, .any, .any, .any, .any, .any, .any, .any, .any, .any, .any, .any, .any, .any, .any, .any, .any, .any, .any, .any, .any, .any, .any, .any, .any, .any, .any, .any, .int .u64, .any, .any, .any, .any, .any, .any, .any, .any, .any, .any, .any, .any, .any, .any, .any, .any, .any, .any, .any, .any, .any, .any, .any, .any, .any, .any, .any, .any, .any, .any, .any, .any, .any, .any, .any, .any, .any, .any, .any, .any, .any, .any, .any, .any, .any, .any, .any, .any, .any, .any, .any, .any, .any, .any, .any, .any, .any, .any, .any, .any, .any, .any, .any, .any, .any, .any, .any, .any, .any, .any, .any, .any, .any, .any, .any, .any, .any, .any, .any, .any, .any, .any, .any, .any, .any, .any, .bool], 145⟩, [], [.dat 154 T_frame_framer], 1⟩
@[reducible] noncomputable def u_frame_framer_read_h0_1 (k : Int → Bool → D_frame_framer → Option (Option R_frame_framer_read_h0)) : denC p_frame_framer_read_h0_1 → Option (Option R_frame_framer_read_h0) := fun x => k x.1.2.2.2.2.2.2.2.2.2.2.2.2.2.2.2.2.2.2.2.2.2.2.2.2.2.2.2.2.2.2.2.2.2.2.2.2.2.2.2.2.2.1 x.1.2.2.2.2.2.2.2.2.2.2.2.2.2.2.2.2.2.2.2.2.2.2.2.2.2.2.2.2.2.2.2.2.2.2.2.2.2.2.2.2.2.2.2.2.2.2.2.2.2.2.2.2.2.2.2.2.2.2.2.2.2.2.2.2.2.2.2.2.2.2.2.2.2.2.2.2.2.2.2.2.2.2.2.2.2.2.2.2.2.2.2.2.2.2.2.2.2.2.2.2.2.2.2.2.2.2.2.2.2.2.2.2.2.2.2.2.2.2.2.2.2.2.2.2.2.2.2.2.1 x.2.2.1
noncomputable def b_frame_framer_read_h0_1 (i29 : Int) (b30 : Bool) (d31 : D_frame_framer) : Option (Option R_frame_framer_read_h0) :=
  bif b30 then
    obindP (frame_reader_into_h2 d31) (
      some none) fun y32 =>
    frame_framer_read_h0_4 y32.1.1.1 y32.1.2.1.1 y32.1.2.1.2.1 y32.1.2.1.2.2.1 y32.1.2.1.2.2.2.1 y32.1.2.1.2.2.2.2.1 y32.1.2.1.2.2.2.2.2.1 y32.1.2.1.2.2.2.2.2.2.1 y32.1.2.1.2.2.2.2.2.2.2.1 y32.1.2.1.2.2.2.2.2.2.2.2.1 y32.1.2.1.2.2.2.2.2.2.2.2.2.1 y32.1.2.1.2.2.2.2.2.2.2.2.2.2.1 y32.1.2.1.2.2.2.2.2.2.2.2.2.2.2.1 y32.1.2.1.2.2.2.2.2.2.2.2.2.2.2.2.1
  else
    let b33 : Bool := (i29 == (17 : Int))
    bif b33 then
      frame_framer_read_h0_2 i29 true d31
    else
      let b34 : Bool := (i29 == (21 : Int))
      frame_framer_read_h0_2 i29 b34 d31
theorem ex_frame_framer_read_h0_1 : ∃ f, f = @b_frame_framer_read_h0_1 := ⟨_, rfl⟩
noncomputable def frame_framer_read_h0_1 := Classical.choose ex_frame_framer_read_h0_1
theorem frame_framer_read_h0_1_eq : @frame_framer_read_h0_1 = @b_frame_framer_read_h0_1 := Classical.choose_spec ex_frame_framer_read_h0_1
theorem s_frame_framer_read_h0_1 {base S0 cs0} (hfin : H_frame_framer_read_h0 base S0) : J_frame_framer_read_h0 base S0 cs0 p_frame_framer_read_h0_1 (u_frame_framer_read_h0_1 (frame_framer_read_h0_1)) :=
  JSound.join hfin.2 (o_frame_framer_read_h0_2 hfin) ks_frame_framer_read_h0 100000 (by rw [frame_framer_read_h0_1_eq]; intro x; kernel_rfl)
noncomputable def x_frame_framer_read_h0_1 : Cfg → Option (Option (Option R_frame_framer_read_h0)) := cut p_frame_framer_read_h0_1 (u_frame_framer_read_h0_1 (frame_framer_read_h0_1)) (x_frame_framer_read_h0_2)
theorem o_frame_framer_read_h0_1 {base S0 cs0} (hfin : H_frame_framer_read_h0 base S0) : O_frame_framer_read_h0 base S0 cs0 (x_frame_framer_read_h0_1) := OSound.cut (o_frame_framer_read_h0_2 hfin) (Nat.le_of_eq hfin.1) (s_frame_framer_read_h0_1 hfin)
@[reducible] noncomputable def p_frame_framer_read_h0_0 : CPat := ⟨⟨88, [1, 1, 1, 0, 1, 0, 1], none, [.ptr 0 0, .any, .any, .any, .any, .any, .any, .any, .any, .any, .any, .any, .any, .any, .any, .any, .any, .any, .any, .any, .any, .any, .any, .any, .any, .any, .any, .any, .any, .any, .any, .any, .any, .any, .any, .any, .any, .any, .any, .any, .any, .int .u64, .any, .any, .any, .any, .any, .any, .any, .any, .any, .any, .any, .any, .any, .any, .any, .any, .any, .any, .any, .any, .any, .any, .any, .any, .any, .bool], 206⟩, [], [.dat 154 T_frame_framer], 1⟩
@[reducible] noncomputable def u_frame_framer_read_h0_0 (k : Int → Bool → D_frame_framer → Option (Option R_frame_framer_read_h0)) : denC p_frame_framer_read_h0_0 → Option (Option R_frame_framer_read_h0) := fun x => k x.1.2.2.2.2.2.2.2.2.2.2.2.2.2.2.2.2.2.2.2.2.2.2.2.2.2.2.2.2.2.2.2.2.2.2.2.2.2.2.2.2.2.1 x.1.2.2.2.2.2.2.2.2.2.2.2.2.2.2.2.2.2.2.2.2.2.2.2.2.2.2.2.2.2.2.2.2.2.2.2.2.2.2.2.2.2.2.2.2.2.2.2.2.2.2.2.2.2.2.2.2.2.2.2.2.2.2.2.2.2.2.2.1 x.2.2.1
noncomputable def b_frame_framer_read_h0_0 (i11 : Int) (b12 : Bool) (d13 : D_frame_framer) : Option (Option R_frame_framer_read_h0) :=
  bif b12 then
    frame_framer_read_h0_4 d13.1.1 d13.2.1.1 d13.2.1.2.1 d13.2.1.2.2.1 d13.2.1.2.2.2.1 d13.2.1.2.2.2.2.1 d13.2.1.2.2.2.2.2.1 d13.2.1.2.2.2.2.2.2.1 d13.2.1.2.2.2.2.2.2.2.1 d13.2.1.2.2.2.2.2.2.2.2.1 d13.2.1.2.2.2.2.2.2.2.2.2.1 d13.2.1.2.2.2.2.2.2.2.2.2.2.1 d13.2.1.2.2.2.2.2.2.2.2.2.2.2.1 d13.2.1.2.2.2.2.2.2.2.2.2.2.2.2.1
  else
    let b14 : Bool := (i11 == (2 : Int))
    bif b14 then
      obindP (frame_framer_ack_h0 d13) (
        some none) fun y15 =>
      frame_framer_read_h0_4 y15.1 y15.2.1 y15.2.2.1 y15.2.2.2.1 y15.2.2.2.2.1 y15.2.2.2.2.2.1 y15.2.2.2.2.2.2.1 y15.2.2.2.2.2.2.2.1 y15.2.2.2.2.2.2.2.2.1 y15.2.2.2.2.2.2.2.2.2.1 y15.2.2.2.2.2.2.2.2.2.2.1 y15.2.2.2.2.2.2.2.2.2.2.2.1 y15.2.2.2.2.2.2.2.2.2.2.2.2.1 y15.2.2.2.2.2.2.2.2.2.2.2.2.2.1
    else
      let b16 : Bool := (i11 == (4 : Int))
      bif b16 then
        obindP (frame_reader_into_h9 d13) (
          some none) fun y17 =>
        frame_framer_read_h0_4 y17.1.1.1 y17.1.2.1.1 y17.1.2.1.2.1 y17.1.2.1.2.2.1 y17.1.2.1.2.2.2.1 y17.1.2.1.2.2.2.2.1 y17.1.2.1.2.2.2.2.2.1 y17.1.2.1.2.2.2.2.2.2.1 y17.1.2.1.2.2.2.2.2.2.2.1 y17.1.2.1.2.2.2.2.2.2.2.2.1 y17.1.2.1.2.2.2.2.2.2.2.2.2.1 y17.1.2.1.2.2.2.2.2.2.2.2.2.2.1 y17.1.2.1.2.2.2.2.2.2.2.2.2.2.2.1 y17.1.2.1.2.2.2.2.2.2.2.2.2.2.2.2.1
      else
        let b18 : Bool := (i11 == (5 : Int))
        bif b18 then
          obindP (frame_reader_into_h6 d13) (
            some none) fun y19 =>
          frame_framer_read_h0_4 y19.1.1.1 y19.1.2.1.1 y19.1.2.1.2.1 y19.1.2.1.2.2.1 y19.1.2.1.2.2.2.1 y19.1.2.1.2.2.2.2.1 y19.1.2.1.2.2.2.2.2.1 y19.1.2.1.2.2.2.2.2.2.1 y19.1.2.1.2.2.2.2.2.2.2.1 y19.1.2.1.2.2.2.2.2.2.2.2.1 y19.1.2.1.2.2.2.2.2.2.2.2.2.1 y19.1.2.1.2.2.2.2.2.2.2.2.2.2.1 y19.1.2.1.2.2.2.2.2.2.2.2.2.2.2.1 y19.1.2.1.2.2.2.2.2.2.2.2.2.2.2.2.1
        else
          let b20 : Bool := (i11 == (6 : Int))
          bif b20 then
            obindP (frame_reader_into_h1 d13) (
              some none) fun y21 =>
            obindP (frame_reader_long_h0 y21.1) (
              some none) fun y22 =>
            frame_framer_read_h0_4 y22.2.1.1.1 y22.2.1.2.1.1 y22.2.1.2.1.2.1 y22.2.1.2.1.2.2.1 y22.2.1.2.1.2.2.2.1 y22.2.1.2.1.2.2.2.2.1 y22.2.1.2.1.2.2.2.2.2.1 y22.2.1.2.1.2.2.2.2.2.2.1 y22.2.1.2.1.2.2.2.2.2.2.2.1 y22.2.1.2.1.2.2.2.2.2.2.2.2.1 y22.1 y22.2.1.2.1.2.2.2.2.2.2.2.2.2.2.1 y22.2.1.2.1.2.2.2.2.2.2.2.2.2.2.2.1 y22.2.1.2.1.2.2.2.2.2.2.2.2.2.2.2.2.1
          else
            let b23 : Bool := (i11 == (16 : Int))
            bif b23 then
              frame_framer_read_h0_1 i11 true d13
            else
              let b24 : Bool := (i11 == (18 : Int))
              bif b24 then
                frame_framer_read_h0_1 i11 true d13
              else
                let b25 : Bool := (i11 == (19 : Int))
                bif b25 then
                  frame_framer_read_h0_1 i11 true d13
                else
                  let b26 : Bool := (i11 == (20 : Int))
                  bif b26 then
                    frame_framer_read_h0_1 i11 true d13
                  else
                    let b27 : Bool := (i11 == (22 : Int))
                    bif b27 then
                      frame_framer_read_h0_1 i11 true d13
                    else
                      let b28 : Bool := (i11 == (23 : Int))
                      frame_framer_read_h0_1 i11 b28 d13
theorem ex_frame_framer_read_h0_0 : ∃ f, f = @b_frame_framer_read_h0_0 := ⟨_, rfl⟩
noncomputable def frame_framer_read_h0_0 := Classical.choose ex_frame_framer_read_h0_0
theorem frame_framer_read_h0_0_eq : @frame_framer_read_h0_0 = @b_frame_framer_read_h0_0 := Classical.choose_spec ex_frame_framer_read_h0_0
theorem s_frame_framer_read_h0_0 {base S0 cs0} (hfin : H_frame_framer_read_h0 base S0) : J_frame_framer_read_h0 base S0 cs0 p_frame_framer_read_h0_0 (u_frame_framer_read_h0_0 (frame_framer_read_h0_0)) :=
  JSound.join hfin.2 (o_frame_framer_read_h0_1 hfin) ks_frame_framer_read_h0 100000 (by rw [frame_framer_read_h0_0_eq]; intro x; kernel_rfl)
noncomputable def x_frame_framer_read_h0_0 : Cfg → Option (Option (Option R_frame_framer_read_h0)) := cut p_frame_framer_read_h0_0 (u_frame_framer_read_h0_0 (frame_framer_read_h0_0)) (x_frame_framer_read_h0_1)
theorem o_frame_framer_read_h0_0 {base S0 cs0} (hfin : H_frame_framer_read_h0 base S0) : O_frame_framer_read_h0 base S0 cs0 (x_frame_framer_read_h0_0) := OSound.cut (o_frame_framer_read_h0_1 hfin) (Nat.le_of_eq hfin.1) (s_frame_framer_read_h0_0 hfin)
noncomputable def b_frame_framer_read_h0 (d0 : D_frame_framer) : Option (Option R_frame_framer_read_h0) :=
  let n1 : Int := (((ByteArray.size d0.1.1) : Nat) : Int)
  obindP (frame_reader_into_h0 d0) (
    some none) fun y2 =>
  let n3 : Int := (((ByteArray.size y2.1.1.1) : Nat) : Int)
  let n4 : Int := (Go.IntKind.wrap Go.IntKind.i64 (n1 - n3))
  obind (varint_Size y2.1.2.1.1) fun y5 =>
  let b6 : Bool := (n4 == y5.1)
  obindP (frame_reader_need_h0 b6 y2.1) (
    some none) fun y7 =>
  let b8 : Bool := (y7.1.2.1.1 == (0 : Int))
  bif b8 then
    frame_framer_read_h0_0 y7.1.2.1.1 true y7.1
  else
    let b9 : Bool := (y7.1.2.1.1 == (1 : Int))
    bif b9 then
      frame_framer_read_h0_0 y7.1.2.1.1 true y7.1
    else
      let b10 : Bool := (y7.1.2.1.1 == (30 : Int))
      frame_framer_read_h0_0 y7.1.2.1.1 b10 y7.1
theorem ex_frame_framer_read_h0 : ∃ f, f = @b_frame_framer_read_h0 := ⟨_, rfl⟩
noncomputable def frame_framer_read_h0 := Classical.choose ex_frame_framer_read_h0
theorem frame_framer_read_h0_eq : @frame_framer_read_h0 = @b_frame_framer_read_h0 := Classical.choose_spec ex_frame_framer_read_h0
noncomputable def hb_frame_framer_read_h0 : HCon := HCon.mkP 149 pa_frame_framer_read_h0 pH_frame_framer_read_h0 qa_frame_framer_read_h0 qH_frame_framer_read_h0 R_frame_framer_read_h0 default (fun x => b_frame_framer_read_h0 x.2.1) (fun r => ((), (r.1, ()))) (fun y => (y.2.1, ())) (fun _ => rfl)
noncomputable def h_frame_framer_read_h0 : HCon := HCon.mkP 149 pa_frame_framer_read_h0 pH_frame_framer_read_h0 qa_frame_framer_read_h0 qH_frame_framer_read_h0 R_frame_framer_read_h0 default (fun x => frame_framer_read_h0 x.2.1) (fun r => ((), (r.1, ()))) (fun y => (y.2.1, ())) (fun _ => rfl)
theorem hb_frame_framer_read_h0_ok : hb_frame_framer_read_h0.Sound prog Inv gInv 88 :=
  hcon_run (M := m_frame_framer_read_h0) (f := f88) rfl ks_frame_framer_read_h0 100000 (X := x_frame_framer_read_h0_0) (fun base S0 cs0 hn hf => have hfin : H_frame_framer_read_h0 base S0 := ⟨hn, hf⟩; o_frame_framer_read_h0_0 hfin) (by intro x; kernel_rfl)
theorem h_frame_framer_read_h0_ok : h_frame_framer_read_h0.Sound prog Inv gInv 88 := by
  have e : h_frame_framer_read_h0 = hb_frame_framer_read_h0 := by unfold h_frame_framer_read_h0 hb_frame_framer_read_h0; rw [frame_framer_read_h0_eq]
  rw [e]; exact hb_frame_framer_read_h0_ok
end Go.Proofs.YtjdjlijjolibkaaDoor.V
namespace Go.Proofs.YtjdjlijjolibkaaDoor.V
open Go.RowKit Go.Proofs.Tryd
set_option maxRecDepth 100000
set_option linter.unusedVariables false
noncomputable def m_frame_Get : Mach prog Inv gInv := mach bas [(38, f38), (87, f87), (88, f88)] ⟨ok38, ok87, ok88, trivial⟩ [] trivial [] trivial [(88, h_frame_framer_read_h0)] ⟨⟨h_frame_framer_read_h0_ok, FnOk.callable ok88⟩, trivial⟩
/-! ### domino/frame.Get -/
@[reducible] def r_frame_Get : List Ty := [T_frame_Frame, .str, (.int .i64)]
noncomputable def b_frame_Get (a0 : ByteArray) : Option (D_frame_Frame × ByteArray × Int × Unit) :=
  obindP (frame_framer_read_h0 ((a0, ()), ((0, (0, (0, (0, (0, (0, (0, (0, (false, (⟨#[]⟩, (⟨#[]⟩, (⟨#[]⟩, ([], ()))))))))))))), ()))) (some ((0, (0, (0, (0, (0, (0, (0, (0, (false, (⟨#[]⟩, (⟨#[]⟩, (⟨#[]⟩, ([], ()))))))))))))), (⟨#[]⟩, (60, ())))) fun y =>
    some (y.1.2.1, (y.1.1.1, (0, ())))
theorem ex_frame_Get : ∃ f, f = @b_frame_Get := ⟨_, rfl⟩
noncomputable def frame_Get := Classical.choose ex_frame_Get
theorem frame_Get_eq : @frame_Get = @b_frame_Get := Classical.choose_spec ex_frame_Get
noncomputable def cb_frame_Get : Con := ⟨[.str], r_frame_Get, fun x => b_frame_Get x.1⟩
noncomputable def c_frame_Get : Con := ⟨[.str], r_frame_Get, fun x => frame_Get x.1⟩
theorem cb_frame_Get_ok : cb_frame_Get.Sound prog Inv gInv 38 :=
  defer_con (M := m_frame_Get) inv_g (f := f38) rfl 30 (by intro x; kernel_rfl)
theorem c_frame_Get_ok : c_frame_Get.Sound prog Inv gInv 38 := by
  have e : c_frame_Get = cb_frame_Get := by unfold c_frame_Get cb_frame_Get; rw [frame_Get_eq]
  rw [e]; exact cb_frame_Get_ok
end Go.Proofs.YtjdjlijjolibkaaDoor.V
/- What frame.Get answers, in plain Lean: a reader of bytes. -/
namespace Go.Proofs.YtjdjlijjolibkaaDoor.V
open Go.RowKit
set_option linter.unusedVariables false
/-! ### readers -/
abbrev Pr (α : Type) := List Int → Option (α × List Int)
def pb {α β : Type} (p : Pr α) (f : α → Pr β) : Pr β := fun l => match p l with
  | some (a, r) => f a r
  | none => none
def pr {α : Type} (a : α) : Pr α := fun l => some (a, l)
def pg (b : Bool) : Pr Unit := fun l => bif b then some ((), l) else none
def ptake (n : Nat) : Pr (List Int) := fun l => if n ≤ l.length then some (l.take n, l.drop n) else none
theorem pb_assoc {α β γ : Type} (p : Pr α) (f : α → Pr β) (g : β → Pr γ) : pb (pb p f) g = pb p fun a => pb (f a) g := by
  funext l
  simp only [pb]
  cases p l <;> rfl
theorem pb_pr {α β : Type} (a : α) (f : α → Pr β) : pb (pr a) f = f a := rfl
theorem pb_gt {β : Type} {b : Bool} (h : b = true) (f : Unit → Pr β) : pb (pg b) f = f () := by subst h; rfl
theorem pb_gf {β : Type} {b : Bool} (h : b = false) (f : Unit → Pr β) (l : List Int) : pb (pg b) f l = none := by subst h; rfl
/-- What is behind what was read was there. -/
def Suf {α : Type} (p : Pr α) : Prop := ∀ l a r, p l = some (a, r) → ∃ q, l = q ++ r
/-- More bytes behind turn nothing. -/
def Mono {α : Type} (p : Pr α) : Prop := ∀ l a r t, p l = some (a, r) → p (l ++ t) = some (a, r ++ t)
theorem Suf.pr {α : Type} (a : α) : Suf (pr a) := fun l b r h => by cases h; exact ⟨[], rfl⟩
theorem Mono.pr {α : Type} (a : α) : Mono (pr a) := fun l b r t h => by cases h; rfl
theorem Suf.pg (b : Bool) : Suf (pg b) := fun l a r h => by
  cases b with
  | true => cases h; exact ⟨[], rfl⟩
  | false => cases h
theorem Mono.pg (b : Bool) : Mono (pg b) := fun l a r t h => by
  cases b with
  | true => cases h; rfl
  | false => cases h
theorem pb_some {α β : Type} {p : Pr α} {f : α → Pr β} {l : List Int} {b : β} {r : List Int} (h : pb p f l = some (b, r)) : ∃ a r1, p l = some (a, r1) ∧ f a r1 = some (b, r) := by
  simp only [pb] at h
  cases hp : p l with
  | none => rw [hp] at h; cases h
  | some x => rw [hp] at h; exact ⟨x.1, x.2, rfl, h⟩
theorem Suf.bind {α β : Type} {p : Pr α} {f : α → Pr β} (h : Suf p) (k : ∀ a, Suf (f a)) : Suf (pb p f) := fun l b r e => by
  obtain ⟨a, r1, e1, e2⟩ := pb_some e
  obtain ⟨q1, rfl⟩ := h _ _ _ e1
  obtain ⟨q2, rfl⟩ := k a _ _ _ e2
  exact ⟨q1 ++ q2, by simp⟩
theorem Mono.bind {α β : Type} {p : Pr α} {f : α → Pr β} (h : Mono p) (k : ∀ a, Mono (f a)) : Mono (pb p f) := fun l b r t e => by
  obtain ⟨a, r1, e1, e2⟩ := pb_some e
  simp only [pb, h _ _ _ t e1, k a _ _ _ t e2]
theorem Suf.take (n : Nat) : Suf (ptake n) := fun l a r h => by
  simp only [ptake] at h
  split at h
  · cases h; exact ⟨l.take n, (List.take_append_drop n l).symm⟩
  · cases h
theorem Mono.take (n : Nat) : Mono (ptake n) := fun l a r t h => by
  simp only [ptake] at h
  split at h
  · rename_i hn
    cases h
    have : n ≤ (l ++ t).length := by simp; omega
    simp only [ptake, this, if_true, List.take_append_of_le_length hn, List.drop_append_of_le_length hn]
  · cases h
theorem vget_some {l : List Int} {n : Int} {r : List Int} (h : vget l = some (n, r)) : ∃ q, l = q ++ r ∧ 1 ≤ q.length ∧ (Byt l → In62 n) ∧ ∀ t, vget (q ++ t) = some (n, t) := by
  cases l with
  | nil => cases h
  | cons b l =>
    by_cases h1 : b < 64
    · simp only [vget, h1, if_true, Option.some.injEq, Prod.mk.injEq] at h
      obtain ⟨rfl, rfl⟩ := h
      exact ⟨[b], rfl, by simp, fun hb => by have := (Byt.cons.mp hb).1; unfold In62; omega, fun t => by simp [vget, h1]⟩
    · by_cases h2 : b < 128
      · rcases l with _ | ⟨b1, l⟩
        · simp [vget, h1, h2] at h
        · simp only [vget, h1, h2, if_true, if_false, Option.some.injEq, Prod.mk.injEq] at h
          obtain ⟨rfl, rfl⟩ := h
          refine ⟨[b, b1], rfl, by simp, fun hb => ?_, fun t => by simp [vget, h1, h2]⟩
          simp only [Byt.cons] at hb
          unfold In62; omega
      · by_cases h3 : b < 192
        · rcases l with _ | ⟨b1, _ | ⟨b2, _ | ⟨b3, l⟩⟩⟩
          case cons.cons.cons =>
            simp only [vget, h1, h2, h3, if_true, if_false, Option.some.injEq, Prod.mk.injEq] at h
            obtain ⟨rfl, rfl⟩ := h
            refine ⟨[b, b1, b2, b3], rfl, by simp, fun hb => ?_, fun t => by simp [vget, h1, h2, h3]⟩
            simp only [Byt.cons] at hb
            unfold In62; omega
          all_goals simp [vget, h1, h2, h3] at h
        · rcases l with _ | ⟨b1, _ | ⟨b2, _ | ⟨b3, _ | ⟨b4, _ | ⟨b5, _ | ⟨b6, _ | ⟨b7, l⟩⟩⟩⟩⟩⟩⟩
          case cons.cons.cons.cons.cons.cons.cons =>
            simp only [vget, h1, h2, h3, if_false, Option.some.injEq, Prod.mk.injEq] at h
            obtain ⟨rfl, rfl⟩ := h
            refine ⟨[b, b1, b2, b3, b4, b5, b6, b7], rfl, by simp, fun hb => ?_, fun t => by simp [vget, h1, h2, h3]⟩
            simp only [Byt.cons] at hb
            unfold In62; omega
          all_goals simp [vget, h1, h2, h3] at h
theorem Suf.vget : Suf vget := fun l a r h => by
  obtain ⟨q, e, _⟩ := vget_some h
  exact ⟨q, e⟩
theorem Mono.vget : Mono vget := fun l a r t h => by
  obtain ⟨q, rfl, _, _, k⟩ := vget_some h
  rw [List.append_assoc]; exact k _
theorem vget_vb (n : Int) (h : In62 n) (t : List Int) : vget (vb n ++ t) = some (n, t) := by
  obtain ⟨h0, h1⟩ := h
  unfold vb
  split
  · rename_i e; simp [vget, e]
  · split
    · rename_i e1 e2
      have c1 : ¬ 64 + n / 256 < 64 := by omega
      have c2 : 64 + n / 256 < 128 := by omega
      simp only [List.cons_append, List.nil_append, vget, c1, c2, if_true, if_false]
      congr 2; omega
    · split
      · rename_i e1 e2 e3
        have c1 : ¬ 128 + n / 16777216 < 64 := by omega
        have c2 : ¬ 128 + n / 16777216 < 128 := by omega
        have c3 : 128 + n / 16777216 < 192 := by omega
        simp only [List.cons_append, List.nil_append, vget, c1, c2, c3, if_true, if_false]
        congr 2; omega
      · rename_i e1 e2 e3
        have c1 : ¬ 192 + n / 72057594037927936 < 64 := by omega
        have c2 : ¬ 192 + n / 72057594037927936 < 128 := by omega
        have c3 : ¬ 192 + n / 72057594037927936 < 192 := by omega
        simp only [List.cons_append, List.nil_append, vget, c1, c2, c3, if_false]
        congr 2; omega
theorem vb_vsize (n : Int) (h : In62 n) : (((vb n).length : Nat) : Int) = vsize n := by
  obtain ⟨h0, h1⟩ := h
  unfold vb vsize
  split
  · rfl
  · split
    · rfl
    · split
      · rfl
      · rfl
/-! ### a frame -/
abbrev eB : ByteArray := ⟨#[]⟩
abbrev zF (k : Int) : D_frame_Frame := (k, 0, 0, 0, 0, 0, 0, 0, false, eB, eB, eB, [], ())
def plong : Pr ByteArray := pb vget fun n => pb (ptake n.toNat) fun bs => pr (bytesStr bs)
def pstr (n : Nat) : Pr ByteArray := pb (ptake n) fun bs => pr (bytesStr bs)
def prest : Pr ByteArray := fun l => some (bytesStr l, [])
def gapsP : Nat → Int → Pr (List D_ranges_Range)
  | 0, _ => pr []
  | n + 1, lo => pb vget fun gap => pb vget fun len => pb (pg (decide (gap + 2 ≤ lo) && decide (len ≤ lo - gap - 2))) fun _ =>
    pb (gapsP n (lo - gap - 2 - len)) fun rs => pr ((lo - gap - 2 - len, lo - gap - 2, ()) :: rs)
def ackP : Pr D_frame_Frame := pb vget fun hi => pb vget fun delay => pb vget fun cnt => pb vget fun first => pb (pg (decide (cnt < 32) && decide (first ≤ hi))) fun _ =>
  pb (gapsP cnt.toNat (hi - first)) fun rs => pr (2, 0, 0, 0, 0, 0, 0, delay, false, eB, eB, eB, ((hi - first, hi, ()) :: rs).reverse, ())
def streamP (fin : Bool) (off len : Bool) : Pr D_frame_Frame := pb vget fun id => pb (bif off then vget else pr 0) fun o => pb (bif len then plong else prest) fun data =>
  pr (8, id, o, 0, 0, 0, 0, 0, fin, data, eB, eB, [], ())
def bodyP (k : Int) : Pr D_frame_Frame :=
  bif k == 0 || (k == 1 || k == 30) then pr (zF k)
  else bif k == 2 then ackP
  else bif k == 4 then pb vget fun id => pb vget fun code => pb vget fun mx => pr (4, id, 0, mx, code, 0, 0, 0, false, eB, eB, eB, [], ())
  else bif k == 5 then pb vget fun id => pb vget fun code => pr (5, id, 0, 0, code, 0, 0, 0, false, eB, eB, eB, [], ())
  else bif k == 6 then pb vget fun off => pb plong fun data => pr (6, 0, off, 0, 0, 0, 0, 0, false, data, eB, eB, [], ())
  else bif k == 8 then streamP false false false
  else bif k == 9 then streamP true false false
  else bif k == 10 then streamP false false true
  else bif k == 11 then streamP true false true
  else bif k == 12 then streamP false true false
  else bif k == 13 then streamP true true false
  else bif k == 14 then streamP false true true
  else bif k == 15 then streamP true true true
  else bif k == 16 || (k == 18 || (k == 19 || (k == 20 || (k == 22 || k == 23)))) then pb vget fun mx => pr (k, 0, 0, mx, 0, 0, 0, 0, false, eB, eB, eB, [], ())
  else bif k == 17 || k == 21 then pb vget fun id => pb vget fun mx => pr (k, id, 0, mx, 0, 0, 0, 0, false, eB, eB, eB, [], ())
  else bif k == 24 then pb vget fun seq => pb vget fun prior => pb (ptake 1) fun n => pb (pg (n == [8])) fun _ => pb (pstr 8) fun cid => pb (pstr 16) fun tok =>
    pr (24, 0, 0, 0, 0, seq, prior, 0, false, eB, cid, tok, [], ())
  else bif k == 25 then pb vget fun seq => pr (25, 0, 0, 0, 0, seq, 0, 0, false, eB, eB, eB, [], ())
  else bif k == 26 || k == 27 then pb (pstr 8) fun tok => pr (k, 0, 0, 0, 0, 0, 0, 0, false, eB, eB, tok, [], ())
  else bif k == 28 then pb vget fun code => pb vget fun delay => pb plong fun data => pr (28, 0, 0, 0, code, 0, 0, delay, false, data, eB, eB, [], ())
  else bif k == 29 then pb vget fun code => pb plong fun data => pr (29, 0, 0, 0, code, 0, 0, 0, false, data, eB, eB, [], ())
  else fun _ => none
def finP' (f : D_frame_Frame) : Pr D_frame_Frame := pb (pg (mayFr f)) fun _ => pr f
def getL : Pr D_frame_Frame := fun l => pb vget (fun k r => bif decide (((l.length : Nat) : Int) - ((r.length : Nat) : Int) = vsize k) then pb (bodyP k) finP' r else none) l
/-! ### the program's reader -/
abbrev st (l : List Int) (f : D_frame_Frame) : D_frame_framer := ((bytesStr l, ()), (f, ()))
def outP (o : Option (D_frame_Frame × List Int)) : Option (Option (D_frame_framer × Unit)) := some (o.map fun x => (st x.2 x.1, ()))
theorem obindP_assoc {α β γ : Type} (o : Option (Option α)) (k1 : α → Option (Option β)) (a : Option γ) (k2 : β → Option γ) : obindP (obindP o (some none) k1) a k2 = obindP o a fun y => obindP (k1 y) a k2 := by
  cases o with
  | none => rfl
  | some x => cases x <;> rfl
theorem obindP_ss {α β : Type} (x : α) (a : Option β) (k : α → Option β) : obindP (some (some x)) a k = k x := rfl
theorem obindP_sn {α β : Type} (a : Option β) (k : α → Option β) : obindP (some none) a k = a := rfl
theorem need_is (b : Bool) (d : D_frame_framer) : frame_reader_need_h0 b d = some (bif b then some (d, ()) else none) := by
  rw [frame_reader_need_h0_eq, b_frame_reader_need_h0]
  cases b <;> rfl
theorem strBytes_bs {l : List Int} (h : Byt l) : strBytes (bytesStr l) = l := strBytes_bytesStr h
theorem number_is {l : List Int} (h : Byt l) (f : D_frame_Frame) : frame_reader_number_h0 (st l f) = some ((vget l).map fun x => (x.1, (st x.2 f, ()))) := by
  rw [frame_reader_number_h0_eq, b_frame_reader_number_h0]
  simp only [vget_is, strBytes_bs h, obind_some]
  cases vget l with
  | none => simp [need_is, obindP]
  | some x => simp [need_is, obindP]
theorem Byt.suf {q r : List Int} (h : Byt (q ++ r)) : Byt r := (Byt.app.mp h).2
/-- A number is read. -/
theorem num_pb {f : Int → Pr D_frame_Frame} {l : List Int} {fr : D_frame_Frame} {k : Int × D_frame_framer × Unit → Option (Option (D_frame_framer × Unit))} (hB : Byt l)
    (H : ∀ n r, In62 n → Byt r → r.length < l.length → k (n, (st r fr, ())) = outP (f n r)) : obindP (frame_reader_number_h0 (st l fr)) (some none) k = outP (pb vget f l) := by
  rw [number_is hB]
  cases hv : vget l with
  | none => simp [obindP, pb, hv, outP]
  | some x =>
    obtain ⟨n, r⟩ := x
    obtain ⟨q, rfl, hq, hn, _⟩ := vget_some hv
    simp only [Option.map_some, obindP_ss, pb, hv]
    exact H n r (hn hB) hB.suf (by simp; omega)
theorem take_is {l : List Int} (h : Byt l) (f : D_frame_Frame) (n : Nat) (hn : n ≤ 10000000) (hl : l.length ≤ 1000000) : frame_reader_take_h0 ((n : Nat) : Int) (st l f) = some ((ptake n l).map fun x => (bytesStr x.1, (st x.2 f, ()))) := by
  rw [frame_reader_take_h0_eq, b_frame_reader_take_h0]
  simp only [bytesStr_size, need_is, ptake]
  by_cases c : n ≤ l.length
  · have c1 : ((n : Nat) : Int) ≤ ((l.length : Nat) : Int) := by omega
    have e1 : (bytesStr l).extract 0 n = bytesStr (l.take n) := by
      rw [← strBytes_inj, strBytes_extract, strBytes_bs h, strBytes_bs (fun x hx => h x (List.mem_of_mem_take hx))]; rfl
    have e2 : (bytesStr l).extract n l.length = bytesStr (l.drop n) := by
      rw [← strBytes_inj, strBytes_extract, strBytes_bs h, strBytes_bs (fun x hx => h x (List.mem_of_mem_drop hx)), List.take_length]
    simp only [c1, c, if_true, decide_true, cond_true, obindP_ss, bytesStr_size, Int.toNat_natCast, nn, Int.le_refl, and_self, e1, e2, Option.map_some]
  · have c1 : ¬ ((n : Nat) : Int) ≤ ((l.length : Nat) : Int) := by omega
    simp only [c1, c, if_false, decide_false, cond_false, obindP_sn, Option.map_none]
theorem take_pb {f : ByteArray → Pr D_frame_Frame} {l : List Int} {fr : D_frame_Frame} {n : Nat} {k : ByteArray × D_frame_framer × Unit → Option (Option (D_frame_framer × Unit))} (hB : Byt l) (hn : n ≤ 10000000) (hl : l.length ≤ 1000000)
    (H : ∀ bs r, Byt r → r.length ≤ l.length → bs.length = n → Byt bs → l = bs ++ r → k (bytesStr bs, (st r fr, ())) = outP (f (bytesStr bs) r)) : obindP (frame_reader_take_h0 ((n : Nat) : Int) (st l fr)) (some none) k = outP (pb (pstr n) f l) := by
  rw [take_is hB fr n hn hl]
  simp only [pstr, pb_assoc, pb_pr]
  by_cases c : n ≤ l.length
  · simp only [ptake, c, if_true, Option.map_some, obindP_ss, pb]
    exact H _ _ (fun x hx => hB x (List.mem_of_mem_drop hx)) (by simp) (by simp; omega) (fun x hx => hB x (List.mem_of_mem_take hx)) (List.take_append_drop n l).symm
  · simp only [ptake, c, if_false, Option.map_none, obindP_sn, pb, outP]
theorem long_pb {f : ByteArray → Pr D_frame_Frame} {l : List Int} {fr : D_frame_Frame} {k : ByteArray × D_frame_framer × Unit → Option (Option (D_frame_framer × Unit))} (hB : Byt l) (hl : l.length ≤ 1000000)
    (H : ∀ bs r, Byt r → r.length ≤ l.length → Byt bs → k (bytesStr bs, (st r fr, ())) = outP (f (bytesStr bs) r)) : obindP (frame_reader_long_h0 (st l fr)) (some none) k = outP (pb plong f l) := by
  rw [frame_reader_long_h0_eq, b_frame_reader_long_h0]
  simp only [obindP_assoc, obindP_ss, plong, pb_assoc]
  refine num_pb hB fun n r hn hr hlr => ?_
  simp only [bytesStr_size]
  rw [wrap_u64 _ (by omega) (by omega), need_is]
  obtain ⟨n0, n1⟩ := hn
  by_cases c : n ≤ ((r.length : Nat) : Int)
  · simp only [c, decide_true, cond_true, obindP_ss]
    rw [wrap_i64 n (by omega) (by omega)]
    have := take_pb (f := f) (n := n.toNat) (fr := fr) (k := k) hr (by omega) (by omega) (fun bs r2 h1 h2 h3 h4 h5 => H bs r2 h1 (by omega) h4)
    rw [show ((n.toNat : Nat) : Int) = n by omega] at this
    simp only [pstr, pb_assoc] at this
    exact this
  · have c2 : ¬ n.toNat ≤ r.length := by omega
    simp only [c, decide_false, cond_false, obindP_sn, pb, ptake, c2, if_false, outP, Option.map_none]
end Go.Proofs.YtjdjlijjolibkaaDoor.V
/- What frame.Get answers: an Ack. -/
namespace Go.Proofs.YtjdjlijjolibkaaDoor.V
open Go.RowKit
section
variable (k id off mx code seq prior delay : Int) (fin : Bool) (data cid tok : ByteArray)
theorem number1_is {l : List Int} (h : Byt l) (L : List D_ranges_Range) : frame_reader_number_h1 (bytesStr l) k id off mx code seq prior delay fin data cid tok L =
    some ((vget l).map fun x => (x.1, (bytesStr x.2, (k, (id, (off, (mx, (code, (seq, (prior, (delay, (fin, (data, (cid, (tok, (L, ())))))))))))))))) := by
  rw [frame_reader_number_h1_eq, b_frame_reader_number_h1]
  simp only [vget_is, strBytes_bs h, obind_some, frame_reader_need_h1_eq, b_frame_reader_need_h1]
  cases vget l with
  | none => simp [obindP]
  | some x => simp [obindP]
theorem back_loop (s : ByteArray) : ∀ (n : Nat) (mid pre suf : List D_ranges_Range) (m : Nat), mid.length ≤ n → n < m → (pre ++ (mid ++ suf)).length ≤ 1000 →
    frame_framer_ack_h0_1 m ((pre.length : Nat) : Int) (((pre.length : Nat) : Int) + ((mid.length : Nat) : Int) - 1) s k id off mx code seq prior delay fin data cid tok (pre ++ (mid ++ suf)) =
      some (some (s, (k, (id, (off, (mx, (code, (seq, (prior, (delay, (fin, (data, (cid, (tok, (pre ++ (mid.reverse ++ suf), ())))))))))))))))  := by
  intro n
  induction n using Nat.strongRecOn with
  | _ n ih =>
    intro mid pre suf m hn hm hl
    obtain ⟨m, rfl⟩ : ∃ k, m = k + 1 := ⟨m - 1, by omega⟩
    have done : mid.length ≤ 1 → mid.reverse = mid := by
      intro h
      match mid, h with
      | [], _ => rfl
      | [x], _ => rfl
    by_cases h1 : mid.length ≤ 1
    · have c : ¬ ((pre.length : Nat) : Int) < ((pre.length : Nat) : Int) + ((mid.length : Nat) : Int) - 1 := by omega
      rw [done h1]
      simp only [frame_framer_ack_h0_1, t_frame_framer_ack_h0_1, c, decide_false, cond_false]
    · obtain ⟨x, r, rfl⟩ : ∃ x r, mid = x :: r := by
        cases mid with
        | nil => simp at h1
        | cons x r => exact ⟨x, r, rfl⟩
      obtain ⟨md, y, rfl⟩ : ∃ md y, r = md ++ [y] := by
        rcases List.eq_nil_or_concat r with e | ⟨md, y, e⟩
        · subst e; simp at h1
        · exact ⟨md, y, by simpa using e⟩
      have ej : ((pre.length : Nat) : Int) + (((x :: (md ++ [y])).length : Nat) : Int) - 1 = ((pre.length + 1 + md.length : Nat) : Int) := by simp; omega
      have eL : pre ++ ((x :: (md ++ [y])) ++ suf) = pre ++ x :: (md ++ y :: suf) := by simp
      rw [ej, eL]
      have c : ((pre.length : Nat) : Int) < ((pre.length + 1 + md.length : Nat) : Int) := by omega
      have c1 : ((pre.length + 1 + md.length : Nat) : Int) < (((pre ++ x :: (md ++ y :: suf)).length : Nat) : Int) := by simp; omega
      have c2 : ((pre.length + 1 + md.length : Nat) : Int) < (((pre ++ y :: (md ++ y :: suf)).length : Nat) : Int) := by simp; omega
      have ey : ((y.1, (y.2.1, ())) : D_ranges_Range) = y := rfl
      have ex : ((x.1, (x.2.1, ())) : D_ranges_Range) = x := rfl
      rw [frame_framer_ack_h0_1]
      simp only [t_frame_framer_ack_h0_1, c, c1, c2, mid_lt, nn, and_self, decide_true, cond_true, Int.toNat_natCast, getD_mid, getD_mid2, set_mid, set_mid2, ey, ex]
      have w1 : IntKind.wrap .i64 (((pre.length : Nat) : Int) + 1) = (((pre ++ [y]).length : Nat) : Int) := by rw [wrap_i64 _ (by simp at hl; omega) (by simp at hl; omega)]; simp
      have w2 : IntKind.wrap .i64 (((pre.length + 1 + md.length : Nat) : Int) - 1) = (((pre ++ [y]).length : Nat) : Int) + ((md.length : Nat) : Int) - 1 := by rw [wrap_i64 _ (by simp at hl; omega) (by simp at hl; omega)]; simp
      rw [w1, w2, show pre ++ y :: (md ++ x :: suf) = (pre ++ [y]) ++ (md ++ (x :: suf)) by simp]
      simp at hn
      rw [ih (n - 2) (by omega) md (pre ++ [y]) (x :: suf) m (by omega) (by omega) (by simp at hl ⊢; omega)]
      simp
/-- What an Ack's reader tells. -/
def ackOut (s : ByteArray) (L : List D_ranges_Range) : R_frame_framer_ack_h0 := (s, (k, (id, (off, (mx, (code, (seq, (prior, (delay, (fin, (data, (cid, (tok, (L, ()))))))))))))))
theorem ack_loop (cnt : Nat) (hc : cnt < 40) : ∀ (n : Nat) (l : List Int) (lo x : Int) (acc : List D_ranges_Range) (i70 : Int) (m : Nat), n < m → n ≤ cnt → Byt l → 0 ≤ lo → lo < 4611686018427387904 → acc.length + n ≤ 100 →
    frame_framer_ack_h0_0 m ((cnt : Nat) : Int) ((cnt - n : Nat) : Int) (bytesStr l) k id off mx code seq prior delay fin data cid tok i70 (acc ++ [(lo, x, ())]) =
      some ((gapsP n lo l).map fun r => ackOut k id off mx code seq prior delay fin data cid tok (bytesStr r.2) ((acc ++ [(lo, x, ())]) ++ r.1).reverse) := by
  intro n
  induction n with
  | zero =>
    intro l lo x acc i70 m hm _ hB _ _ ha
    obtain ⟨m, rfl⟩ : ∃ k, m = k + 1 := ⟨m - 1, by omega⟩
    have w : IntKind.wrap .i64 ((((acc ++ [(lo, x, ())]).length : Nat) : Int) - 1) = (((([] : List D_ranges_Range).length : Nat) : Int) + (((acc ++ [(lo, x, ())]).length : Nat) : Int) - 1) := by
      rw [wrap_i64 _ (by simp <;> omega) (by simp <;> omega)]; simp
    simp only [frame_framer_ack_h0_0, t_frame_framer_ack_h0_0, Nat.sub_zero, Int.lt_irrefl, decide_false, cond_false, w, frame_framer_ack_h0_1'_eq, b_frame_framer_ack_h0_1']
    have := back_loop k id off mx code seq prior delay fin data cid tok (bytesStr l) (acc ++ [(lo, x, ())]).length (acc ++ [(lo, x, ())]) [] [] (Int.toNat (((([] : List D_ranges_Range).length : Nat) : Int) + (((acc ++ [(lo, x, ())]).length : Nat) : Int) - 1 - 0) + 2) (Nat.le_refl _) (by simp) (by simp; omega)
    simp only [List.nil_append, List.append_nil] at this
    simp only [gapsP, pr, Option.map_some, List.append_nil, ackOut]
    exact this
  | succ n ih =>
    intro l lo x acc i70 m hm hn hB h0 h1 ha
    obtain ⟨m, rfl⟩ : ∃ k, m = k + 1 := ⟨m - 1, by omega⟩
    have c1 : ((cnt - (n + 1) : Nat) : Int) < ((cnt : Nat) : Int) := by omega
    have w : IntKind.wrap .i64 ((((acc ++ [(lo, x, ())]).length : Nat) : Int) - 1) = ((acc.length : Nat) : Int) := by rw [wrap_i64 _ (by simp <;> omega) (by simp <;> omega)]; simp
    have c2 : ((acc.length : Nat) : Int) < (((acc ++ [(lo, x, ())]).length : Nat) : Int) := by simp; omega
    have g : (acc ++ [(lo, x, ())]).getD acc.length (Ty.dflt T_ranges_Range) = (lo, x, ()) := getD_mid acc _ [] _
    have wi : IntKind.wrap .u64 (((cnt - (n + 1) : Nat) : Int) + 1) = ((cnt - n : Nat) : Int) := by rw [wrap_u64 _ (by omega) (by omega)]; omega
    simp only [frame_framer_ack_h0_0, t_frame_framer_ack_h0_0, c1, decide_true, cond_true, w, nn, c2, and_self, Int.toNat_natCast, g, frame_reader_into_h11_eq, b_frame_reader_into_h11, number1_is _ _ _ _ _ _ _ _ _ _ _ _ hB, gapsP, pb]
    cases hv : vget l with
    | none => simp [obindP]
    | some p =>
      obtain ⟨gap, l1⟩ := p
      obtain ⟨q, rfl, _, hg, _⟩ := vget_some hv
      have hgI := hg hB
      have hB1 := hB.suf
      simp only [Option.map_some, obindP_ss, number1_is _ _ _ _ _ _ _ _ _ _ _ _ hB1]
      cases hv2 : vget l1 with
      | none => simp [obindP]
      | some p =>
        obtain ⟨len, l2⟩ := p
        obtain ⟨q2, rfl, _, hlen, _⟩ := vget_some hv2
        have hlI := hlen hB1
        have hB2 := hB1.suf
        obtain ⟨g0, g1⟩ := hgI
        obtain ⟨n0, n1⟩ := hlI
        simp only [Option.map_some, obindP_ss]
        rw [wrap_u64 (gap + 2) (by omega) (by omega)]
        by_cases d1 : gap + 2 ≤ lo
        · rw [wrap_u64 (lo - gap) (by omega) (by omega), wrap_u64 (lo - gap - 2) (by omega) (by omega)]
          by_cases d2 : len ≤ lo - gap - 2
          · rw [wrap_u64 (lo - gap - 2 - len) (by omega) (by omega)]
            have c3 : (acc ++ [(lo, x, ())]).length + [((lo - gap - 2 - len, (lo - gap - 2, ())) : D_ranges_Range)].length ≤ 4294967296 := by simp; omega
            simp only [d1, d2, decide_true, cond_true, frame_reader_need_h1_eq, b_frame_reader_need_h1, Bool.not_true, cond_false, obindP_ss, c3, wi, Bool.and_self, pg]
            rw [ih l2 (lo - gap - 2 - len) (lo - gap - 2) (acc ++ [(lo, x, ())]) len m (by omega) (by omega) hB2 (by omega) (by omega) (by simp; omega)]
            cases gapsP n (lo - gap - 2 - len) l2 with
            | none => simp only [Option.map_none]
            | some r => simp only [pr, ackOut, Option.map_some, List.append_assoc, List.cons_append, List.nil_append]
          · simp only [d1, d2, decide_true, decide_false, cond_true, frame_reader_need_h1_eq, b_frame_reader_need_h1, Bool.not_false, obindP_sn, Bool.and_false, pg, cond_false, Option.map_none]
        · simp only [d1, decide_false, cond_false, frame_reader_need_h1_eq, b_frame_reader_need_h1, Bool.not_false, cond_true, obindP_sn, Bool.false_and, pg, Option.map_none]
end
end Go.Proofs.YtjdjlijjolibkaaDoor.V
/- What frame.Get answers: all kinds. -/
namespace Go.Proofs.YtjdjlijjolibkaaDoor.V
open Go.RowKit
theorem last_is (s : ByteArray) (k id off mx code seq prior delay : Int) (fin : Bool) (data cid tok : ByteArray) (set : List D_ranges_Range) (h : FrOk (k, id, off, mx, code, seq, prior, delay, fin, data, cid, tok, set, ())) :
    frame_framer_read_h0_4 s k id off mx code seq prior delay fin data cid tok set = some (bif mayFr (k, id, off, mx, code, seq, prior, delay, fin, data, cid, tok, set, ()) then some (((s, ()), ((k, id, off, mx, code, seq, prior, delay, fin, data, cid, tok, set, ()), ())), ()) else none) := by
  rw [frame_framer_read_h0_4_eq, b_frame_framer_read_h0_4, may_is_fr _ h]
  simp only [obind_some, need_is]
  cases mayFr (k, id, off, mx, code, seq, prior, delay, fin, data, cid, tok, set, ()) <;> rfl
theorem last_out (r : List Int) (k id off mx code seq prior delay : Int) (fin : Bool) (data cid tok : ByteArray) (set : List D_ranges_Range) (h : FrOk (k, id, off, mx, code, seq, prior, delay, fin, data, cid, tok, set, ())) :
    frame_framer_read_h0_4 (bytesStr r) k id off mx code seq prior delay fin data cid tok set = outP (finP' (k, id, off, mx, code, seq, prior, delay, fin, data, cid, tok, set, ()) r) := by
  rw [last_is _ _ _ _ _ _ _ _ _ _ _ _ _ _ h]
  simp only [finP', pb, pg]
  cases mayFr (k, id, off, mx, code, seq, prior, delay, fin, data, cid, tok, set, ()) <;> rfl
theorem in62_64 {n : Int} (h : In62 n) : 0 ≤ n ∧ n < 18446744073709551616 := by unfold In62 at h; omega
theorem in62_0 : In62 0 := by unfold In62; omega
/-- A frame out of numbers of 62 bits, without ranges. -/
theorem frok0 {k id off mx code seq prior delay : Int} {fin : Bool} {data cid tok : ByteArray} (h1 : In62 k) (h2 : In62 id) (h3 : In62 off) (h4 : In62 mx) (h5 : In62 code) (h6 : In62 seq) (h7 : In62 prior) (h8 : In62 delay) :
    FrOk (k, id, off, mx, code, seq, prior, delay, fin, data, cid, tok, [], ()) :=
  ⟨in62_64 h1, in62_64 h2, in62_64 h3, in62_64 h4, in62_64 h5, in62_64 h6, in62_64 h7, in62_64 h8, by simp, by simp⟩
theorem rest_pb {f : ByteArray → Pr D_frame_Frame} {l : List Int} {fr : D_frame_Frame} {k : ByteArray × D_frame_framer × Unit → Option (Option (D_frame_framer × Unit))} (hB : Byt l) (hl : l.length ≤ 1000000)
    (H : k (bytesStr l, (st [] fr, ())) = outP (f (bytesStr l) [])) : obindP (frame_reader_take_h0 ((l.length : Nat) : Int) (st l fr)) (some none) k = outP (pb prest f l) := by
  rw [take_is hB fr _ (by omega) hl]
  simp only [ptake, Nat.le_refl, if_true, Option.map_some, obindP_ss, List.take_length, List.drop_length, pb, prest]
  exact H
theorem stream0_is (q : Int) (len : Bool) (hq : (bits .and .u64 q 2 != 0) = len) (id off : Int) (fin : Bool) {l : List Int} (hB : Byt l) (hl : l.length ≤ 1000000) (h1 : In62 id) (h2 : In62 off) :
    obindP (frame_framer_stream_h0_0 q (st l (8, id, off, 0, 0, 0, 0, 0, fin, eB, eB, eB, [], ()))) (some none) (fun y => frame_framer_read_h0_4 y.1.1.1 y.1.2.1.1 y.1.2.1.2.1 y.1.2.1.2.2.1 y.1.2.1.2.2.2.1 y.1.2.1.2.2.2.2.1 y.1.2.1.2.2.2.2.2.1 y.1.2.1.2.2.2.2.2.2.1 y.1.2.1.2.2.2.2.2.2.2.1 y.1.2.1.2.2.2.2.2.2.2.2.1 y.1.2.1.2.2.2.2.2.2.2.2.2.1 y.1.2.1.2.2.2.2.2.2.2.2.2.2.1 y.1.2.1.2.2.2.2.2.2.2.2.2.2.2.1 y.1.2.1.2.2.2.2.2.2.2.2.2.2.2.2.1) =
      outP (pb (bif len then plong else prest) (fun data => finP' (8, id, off, 0, 0, 0, 0, 0, fin, data, eB, eB, [], ())) l) := by
  have i8 : In62 8 := by unfold In62; omega
  rw [frame_framer_stream_h0_0_eq, b_frame_framer_stream_h0_0]
  simp only [hq]
  cases len with
  | true =>
    simp only [cond_true, obindP_assoc, obindP_ss]
    refine long_pb hB hl fun bs r hr hlr hbs => ?_
    exact last_out r _ _ _ _ _ _ _ _ _ _ _ _ _ (frok0 i8 h1 h2 in62_0 in62_0 in62_0 in62_0 in62_0)
  | false =>
    simp only [cond_false, obindP_assoc, obindP_ss, bytesStr_size]
    refine rest_pb hB hl ?_
    exact last_out [] _ _ _ _ _ _ _ _ _ _ _ _ _ (frok0 i8 h1 h2 in62_0 in62_0 in62_0 in62_0 in62_0)
theorem stream_pb (q : Int) (fin off len : Bool) (h1 : (bits .and .u64 q 1 != 0) = fin) (h4 : (bits .and .u64 q 4 != 0) = off) (h2 : (bits .and .u64 q 2 != 0) = len) {l : List Int} (hB : Byt l) (hl : l.length ≤ 1000000) :
    obindP (frame_framer_stream_h0 q (st l (zF q))) (some none) (fun y => frame_framer_read_h0_4 y.1.1.1 y.1.2.1.1 y.1.2.1.2.1 y.1.2.1.2.2.1 y.1.2.1.2.2.2.1 y.1.2.1.2.2.2.2.1 y.1.2.1.2.2.2.2.2.1 y.1.2.1.2.2.2.2.2.2.1 y.1.2.1.2.2.2.2.2.2.2.1 y.1.2.1.2.2.2.2.2.2.2.2.1 y.1.2.1.2.2.2.2.2.2.2.2.2.1 y.1.2.1.2.2.2.2.2.2.2.2.2.2.1 y.1.2.1.2.2.2.2.2.2.2.2.2.2.2.1 y.1.2.1.2.2.2.2.2.2.2.2.2.2.2.2.1) =
      outP (pb (streamP fin off len) finP' l) := by
  rw [frame_framer_stream_h0_eq, b_frame_framer_stream_h0]
  simp only [h1, h4, frame_reader_into_h12_eq, b_frame_reader_into_h12, obindP_assoc, obindP_ss, streamP, pb_assoc, pb_pr]
  refine num_pb hB fun id r hid hr hlr => ?_
  cases off with
  | true =>
    simp only [cond_true, frame_reader_into_h1_eq, b_frame_reader_into_h1, obindP_assoc, obindP_ss]
    refine num_pb hr fun o r2 ho hr2 hlr2 => ?_
    exact stream0_is q len h2 id o fin hr2 (by omega) hid ho
  | false =>
    simp only [cond_false, pb_pr]
    exact stream0_is q len h2 id 0 fin hr (by omega) hid in62_0
theorem gaps_ok : ∀ (n : Nat) (lo : Int) (l : List Int) (rs : List D_ranges_Range) (r : List Int), gapsP n lo l = some (rs, r) → Byt l → 0 ≤ lo → In62 lo → rs.length = n ∧ ∀ x ∈ rs, In62 x.1 ∧ In62 x.2.1
  | 0, lo, l, rs, r, h, _, _, _ => by cases h; simp
  | n + 1, lo, l, rs, r, h, hB, h0, hlo => by
    simp only [gapsP] at h
    obtain ⟨gap, l1, e1, h⟩ := pb_some h
    obtain ⟨len, l2, e2, h⟩ := pb_some h
    obtain ⟨⟨⟩, l3, e3, h⟩ := pb_some h
    obtain ⟨rs', l4, e4, h⟩ := pb_some h
    cases h
    obtain ⟨q1, rfl, _, g1, _⟩ := vget_some e1
    obtain ⟨q2, rfl, _, g2, _⟩ := vget_some e2
    have i1 := g1 hB
    have i2 := g2 hB.suf
    cases hc : (decide (gap + 2 ≤ lo) && decide (len ≤ lo - gap - 2)) with
    | false => rw [hc] at e3; cases e3
    | true =>
      rw [hc] at e3
      cases e3
      simp only [Bool.and_eq_true, decide_eq_true_eq] at hc
      obtain ⟨c1, c2⟩ := hc
      obtain ⟨a0, a1⟩ := i1
      obtain ⟨b0, b1⟩ := i2
      obtain ⟨_, lo1⟩ := hlo
      obtain ⟨k1, k2⟩ := gaps_ok n _ _ _ _ e4 hB.suf.suf (by omega) ⟨by omega, by omega⟩
      refine ⟨by simp [k1], fun x hx => ?_⟩
      rcases List.mem_cons.mp hx with rfl | hx
      · exact ⟨⟨by show 0 ≤ lo - gap - 2 - len; omega, by show lo - gap - 2 - len < _; omega⟩, ⟨by show 0 ≤ lo - gap - 2; omega, by show lo - gap - 2 < _; omega⟩⟩
      · exact k2 x hx
theorem ack_pb {l : List Int} (hB : Byt l) :
    obindP (frame_framer_ack_h0 (st l (zF 2))) (some none) (fun y => frame_framer_read_h0_4 y.1 y.2.1 y.2.2.1 y.2.2.2.1 y.2.2.2.2.1 y.2.2.2.2.2.1 y.2.2.2.2.2.2.1 y.2.2.2.2.2.2.2.1 y.2.2.2.2.2.2.2.2.1 y.2.2.2.2.2.2.2.2.2.1 y.2.2.2.2.2.2.2.2.2.2.1 y.2.2.2.2.2.2.2.2.2.2.2.1 y.2.2.2.2.2.2.2.2.2.2.2.2.1 y.2.2.2.2.2.2.2.2.2.2.2.2.2.1) =
      outP (pb ackP finP' l) := by
  rw [frame_framer_ack_h0_eq, b_frame_framer_ack_h0]
  simp only [frame_reader_into_h10_eq, b_frame_reader_into_h10, obindP_assoc, obindP_ss, ackP, pb_assoc, pb_pr]
  refine num_pb hB fun hi r1 h1 hr1 _ => ?_
  refine num_pb hr1 fun delay r2 h2 hr2 _ => ?_
  refine num_pb hr2 fun cnt r3 h3 hr3 _ => ?_
  refine num_pb hr3 fun first r4 h4 hr4 _ => ?_
  simp only [need_is]
  obtain ⟨a0, a1⟩ := h1
  obtain ⟨c0, c1⟩ := h3
  obtain ⟨f0, f1⟩ := h4
  by_cases e1 : cnt < 32
  · by_cases e2 : first ≤ hi
    · rw [wrap_u64 (hi - first) (by omega) (by omega)]
      simp only [e1, e2, decide_true, cond_true, obindP_ss, Bool.and_self, frame_framer_ack_h0_0'_eq, b_frame_framer_ack_h0_0', pb_gt rfl]
      have := ack_loop 2 0 0 0 0 0 0 delay false eB eB eB cnt.toNat (by omega) cnt.toNat r4 (hi - first) hi [] first (Int.toNat (cnt - 0) + 2) (by omega) (Nat.le_refl _) hr4 (by omega) (by omega) (by simp; omega)
      rw [show ((cnt.toNat : Nat) : Int) = cnt by omega, Nat.sub_self] at this
      simp only [List.nil_append] at this
      rw [show ((0 : Nat) : Int) = 0 from rfl] at this
      rw [this]
      simp only [pb]
      cases hg : gapsP cnt.toNat (hi - first) r4 with
      | none => rfl
      | some x =>
        obtain ⟨rs, r5⟩ := x
        obtain ⟨k1, k2⟩ := gaps_ok _ _ _ _ _ hg hr4 (by omega) ⟨by omega, by omega⟩
        simp only [Option.map_some, obindP_ss, ackOut]
        have i2 : In62 2 := by unfold In62; omega
        have ok0 := frok0 (k := 2) (id := 0) (off := 0) (mx := 0) (code := 0) (seq := 0) (prior := 0) (delay := delay) (fin := false) (data := eB) (cid := eB) (tok := eB) i2 in62_0 in62_0 in62_0 in62_0 in62_0 in62_0 h2
        refine last_out r5 _ _ _ _ _ _ _ _ _ _ _ _ _ ⟨ok0.kind, ok0.id, ok0.off, ok0.max, ok0.code, ok0.seq, ok0.prior, ok0.delay, fun x hx => ?_, ?_⟩
        · simp only [List.mem_reverse, List.cons_append, List.nil_append, List.mem_cons] at hx
          rcases hx with rfl | hx
          · exact ⟨⟨by show 0 ≤ hi - first; omega, by show hi - first < _; omega⟩, ⟨a0, by show hi < _; omega⟩⟩
          · exact ⟨in62_64 (k2 x hx).1, in62_64 (k2 x hx).2⟩
        · show (([(hi - first, hi, ())] ++ rs).reverse).length ≤ 9223372036854775807
          simp; omega
    · simp only [e1, e2, decide_true, decide_false, cond_true, cond_false, obindP_sn, Bool.and_false]
      simp only [pb, pg, cond_false, outP, Option.map_none]
  · simp only [e1, decide_false, cond_false, obindP_sn, Bool.false_and]
    simp only [pb, pg, cond_false, outP, Option.map_none]
end Go.Proofs.YtjdjlijjolibkaaDoor.V
/- What frame.Get answers: each kind. -/
namespace Go.Proofs.YtjdjlijjolibkaaDoor.V
open Go.RowKit
set_option linter.unusedVariables false
/-- Behind the kind. -/
noncomputable def startR (k : Int) (r : List Int) : Option (Option (D_frame_framer × Unit)) :=
  bif k == 0 then frame_framer_read_h0_0 k true (st r (zF k)) else bif k == 1 then frame_framer_read_h0_0 k true (st r (zF k)) else frame_framer_read_h0_0 k (k == 30) (st r (zF k))
theorem i62 (n : Nat) (h : n < 1000) : In62 ((n : Nat) : Int) := by unfold In62; omega
/-- One byte. -/
theorem byte_pb {f : List Int → Pr D_frame_Frame} {l : List Int} {fr : D_frame_Frame} {k : ByteArray × D_frame_framer × Unit → Option (Option (D_frame_framer × Unit))} (hB : Byt l) (hl : l.length ≤ 1000000)
    (H : ∀ b r, (0 ≤ b ∧ b ≤ 255) → Byt r → r.length ≤ l.length → k (bytesStr [b], (st r fr, ())) = outP (f [b] r)) : obindP (frame_reader_take_h0 1 (st l fr)) (some none) k = outP (pb (ptake 1) f l) := by
  have e := take_is hB fr 1 (by omega) hl
  rw [show ((1 : Nat) : Int) = 1 from rfl] at e
  rw [e]
  cases l with
  | nil => rfl
  | cons b r =>
    obtain ⟨h1, h2⟩ := Byt.cons.mp hB
    have c : 1 ≤ (b :: r).length := by simp
    simp only [ptake, c, if_true, Option.map_some, obindP_ss, pb, List.take_succ_cons, List.take_zero, List.drop_succ_cons, List.drop_zero]
    exact H b r h1 h2 (by simp)
theorem body_0 {r : List Int} (hB : Byt r) (hl : r.length ≤ 1000000) : startR 0 r = outP (pb (bodyP 0) finP' r) := by
  have ik : In62 0 := i62 0 (by decide)
  simp only [startR, bodyP, frame_framer_read_h0_0_eq, b_frame_framer_read_h0_0, frame_framer_read_h0_1_eq, b_frame_framer_read_h0_1, frame_framer_read_h0_2_eq, b_frame_framer_read_h0_2, frame_framer_read_h0_3_eq, b_frame_framer_read_h0_3, Int.reduceBEq, Bool.or_false, Bool.or_self, cond_true, cond_false, ge_iff_le, Int.reduceLE, Int.reduceLT, decide_true, decide_false]
  exact last_out r _ _ _ _ _ _ _ _ _ _ _ _ _ (frok0 ik in62_0 in62_0 in62_0 in62_0 in62_0 in62_0 in62_0)
theorem body_1 {r : List Int} (hB : Byt r) (hl : r.length ≤ 1000000) : startR 1 r = outP (pb (bodyP 1) finP' r) := by
  have ik : In62 1 := i62 1 (by decide)
  simp only [startR, bodyP, frame_framer_read_h0_0_eq, b_frame_framer_read_h0_0, frame_framer_read_h0_1_eq, b_frame_framer_read_h0_1, frame_framer_read_h0_2_eq, b_frame_framer_read_h0_2, frame_framer_read_h0_3_eq, b_frame_framer_read_h0_3, Int.reduceBEq, Bool.or_true, Bool.or_false, Bool.or_self, cond_true, cond_false, ge_iff_le, Int.reduceLE, Int.reduceLT, decide_true, decide_false]
  exact last_out r _ _ _ _ _ _ _ _ _ _ _ _ _ (frok0 ik in62_0 in62_0 in62_0 in62_0 in62_0 in62_0 in62_0)
theorem body_2 {r : List Int} (hB : Byt r) (hl : r.length ≤ 1000000) : startR 2 r = outP (pb (bodyP 2) finP' r) := by
  have ik : In62 2 := i62 2 (by decide)
  simp only [startR, bodyP, frame_framer_read_h0_0_eq, b_frame_framer_read_h0_0, frame_framer_read_h0_1_eq, b_frame_framer_read_h0_1, frame_framer_read_h0_2_eq, b_frame_framer_read_h0_2, frame_framer_read_h0_3_eq, b_frame_framer_read_h0_3, Int.reduceBEq, Bool.or_self, cond_true, cond_false, ge_iff_le, Int.reduceLE, Int.reduceLT, decide_true, decide_false]
  exact ack_pb hB
theorem body_4 {r : List Int} (hB : Byt r) (hl : r.length ≤ 1000000) : startR 4 r = outP (pb (bodyP 4) finP' r) := by
  have ik : In62 4 := i62 4 (by decide)
  simp only [startR, bodyP, frame_framer_read_h0_0_eq, b_frame_framer_read_h0_0, frame_framer_read_h0_1_eq, b_frame_framer_read_h0_1, frame_framer_read_h0_2_eq, b_frame_framer_read_h0_2, frame_framer_read_h0_3_eq, b_frame_framer_read_h0_3, Int.reduceBEq, Bool.or_self, cond_true, cond_false, ge_iff_le, Int.reduceLE, Int.reduceLT, decide_true, decide_false]
  simp only [frame_reader_into_h9_eq, b_frame_reader_into_h9, obindP_assoc, obindP_ss, pb_assoc, pb_pr]
  refine num_pb hB fun id r0 hid hr0 hl0 => ?_
  refine num_pb hr0 fun code r1 hcode hr1 hl1 => ?_
  refine num_pb hr1 fun mx r2 hmx hr2 hl2 => ?_
  exact last_out r2 _ _ _ _ _ _ _ _ _ _ _ _ _ (frok0 ik hid in62_0 hmx hcode in62_0 in62_0 in62_0)
theorem body_5 {r : List Int} (hB : Byt r) (hl : r.length ≤ 1000000) : startR 5 r = outP (pb (bodyP 5) finP' r) := by
  have ik : In62 5 := i62 5 (by decide)
  simp only [startR, bodyP, frame_framer_read_h0_0_eq, b_frame_framer_read_h0_0, frame_framer_read_h0_1_eq, b_frame_framer_read_h0_1, frame_framer_read_h0_2_eq, b_frame_framer_read_h0_2, frame_framer_read_h0_3_eq, b_frame_framer_read_h0_3, Int.reduceBEq, Bool.or_self, cond_true, cond_false, ge_iff_le, Int.reduceLE, Int.reduceLT, decide_true, decide_false]
  simp only [frame_reader_into_h6_eq, b_frame_reader_into_h6, obindP_assoc, obindP_ss, pb_assoc, pb_pr]
  refine num_pb hB fun id r0 hid hr0 hl0 => ?_
  refine num_pb hr0 fun code r1 hcode hr1 hl1 => ?_
  exact last_out r1 _ _ _ _ _ _ _ _ _ _ _ _ _ (frok0 ik hid in62_0 in62_0 hcode in62_0 in62_0 in62_0)
theorem body_6 {r : List Int} (hB : Byt r) (hl : r.length ≤ 1000000) : startR 6 r = outP (pb (bodyP 6) finP' r) := by
  have ik : In62 6 := i62 6 (by decide)
  simp only [startR, bodyP, frame_framer_read_h0_0_eq, b_frame_framer_read_h0_0, frame_framer_read_h0_1_eq, b_frame_framer_read_h0_1, frame_framer_read_h0_2_eq, b_frame_framer_read_h0_2, frame_framer_read_h0_3_eq, b_frame_framer_read_h0_3, Int.reduceBEq, Bool.or_self, cond_true, cond_false, ge_iff_le, Int.reduceLE, Int.reduceLT, decide_true, decide_false]
  simp only [frame_reader_into_h1_eq, b_frame_reader_into_h1, obindP_assoc, obindP_ss, pb_assoc, pb_pr]
  refine num_pb hB fun off r0 hoff hr0 hl0 => ?_
  refine long_pb hr0 (by omega) fun bs r1 hr1 hl1 hbs => ?_
  exact last_out r1 _ _ _ _ _ _ _ _ _ _ _ _ _ (frok0 ik in62_0 hoff in62_0 in62_0 in62_0 in62_0 in62_0)
theorem body_8 {r : List Int} (hB : Byt r) (hl : r.length ≤ 1000000) : startR 8 r = outP (pb (bodyP 8) finP' r) := by
  have ik : In62 8 := i62 8 (by decide)
  simp only [startR, bodyP, frame_framer_read_h0_0_eq, b_frame_framer_read_h0_0, frame_framer_read_h0_1_eq, b_frame_framer_read_h0_1, frame_framer_read_h0_2_eq, b_frame_framer_read_h0_2, frame_framer_read_h0_3_eq, b_frame_framer_read_h0_3, Int.reduceBEq, Bool.or_self, cond_true, cond_false, ge_iff_le, Int.reduceLE, Int.reduceLT, decide_true]
  simp only [need_is, cond_true, obindP_ss]
  exact stream_pb 8 false false false (by rw [bits_and_u64 _ _ (by omega) (by omega)]; decide) (by rw [bits_and_u64 _ _ (by omega) (by omega)]; decide) (by rw [bits_and_u64 _ _ (by omega) (by omega)]; decide) hB hl
theorem body_9 {r : List Int} (hB : Byt r) (hl : r.length ≤ 1000000) : startR 9 r = outP (pb (bodyP 9) finP' r) := by
  have ik : In62 9 := i62 9 (by decide)
  simp only [startR, bodyP, frame_framer_read_h0_0_eq, b_frame_framer_read_h0_0, frame_framer_read_h0_1_eq, b_frame_framer_read_h0_1, frame_framer_read_h0_2_eq, b_frame_framer_read_h0_2, frame_framer_read_h0_3_eq, b_frame_framer_read_h0_3, Int.reduceBEq, Bool.or_self, cond_true, cond_false, ge_iff_le, Int.reduceLE, Int.reduceLT, decide_true]
  simp only [need_is, cond_true, obindP_ss]
  exact stream_pb 9 true false false (by rw [bits_and_u64 _ _ (by omega) (by omega)]; decide) (by rw [bits_and_u64 _ _ (by omega) (by omega)]; decide) (by rw [bits_and_u64 _ _ (by omega) (by omega)]; decide) hB hl
theorem body_10 {r : List Int} (hB : Byt r) (hl : r.length ≤ 1000000) : startR 10 r = outP (pb (bodyP 10) finP' r) := by
  have ik : In62 10 := i62 10 (by decide)
  simp only [startR, bodyP, frame_framer_read_h0_0_eq, b_frame_framer_read_h0_0, frame_framer_read_h0_1_eq, b_frame_framer_read_h0_1, frame_framer_read_h0_2_eq, b_frame_framer_read_h0_2, frame_framer_read_h0_3_eq, b_frame_framer_read_h0_3, Int.reduceBEq, Bool.or_self, cond_true, cond_false, ge_iff_le, Int.reduceLE, Int.reduceLT, decide_true]
  simp only [need_is, cond_true, obindP_ss]
  exact stream_pb 10 false false true (by rw [bits_and_u64 _ _ (by omega) (by omega)]; decide) (by rw [bits_and_u64 _ _ (by omega) (by omega)]; decide) (by rw [bits_and_u64 _ _ (by omega) (by omega)]; decide) hB hl
theorem body_11 {r : List Int} (hB : Byt r) (hl : r.length ≤ 1000000) : startR 11 r = outP (pb (bodyP 11) finP' r) := by
  have ik : In62 11 := i62 11 (by decide)
  simp only [startR, bodyP, frame_framer_read_h0_0_eq, b_frame_framer_read_h0_0, frame_framer_read_h0_1_eq, b_frame_framer_read_h0_1, frame_framer_read_h0_2_eq, b_frame_framer_read_h0_2, frame_framer_read_h0_3_eq, b_frame_framer_read_h0_3, Int.reduceBEq, Bool.or_self, cond_true, cond_false, ge_iff_le, Int.reduceLE, Int.reduceLT, decide_true]
  simp only [need_is, cond_true, obindP_ss]
  exact stream_pb 11 true false true (by rw [bits_and_u64 _ _ (by omega) (by omega)]; decide) (by rw [bits_and_u64 _ _ (by omega) (by omega)]; decide) (by rw [bits_and_u64 _ _ (by omega) (by omega)]; decide) hB hl
theorem body_12 {r : List Int} (hB : Byt r) (hl : r.length ≤ 1000000) : startR 12 r = outP (pb (bodyP 12) finP' r) := by
  have ik : In62 12 := i62 12 (by decide)
  simp only [startR, bodyP, frame_framer_read_h0_0_eq, b_frame_framer_read_h0_0, frame_framer_read_h0_1_eq, b_frame_framer_read_h0_1, frame_framer_read_h0_2_eq, b_frame_framer_read_h0_2, frame_framer_read_h0_3_eq, b_frame_framer_read_h0_3, Int.reduceBEq, Bool.or_self, cond_true, cond_false, ge_iff_le, Int.reduceLE, Int.reduceLT, decide_true]
  simp only [need_is, cond_true, obindP_ss]
  exact stream_pb 12 false true false (by rw [bits_and_u64 _ _ (by omega) (by omega)]; decide) (by rw [bits_and_u64 _ _ (by omega) (by omega)]; decide) (by rw [bits_and_u64 _ _ (by omega) (by omega)]; decide) hB hl
theorem body_13 {r : List Int} (hB : Byt r) (hl : r.length ≤ 1000000) : startR 13 r = outP (pb (bodyP 13) finP' r) := by
  have ik : In62 13 := i62 13 (by decide)
  simp only [startR, bodyP, frame_framer_read_h0_0_eq, b_frame_framer_read_h0_0, frame_framer_read_h0_1_eq, b_frame_framer_read_h0_1, frame_framer_read_h0_2_eq, b_frame_framer_read_h0_2, frame_framer_read_h0_3_eq, b_frame_framer_read_h0_3, Int.reduceBEq, Bool.or_self, cond_true, cond_false, ge_iff_le, Int.reduceLE, Int.reduceLT, decide_true]
  simp only [need_is, cond_true, obindP_ss]
  exact stream_pb 13 true true false (by rw [bits_and_u64 _ _ (by omega) (by omega)]; decide) (by rw [bits_and_u64 _ _ (by omega) (by omega)]; decide) (by rw [bits_and_u64 _ _ (by omega) (by omega)]; decide) hB hl
theorem body_14 {r : List Int} (hB : Byt r) (hl : r.length ≤ 1000000) : startR 14 r = outP (pb (bodyP 14) finP' r) := by
  have ik : In62 14 := i62 14 (by decide)
  simp only [startR, bodyP, frame_framer_read_h0_0_eq, b_frame_framer_read_h0_0, frame_framer_read_h0_1_eq, b_frame_framer_read_h0_1, frame_framer_read_h0_2_eq, b_frame_framer_read_h0_2, frame_framer_read_h0_3_eq, b_frame_framer_read_h0_3, Int.reduceBEq, Bool.or_self, cond_true, cond_false, ge_iff_le, Int.reduceLE, Int.reduceLT, decide_true]
  simp only [need_is, cond_true, obindP_ss]
  exact stream_pb 14 false true true (by rw [bits_and_u64 _ _ (by omega) (by omega)]; decide) (by rw [bits_and_u64 _ _ (by omega) (by omega)]; decide) (by rw [bits_and_u64 _ _ (by omega) (by omega)]; decide) hB hl
theorem body_15 {r : List Int} (hB : Byt r) (hl : r.length ≤ 1000000) : startR 15 r = outP (pb (bodyP 15) finP' r) := by
  have ik : In62 15 := i62 15 (by decide)
  simp only [startR, bodyP, frame_framer_read_h0_0_eq, b_frame_framer_read_h0_0, frame_framer_read_h0_1_eq, b_frame_framer_read_h0_1, frame_framer_read_h0_2_eq, b_frame_framer_read_h0_2, frame_framer_read_h0_3_eq, b_frame_framer_read_h0_3, Int.reduceBEq, Bool.or_self, cond_true, cond_false, ge_iff_le, Int.reduceLE, Int.reduceLT, decide_true]
  simp only [need_is, cond_true, obindP_ss]
  exact stream_pb 15 true true true (by rw [bits_and_u64 _ _ (by omega) (by omega)]; decide) (by rw [bits_and_u64 _ _ (by omega) (by omega)]; decide) (by rw [bits_and_u64 _ _ (by omega) (by omega)]; decide) hB hl
theorem body_16 {r : List Int} (hB : Byt r) (hl : r.length ≤ 1000000) : startR 16 r = outP (pb (bodyP 16) finP' r) := by
  have ik : In62 16 := i62 16 (by decide)
  simp only [startR, bodyP, frame_framer_read_h0_0_eq, b_frame_framer_read_h0_0, frame_framer_read_h0_1_eq, b_frame_framer_read_h0_1, frame_framer_read_h0_2_eq, b_frame_framer_read_h0_2, frame_framer_read_h0_3_eq, b_frame_framer_read_h0_3, Int.reduceBEq, Bool.or_false, Bool.or_self, cond_true, cond_false, ge_iff_le, Int.reduceLE, Int.reduceLT, decide_true, decide_false]
  simp only [frame_reader_into_h2_eq, b_frame_reader_into_h2, obindP_assoc, obindP_ss, pb_assoc, pb_pr]
  refine num_pb hB fun mx r0 hmx hr0 hl0 => ?_
  exact last_out r0 _ _ _ _ _ _ _ _ _ _ _ _ _ (frok0 ik in62_0 in62_0 hmx in62_0 in62_0 in62_0 in62_0)
theorem body_17 {r : List Int} (hB : Byt r) (hl : r.length ≤ 1000000) : startR 17 r = outP (pb (bodyP 17) finP' r) := by
  have ik : In62 17 := i62 17 (by decide)
  simp only [startR, bodyP, frame_framer_read_h0_0_eq, b_frame_framer_read_h0_0, frame_framer_read_h0_1_eq, b_frame_framer_read_h0_1, frame_framer_read_h0_2_eq, b_frame_framer_read_h0_2, frame_framer_read_h0_3_eq, b_frame_framer_read_h0_3, Int.reduceBEq, Bool.or_false, Bool.or_self, cond_true, cond_false, ge_iff_le, Int.reduceLE, Int.reduceLT, decide_true, decide_false]
  simp only [frame_reader_into_h5_eq, b_frame_reader_into_h5, obindP_assoc, obindP_ss, pb_assoc, pb_pr]
  refine num_pb hB fun id r0 hid hr0 hl0 => ?_
  refine num_pb hr0 fun mx r1 hmx hr1 hl1 => ?_
  exact last_out r1 _ _ _ _ _ _ _ _ _ _ _ _ _ (frok0 ik hid in62_0 hmx in62_0 in62_0 in62_0 in62_0)
theorem body_18 {r : List Int} (hB : Byt r) (hl : r.length ≤ 1000000) : startR 18 r = outP (pb (bodyP 18) finP' r) := by
  have ik : In62 18 := i62 18 (by decide)
  simp only [startR, bodyP, frame_framer_read_h0_0_eq, b_frame_framer_read_h0_0, frame_framer_read_h0_1_eq, b_frame_framer_read_h0_1, frame_framer_read_h0_2_eq, b_frame_framer_read_h0_2, frame_framer_read_h0_3_eq, b_frame_framer_read_h0_3, Int.reduceBEq, Bool.or_true, Bool.or_false, Bool.or_self, cond_true, cond_false, ge_iff_le, Int.reduceLE, Int.reduceLT, decide_true, decide_false]
  simp only [frame_reader_into_h2_eq, b_frame_reader_into_h2, obindP_assoc, obindP_ss, pb_assoc, pb_pr]
  refine num_pb hB fun mx r0 hmx hr0 hl0 => ?_
  exact last_out r0 _ _ _ _ _ _ _ _ _ _ _ _ _ (frok0 ik in62_0 in62_0 hmx in62_0 in62_0 in62_0 in62_0)
theorem body_19 {r : List Int} (hB : Byt r) (hl : r.length ≤ 1000000) : startR 19 r = outP (pb (bodyP 19) finP' r) := by
  have ik : In62 19 := i62 19 (by decide)
  simp only [startR, bodyP, frame_framer_read_h0_0_eq, b_frame_framer_read_h0_0, frame_framer_read_h0_1_eq, b_frame_framer_read_h0_1, frame_framer_read_h0_2_eq, b_frame_framer_read_h0_2, frame_framer_read_h0_3_eq, b_frame_framer_read_h0_3, Int.reduceBEq, Bool.or_true, Bool.or_false, Bool.or_self, cond_true, cond_false, ge_iff_le, Int.reduceLE, Int.reduceLT, decide_true, decide_false]
  simp only [frame_reader_into_h2_eq, b_frame_reader_into_h2, obindP_assoc, obindP_ss, pb_assoc, pb_pr]
  refine num_pb hB fun mx r0 hmx hr0 hl0 => ?_
  exact last_out r0 _ _ _ _ _ _ _ _ _ _ _ _ _ (frok0 ik in62_0 in62_0 hmx in62_0 in62_0 in62_0 in62_0)
theorem body_20 {r : List Int} (hB : Byt r) (hl : r.length ≤ 1000000) : startR 20 r = outP (pb (bodyP 20) finP' r) := by
  have ik : In62 20 := i62 20 (by decide)
  simp only [startR, bodyP, frame_framer_read_h0_0_eq, b_frame_framer_read_h0_0, frame_framer_read_h0_1_eq, b_frame_framer_read_h0_1, frame_framer_read_h0_2_eq, b_frame_framer_read_h0_2, frame_framer_read_h0_3_eq, b_frame_framer_read_h0_3, Int.reduceBEq, Bool.or_true, Bool.or_false, Bool.or_self, cond_true, cond_false, ge_iff_le, Int.reduceLE, Int.reduceLT, decide_true, decide_false]
  simp only [frame_reader_into_h2_eq, b_frame_reader_into_h2, obindP_assoc, obindP_ss, pb_assoc, pb_pr]
  refine num_pb hB fun mx r0 hmx hr0 hl0 => ?_
  exact last_out r0 _ _ _ _ _ _ _ _ _ _ _ _ _ (frok0 ik in62_0 in62_0 hmx in62_0 in62_0 in62_0 in62_0)
theorem body_21 {r : List Int} (hB : Byt r) (hl : r.length ≤ 1000000) : startR 21 r = outP (pb (bodyP 21) finP' r) := by
  have ik : In62 21 := i62 21 (by decide)
  simp only [startR, bodyP, frame_framer_read_h0_0_eq, b_frame_framer_read_h0_0, frame_framer_read_h0_1_eq, b_frame_framer_read_h0_1, frame_framer_read_h0_2_eq, b_frame_framer_read_h0_2, frame_framer_read_h0_3_eq, b_frame_framer_read_h0_3, Int.reduceBEq, Bool.or_true, Bool.or_self, cond_true, cond_false, ge_iff_le, Int.reduceLE, Int.reduceLT, decide_true, decide_false]
  simp only [frame_reader_into_h5_eq, b_frame_reader_into_h5, obindP_assoc, obindP_ss, pb_assoc, pb_pr]
  refine num_pb hB fun id r0 hid hr0 hl0 => ?_
  refine num_pb hr0 fun mx r1 hmx hr1 hl1 => ?_
  exact last_out r1 _ _ _ _ _ _ _ _ _ _ _ _ _ (frok0 ik hid in62_0 hmx in62_0 in62_0 in62_0 in62_0)
theorem body_22 {r : List Int} (hB : Byt r) (hl : r.length ≤ 1000000) : startR 22 r = outP (pb (bodyP 22) finP' r) := by
  have ik : In62 22 := i62 22 (by decide)
  simp only [startR, bodyP, frame_framer_read_h0_0_eq, b_frame_framer_read_h0_0, frame_framer_read_h0_1_eq, b_frame_framer_read_h0_1, frame_framer_read_h0_2_eq, b_frame_framer_read_h0_2, frame_framer_read_h0_3_eq, b_frame_framer_read_h0_3, Int.reduceBEq, Bool.or_true, Bool.or_false, Bool.or_self, cond_true, cond_false, ge_iff_le, Int.reduceLE, Int.reduceLT, decide_true, decide_false]
  simp only [frame_reader_into_h2_eq, b_frame_reader_into_h2, obindP_assoc, obindP_ss, pb_assoc, pb_pr]
  refine num_pb hB fun mx r0 hmx hr0 hl0 => ?_
  exact last_out r0 _ _ _ _ _ _ _ _ _ _ _ _ _ (frok0 ik in62_0 in62_0 hmx in62_0 in62_0 in62_0 in62_0)
theorem body_23 {r : List Int} (hB : Byt r) (hl : r.length ≤ 1000000) : startR 23 r = outP (pb (bodyP 23) finP' r) := by
  have ik : In62 23 := i62 23 (by decide)
  simp only [startR, bodyP, frame_framer_read_h0_0_eq, b_frame_framer_read_h0_0, frame_framer_read_h0_1_eq, b_frame_framer_read_h0_1, frame_framer_read_h0_2_eq, b_frame_framer_read_h0_2, frame_framer_read_h0_3_eq, b_frame_framer_read_h0_3, Int.reduceBEq, Bool.or_true, Bool.or_self, cond_true, cond_false, ge_iff_le, Int.reduceLE, Int.reduceLT, decide_true, decide_false]
  simp only [frame_reader_into_h2_eq, b_frame_reader_into_h2, obindP_assoc, obindP_ss, pb_assoc, pb_pr]
  refine num_pb hB fun mx r0 hmx hr0 hl0 => ?_
  exact last_out r0 _ _ _ _ _ _ _ _ _ _ _ _ _ (frok0 ik in62_0 in62_0 hmx in62_0 in62_0 in62_0 in62_0)
theorem body_24 {r : List Int} (hB : Byt r) (hl : r.length ≤ 1000000) : startR 24 r = outP (pb (bodyP 24) finP' r) := by
  have ik : In62 24 := i62 24 (by decide)
  simp only [startR, bodyP, frame_framer_read_h0_0_eq, b_frame_framer_read_h0_0, frame_framer_read_h0_1_eq, b_frame_framer_read_h0_1, frame_framer_read_h0_2_eq, b_frame_framer_read_h0_2, frame_framer_read_h0_3_eq, b_frame_framer_read_h0_3, Int.reduceBEq, Bool.or_self, cond_true, cond_false, ge_iff_le, Int.reduceLE, Int.reduceLT, decide_true, decide_false]
  simp only [frame_reader_into_h8_eq, b_frame_reader_into_h8, obindP_assoc, obindP_ss, pb_assoc, pb_pr]
  refine num_pb hB fun seq r0 hseq hr0 hl0 => ?_
  refine num_pb hr0 fun prior r1 hprior hr1 hl1 => ?_
  refine byte_pb hr1 (by omega) fun b r2 hb hr2 hl2 => ?_
  have eb : byteAt (bytesStr [b]) 0 = b := by rw [byteAt_is, strBytes_bs (Byt.cons.mpr ⟨hb, Byt.nil⟩)]; rfl
  have ec : (0 : Int) < (((bytesStr [b]).size : Nat) : Int) := by rw [bytesStr_size]; simp
  simp only [need_is, eb, ec, and_self, decide_true, cond_true]
  cases hb8 : (b == 8) with
  | false =>
    have : ([b] == [8]) = false := by simpa using hb8
    simp only [cond_false, obindP_sn, pb, pg, this, outP, Option.map_none]
  | true =>
    have e8 : ([b] == [8]) = true := by simpa using hb8
    simp only [cond_true, obindP_ss, e8, pb_gt rfl]
    refine take_pb (n := 8) hr2 (by omega) (by omega) fun cid r3 hr3 hl3 _ _ _ => ?_
    refine take_pb (n := 16) hr3 (by omega) (by omega) fun tok r4 hr4 hl4 _ _ _ => ?_
    exact last_out r4 _ _ _ _ _ _ _ _ _ _ _ _ _ (frok0 ik in62_0 in62_0 in62_0 in62_0 hseq hprior in62_0)
theorem body_25 {r : List Int} (hB : Byt r) (hl : r.length ≤ 1000000) : startR 25 r = outP (pb (bodyP 25) finP' r) := by
  have ik : In62 25 := i62 25 (by decide)
  simp only [startR, bodyP, frame_framer_read_h0_0_eq, b_frame_framer_read_h0_0, frame_framer_read_h0_1_eq, b_frame_framer_read_h0_1, frame_framer_read_h0_2_eq, b_frame_framer_read_h0_2, frame_framer_read_h0_3_eq, b_frame_framer_read_h0_3, Int.reduceBEq, Bool.or_self, cond_true, cond_false, ge_iff_le, Int.reduceLE, Int.reduceLT, decide_true, decide_false]
  simp only [frame_reader_into_h4_eq, b_frame_reader_into_h4, obindP_assoc, obindP_ss, pb_assoc, pb_pr]
  refine num_pb hB fun seq r0 hseq hr0 hl0 => ?_
  exact last_out r0 _ _ _ _ _ _ _ _ _ _ _ _ _ (frok0 ik in62_0 in62_0 in62_0 in62_0 hseq in62_0 in62_0)
theorem body_26 {r : List Int} (hB : Byt r) (hl : r.length ≤ 1000000) : startR 26 r = outP (pb (bodyP 26) finP' r) := by
  have ik : In62 26 := i62 26 (by decide)
  simp only [startR, bodyP, frame_framer_read_h0_0_eq, b_frame_framer_read_h0_0, frame_framer_read_h0_1_eq, b_frame_framer_read_h0_1, frame_framer_read_h0_2_eq, b_frame_framer_read_h0_2, frame_framer_read_h0_3_eq, b_frame_framer_read_h0_3, Int.reduceBEq, Bool.or_false, Bool.or_self, cond_true, cond_false, ge_iff_le, Int.reduceLE, Int.reduceLT, decide_true, decide_false]
  simp only [pb_assoc, pb_pr]
  refine take_pb (n := 8) hB (by omega) hl fun tok r1 hr1 hl1 _ _ _ => ?_
  exact last_out r1 _ _ _ _ _ _ _ _ _ _ _ _ _ (frok0 ik in62_0 in62_0 in62_0 in62_0 in62_0 in62_0 in62_0)
theorem body_27 {r : List Int} (hB : Byt r) (hl : r.length ≤ 1000000) : startR 27 r = outP (pb (bodyP 27) finP' r) := by
  have ik : In62 27 := i62 27 (by decide)
  simp only [startR, bodyP, frame_framer_read_h0_0_eq, b_frame_framer_read_h0_0, frame_framer_read_h0_1_eq, b_frame_framer_read_h0_1, frame_framer_read_h0_2_eq, b_frame_framer_read_h0_2, frame_framer_read_h0_3_eq, b_frame_framer_read_h0_3, Int.reduceBEq, Bool.or_true, Bool.or_self, cond_true, cond_false, ge_iff_le, Int.reduceLE, Int.reduceLT, decide_true, decide_false]
  simp only [pb_assoc, pb_pr]
  refine take_pb (n := 8) hB (by omega) hl fun tok r1 hr1 hl1 _ _ _ => ?_
  exact last_out r1 _ _ _ _ _ _ _ _ _ _ _ _ _ (frok0 ik in62_0 in62_0 in62_0 in62_0 in62_0 in62_0 in62_0)
theorem body_28 {r : List Int} (hB : Byt r) (hl : r.length ≤ 1000000) : startR 28 r = outP (pb (bodyP 28) finP' r) := by
  have ik : In62 28 := i62 28 (by decide)
  simp only [startR, bodyP, frame_framer_read_h0_0_eq, b_frame_framer_read_h0_0, frame_framer_read_h0_1_eq, b_frame_framer_read_h0_1, frame_framer_read_h0_2_eq, b_frame_framer_read_h0_2, frame_framer_read_h0_3_eq, b_frame_framer_read_h0_3, Int.reduceBEq, Bool.or_self, cond_true, cond_false, ge_iff_le, Int.reduceLE, Int.reduceLT, decide_true, decide_false]
  simp only [frame_reader_into_h7_eq, b_frame_reader_into_h7, obindP_assoc, obindP_ss, pb_assoc, pb_pr]
  refine num_pb hB fun code r0 hcode hr0 hl0 => ?_
  refine num_pb hr0 fun delay r1 hdelay hr1 hl1 => ?_
  refine long_pb hr1 (by omega) fun bs r2 hr2 hl2 hbs => ?_
  exact last_out r2 _ _ _ _ _ _ _ _ _ _ _ _ _ (frok0 ik in62_0 in62_0 in62_0 hcode in62_0 in62_0 hdelay)
theorem body_29 {r : List Int} (hB : Byt r) (hl : r.length ≤ 1000000) : startR 29 r = outP (pb (bodyP 29) finP' r) := by
  have ik : In62 29 := i62 29 (by decide)
  simp only [startR, bodyP, frame_framer_read_h0_0_eq, b_frame_framer_read_h0_0, frame_framer_read_h0_1_eq, b_frame_framer_read_h0_1, frame_framer_read_h0_2_eq, b_frame_framer_read_h0_2, frame_framer_read_h0_3_eq, b_frame_framer_read_h0_3, Int.reduceBEq, Bool.or_self, cond_true, cond_false, ge_iff_le, Int.reduceLE, Int.reduceLT, decide_true, decide_false]
  simp only [frame_reader_into_h3_eq, b_frame_reader_into_h3, obindP_assoc, obindP_ss, pb_assoc, pb_pr]
  refine num_pb hB fun code r0 hcode hr0 hl0 => ?_
  refine long_pb hr0 (by omega) fun bs r1 hr1 hl1 hbs => ?_
  exact last_out r1 _ _ _ _ _ _ _ _ _ _ _ _ _ (frok0 ik in62_0 in62_0 in62_0 hcode in62_0 in62_0 in62_0)
theorem body_30 {r : List Int} (hB : Byt r) (hl : r.length ≤ 1000000) : startR 30 r = outP (pb (bodyP 30) finP' r) := by
  have ik : In62 30 := i62 30 (by decide)
  simp only [startR, bodyP, frame_framer_read_h0_0_eq, b_frame_framer_read_h0_0, frame_framer_read_h0_1_eq, b_frame_framer_read_h0_1, frame_framer_read_h0_2_eq, b_frame_framer_read_h0_2, frame_framer_read_h0_3_eq, b_frame_framer_read_h0_3, Int.reduceBEq, Bool.or_true, Bool.or_self, cond_true, cond_false, ge_iff_le, Int.reduceLE, Int.reduceLT, decide_true, decide_false]
  exact last_out r _ _ _ _ _ _ _ _ _ _ _ _ _ (frok0 ik in62_0 in62_0 in62_0 in62_0 in62_0 in62_0 in62_0)
theorem body_none {k : Int} (r : List Int) (h0 : k ≠ 0) (h1 : k ≠ 1) (h2 : k ≠ 2) (h4 : k ≠ 4) (h5 : k ≠ 5) (h6 : k ≠ 6) (h8 : k ≠ 8) (h9 : k ≠ 9) (h10 : k ≠ 10) (h11 : k ≠ 11) (h12 : k ≠ 12) (h13 : k ≠ 13) (h14 : k ≠ 14) (h15 : k ≠ 15) (h16 : k ≠ 16) (h17 : k ≠ 17) (h18 : k ≠ 18) (h19 : k ≠ 19) (h20 : k ≠ 20) (h21 : k ≠ 21) (h22 : k ≠ 22) (h23 : k ≠ 23) (h24 : k ≠ 24) (h25 : k ≠ 25) (h26 : k ≠ 26) (h27 : k ≠ 27) (h28 : k ≠ 28) (h29 : k ≠ 29) (h30 : k ≠ 30) : startR k r = outP (pb (bodyP k) finP' r) := by
  have c : ¬ (k ≥ 8 ∧ k < 16) := by omega
  simp only [startR, bodyP, frame_framer_read_h0_0_eq, b_frame_framer_read_h0_0, frame_framer_read_h0_1_eq, b_frame_framer_read_h0_1, frame_framer_read_h0_2_eq, b_frame_framer_read_h0_2, frame_framer_read_h0_3_eq, b_frame_framer_read_h0_3, beq_false_of_ne h0, beq_false_of_ne h1, beq_false_of_ne h2, beq_false_of_ne h4, beq_false_of_ne h5, beq_false_of_ne h6, beq_false_of_ne h8, beq_false_of_ne h9, beq_false_of_ne h10, beq_false_of_ne h11, beq_false_of_ne h12, beq_false_of_ne h13, beq_false_of_ne h14, beq_false_of_ne h15, beq_false_of_ne h16, beq_false_of_ne h17, beq_false_of_ne h18, beq_false_of_ne h19, beq_false_of_ne h20, beq_false_of_ne h21, beq_false_of_ne h22, beq_false_of_ne h23, beq_false_of_ne h24, beq_false_of_ne h25, beq_false_of_ne h26, beq_false_of_ne h27, beq_false_of_ne h28, beq_false_of_ne h29, beq_false_of_ne h30, Bool.or_self, cond_false]
  have e : (outP (pb (fun _ => none) finP' r) : Option (Option (D_frame_framer × Unit))) = some none := rfl
  rw [e]
  by_cases c1 : k ≥ 8
  · have c2 : ¬ k < 16 := fun h => c ⟨c1, h⟩
    simp only [c1, c2, decide_true, decide_false, cond_true, need_is, cond_false, obindP_sn]
  · simp only [c1, decide_false, need_is, cond_false, obindP_sn]
theorem body_is (k : Int) {r : List Int} (hB : Byt r) (hl : r.length ≤ 1000000) : startR k r = outP (pb (bodyP k) finP' r) := by
  by_cases h0 : k = 0
  · subst h0; exact body_0 hB hl
  by_cases h1 : k = 1
  · subst h1; exact body_1 hB hl
  by_cases h2 : k = 2
  · subst h2; exact body_2 hB hl
  by_cases h4 : k = 4
  · subst h4; exact body_4 hB hl
  by_cases h5 : k = 5
  · subst h5; exact body_5 hB hl
  by_cases h6 : k = 6
  · subst h6; exact body_6 hB hl
  by_cases h8 : k = 8
  · subst h8; exact body_8 hB hl
  by_cases h9 : k = 9
  · subst h9; exact body_9 hB hl
  by_cases h10 : k = 10
  · subst h10; exact body_10 hB hl
  by_cases h11 : k = 11
  · subst h11; exact body_11 hB hl
  by_cases h12 : k = 12
  · subst h12; exact body_12 hB hl
  by_cases h13 : k = 13
  · subst h13; exact body_13 hB hl
  by_cases h14 : k = 14
  · subst h14; exact body_14 hB hl
  by_cases h15 : k = 15
  · subst h15; exact body_15 hB hl
  by_cases h16 : k = 16
  · subst h16; exact body_16 hB hl
  by_cases h17 : k = 17
  · subst h17; exact body_17 hB hl
  by_cases h18 : k = 18
  · subst h18; exact body_18 hB hl
  by_cases h19 : k = 19
  · subst h19; exact body_19 hB hl
  by_cases h20 : k = 20
  · subst h20; exact body_20 hB hl
  by_cases h21 : k = 21
  · subst h21; exact body_21 hB hl
  by_cases h22 : k = 22
  · subst h22; exact body_22 hB hl
  by_cases h23 : k = 23
  · subst h23; exact body_23 hB hl
  by_cases h24 : k = 24
  · subst h24; exact body_24 hB hl
  by_cases h25 : k = 25
  · subst h25; exact body_25 hB hl
  by_cases h26 : k = 26
  · subst h26; exact body_26 hB hl
  by_cases h27 : k = 27
  · subst h27; exact body_27 hB hl
  by_cases h28 : k = 28
  · subst h28; exact body_28 hB hl
  by_cases h29 : k = 29
  · subst h29; exact body_29 hB hl
  by_cases h30 : k = 30
  · subst h30; exact body_30 hB hl
  exact body_none r h0 h1 h2 h4 h5 h6 h8 h9 h10 h11 h12 h13 h14 h15 h16 h17 h18 h19 h20 h21 h22 h23 h24 h25 h26 h27 h28 h29 h30
end Go.Proofs.YtjdjlijjolibkaaDoor.V
/- What frame.Get answers, and what its reader is like. -/
namespace Go.Proofs.YtjdjlijjolibkaaDoor.V
open Go.RowKit
set_option linter.unusedVariables false
theorem read_is {l : List Int} (hB : Byt l) (hl : l.length ≤ 1000000) : frame_framer_read_h0 (st l (zF 0)) = outP (getL l) := by
  rw [frame_framer_read_h0_eq, b_frame_framer_read_h0]
  simp only [frame_reader_into_h0_eq, b_frame_reader_into_h0, obindP_assoc, obindP_ss, getL]
  refine num_pb hB fun k r hk hr hlr => ?_
  simp only [bytesStr_size]
  rw [wrap_i64 _ (by omega) (by omega), vsize_is k hk.1 (in62_64 hk).2]
  simp only [obind_some, need_is, beq_dec]
  by_cases c : ((l.length : Nat) : Int) - ((r.length : Nat) : Int) = vsize k
  · simp only [c, decide_true, cond_true, obindP_ss]
    have := body_is k hr (by omega)
    simp only [startR, beq_dec] at this
    exact this
  · simp only [c, decide_false, cond_false, obindP_sn, outP, Option.map_none]
theorem get_is (s : ByteArray) (hl : s.size ≤ 1000000) : frame_Get s = some (match getL (strBytes s) with | some (f, r) => (f, bytesStr r, 0, ()) | none => (zF 0, eB, 60, ())) := by
  rw [frame_Get_eq, b_frame_Get]
  have e := read_is (l := strBytes s) (strBytes_range s) (by rw [strBytes_len]; exact hl)
  simp only [st, bytesStr_strBytes] at e
  rw [e]
  cases getL (strBytes s) with
  | none => rfl
  | some x => rfl
/-! ### what is behind was there -/
theorem Suf.long : Suf plong := Suf.bind Suf.vget fun n => Suf.bind (Suf.take _) fun _ => Suf.pr _
theorem Mono.long : Mono plong := Mono.bind Mono.vget fun n => Mono.bind (Mono.take _) fun _ => Mono.pr _
theorem Suf.str (n : Nat) : Suf (pstr n) := Suf.bind (Suf.take _) fun _ => Suf.pr _
theorem Mono.str (n : Nat) : Mono (pstr n) := Mono.bind (Mono.take _) fun _ => Mono.pr _
theorem Suf.rest : Suf prest := fun l a r h => by cases h; exact ⟨l, by simp⟩
theorem Suf.gaps : ∀ (n : Nat) (lo : Int), Suf (gapsP n lo)
  | 0, _ => Suf.pr _
  | n + 1, lo => Suf.bind Suf.vget fun _ => Suf.bind Suf.vget fun _ => Suf.bind (Suf.pg _) fun _ => Suf.bind (Suf.gaps n _) fun _ => Suf.pr _
theorem Mono.gaps : ∀ (n : Nat) (lo : Int), Mono (gapsP n lo)
  | 0, _ => Mono.pr _
  | n + 1, lo => Mono.bind Mono.vget fun _ => Mono.bind Mono.vget fun _ => Mono.bind (Mono.pg _) fun _ => Mono.bind (Mono.gaps n _) fun _ => Mono.pr _
theorem Suf.ack : Suf ackP := Suf.bind Suf.vget fun _ => Suf.bind Suf.vget fun _ => Suf.bind Suf.vget fun _ => Suf.bind Suf.vget fun _ => Suf.bind (Suf.pg _) fun _ => Suf.bind (Suf.gaps _ _) fun _ => Suf.pr _
theorem Mono.ack : Mono ackP := Mono.bind Mono.vget fun _ => Mono.bind Mono.vget fun _ => Mono.bind Mono.vget fun _ => Mono.bind Mono.vget fun _ => Mono.bind (Mono.pg _) fun _ => Mono.bind (Mono.gaps _ _) fun _ => Mono.pr _
theorem Suf.stream (a b c : Bool) : Suf (streamP a b c) := Suf.bind Suf.vget fun _ => Suf.bind (by cases b; exact Suf.pr _; exact Suf.vget) fun _ => Suf.bind (by cases c; exact Suf.rest; exact Suf.long) fun _ => Suf.pr _
theorem Mono.stream (a b : Bool) : Mono (streamP a b true) := Mono.bind Mono.vget fun _ => Mono.bind (by cases b; exact Mono.pr _; exact Mono.vget) fun _ => Mono.bind Mono.long fun _ => Mono.pr _
theorem Suf.none {α : Type} : Suf (fun _ => none : Pr α) := fun _ _ _ h => by cases h
theorem Mono.none {α : Type} : Mono (fun _ => none : Pr α) := fun _ _ _ _ h => by cases h
theorem Suf.cond {α : Type} {b : Bool} {p q : Pr α} (h : Suf p) (k : Suf q) : Suf (bif b then p else q) := by cases b; exact k; exact h
theorem Mono.cond {α : Type} {b : Bool} {p q : Pr α} (h : b = true → Mono p) (k : b = false → Mono q) : Mono (bif b then p else q) := by cases b; exact k rfl; exact h rfl
theorem Suf.body (k : Int) : Suf (bodyP k) := by
  unfold bodyP
  refine Suf.cond (Suf.pr _) (Suf.cond Suf.ack (Suf.cond (Suf.bind Suf.vget fun _ => Suf.bind Suf.vget fun _ => Suf.bind Suf.vget fun _ => Suf.pr _) (Suf.cond (Suf.bind Suf.vget fun _ => Suf.bind Suf.vget fun _ => Suf.pr _) (Suf.cond (Suf.bind Suf.vget fun _ => Suf.bind Suf.long fun _ => Suf.pr _) ?_))))
  refine Suf.cond (Suf.stream _ _ _) (Suf.cond (Suf.stream _ _ _) (Suf.cond (Suf.stream _ _ _) (Suf.cond (Suf.stream _ _ _) (Suf.cond (Suf.stream _ _ _) (Suf.cond (Suf.stream _ _ _) (Suf.cond (Suf.stream _ _ _) (Suf.cond (Suf.stream _ _ _) ?_)))))))
  refine Suf.cond (Suf.bind Suf.vget fun _ => Suf.pr _) (Suf.cond (Suf.bind Suf.vget fun _ => Suf.bind Suf.vget fun _ => Suf.pr _) ?_)
  refine Suf.cond (Suf.bind Suf.vget fun _ => Suf.bind Suf.vget fun _ => Suf.bind (Suf.take _) fun _ => Suf.bind (Suf.pg _) fun _ => Suf.bind (Suf.str _) fun _ => Suf.bind (Suf.str _) fun _ => Suf.pr _) ?_
  refine Suf.cond (Suf.bind Suf.vget fun _ => Suf.pr _) (Suf.cond (Suf.bind (Suf.str _) fun _ => Suf.pr _) ?_)
  exact Suf.cond (Suf.bind Suf.vget fun _ => Suf.bind Suf.vget fun _ => Suf.bind Suf.long fun _ => Suf.pr _) (Suf.cond (Suf.bind Suf.vget fun _ => Suf.bind Suf.long fun _ => Suf.pr _) Suf.none)
theorem Mono.body (k : Int) (h8 : k ≠ 8) (h9 : k ≠ 9) (h12 : k ≠ 12) (h13 : k ≠ 13) : Mono (bodyP k) := by
  unfold bodyP
  rw [beq_false_of_ne h8, beq_false_of_ne h9, beq_false_of_ne h12, beq_false_of_ne h13]
  simp only [cond_false]
  refine Mono.cond (fun _ => Mono.pr _) fun _ => Mono.cond (fun _ => Mono.ack) fun _ => Mono.cond (fun _ => Mono.bind Mono.vget fun _ => Mono.bind Mono.vget fun _ => Mono.bind Mono.vget fun _ => Mono.pr _) fun _ => Mono.cond (fun _ => Mono.bind Mono.vget fun _ => Mono.bind Mono.vget fun _ => Mono.pr _) fun _ => Mono.cond (fun _ => Mono.bind Mono.vget fun _ => Mono.bind Mono.long fun _ => Mono.pr _) fun _ => ?_
  refine Mono.cond (fun _ => Mono.stream _ _) fun _ => Mono.cond (fun _ => Mono.stream _ _) fun _ => Mono.cond (fun _ => Mono.stream _ _) fun _ => Mono.cond (fun _ => Mono.stream _ _) fun _ => ?_
  refine Mono.cond (fun _ => Mono.bind Mono.vget fun _ => Mono.pr _) fun _ => Mono.cond (fun _ => Mono.bind Mono.vget fun _ => Mono.bind Mono.vget fun _ => Mono.pr _) fun _ => ?_
  refine Mono.cond (fun _ => Mono.bind Mono.vget fun _ => Mono.bind Mono.vget fun _ => Mono.bind (Mono.take _) fun _ => Mono.bind (Mono.pg _) fun _ => Mono.bind (Mono.str _) fun _ => Mono.bind (Mono.str _) fun _ => Mono.pr _) fun _ => ?_
  refine Mono.cond (fun _ => Mono.bind Mono.vget fun _ => Mono.pr _) fun _ => Mono.cond (fun _ => Mono.bind (Mono.str _) fun _ => Mono.pr _) fun _ => ?_
  exact Mono.cond (fun _ => Mono.bind Mono.vget fun _ => Mono.bind Mono.vget fun _ => Mono.bind Mono.long fun _ => Mono.pr _) fun _ => Mono.cond (fun _ => Mono.bind Mono.vget fun _ => Mono.bind Mono.long fun _ => Mono.pr _) fun _ => Mono.none
theorem Suf.fin (f : D_frame_Frame) : Suf (finP' f) := Suf.bind (Suf.pg _) fun _ => Suf.pr _
theorem Mono.fin (f : D_frame_Frame) : Mono (finP' f) := Mono.bind (Mono.pg _) fun _ => Mono.pr _
/-- What is got: its kind first, then its body; it may be. -/
theorem getL_some {l : List Int} {f : D_frame_Frame} {r : List Int} (h : getL l = some (f, r)) : ∃ k r1, vget l = some (k, r1) ∧ ((l.length : Nat) : Int) - ((r1.length : Nat) : Int) = vsize k ∧ bodyP k r1 = some (f, r) ∧ mayFr f = true := by
  unfold getL at h
  obtain ⟨k, r1, h1, h2⟩ := pb_some h
  by_cases c : ((l.length : Nat) : Int) - ((r1.length : Nat) : Int) = vsize k
  · simp only [c, decide_true, cond_true] at h2
    obtain ⟨f', r2, h3, h4⟩ := pb_some h2
    unfold finP' at h4
    obtain ⟨⟨⟩, r3, h5, h6⟩ := pb_some h4
    cases h6
    cases hm : mayFr f with
    | true =>
      rw [hm] at h5
      cases h5
      exact ⟨k, r1, h1, c, h3, rfl⟩
    | false => rw [hm] at h5; cases h5
  · simp only [c, decide_false, cond_false] at h2
    cases h2
theorem getL_of {l : List Int} {f : D_frame_Frame} {r r1 : List Int} {k : Int} (h1 : vget l = some (k, r1)) (h2 : ((l.length : Nat) : Int) - ((r1.length : Nat) : Int) = vsize k) (h3 : bodyP k r1 = some (f, r)) (h4 : mayFr f = true) : getL l = some (f, r) := by
  unfold getL
  simp only [pb, h1, h2, decide_true, cond_true, h3, finP', h4, pg, pr]
theorem getL_suf {l : List Int} {f : D_frame_Frame} {r : List Int} (h : getL l = some (f, r)) : ∃ q, l = q ++ r ∧ 1 ≤ q.length := by
  obtain ⟨k, r1, h1, _, h3, _⟩ := getL_some h
  obtain ⟨q, rfl, hq, _⟩ := vget_some h1
  obtain ⟨q2, rfl⟩ := Suf.body k _ _ _ h3
  exact ⟨q ++ q2, by simp, by simp; omega⟩
end Go.Proofs.YtjdjlijjolibkaaDoor.V
/- A frame that was put is got back. -/
namespace Go.Proofs.YtjdjlijjolibkaaDoor.V
open Go.RowKit
theorem pb_vb {β : Type} (n : Int) (h : In62 n) (f : Int → Pr β) (t : List Int) : pb vget f (vb n ++ t) = f n t := by
  simp only [pb, vget_vb n h t]
theorem pb_bytes {β : Type} (s : ByteArray) (n : Nat) (h : s.size = n) (f : List Int → Pr β) (t : List Int) : pb (ptake n) f (strBytes s ++ t) = f (strBytes s) t := by
  have hl : (strBytes s).length = n := by rw [strBytes_len, h]
  have c : n ≤ (strBytes s ++ t).length := by simp; omega
  simp only [pb, ptake, c, if_true]
  subst hl
  rw [List.take_left, List.drop_left]
theorem pb_str {β : Type} (s : ByteArray) (n : Nat) (h : s.size = n) (f : ByteArray → Pr β) (t : List Int) : pb (pstr n) f (strBytes s ++ t) = f s t := by
  rw [pstr, pb_assoc, pb_bytes s n h]
  simp only [pb_pr, bytesStr_strBytes]
theorem pb_text {β : Type} (s : ByteArray) (h : s.size ≤ 100000) (f : ByteArray → Pr β) (t : List Int) : pb plong f (textL s ++ t) = f s t := by
  rw [plong, textL, pb_assoc, List.append_assoc, pb_vb _ (size62 h)]
  simp only [Int.toNat_natCast]
  rw [pb_assoc, pb_bytes s _ rfl]
  simp only [pb_pr, bytesStr_strBytes]
theorem gaps_back (t : List Int) : ∀ (l : List D_ranges_Range) (lo : Int), descR lo l → lo < 4611686018427387904 → gapsP l.length lo (ackGaps lo l ++ t) = some (l, t)
  | [], lo, _, _ => rfl
  | r :: l, lo, ⟨d1, d2, d3, d4⟩, hlo => by
    have e1 : lo - (lo - r.2.1 - 2) - 2 = r.2.1 := by omega
    have e2 : r.2.1 - (r.2.1 - r.1) = r.1 := by omega
    have c1 : lo - r.2.1 - 2 + 2 ≤ lo := by omega
    have c2 : r.2.1 - r.1 ≤ r.2.1 := by omega
    simp only [gapsP, List.length_cons, ackGaps, List.append_assoc]
    rw [pb_vb _ ⟨by omega, by omega⟩, pb_vb _ ⟨by omega, by omega⟩]
    simp only [e1, e2, c1, c2, decide_true, Bool.and_self, pb_gt rfl]
    have ih := gaps_back t l r.1 d4 (by omega)
    simp only [pb, ih, pr]
theorem only_parts {k id off mx code seq prior delay : Int} {fin : Bool} {data cid tok : ByteArray} {set : List D_ranges_Range} (h : (k, id, off, mx, code, seq, prior, delay, fin, data, cid, tok, set, ()) = onlyF (k, id, off, mx, code, seq, prior, delay, fin, data, cid, tok, set, ())) :
    (hasId k = false → id = 0) ∧ (hasOff k = false → off = 0) ∧ (hasMax k = false → mx = 0) ∧ (hasCode k = false → code = 0) ∧ (hasSeq k = false → seq = 0) ∧ (hasPrior k = false → prior = 0) ∧ (hasDelay k = false → delay = 0) ∧ (hasFin k = false → fin = false) ∧
    (hasData k = false → data = eB) ∧ (hasCid k = false → cid = eB) ∧ (hasToken k = false → tok = eB) ∧ (hasSet k = false → set = []) := by
  simp only [onlyF, Prod.mk.injEq, and_true, true_and] at h
  obtain ⟨h1, h2, h3, h4, h5, h6, h7, h8, h9, h10, h11, h12⟩ := h
  refine ⟨fun e => ?_, fun e => ?_, fun e => ?_, fun e => ?_, fun e => ?_, fun e => ?_, fun e => ?_, fun e => ?_, fun e => ?_, fun e => ?_, fun e => ?_, fun e => ?_⟩
  · rw [h1, e]; rfl
  · rw [h2, e]; rfl
  · rw [h3, e]; rfl
  · rw [h4, e]; rfl
  · rw [h5, e]; rfl
  · rw [h6, e]; rfl
  · rw [h7, e]; rfl
  · rw [h8, e]; rfl
  · rw [h9, e]; rfl
  · rw [h10, e]; rfl
  · rw [h11, e]; rfl
  · rw [h12, e]; rfl
theorem getL_vb {k : Int} (hk : In62 k) {l t : List Int} {f : D_frame_Frame} (h : bodyP k l = some (f, t)) (hm : mayFr f = true) : getL (vb k ++ l) = some (f, t) :=
  getL_of (vget_vb k hk l) (by rw [List.length_append]; have := vb_vsize k hk; omega) h hm
theorem back_is (f : D_frame_Frame) (h : FrOk f) (hm : mayFr f = true) (t : List Int) : getL (putL f ++ t) = some (f, t) := by
  obtain ⟨hk, ho, hn, hd, he⟩ := mayFr_parts hm
  obtain ⟨n1, n2, n3, n4, n5, n6, n7⟩ := nums62 h hn
  have hset := h.set
  obtain ⟨k, id, off, mx, code, seq, prior, delay, fin, data, cid, tok, set, ⟨⟩⟩ := f
  obtain ⟨o1, o2, o3, o4, o5, o6, o7, o8, o9, o10, o11, o12⟩ := only_parts ho
  simp only at n1 n2 n3 n4 n5 n6 n7 hd hset hk
  have v1 : ∀ (a : Int) (t : List Int), vbs [a] ++ t = vb a ++ t := fun a t => by simp [vbs]
  have v2 : ∀ (a b : Int) (t : List Int), vbs [a, b] ++ t = vb a ++ (vb b ++ t) := fun a b t => by simp [vbs]
  have v3 : ∀ (a b c : Int) (t : List Int), vbs [a, b, c] ++ t = vb a ++ (vb b ++ (vb c ++ t)) := fun a b c t => by simp [vbs]
  have K : In62 k := by rcases kinds hk with rfl | rfl | rfl | rfl | rfl | rfl | rfl | rfl | rfl | rfl | rfl | rfl | rfl | rfl | rfl | rfl | rfl | rfl | rfl | rfl | rfl | rfl <;> (unfold In62; omega)
  by_cases h8 : k = 8
  · subst h8
    have z3 := o3 rfl; have z4 := o4 rfl; have z5 := o5 rfl; have z6 := o6 rfl; have z7 := o7 rfl; have z10 := o10 rfl; have z11 := o11 rfl; have z12 := o12 rfl
    subst z3 z4 z5 z6 z7 z10 z11 z12
    simp only [putL, beq_self_eq_true, cond_true, List.append_assoc, v2, streamK]
    have i10 := i62 10 (by decide); have i11 := i62 11 (by decide); have i14 := i62 14 (by decide); have i15 := i62 15 (by decide)
    by_cases h0 : off = 0
    · subst h0
      cases fin
      · refine getL_vb (k := 10) i10 ?_ hm
        show streamP false false true _ = _
        simp only [streamP, cond_false, cond_true, pb_pr, beq_self_eq_true, List.nil_append]
        rw [pb_vb _ n1, pb_text data (by omega)]; rfl
      · refine getL_vb (k := 11) i11 ?_ hm
        show streamP true false true _ = _
        simp only [streamP, cond_false, cond_true, pb_pr, beq_self_eq_true, List.nil_append]
        rw [pb_vb _ n1, pb_text data (by omega)]; rfl
    · have e0 : (off == 0) = false := beq_false_of_ne h0
      simp only [e0, cond_false, v1]
      cases fin
      · refine getL_vb (k := 14) i14 ?_ hm
        show streamP false true true _ = _
        simp only [streamP, cond_true]
        rw [pb_vb _ n1, pb_vb _ n2, pb_text data (by omega)]; rfl
      · refine getL_vb (k := 15) i15 ?_ hm
        show streamP true true true _ = _
        simp only [streamP, cond_true]
        rw [pb_vb _ n1, pb_vb _ n2, pb_text data (by omega)]; rfl
  · have hb : (k == 8) = false := beq_false_of_ne h8
    simp only [putL, hb, cond_false, List.append_assoc, v1]
    refine getL_vb K ?_ hm
    rcases kinds hk with rfl | rfl | rfl | rfl | rfl | rfl | rfl | rfl | rfl | rfl | rfl | rfl | rfl | rfl | rfl | rfl | rfl | rfl | rfl | rfl | rfl | rfl
    case inr.inr.inl =>
      simp only [extraF, beq_self_eq_true, cond_true, Bool.and_eq_true, decide_eq_true_eq] at he
      obtain ⟨⟨⟨e1, e2⟩, e3⟩, e4⟩ := he
      obtain ⟨r, l, er, el, d1, d2, d3, d4⟩ := ack_desc (fun r hr => (hset r hr).1.1) e1 e2 e4
      have z1 := o1 rfl; have z2 := o2 rfl; have z3 := o3 rfl; have z4 := o4 rfl; have z5 := o5 rfl; have z6 := o6 rfl; have z8 := o8 rfl; have z9 := o9 rfl; have z10 := o10 rfl; have z11 := o11 rfl
      subst z1 z2 z3 z4 z5 z6 z8 z9 z10 z11
      have e5 : r.2.1 - (r.2.1 - r.1) = r.1 := by omega
      have c1 : ((l.length : Nat) : Int) < 32 := by omega
      have c2 : r.2.1 - r.1 ≤ r.2.1 := by omega
      show ackP (ackL delay set.reverse ++ t) = _
      rw [er]
      simp only [ackP, ackL, List.append_assoc]
      rw [pb_vb _ ⟨by omega, by omega⟩, pb_vb _ n7, pb_vb _ ⟨by omega, by omega⟩, pb_vb _ ⟨by omega, by omega⟩]
      simp only [e5, c1, c2, decide_true, Bool.and_self, pb_gt rfl, Int.toNat_natCast]
      have g := gaps_back t l r.1 d4 (by omega)
      simp only [pb, g, pr]
      have e6 : ((r.1, (r.2.1, ())) : D_ranges_Range) = r := rfl
      rw [e6, ← er, List.reverse_reverse]
    · have z1 := o1 rfl; have z2 := o2 rfl; have z3 := o3 rfl; have z4 := o4 rfl; have z5 := o5 rfl; have z6 := o6 rfl; have z7 := o7 rfl; have z8 := o8 rfl; have z9 := o9 rfl; have z10 := o10 rfl; have z11 := o11 rfl; have z12 := o12 rfl
      subst z1 z2 z3 z4 z5 z6 z7 z8 z9 z10 z11 z12
      simp only [partsL, bodyP, Int.reduceBEq, Bool.or_false, Bool.or_self, cond_true, cond_false, v1, v2, List.append_assoc, List.nil_append]
      rfl
    · have z1 := o1 rfl; have z2 := o2 rfl; have z3 := o3 rfl; have z4 := o4 rfl; have z5 := o5 rfl; have z6 := o6 rfl; have z7 := o7 rfl; have z8 := o8 rfl; have z9 := o9 rfl; have z10 := o10 rfl; have z11 := o11 rfl; have z12 := o12 rfl
      subst z1 z2 z3 z4 z5 z6 z7 z8 z9 z10 z11 z12
      simp only [partsL, bodyP, Int.reduceBEq, Bool.or_true, Bool.or_false, Bool.or_self, cond_true, cond_false, v1, v2, List.append_assoc, List.nil_append]
      rfl
    · have z2 := o2 rfl; have z5 := o5 rfl; have z6 := o6 rfl; have z7 := o7 rfl; have z8 := o8 rfl; have z9 := o9 rfl; have z10 := o10 rfl; have z11 := o11 rfl; have z12 := o12 rfl
      subst z2 z5 z6 z7 z8 z9 z10 z11 z12
      simp only [partsL, bodyP, Int.reduceBEq, Bool.or_self, cond_true, cond_false, v1, v2, v3, List.append_assoc]
      rw [pb_vb _ n1, pb_vb _ n4, pb_vb _ n3]; rfl
    · have z2 := o2 rfl; have z3 := o3 rfl; have z5 := o5 rfl; have z6 := o6 rfl; have z7 := o7 rfl; have z8 := o8 rfl; have z9 := o9 rfl; have z10 := o10 rfl; have z11 := o11 rfl; have z12 := o12 rfl
      subst z2 z3 z5 z6 z7 z8 z9 z10 z11 z12
      simp only [partsL, bodyP, Int.reduceBEq, Bool.or_self, cond_true, cond_false, v1, v2, List.append_assoc]
      rw [pb_vb _ n1, pb_vb _ n4]; rfl
    · have z1 := o1 rfl; have z3 := o3 rfl; have z4 := o4 rfl; have z5 := o5 rfl; have z6 := o6 rfl; have z7 := o7 rfl; have z8 := o8 rfl; have z10 := o10 rfl; have z11 := o11 rfl; have z12 := o12 rfl
      subst z1 z3 z4 z5 z6 z7 z8 z10 z11 z12
      simp only [partsL, bodyP, Int.reduceBEq, Bool.or_self, cond_true, cond_false, v1, v2, List.append_assoc]
      rw [pb_vb _ n2, pb_text data (by omega)]; rfl
    · exact absurd rfl h8
    · have z1 := o1 rfl; have z2 := o2 rfl; have z4 := o4 rfl; have z5 := o5 rfl; have z6 := o6 rfl; have z7 := o7 rfl; have z8 := o8 rfl; have z9 := o9 rfl; have z10 := o10 rfl; have z11 := o11 rfl; have z12 := o12 rfl
      subst z1 z2 z4 z5 z6 z7 z8 z9 z10 z11 z12
      simp only [partsL, bodyP, Int.reduceBEq, Bool.or_false, Bool.or_self, cond_true, cond_false, v1, v2, List.append_assoc]
      rw [pb_vb _ n3]; rfl
    · have z2 := o2 rfl; have z4 := o4 rfl; have z5 := o5 rfl; have z6 := o6 rfl; have z7 := o7 rfl; have z8 := o8 rfl; have z9 := o9 rfl; have z10 := o10 rfl; have z11 := o11 rfl; have z12 := o12 rfl
      subst z2 z4 z5 z6 z7 z8 z9 z10 z11 z12
      simp only [partsL, bodyP, Int.reduceBEq, Bool.or_false, Bool.or_self, cond_true, cond_false, v1, v2, List.append_assoc]
      rw [pb_vb _ n1, pb_vb _ n3]; rfl
    · have z1 := o1 rfl; have z2 := o2 rfl; have z4 := o4 rfl; have z5 := o5 rfl; have z6 := o6 rfl; have z7 := o7 rfl; have z8 := o8 rfl; have z9 := o9 rfl; have z10 := o10 rfl; have z11 := o11 rfl; have z12 := o12 rfl
      subst z1 z2 z4 z5 z6 z7 z8 z9 z10 z11 z12
      simp only [partsL, bodyP, Int.reduceBEq, Bool.or_true, Bool.or_false, Bool.or_self, cond_true, cond_false, v1, v2, List.append_assoc]
      rw [pb_vb _ n3]; rfl
    · have z1 := o1 rfl; have z2 := o2 rfl; have z4 := o4 rfl; have z5 := o5 rfl; have z6 := o6 rfl; have z7 := o7 rfl; have z8 := o8 rfl; have z9 := o9 rfl; have z10 := o10 rfl; have z11 := o11 rfl; have z12 := o12 rfl
      subst z1 z2 z4 z5 z6 z7 z8 z9 z10 z11 z12
      simp only [partsL, bodyP, Int.reduceBEq, Bool.or_true, Bool.or_false, Bool.or_self, cond_true, cond_false, v1, v2, List.append_assoc]
      rw [pb_vb _ n3]; rfl
    · have z1 := o1 rfl; have z2 := o2 rfl; have z4 := o4 rfl; have z5 := o5 rfl; have z6 := o6 rfl; have z7 := o7 rfl; have z8 := o8 rfl; have z9 := o9 rfl; have z10 := o10 rfl; have z11 := o11 rfl; have z12 := o12 rfl
      subst z1 z2 z4 z5 z6 z7 z8 z9 z10 z11 z12
      simp only [partsL, bodyP, Int.reduceBEq, Bool.or_true, Bool.or_false, Bool.or_self, cond_true, cond_false, v1, v2, List.append_assoc]
      rw [pb_vb _ n3]; rfl
    · have z2 := o2 rfl; have z4 := o4 rfl; have z5 := o5 rfl; have z6 := o6 rfl; have z7 := o7 rfl; have z8 := o8 rfl; have z9 := o9 rfl; have z10 := o10 rfl; have z11 := o11 rfl; have z12 := o12 rfl
      subst z2 z4 z5 z6 z7 z8 z9 z10 z11 z12
      simp only [partsL, bodyP, Int.reduceBEq, Bool.or_true, Bool.or_self, cond_true, cond_false, v1, v2, List.append_assoc]
      rw [pb_vb _ n1, pb_vb _ n3]; rfl
    · have z1 := o1 rfl; have z2 := o2 rfl; have z4 := o4 rfl; have z5 := o5 rfl; have z6 := o6 rfl; have z7 := o7 rfl; have z8 := o8 rfl; have z9 := o9 rfl; have z10 := o10 rfl; have z11 := o11 rfl; have z12 := o12 rfl
      subst z1 z2 z4 z5 z6 z7 z8 z9 z10 z11 z12
      simp only [partsL, bodyP, Int.reduceBEq, Bool.or_true, Bool.or_false, Bool.or_self, cond_true, cond_false, v1, v2, List.append_assoc]
      rw [pb_vb _ n3]; rfl
    · have z1 := o1 rfl; have z2 := o2 rfl; have z4 := o4 rfl; have z5 := o5 rfl; have z6 := o6 rfl; have z7 := o7 rfl; have z8 := o8 rfl; have z9 := o9 rfl; have z10 := o10 rfl; have z11 := o11 rfl; have z12 := o12 rfl
      subst z1 z2 z4 z5 z6 z7 z8 z9 z10 z11 z12
      simp only [partsL, bodyP, Int.reduceBEq, Bool.or_true, Bool.or_self, cond_true, cond_false, v1, v2, List.append_assoc]
      rw [pb_vb _ n3]; rfl
    · have z1 := o1 rfl; have z2 := o2 rfl; have z3 := o3 rfl; have z4 := o4 rfl; have z7 := o7 rfl; have z8 := o8 rfl; have z9 := o9 rfl; have z12 := o12 rfl
      subst z1 z2 z3 z4 z7 z8 z9 z12
      have hc : cid.size = 8 ∧ tok.size = 16 := by
        simp [extraF] at he
        omega
      simp only [partsL, bodyP, Int.reduceBEq, Bool.or_self, cond_true, cond_false, v1, v2, List.append_assoc]
      rw [pb_vb _ n5, pb_vb _ n6]
      have e1 : ∀ (f : List Int → Pr D_frame_Frame) (l : List Int), pb (ptake 1) f ([8] ++ l) = f [8] l := fun f l => by simp [pb, ptake]
      rw [e1]
      simp only [beq_self_eq_true, pb_gt rfl]
      rw [pb_str cid 8 hc.1, pb_str tok 16 hc.2]; rfl
    · have z1 := o1 rfl; have z2 := o2 rfl; have z3 := o3 rfl; have z4 := o4 rfl; have z6 := o6 rfl; have z7 := o7 rfl; have z8 := o8 rfl; have z9 := o9 rfl; have z10 := o10 rfl; have z11 := o11 rfl; have z12 := o12 rfl
      subst z1 z2 z3 z4 z6 z7 z8 z9 z10 z11 z12
      simp only [partsL, bodyP, Int.reduceBEq, Bool.or_self, cond_true, cond_false, v1, v2, List.append_assoc]
      rw [pb_vb _ n5]; rfl
    · have z1 := o1 rfl; have z2 := o2 rfl; have z3 := o3 rfl; have z4 := o4 rfl; have z5 := o5 rfl; have z6 := o6 rfl; have z7 := o7 rfl; have z8 := o8 rfl; have z9 := o9 rfl; have z10 := o10 rfl; have z12 := o12 rfl
      subst z1 z2 z3 z4 z5 z6 z7 z8 z9 z10 z12
      have hc : tok.size = 8 := by
        simp [extraF] at he
        omega
      simp only [partsL, bodyP, Int.reduceBEq, Bool.or_false, Bool.or_self, cond_true, cond_false, v1, v2, List.append_assoc]
      rw [pb_str tok 8 hc]; rfl
    · have z1 := o1 rfl; have z2 := o2 rfl; have z3 := o3 rfl; have z4 := o4 rfl; have z5 := o5 rfl; have z6 := o6 rfl; have z7 := o7 rfl; have z8 := o8 rfl; have z9 := o9 rfl; have z10 := o10 rfl; have z12 := o12 rfl
      subst z1 z2 z3 z4 z5 z6 z7 z8 z9 z10 z12
      have hc : tok.size = 8 := by
        simp [extraF] at he
        omega
      simp only [partsL, bodyP, Int.reduceBEq, Bool.or_true, Bool.or_self, cond_true, cond_false, v1, v2, List.append_assoc]
      rw [pb_str tok 8 hc]; rfl
    · have z1 := o1 rfl; have z2 := o2 rfl; have z3 := o3 rfl; have z5 := o5 rfl; have z6 := o6 rfl; have z8 := o8 rfl; have z10 := o10 rfl; have z11 := o11 rfl; have z12 := o12 rfl
      subst z1 z2 z3 z5 z6 z8 z10 z11 z12
      simp only [partsL, bodyP, Int.reduceBEq, Bool.or_self, cond_true, cond_false, v1, v2, List.append_assoc]
      rw [pb_vb _ n4, pb_vb _ n7, pb_text data (by omega)]; rfl
    · have z1 := o1 rfl; have z2 := o2 rfl; have z3 := o3 rfl; have z5 := o5 rfl; have z6 := o6 rfl; have z7 := o7 rfl; have z8 := o8 rfl; have z10 := o10 rfl; have z11 := o11 rfl; have z12 := o12 rfl
      subst z1 z2 z3 z5 z6 z7 z8 z10 z11 z12
      simp only [partsL, bodyP, Int.reduceBEq, Bool.or_self, cond_true, cond_false, v1, v2, List.append_assoc]
      rw [pb_vb _ n4, pb_text data (by omega)]; rfl
    · have z1 := o1 rfl; have z2 := o2 rfl; have z3 := o3 rfl; have z4 := o4 rfl; have z5 := o5 rfl; have z6 := o6 rfl; have z7 := o7 rfl; have z8 := o8 rfl; have z9 := o9 rfl; have z10 := o10 rfl; have z11 := o11 rfl; have z12 := o12 rfl
      subst z1 z2 z3 z4 z5 z6 z7 z8 z9 z10 z11 z12
      simp only [partsL, bodyP, Int.reduceBEq, Bool.or_true, Bool.or_self, cond_true, cond_false, v1, v2, List.append_assoc, List.nil_append]
      rfl
end Go.Proofs.YtjdjlijjolibkaaDoor.V
namespace Go.Proofs.YtjdjlijjolibkaaDoor.V
open Go.RowKit Go.Proofs.Tryd
set_option maxRecDepth 100000
set_option linter.unusedVariables false
noncomputable def m_slices_Index_uint64 : Mach prog Inv gInv := mach bas [(121, f121)] ⟨ok121, trivial⟩ [] trivial [] trivial [] trivial
/-! ### slices.Index[[]uint64,uint64] -/
@[reducible] def r_slices_Index_uint64 : List Ty := [(.int .i64)]
def ks_slices_Index_uint64 : List Nat := [121]
abbrev H_slices_Index_uint64 (base : Base) (S0 : Nat → Prop) := base.n = 0 ∧ FinOk (finR r_slices_Index_uint64) base S0 (Post r_slices_Index_uint64 S0)
abbrev J_slices_Index_uint64 (base : Base) (S0 : Nat → Prop) (cs0 : List Go.Frame) (p : CPat) (J : denC p → Option (denL r_slices_Index_uint64)) := JSound m_slices_Index_uint64 base S0 cs0 (Post r_slices_Index_uint64 S0) p J
abbrev O_slices_Index_uint64 (base : Base) (S0 : Nat → Prop) (cs0 : List Go.Frame) (X : Cfg → Option (Option (denL r_slices_Index_uint64))) := OSound m_slices_Index_uint64 base S0 cs0 (Post r_slices_Index_uint64 S0) X
@[reducible] noncomputable def p_slices_Index_uint64_0 : CPat := ⟨⟨121, [1, 0, 1, 0], none, [.rows (.int .u64) false, .int .u64, .any, .any, .any, .any, .any, .int .i64, .int .i64], 10⟩, [], [], 0⟩
@[reducible] noncomputable def u_slices_Index_uint64_0 (k : (List Int) → Int → Int → Int → Option (Int × Unit)) : denC p_slices_Index_uint64_0 → Option (Int × Unit) := fun x => k x.1.1 x.1.2.1 x.1.2.2.2.2.2.2.2.1 x.1.2.2.2.2.2.2.2.2.1
noncomputable def t_slices_Index_uint64_0 (k0 : (List Int) → Int → Int → Int → Option (Int × Unit)) (l9 : (List Int)) (i10 : Int) (i11 : Int) (i12 : Int) : Option (Int × Unit) :=
  let b13 : Bool := (decide (i12 < i11))
  bif b13 then
    bif (decide (((0 : Int) ≤ i12) ∧ (i12 < (((List.length l9) : Nat) : Int)))) then
      let x14 : Int := (List.getD l9 (Int.toNat i12) (0 : Int))
      let b15 : Bool := (i10 == x14)
      bif b15 then
        some (i12, ())
      else
        let n16 : Int := (Go.IntKind.wrap Go.IntKind.i64 (i12 + (1 : Int)))
        k0 l9 i10 i11 n16
    else none
  else
    some ((-1 : Int), ())
noncomputable def slices_Index_uint64_0 : Nat → (List Int) → Int → Int → Int → Option (Int × Unit)
  | 0 => fun _ _ _ _ => none
  | m + 1 => t_slices_Index_uint64_0 (slices_Index_uint64_0 m)
noncomputable def b_slices_Index_uint64_0' (l9 : (List Int)) (i10 : Int) (i11 : Int) (i12 : Int) : Option (Int × Unit) := slices_Index_uint64_0 (Int.toNat (i11 - i12) + 2) l9 i10 i11 i12
theorem ex_slices_Index_uint64_0' : ∃ f, f = @b_slices_Index_uint64_0' := ⟨_, rfl⟩
noncomputable def slices_Index_uint64_0' := Classical.choose ex_slices_Index_uint64_0'
theorem slices_Index_uint64_0'_eq : @slices_Index_uint64_0' = @b_slices_Index_uint64_0' := Classical.choose_spec ex_slices_Index_uint64_0'
theorem s_slices_Index_uint64_0 {base S0 cs0} (hfin : H_slices_Index_uint64 base S0) : ∀ m, J_slices_Index_uint64 base S0 cs0 p_slices_Index_uint64_0 (u_slices_Index_uint64_0 (slices_Index_uint64_0 m)) :=
  JSound.loop' hfin.2 ks_slices_Index_uint64 100000 u_slices_Index_uint64_0 (fun k0 => cut p_slices_Index_uint64_0 (u_slices_Index_uint64_0 k0) (nowhere)) (fun k0 h0 => OSound.cut (OSound.nowhere) (Nat.le_of_eq hfin.1) h0) (slices_Index_uint64_0) (by intro x; rfl) (by intro m x; kernel_rfl)
theorem s_slices_Index_uint64_0' {base S0 cs0} (hfin : H_slices_Index_uint64 base S0) : J_slices_Index_uint64 base S0 cs0 p_slices_Index_uint64_0 (u_slices_Index_uint64_0 (slices_Index_uint64_0')) := by
  rw [slices_Index_uint64_0'_eq]; exact fun x r hx => s_slices_Index_uint64_0 hfin _ x r hx
noncomputable def x_slices_Index_uint64_0 : Cfg → Option (Option (Int × Unit)) := cut p_slices_Index_uint64_0 (u_slices_Index_uint64_0 (slices_Index_uint64_0')) (nowhere)
theorem o_slices_Index_uint64_0 {base S0 cs0} (hfin : H_slices_Index_uint64 base S0) : O_slices_Index_uint64 base S0 cs0 (x_slices_Index_uint64_0) := OSound.cut (OSound.nowhere) (Nat.le_of_eq hfin.1) (s_slices_Index_uint64_0' hfin)
noncomputable def b_slices_Index_uint64 (a0 : (List Int)) (a1 : Int) : Option (Int × Unit) :=
  let n2 : Int := (((List.length a0) : Nat) : Int)
  slices_Index_uint64_0' a0 a1 n2 (0 : Int)
theorem ex_slices_Index_uint64 : ∃ f, f = @b_slices_Index_uint64 := ⟨_, rfl⟩
noncomputable def slices_Index_uint64 := Classical.choose ex_slices_Index_uint64
theorem slices_Index_uint64_eq : @slices_Index_uint64 = @b_slices_Index_uint64 := Classical.choose_spec ex_slices_Index_uint64
noncomputable def cb_slices_Index_uint64 : Con := ⟨[(.slice (.int .u64)), (.int .u64)], r_slices_Index_uint64, fun x => b_slices_Index_uint64 x.1 x.2.1⟩
noncomputable def c_slices_Index_uint64 : Con := ⟨[(.slice (.int .u64)), (.int .u64)], r_slices_Index_uint64, fun x => slices_Index_uint64 x.1 x.2.1⟩
theorem cb_slices_Index_uint64_ok : cb_slices_Index_uint64.Sound prog Inv gInv 121 :=
  con_run (M := m_slices_Index_uint64) inv_g (f := f121) rfl ks_slices_Index_uint64 100000 (X := x_slices_Index_uint64_0) (fun base S0 cs0 hn hf => have hfin : H_slices_Index_uint64 base S0 := ⟨hn, hf⟩; o_slices_Index_uint64_0 hfin) (by intro x; kernel_rfl)
theorem c_slices_Index_uint64_ok : c_slices_Index_uint64.Sound prog Inv gInv 121 := by
  have e : c_slices_Index_uint64 = cb_slices_Index_uint64 := by unfold c_slices_Index_uint64 cb_slices_Index_uint64; rw [slices_Index_uint64_eq]
  rw [e]; exact cb_slices_Index_uint64_ok
end Go.Proofs.YtjdjlijjolibkaaDoor.V
namespace Go.Proofs.YtjdjlijjolibkaaDoor.V
open Go.RowKit Go.Proofs.Tryd
set_option maxRecDepth 100000
set_option linter.unusedVariables false
noncomputable def m_slices_Contains_uint64 : Mach prog Inv gInv := mach bas [(86, f86)] ⟨ok86, trivial⟩ [(121, c_slices_Index_uint64)] ⟨⟨c_slices_Index_uint64_ok, FnOk.callable ok121⟩, trivial⟩ [] trivial [] trivial
/-! ### slices.Contains[[]uint64,uint64] -/
@[reducible] def r_slices_Contains_uint64 : List Ty := [.bool]
def ks_slices_Contains_uint64 : List Nat := [86]
noncomputable def b_slices_Contains_uint64 (a0 : (List Int)) (a1 : Int) : Option (Bool × Unit) :=
  obind (slices_Index_uint64 a0 a1) fun y2 =>
  let b3 : Bool := (decide (y2.1 ≥ (0 : Int)))
  some (b3, ())
theorem ex_slices_Contains_uint64 : ∃ f, f = @b_slices_Contains_uint64 := ⟨_, rfl⟩
noncomputable def slices_Contains_uint64 := Classical.choose ex_slices_Contains_uint64
theorem slices_Contains_uint64_eq : @slices_Contains_uint64 = @b_slices_Contains_uint64 := Classical.choose_spec ex_slices_Contains_uint64
noncomputable def cb_slices_Contains_uint64 : Con := ⟨[(.slice (.int .u64)), (.int .u64)], r_slices_Contains_uint64, fun x => b_slices_Contains_uint64 x.1 x.2.1⟩
noncomputable def c_slices_Contains_uint64 : Con := ⟨[(.slice (.int .u64)), (.int .u64)], r_slices_Contains_uint64, fun x => slices_Contains_uint64 x.1 x.2.1⟩
theorem cb_slices_Contains_uint64_ok : cb_slices_Contains_uint64.Sound prog Inv gInv 86 :=
  con_run (M := m_slices_Contains_uint64) inv_g (f := f86) rfl ks_slices_Contains_uint64 100000 (X := nowhere) (fun base S0 cs0 hn hf => OSound.nowhere) (by intro x; kernel_rfl)
theorem c_slices_Contains_uint64_ok : c_slices_Contains_uint64.Sound prog Inv gInv 86 := by
  have e : c_slices_Contains_uint64 = cb_slices_Contains_uint64 := by unfold c_slices_Contains_uint64 cb_slices_Contains_uint64; rw [slices_Contains_uint64_eq]
  rw [e]; exact cb_slices_Contains_uint64_ok
end Go.Proofs.YtjdjlijjolibkaaDoor.V
namespace Go.Proofs.YtjdjlijjolibkaaDoor.V
open Go.RowKit Go.Proofs.Tryd
set_option maxRecDepth 100000
set_option linter.unusedVariables false
noncomputable def m_frame_Elicits : Mach prog Inv gInv := mach bas [(36, f36)] ⟨ok36, trivial⟩ [(86, c_slices_Contains_uint64)] ⟨⟨c_slices_Contains_uint64_ok, FnOk.callable ok86⟩, trivial⟩ [] trivial [] trivial
/-! ### domino/frame.Elicits -/
@[reducible] def r_frame_Elicits : List Ty := [.bool]
def ks_frame_Elicits : List Nat := [36]
noncomputable def b_frame_Elicits (a0 : D_frame_Frame) : Option (Bool × Unit) :=
  obind (slices_Contains_uint64 ((0 : Int) :: ((2 : Int) :: ((28 : Int) :: ((29 : Int) :: ([] : List Int))))) a0.1) fun y1 =>
  let b2 : Bool := (!y1.1)
  some (b2, ())
theorem ex_frame_Elicits : ∃ f, f = @b_frame_Elicits := ⟨_, rfl⟩
noncomputable def frame_Elicits := Classical.choose ex_frame_Elicits
theorem frame_Elicits_eq : @frame_Elicits = @b_frame_Elicits := Classical.choose_spec ex_frame_Elicits
noncomputable def cb_frame_Elicits : Con := ⟨[T_frame_Frame], r_frame_Elicits, fun x => b_frame_Elicits x.1⟩
noncomputable def c_frame_Elicits : Con := ⟨[T_frame_Frame], r_frame_Elicits, fun x => frame_Elicits x.1⟩
theorem cb_frame_Elicits_ok : cb_frame_Elicits.Sound prog Inv gInv 36 :=
  con_run (M := m_frame_Elicits) inv_g (f := f36) rfl ks_frame_Elicits 100000 (X := nowhere) (fun base S0 cs0 hn hf => OSound.nowhere) (by intro x; kernel_rfl)
theorem c_frame_Elicits_ok : c_frame_Elicits.Sound prog Inv gInv 36 := by
  have e : c_frame_Elicits = cb_frame_Elicits := by unfold c_frame_Elicits cb_frame_Elicits; rw [frame_Elicits_eq]
  rw [e]; exact cb_frame_Elicits_ok
end Go.Proofs.YtjdjlijjolibkaaDoor.V
namespace Go.Proofs.YtjdjlijjolibkaaDoor.V
open Go.RowKit Go.Proofs.Tryd
set_option maxRecDepth 100000
set_option linter.unusedVariables false
noncomputable def m_law06_shown : Mach prog Inv gInv := mach bas [(30, f30)] ⟨ok30, trivial⟩ [(31, c_frame_Put), (36, c_frame_Elicits), (38, c_frame_Get), (39, c_frame_Same)] ⟨⟨c_frame_Put_ok, FnOk.callable ok31⟩, ⟨c_frame_Elicits_ok, FnOk.callable ok36⟩, ⟨c_frame_Get_ok, FnOk.callable ok38⟩, ⟨c_frame_Same_ok, FnOk.callable ok39⟩, trivial⟩ [] trivial [] trivial
/-! ### domino/dominolaw06.shown -/
@[reducible] def r_law06_shown : List Ty := [.bool]
def ks_law06_shown : List Nat := [30]
noncomputable def b_law06_shown : Option (Bool × Unit) :=
  let e0 : (Int × (Int × Unit)) := ((1 : Int), ((3 : Int), ()))
  let e1 : (Int × (Int × Unit)) := ((6 : Int), ((6 : Int), ()))
  let s2 : ByteArray := (ByteArray.mk (List.toArray ([] : List UInt8)))
  let s3 : ByteArray := (ByteArray.mk (List.toArray ([] : List UInt8)))
  obind (frame_Put ((2 : Int), ((0 : Int), ((0 : Int), ((0 : Int), ((0 : Int), ((0 : Int), ((0 : Int), ((0 : Int), (false, (s2, (s2, (s2, ((e0 :: (e1 :: ([] : List D_ranges_Range))), ())))))))))))))) fun y4 =>
  bif (decide (((ByteArray.size y4.1) + 1) ≤ 9223372036854775807)) then
    let s5 : ByteArray := (y4.1 ++ (ByteArray.mk (List.toArray ((1 : UInt8) :: ([] : List UInt8)))))
    obind (frame_Get s5) fun y6 =>
    let s7 : ByteArray := (ByteArray.mk (List.toArray ([] : List UInt8)))
    let b8 : Bool := (y4.2.1 == (0 : Int))
    bif b8 then
      let b9 : Bool := (y6.2.2.1 == (0 : Int))
      bif b9 then
        let b10 : Bool := ((ByteArray.toList y4.1) == (ByteArray.toList (ByteArray.mk (List.toArray ((2 : UInt8) :: ((6 : UInt8) :: ((0 : UInt8) :: ((1 : UInt8) :: ((0 : UInt8) :: ((1 : UInt8) :: ((2 : UInt8) :: ([] : List UInt8))))))))))))
        bif b10 then
          let b11 : Bool := ((ByteArray.toList y6.2.1) == (ByteArray.toList (ByteArray.mk (List.toArray ((1 : UInt8) :: ([] : List UInt8))))))
          bif b11 then
            obind (frame_Same ((2 : Int), ((0 : Int), ((0 : Int), ((0 : Int), ((0 : Int), ((0 : Int), ((0 : Int), ((0 : Int), (false, (s2, (s2, (s2, ((e0 :: (e1 :: ([] : List D_ranges_Range))), ()))))))))))))) y6.1) fun y12 =>
            bif y12.1 then
              obind (frame_Elicits y6.1) fun y13 =>
              let b14 : Bool := (!y13.1)
              some (b14, ())
            else
              some (false, ())
          else
            some (false, ())
        else
          some (false, ())
      else
        some (false, ())
    else
      some (false, ())
  else none
theorem ex_law06_shown : ∃ f, f = @b_law06_shown := ⟨_, rfl⟩
noncomputable def law06_shown := Classical.choose ex_law06_shown
theorem law06_shown_eq : @law06_shown = @b_law06_shown := Classical.choose_spec ex_law06_shown
noncomputable def cb_law06_shown : Con := ⟨[], r_law06_shown, fun x => b_law06_shown⟩
noncomputable def c_law06_shown : Con := ⟨[], r_law06_shown, fun x => law06_shown⟩
theorem cb_law06_shown_ok : cb_law06_shown.Sound prog Inv gInv 30 :=
  con_run (M := m_law06_shown) inv_g (f := f30) rfl ks_law06_shown 100000 (X := nowhere) (fun base S0 cs0 hn hf => OSound.nowhere) (by intro x; kernel_rfl)
theorem c_law06_shown_ok : c_law06_shown.Sound prog Inv gInv 30 := by
  have e : c_law06_shown = cb_law06_shown := by unfold c_law06_shown cb_law06_shown; rw [law06_shown_eq]
  rw [e]; exact cb_law06_shown_ok
end Go.Proofs.YtjdjlijjolibkaaDoor.V
namespace Go.Proofs.YtjdjlijjolibkaaDoor.V
open Go.RowKit Go.Proofs.Tryd
set_option maxRecDepth 100000
set_option linter.unusedVariables false
noncomputable def m_law06_bounded : Mach prog Inv gInv := mach bas [(29, f29)] ⟨ok29, trivial⟩ [] trivial [] trivial [] trivial
/-! ### domino/dominolaw06.bounded -/
@[reducible] def r_law06_bounded : List Ty := [.bool]
def ks_law06_bounded : List Nat := [29]
noncomputable def b_law06_bounded (a0 : D_frame_Frame) : Option (Bool × Unit) :=
  let n1 : Int := (((ByteArray.size a0.2.2.2.2.2.2.2.2.2.1) : Nat) : Int)
  let b2 : Bool := (decide (n1 ≤ (1300 : Int)))
  bif b2 then
    let n3 : Int := (((ByteArray.size a0.2.2.2.2.2.2.2.2.2.2.1) : Nat) : Int)
    let b4 : Bool := (decide (n3 ≤ (100 : Int)))
    bif b4 then
      let n5 : Int := (((ByteArray.size a0.2.2.2.2.2.2.2.2.2.2.2.1) : Nat) : Int)
      let b6 : Bool := (decide (n5 ≤ (100 : Int)))
      bif b6 then
        let n7 : Int := (((List.length a0.2.2.2.2.2.2.2.2.2.2.2.2.1) : Nat) : Int)
        let b8 : Bool := (decide (n7 ≤ (50 : Int)))
        some (b8, ())
      else
        some (false, ())
    else
      some (false, ())
  else
    some (false, ())
theorem ex_law06_bounded : ∃ f, f = @b_law06_bounded := ⟨_, rfl⟩
noncomputable def law06_bounded := Classical.choose ex_law06_bounded
theorem law06_bounded_eq : @law06_bounded = @b_law06_bounded := Classical.choose_spec ex_law06_bounded
noncomputable def cb_law06_bounded : Con := ⟨[T_frame_Frame], r_law06_bounded, fun x => b_law06_bounded x.1⟩
noncomputable def c_law06_bounded : Con := ⟨[T_frame_Frame], r_law06_bounded, fun x => law06_bounded x.1⟩
theorem cb_law06_bounded_ok : cb_law06_bounded.Sound prog Inv gInv 29 :=
  con_run (M := m_law06_bounded) inv_g (f := f29) rfl ks_law06_bounded 100000 (X := nowhere) (fun base S0 cs0 hn hf => OSound.nowhere) (by intro x; kernel_rfl)
theorem c_law06_bounded_ok : c_law06_bounded.Sound prog Inv gInv 29 := by
  have e : c_law06_bounded = cb_law06_bounded := by unfold c_law06_bounded cb_law06_bounded; rw [law06_bounded_eq]
  rw [e]; exact cb_law06_bounded_ok
end Go.Proofs.YtjdjlijjolibkaaDoor.V
/- What the laws of frames share. -/
namespace Go.Proofs.YtjdjlijjolibkaaDoor.V
open Go.RowKit
theorem frok_of_wf {f : D_frame_Frame} (h : Wf T_frame_Frame f) : FrOk f := by
  obtain ⟨k, id, off, mx, code, seq, prior, delay, fin, data, cid, tok, set, ⟨⟩⟩ := f
  obtain ⟨h1, h2, h3, h4, h5, h6, h7, h8, _, _, _, _, ⟨h9, h10⟩, _⟩ := h
  have w : ∀ {n : Int}, (Lit.int .u64 n).wf = true → 0 ≤ n ∧ n < 18446744073709551616 := fun h => by have := wf_u64 h; omega
  refine ⟨w h1, w h2, w h3, w h4, w h5, w h6, w h7, w h8, fun r hr => ?_, h9⟩
  obtain ⟨g1, g2, _⟩ := h10 r hr
  exact ⟨w g1, w g2⟩
def boundF (f : D_frame_Frame) : Bool := decide (f.2.2.2.2.2.2.2.2.2.1.size ≤ 1300) && decide (f.2.2.2.2.2.2.2.2.2.2.1.size ≤ 100) && decide (f.2.2.2.2.2.2.2.2.2.2.2.1.size ≤ 100) && decide (f.2.2.2.2.2.2.2.2.2.2.2.2.1.length ≤ 50)
theorem bounded_is (f : D_frame_Frame) : law06_bounded f = some (boundF f, ()) := by
  rw [law06_bounded_eq, b_law06_bounded]
  have c1 : decide (((f.2.2.2.2.2.2.2.2.2.1.size : Nat) : Int) ≤ 1300) = decide (f.2.2.2.2.2.2.2.2.2.1.size ≤ 1300) := decide_eq_decide.mpr (by omega)
  have c2 : decide (((f.2.2.2.2.2.2.2.2.2.2.1.size : Nat) : Int) ≤ 100) = decide (f.2.2.2.2.2.2.2.2.2.2.1.size ≤ 100) := decide_eq_decide.mpr (by omega)
  have c3 : decide (((f.2.2.2.2.2.2.2.2.2.2.2.1.size : Nat) : Int) ≤ 100) = decide (f.2.2.2.2.2.2.2.2.2.2.2.1.size ≤ 100) := decide_eq_decide.mpr (by omega)
  have c4 : decide (((f.2.2.2.2.2.2.2.2.2.2.2.2.1.length : Nat) : Int) ≤ 50) = decide (f.2.2.2.2.2.2.2.2.2.2.2.2.1.length ≤ 50) := decide_eq_decide.mpr (by omega)
  simp only [c1, c2, c3, c4, boundF]
  cases decide (f.2.2.2.2.2.2.2.2.2.1.size ≤ 1300) <;> cases decide (f.2.2.2.2.2.2.2.2.2.2.1.size ≤ 100) <;> cases decide (f.2.2.2.2.2.2.2.2.2.2.2.1.size ≤ 100) <;> rfl
def f0 : D_frame_Frame := (2, 0, 0, 0, 0, 0, 0, 0, false, eB, eB, eB, [(1, (3, ())), (6, (6, ()))], ())
theorem f0_ok : FrOk f0 := ⟨by decide, by decide, by decide, by decide, by decide, by decide, by decide, by decide, by decide, by decide⟩
theorem f0_may : mayFr f0 = true := by decide +kernel
theorem f0_put : putL f0 = [2, 6, 0, 1, 0, 1, 2] := by decide +kernel
theorem index_loop (x : Int) : ∀ (suf pre : List Int) (m : Nat), suf.length < m → (pre ++ suf).length ≤ 9223372036854775807 →
    ∃ i, slices_Index_uint64_0 m (pre ++ suf) x (((pre ++ suf).length : Nat) : Int) ((pre.length : Nat) : Int) = some (i, ()) ∧ (0 ≤ i ↔ x ∈ suf) := by
  intro suf
  induction suf with
  | nil =>
    intro pre m hm _
    obtain ⟨m, rfl⟩ : ∃ k, m = k + 1 := ⟨m - 1, by omega⟩
    refine ⟨-1, ?_, by simp⟩
    simp only [slices_Index_uint64_0, t_slices_Index_uint64_0, mid_end, decide_false, cond_false]
  | cons y suf ih =>
    intro pre m hm hl
    obtain ⟨m, rfl⟩ : ∃ k, m = k + 1 := ⟨m - 1, by omega⟩
    by_cases e : x = y
    · subst e
      refine ⟨((pre.length : Nat) : Int), ?_, by simp⟩
      simp only [slices_Index_uint64_0, t_slices_Index_uint64_0, mid_lt, nn, and_true, decide_true, cond_true, toNat_len, getD_mid, beq_self_eq_true]
    · obtain ⟨i, h1, h2⟩ := ih (pre ++ [y]) m (by simp at hm; omega) (by simpa using hl)
      refine ⟨i, ?_, by rw [h2]; simp [e]⟩
      simp only [slices_Index_uint64_0, t_slices_Index_uint64_0, mid_lt, nn, and_true, decide_true, cond_true, toNat_len, getD_mid, beq_false_of_ne e, cond_false]
      rw [mid_next' pre y y suf hl, snoc_app, h1]
theorem contains_is (x : Int) (l : List Int) (hl : l.length ≤ 9223372036854775807) : slices_Contains_uint64 l x = some (decide (x ∈ l), ()) := by
  rw [slices_Contains_uint64_eq, b_slices_Contains_uint64, slices_Index_uint64_eq, b_slices_Index_uint64]
  simp only
  rw [slices_Index_uint64_0'_eq, b_slices_Index_uint64_0']
  obtain ⟨i, h1, h2⟩ := index_loop x l [] (Int.toNat (((l.length : Nat) : Int) - 0) + 2) (by omega) (by simpa using hl)
  simp only [List.nil_append, List.length_nil] at h1
  rw [show ((0 : Nat) : Int) = 0 from rfl] at h1
  rw [h1]
  simp only [obind_some]
  exact some_b (decide_eq_decide.mpr h2)
theorem elicits_is (f : D_frame_Frame) : frame_Elicits f = some (!decide (f.1 ∈ ([0, 2, 28, 29] : List Int)), ()) := by
  rw [frame_Elicits_eq, b_frame_Elicits, contains_is _ _ (by simp)]
  simp only [obind_some]
theorem size_app (a b : ByteArray) : (a ++ b).size = a.size + b.size := by
  rw [← strBytes_len, strBytes_app, List.length_append, strBytes_len, strBytes_len]
/-- A frame that was put, with bytes behind: it is got back. -/
theorem got_back (f : D_frame_Frame) (h : FrOk f) (hm : mayFr f = true) (t : ByteArray) (ht : t.size ≤ 900000) : frame_Get (bytesStr (putL f) ++ t) = some (f, t, 0, ()) := by
  obtain ⟨p1, p2, p3⟩ := put_ok f h hm
  rw [get_is _ (by rw [size_app, bytesStr_size]; omega), strBytes_app, strBytes_bs p1, back_is f h hm]
  simp only [bytesStr_strBytes]
theorem shown_is : law06_shown = some (true, ()) := by
  rw [law06_shown_eq, b_law06_shown]
  have e0 : ByteArray.mk (List.toArray ([] : List UInt8)) = eB := rfl
  simp only [e0]
  have ep := put_is f0 f0_ok
  rw [f0_may, f0_put] at ep
  simp only [f0, if_true] at ep
  simp only [ep, obind_some]
  have es : (bytesStr [2, 6, 0, 1, 0, 1, 2]).size = 7 := by rw [bytesStr_size]; rfl
  have eg := got_back f0 f0_ok f0_may (ByteArray.mk (List.toArray ((1 : UInt8) :: ([] : List UInt8)))) (by decide)
  rw [f0_put] at eg
  have eb : bytesStr [2, 6, 0, 1, 0, 1, 2] = ByteArray.mk (List.toArray ((2 : UInt8) :: ((6 : UInt8) :: ((0 : UInt8) :: ((1 : UInt8) :: ((0 : UInt8) :: ((1 : UInt8) :: ((2 : UInt8) :: ([] : List UInt8))))))))) := by
    rw [byt_eq, bytesStr_data]; decide
  have esame : frame_Same f0 f0 = some (true, ()) := by rw [same_is _ _ f0_ok.few]; simp
  have eel : frame_Elicits f0 = some (false, ()) := by rw [elicits_is]; rfl
  simp only [f0] at eg esame eel
  simp only [es, eg, obind_some, toList_beq, ← eb, esame, eel]
  simp
end Go.Proofs.YtjdjlijjolibkaaDoor.V
/- What is got has numbers of 62 bits. -/
namespace Go.Proofs.YtjdjlijjolibkaaDoor.V
open Go.RowKit
/-- What a reader tells. -/
def Tell {α : Type} (p : Pr α) (Q : α → Prop) : Prop := ∀ l a r, Byt l → p l = some (a, r) → Q a
theorem Tell.any {α : Type} (p : Pr α) : Tell p fun _ => True := fun _ _ _ _ _ => trivial
theorem Tell.pr {α : Type} {a : α} {Q : α → Prop} (h : Q a) : Tell (pr a) Q := fun _ _ _ _ e => by cases e; exact h
theorem Tell.nat : Tell vget In62 := fun l a r hB e => by
  obtain ⟨q, rfl, _, h, _⟩ := vget_some e
  exact h hB
theorem Tell.bind {α β : Type} {p : Pr α} {f : α → Pr β} {Q : α → Prop} {R : β → Prop} (hs : Suf p) (h : Tell p Q) (k : ∀ a, Q a → Tell (f a) R) : Tell (pb p f) R := fun l b r hB e => by
  obtain ⟨a, r1, e1, e2⟩ := pb_some e
  obtain ⟨q, rfl⟩ := hs _ _ _ e1
  exact k a (h _ _ _ hB e1) _ _ _ hB.suf e2
theorem Tell.num {β : Type} {f : Int → Pr β} {R : β → Prop} (k : ∀ n, In62 n → Tell (f n) R) : Tell (pb vget f) R := Tell.bind Suf.vget Tell.nat k
theorem Tell.cond {α : Type} {b : Bool} {p q : Pr α} {Q : α → Prop} (h : b = true → Tell p Q) (k : b = false → Tell q Q) : Tell (bif b then p else q) Q := by cases b; exact k rfl; exact h rfl
theorem Tell.none {α : Type} {Q : α → Prop} : Tell (fun _ => none : Pr α) Q := fun _ _ _ _ h => by cases h
theorem Tell.stream (a b c : Bool) : Tell (streamP a b c) FrOk := by
  have i8 := i62 8 (by decide)
  refine Tell.num fun id hid => Tell.bind (Q := In62) (by cases b; exact Suf.pr _; exact Suf.vget) (by cases b; exact Tell.pr in62_0; exact Tell.nat) fun off hoff => ?_
  refine Tell.bind (by cases c; exact Suf.rest; exact Suf.long) (Tell.any _) fun data _ => Tell.pr ?_
  exact frok0 i8 hid hoff in62_0 in62_0 in62_0 in62_0 in62_0
theorem Tell.ack : Tell ackP FrOk := by
  refine Tell.num fun hi h1 => Tell.num fun delay h2 => Tell.num fun cnt h3 => Tell.num fun first h4 => ?_
  intro l f r hB e
  obtain ⟨⟨⟩, r1, e1, e2⟩ := pb_some e
  obtain ⟨rs, r2, e3, e4⟩ := pb_some e2
  cases e4
  obtain ⟨a0, a1⟩ := h1
  obtain ⟨f0, f1⟩ := h4
  cases hc : (decide (cnt < 32) && decide (first ≤ hi)) with
  | false => rw [hc] at e1; cases e1
  | true =>
    rw [hc] at e1
    cases e1
    simp only [Bool.and_eq_true, decide_eq_true_eq] at hc
    obtain ⟨c1, c2⟩ := hc
    obtain ⟨k1, k2⟩ := gaps_ok _ _ _ _ _ e3 hB (by omega) ⟨by omega, by omega⟩
    have ok0 := frok0 (k := 2) (id := 0) (off := 0) (mx := 0) (code := 0) (seq := 0) (prior := 0) (delay := delay) (fin := false) (data := eB) (cid := eB) (tok := eB) (i62 2 (by decide)) in62_0 in62_0 in62_0 in62_0 in62_0 in62_0 h2
    refine ⟨ok0.kind, ok0.id, ok0.off, ok0.max, ok0.code, ok0.seq, ok0.prior, ok0.delay, fun x hx => ?_, ?_⟩
    · simp only [List.mem_reverse, List.mem_cons] at hx
      rcases hx with rfl | hx
      · exact ⟨⟨by show 0 ≤ hi - first; omega, by show hi - first < _; omega⟩, ⟨a0, by show hi < _; omega⟩⟩
      · exact ⟨in62_64 (k2 x hx).1, in62_64 (k2 x hx).2⟩
    · show (((hi - first, hi, ()) :: rs).reverse).length ≤ 9223372036854775807
      simp; omega
theorem Tell.body (k : Int) (hk : In62 k) : Tell (bodyP k) FrOk := by
  have Z := in62_0
  unfold bodyP
  refine Tell.cond (fun _ => Tell.pr (frok0 hk Z Z Z Z Z Z Z)) fun _ => Tell.cond (fun _ => Tell.ack) fun _ => Tell.cond (fun e => ?_) fun _ => Tell.cond (fun _ => ?_) fun _ => Tell.cond (fun _ => ?_) fun _ => ?_
  · exact Tell.num fun id h1 => Tell.num fun code h2 => Tell.num fun mx h3 => Tell.pr (frok0 (i62 4 (by decide)) h1 Z h3 h2 Z Z Z)
  · exact Tell.num fun id h1 => Tell.num fun code h2 => Tell.pr (frok0 (i62 5 (by decide)) h1 Z Z h2 Z Z Z)
  · exact Tell.num fun off h1 => Tell.bind Suf.long (Tell.any _) fun data _ => Tell.pr (frok0 (i62 6 (by decide)) Z h1 Z Z Z Z Z)
  refine Tell.cond (fun _ => Tell.stream _ _ _) fun _ => Tell.cond (fun _ => Tell.stream _ _ _) fun _ => Tell.cond (fun _ => Tell.stream _ _ _) fun _ => Tell.cond (fun _ => Tell.stream _ _ _) fun _ => Tell.cond (fun _ => Tell.stream _ _ _) fun _ => Tell.cond (fun _ => Tell.stream _ _ _) fun _ => Tell.cond (fun _ => Tell.stream _ _ _) fun _ => Tell.cond (fun _ => Tell.stream _ _ _) fun _ => ?_
  refine Tell.cond (fun _ => Tell.num fun mx h => Tell.pr (frok0 hk Z Z h Z Z Z Z)) fun _ => Tell.cond (fun _ => Tell.num fun id h1 => Tell.num fun mx h => Tell.pr (frok0 hk h1 Z h Z Z Z Z)) fun _ => Tell.cond (fun _ => ?_) fun _ => ?_
  · exact Tell.num fun seq h1 => Tell.num fun prior h2 => Tell.bind (Suf.take _) (Tell.any _) fun _ _ => Tell.bind (Suf.pg _) (Tell.any _) fun _ _ => Tell.bind (Suf.str _) (Tell.any _) fun _ _ => Tell.bind (Suf.str _) (Tell.any _) fun _ _ => Tell.pr (frok0 (i62 24 (by decide)) Z Z Z Z h1 h2 Z)
  refine Tell.cond (fun _ => Tell.num fun seq h => Tell.pr (frok0 (i62 25 (by decide)) Z Z Z Z h Z Z)) fun _ => Tell.cond (fun _ => Tell.bind (Suf.str _) (Tell.any _) fun _ _ => Tell.pr (frok0 hk Z Z Z Z Z Z Z)) fun _ => Tell.cond (fun _ => ?_) fun _ => Tell.cond (fun _ => ?_) fun _ => Tell.none
  · exact Tell.num fun code h1 => Tell.num fun delay h2 => Tell.bind Suf.long (Tell.any _) fun _ _ => Tell.pr (frok0 (i62 28 (by decide)) Z Z Z h1 Z Z h2)
  · exact Tell.num fun code h1 => Tell.bind Suf.long (Tell.any _) fun _ _ => Tell.pr (frok0 (i62 29 (by decide)) Z Z Z h1 Z Z Z)
theorem getL_ok {l : List Int} {f : D_frame_Frame} {r : List Int} (hB : Byt l) (h : getL l = some (f, r)) : FrOk f ∧ mayFr f = true := by
  obtain ⟨k, r1, h1, _, h3, h4⟩ := getL_some h
  obtain ⟨q, rfl, _, hk, _⟩ := vget_some h1
  exact ⟨Tell.body k (hk hB) _ _ _ hB.suf h3, h4⟩
theorem same_self {f : D_frame_Frame} (h : f.2.2.2.2.2.2.2.2.2.2.2.2.1.length ≤ 9223372036854775807) : frame_Same f f = some (true, ()) := by
  rw [same_is _ _ h]; simp
end Go.Proofs.YtjdjlijjolibkaaDoor.V
namespace Go.Proofs.YtjdjlijjolibkaaDoor.V
open Go.RowKit Go.Proofs.Tryd
set_option maxRecDepth 100000
set_option linter.unusedVariables false
noncomputable def m_law06_FrameLong : Mach prog Inv gInv := mach bas [(11, f11)] ⟨ok11, trivial⟩ [(30, c_law06_shown), (38, c_frame_Get)] ⟨⟨c_law06_shown_ok, FnOk.callable ok30⟩, ⟨c_frame_Get_ok, FnOk.callable ok38⟩, trivial⟩ [] trivial [] trivial
/-! ### domino/dominolaw06.FrameLong -/
@[reducible] def r_law06_FrameLong : List Ty := [.bool]
def ks_law06_FrameLong : List Nat := [11]
noncomputable def b_law06_FrameLong (a0 : Int) (a1 : Int) : Option (Bool × Unit) :=
  let n2 : Int := (Int.tmod a0 (64 : Int))
  let s3 : ByteArray := (bytesStr (n2 :: ([] : List Int)))
  bif (decide ((1 + (ByteArray.size s3)) ≤ 9223372036854775807)) then
    let s4 : ByteArray := ((ByteArray.mk (List.toArray ((64 : UInt8) :: ([] : List UInt8)))) ++ s3)
    let l5 : (List Int) := (List.replicate 40 (0 : Int))
    let s6 : ByteArray := (bytesStr l5)
    bif (decide (((ByteArray.size s4) + (ByteArray.size s6)) ≤ 9223372036854775807)) then
      let s7 : ByteArray := (s4 ++ s6)
      obind (frame_Get s7) fun y8 =>
      let s9 : ByteArray := (ByteArray.mk (List.toArray ([] : List UInt8)))
      let n10 : Int := (Int.tmod a1 (63 : Int))
      let n11 : Int := (Go.IntKind.wrap Go.IntKind.u8 ((1 : Int) + n10))
      let s12 : ByteArray := (bytesStr (n11 :: ([] : List Int)))
      bif (decide ((2 + (ByteArray.size s12)) ≤ 9223372036854775807)) then
        let s13 : ByteArray := ((ByteArray.mk (List.toArray ((6 : UInt8) :: ((0 : UInt8) :: ([] : List UInt8))))) ++ s12)
        let n14 : Int := (Int.tmod a1 (63 : Int))
        let n15 : Int := (Go.IntKind.wrap Go.IntKind.i64 n14)
        bif (decide (((0 : Int) ≤ n15) ∧ ((n15 ≤ (4294967296 : Int)) ∧ (n15 = n15)))) then
          let l16 : (List Int) := (List.replicate (Int.toNat n15) (0 : Int))
          let s17 : ByteArray := (bytesStr l16)
          bif (decide (((ByteArray.size s13) + (ByteArray.size s17)) ≤ 9223372036854775807)) then
            let s18 : ByteArray := (s13 ++ s17)
            obind (frame_Get s18) fun y19 =>
            let s20 : ByteArray := (ByteArray.mk (List.toArray ([] : List UInt8)))
            let n21 : Int := (Int.tmod a1 (63 : Int))
            let s22 : ByteArray := (bytesStr (n21 :: ([] : List Int)))
            bif (decide ((2 + (ByteArray.size s22)) ≤ 9223372036854775807)) then
              let s23 : ByteArray := ((ByteArray.mk (List.toArray ((6 : UInt8) :: ((0 : UInt8) :: ([] : List UInt8))))) ++ s22)
              let n24 : Int := (Int.tmod a1 (63 : Int))
              let n25 : Int := (Go.IntKind.wrap Go.IntKind.i64 n24)
              bif (decide (((0 : Int) ≤ n25) ∧ ((n25 ≤ (4294967296 : Int)) ∧ (n25 = n25)))) then
                let l26 : (List Int) := (List.replicate (Int.toNat n25) (0 : Int))
                let s27 : ByteArray := (bytesStr l26)
                bif (decide (((ByteArray.size s23) + (ByteArray.size s27)) ≤ 9223372036854775807)) then
                  let s28 : ByteArray := (s23 ++ s27)
                  obind (frame_Get s28) fun y29 =>
                  let s30 : ByteArray := (ByteArray.mk (List.toArray ([] : List UInt8)))
                  let b31 : Bool := (y8.2.2.1 == (60 : Int))
                  bif b31 then
                    let b32 : Bool := (y19.2.2.1 == (60 : Int))
                    bif b32 then
                      let b33 : Bool := (y29.2.2.1 == (0 : Int))
                      bif b33 then
                        let b34 : Bool := ((ByteArray.toList y29.2.1) == (ByteArray.toList (ByteArray.mk (List.toArray ([] : List UInt8)))))
                        bif b34 then
                          let n35 : Int := (((ByteArray.size y29.1.2.2.2.2.2.2.2.2.2.1) : Nat) : Int)
                          let n36 : Int := (Int.tmod a1 (63 : Int))
                          let n37 : Int := (Go.IntKind.wrap Go.IntKind.i64 n36)
                          let b38 : Bool := (n35 == n37)
                          bif b38 then
                            obind law06_shown fun y39 =>
                            some y39
                          else
                            some (false, ())
                        else
                          some (false, ())
                      else
                        some (false, ())
                    else
                      some (false, ())
                  else
                    some (false, ())
                else none
              else none
            else none
          else none
        else none
      else none
    else none
  else none
theorem ex_law06_FrameLong : ∃ f, f = @b_law06_FrameLong := ⟨_, rfl⟩
noncomputable def law06_FrameLong := Classical.choose ex_law06_FrameLong
theorem law06_FrameLong_eq : @law06_FrameLong = @b_law06_FrameLong := Classical.choose_spec ex_law06_FrameLong
noncomputable def cb_law06_FrameLong : Con := ⟨[(.int .u8), (.int .u8)], r_law06_FrameLong, fun x => b_law06_FrameLong x.1 x.2.1⟩
noncomputable def c_law06_FrameLong : Con := ⟨[(.int .u8), (.int .u8)], r_law06_FrameLong, fun x => law06_FrameLong x.1 x.2.1⟩
theorem cb_law06_FrameLong_ok : cb_law06_FrameLong.Sound prog Inv gInv 11 :=
  con_run (M := m_law06_FrameLong) inv_g (f := f11) rfl ks_law06_FrameLong 100000 (X := nowhere) (fun base S0 cs0 hn hf => OSound.nowhere) (by intro x; kernel_rfl)
theorem c_law06_FrameLong_ok : c_law06_FrameLong.Sound prog Inv gInv 11 := by
  have e : c_law06_FrameLong = cb_law06_FrameLong := by unfold c_law06_FrameLong cb_law06_FrameLong; rw [law06_FrameLong_eq]
  rw [e]; exact cb_law06_FrameLong_ok
end Go.Proofs.YtjdjlijjolibkaaDoor.V
/- law06.FrameLong, in plain Lean. -/
namespace Go.Proofs.YtjdjlijjolibkaaDoor.V
open Go.RowKit
set_option linter.unusedVariables false
theorem getL64 (n : Int) (h0 : 0 ≤ n) (h1 : n < 64) (l : List Int) : getL (64 :: n :: l) = none := by
  have e : vsize n = 1 := by simp [vsize, h1]
  simp only [getL, pb, vget, show ¬ (64 : Int) < 64 by omega, show (64 : Int) < 128 by omega, if_false, if_true, List.length_cons]
  rw [show (64 - 64 : Int) * 256 + n = n by omega, e]
  have c : ¬ ((l.length + 1 + 1 : Nat) : Int) - ((l.length : Nat) : Int) = 1 := by omega
  simp only [c, decide_false, cond_false]
theorem may6d (d : ByteArray) (h : d.size ≤ 100) : mayFr (6, 0, 0, 0, 0, 0, 0, 0, false, d, eB, eB, [], ()) = true := by
  simp [mayFr, kindB, onlyF, hasId, hasOff, hasMax, hasCode, hasSeq, hasPrior, hasDelay, hasFin, hasData, hasCid, hasToken, hasSet, numsOk, extraF]
  omega
theorem getL6 (n : Nat) (hn : n < 64) (l : List Int) : getL (6 :: 0 :: ((n : Nat) : Int) :: l) = if n ≤ l.length then some ((6, 0, 0, 0, 0, 0, 0, 0, false, bytesStr (l.take n), eB, eB, [], ()), l.drop n) else none := by
  have e : vsize 6 = 1 := rfl
  have c : ((l.length + 1 + 1 + 1 : Nat) : Int) - ((l.length + 1 + 1 : Nat) : Int) = 1 := by omega
  have hn' : ((n : Nat) : Int) < 64 := by omega
  simp only [getL, pb, vget, show (6 : Int) < 64 by omega, if_true, List.length_cons, e, c, decide_true, cond_true, bodyP, Int.reduceBEq, Bool.or_self, cond_false, show (0 : Int) < 64 by omega, plong, hn', ptake, Int.toNat_natCast]
  by_cases h : n ≤ l.length
  · have m := may6d (bytesStr (l.take n)) (by rw [bytesStr_size]; simp; omega)
    simp only [h, if_true, pr, finP', pb, pg, m, cond_true]
  · simp only [h, if_false]
theorem byt1 {n : Int} (h : 0 ≤ n ∧ n ≤ 255) : Byt [n] := by intro x hx; simp at hx; subst hx; exact h
theorem byt0 (n : Nat) : Byt (List.replicate n 0) := by intro x hx; obtain ⟨_, rfl⟩ := List.mem_replicate.mp hx; omega
theorem get_l (l : List Int) (hB : Byt l) (hl : l.length ≤ 1000000) : frame_Get (bytesStr l) = some (match getL l with | some (f, r) => (f, bytesStr r, 0, ()) | none => (zF 0, eB, 60, ())) := by
  have e := get_is (bytesStr l) (by rw [bytesStr_size]; exact hl)
  rw [strBytes_bs hB] at e
  refine e.trans ?_
  cases getL l <;> rfl
theorem frameLong_is (a b : Int) (ha : 0 ≤ a ∧ a ≤ 255) (hb : 0 ≤ b ∧ b ≤ 255) : law06_FrameLong a b = some (true, ()) := by
  rw [law06_FrameLong_eq, b_law06_FrameLong]
  have ta : Int.tmod a 64 = a % 64 := Int.tmod_eq_emod_of_nonneg ha.1
  have tb : Int.tmod b 63 = ((b.toNat % 63 : Nat) : Int) := by rw [Int.tmod_eq_emod_of_nonneg hb.1]; omega
  generalize hk : b.toNat % 63 = k at tb
  have k63 : k < 63 := by omega
  have w1 : IntKind.wrap .u8 (1 + ((k : Nat) : Int)) = ((k + 1 : Nat) : Int) := by rw [wrap_u8]; omega
  have w2 : IntKind.wrap .i64 ((k : Nat) : Int) = ((k : Nat) : Int) := wrap_i64 _ (by omega) (by omega)
  have e64 : ByteArray.mk (List.toArray ((64 : UInt8) :: ([] : List UInt8))) = bytesStr [64] := rfl
  have e60 : ByteArray.mk (List.toArray ((6 : UInt8) :: ((0 : UInt8) :: ([] : List UInt8)))) = bytesStr [6, 0] := rfl
  have e0 : ByteArray.mk (List.toArray ([] : List UInt8)) = eB := rfl
  have c1 : (1 + 1 : Nat) ≤ 9223372036854775807 := by omega
  have c2 : (2 + 1 : Nat) ≤ 9223372036854775807 := by omega
  have c3 : ((k : Nat) : Int) ≤ 4294967296 := by omega
  have c4 : (3 + k : Nat) ≤ 9223372036854775807 := by omega
  have c5 : (2 + 40 : Nat) ≤ 9223372036854775807 := by omega
  have g1 : frame_Get (bytesStr ([64] ++ [a % 64] ++ List.replicate 40 0)) = some (zF 0, eB, 60, ()) := by
    rw [get_l _ (Byt.app.mpr ⟨Byt.app.mpr ⟨byt1 (by omega), byt1 (by omega)⟩, byt0 40⟩) (by simp)]
    have := getL64 (a % 64) (by omega) (by omega) (List.replicate 40 0)
    simp only [List.cons_append, List.nil_append, this]
  have g2 : frame_Get (bytesStr ([6, 0] ++ [((k + 1 : Nat) : Int)] ++ List.replicate k 0)) = some (zF 0, eB, 60, ()) := by
    rw [get_l _ (Byt.app.mpr ⟨Byt.app.mpr ⟨(by intro x hx; simp at hx; omega), byt1 (by omega)⟩, byt0 k⟩) (by simp; omega)]
    have := getL6 (k + 1) (by omega) (List.replicate k 0)
    rw [if_neg (by simp)] at this
    simp only [List.cons_append, List.nil_append, this]
  have g3 : frame_Get (bytesStr ([6, 0] ++ [((k : Nat) : Int)] ++ List.replicate k 0)) = some ((6, 0, 0, 0, 0, 0, 0, 0, false, bytesStr (List.replicate k 0), eB, eB, [], ()), eB, 0, ()) := by
    rw [get_l _ (Byt.app.mpr ⟨Byt.app.mpr ⟨(by intro x hx; simp at hx; omega), byt1 (by omega)⟩, byt0 k⟩) (by simp; omega)]
    have := getL6 k (by omega) (List.replicate k 0)
    rw [if_pos (by simp)] at this
    simp only [List.cons_append, List.nil_append, this, List.take_replicate, List.drop_replicate, Nat.min_self, Nat.sub_self, List.replicate_zero]
    rfl
  simp only [ta, tb, w1, w2, e64, e60, e0, bytesStr_size, List.length_cons, List.length_nil, Nat.zero_add, ← bytesStr_app, List.length_append, List.length_replicate, c1, c2, c3, c4, c5, nn, and_self, decide_true, cond_true, g1, obind_some, Int.toNat_natCast, g2, g3, beq_self_eq_true, shown_is]
theorem lawFrameLong (x : denL c_law06_FrameLong.params) (h : Wfs c_law06_FrameLong.params x) : c_law06_FrameLong.F x = some (true, ()) := by
  obtain ⟨a, b, u⟩ := x
  obtain ⟨h1, h2, _⟩ := h
  exact frameLong_is a b (wf_u8 h1) (wf_u8 h2)
end Go.Proofs.YtjdjlijjolibkaaDoor.V
/- Tables that are laid: from the condition of a row to what the machine asks for. -/
namespace Go.Proofs.YtjdjlijjolibkaaDoor.V
open Go.RowKit Go.ChangeShapes
section
variable {H : Type} {enc : TypeId × Value → H} {P : Program} {w : World} {sp : Nat → Bool} {held : Bool} {fuel : Nat}
theorem tab_cells {k : IntKind} {N : Nat} {e t : TypeId} {cs : List Value} {l : List Int} {p : List MemPlace} (hu : P.underlying t = some (.array N e)) (he : P.underlying e = some (.int k)) (hc : P.cellsOf e = 1) (ht : P.cellsOf t = l.length) (hN : N = l.length)
    (hd : DataW.trod enc P w 0 sp held fuel t cs = some (.agg (l.map fun n => .lit (.int k n)), p)) : cs = l.map (Value.int k) := by
  obtain ⟨xs, m, rfl, hx, hlen, hn, hel⟩ := DataW.trod_array hu hd
  simp only [Prod.mk.injEq, DataW.agg.injEq] at hx
  have hm := hx.1
  rw [ht] at hlen
  refine List.ext_getElem (by rw [hlen, List.length_map]) fun i h1 h2 => ?_
  have hi : i < l.length := by rw [List.length_map] at h2; exact h2
  have hix : i < xs.length := by omega
  have h3 := hel i (by omega)
  rw [hc, Nat.mul_one, List.getElem?_eq_getElem hix] at h3
  obtain ⟨n, e1, e2, _⟩ := DataW.trod_int he h3
  have e3 : (cs.drop i).take 1 = [cs[i]] := by
    rw [List.drop_eq_getElem_cons h1, List.take_succ_cons, List.take_zero]
  rw [e3] at e1
  have e4 : (l.map fun n => (DataW.lit (.int k n) : DataW H))[i]? = (xs.map (·.1))[i]? := by rw [hm]
  rw [List.getElem?_map, List.getElem?_map, List.getElem?_eq_getElem hi, List.getElem?_eq_getElem hix, e2] at e4
  simp only [Option.map_some, Option.some.injEq, DataW.lit.injEq, Lit.int.injEq, true_and] at e4
  simp only [List.cons.injEq, and_true] at e1
  rw [e1, List.getElem_map, ← e4]
theorem tab_in {k : IntKind} {N : Nat} {e t g : TypeId} {n : String} {cs : Array Value} {l : List Int} {p : List MemPlace} (hg : P.globalNamed n = some g) (hv : w.var? P n = some cs) (hu : P.underlying t = some (.array N e)) (he : P.underlying e = some (.int k)) (hc : P.cellsOf e = 1) (ht : P.cellsOf t = l.length) (hN : N = l.length)
    (hd : DataW.trod enc P w 0 sp held fuel t cs.toList = some (.agg (l.map fun n => .lit (.int k n)), p)) {r : List (Nat × (Σ t : Ty, List t.den))} (hr : TabsIn w r) : TabsIn w ((g, ⟨.int k, l⟩) :: r) ∧ g < w.heap.size := by
  have hcs := tab_cells hu he hc ht hN hd
  simp only [World.var?, hg, Option.bind_some] at hv
  cases hh : w.heap[g]? with
  | none => rw [hh] at hv; cases hv
  | some o =>
    rw [hh] at hv
    cases o with
    | cells arr e' fz =>
      simp only [Option.some.injEq] at hv
      subst hv
      refine ⟨⟨⟨arr, e', fz, hh, fun i hi => ⟨[.int k (l.getD i 0)], ?_, ?_⟩⟩, hr⟩, lt_of_heap hh⟩
      · simp only [Rep]
        have : l.getD i 0 = l[i] := by simp [List.getD, hi]
        rw [this]
      · intro j hj
        simp at hj
        subst hj
        show arr[i * 1 + 0]? = _
        rw [Nat.mul_one, Nat.add_zero, ← Array.getElem?_toList, hcs, List.getElem?_map, List.getElem?_eq_getElem hi]
        simp [List.getD, hi]
    | _ => cases hv
end
end Go.Proofs.YtjdjlijjolibkaaDoor.V
/- The law FrameLong: for every input that can be read the call returns true and leaves its arguments alone: the row, and the tied card. No conditions but that the listed tables are laid (which the card ties to the program's text). -/
namespace Go.Proofs.YtjdjlijjolibkaaDoor.V.RowFrameLong
open Go.ChangeShapes Go.WideShapes Go.ChangeAt Go.RowKit Go.Proofs
set_option linter.unusedVariables false
set_option maxRecDepth 100000
theorem own : ownKnob Tryd.prog.godebug = none := by kernel_rfl
theorem laidOut : laidOutB Tryd.prog = true := by kernel_rfl
theorem door_met (os : Os) (args : Array Value) : laidMetH Tryd.prog [("math/bits.deBruijn32tab", Rows.laid_math_bits_deBruijn32tab), ("math/bits.deBruijn64tab", Rows.laid_math_bits_deBruijn64tab)] ((World.doorLaid Tryd.prog 400 os).forCall (fun _ _ => 0) ⟨#[], args, []⟩).memory :=
  laidMetH_of_parts3 (fuel := 8) (laidMet_of_run' 8 (by kernel_rfl) (by kernel_rfl)) (by kernel_rfl) (by kernel_rfl)
theorem inv_of {W : World} (h : laidMetH Tryd.prog [("math/bits.deBruijn32tab", Rows.laid_math_bits_deBruijn32tab), ("math/bits.deBruijn64tab", Rows.laid_math_bits_deBruijn64tab)] W) : Inv W := by
  rw [MakeChecks.laidMetH_plain _ _ _ (by kernel_rfl)] at h
  obtain ⟨ps, ⟨g0, t0, cs0, f0, p0, q0, hg0, ht0, hv0, hd0, ⟨g1, t1, cs1, f1, p1, q1, hg1, ht1, hv1, hd1, _, _⟩, _⟩, _, _⟩ := h
  obtain ⟨gg0, tt0⟩ : Tryd.prog.globalNamed "math/bits.deBruijn32tab" = some 0 ∧ (Tryd.prog.globals[0]?).map (·.type) = some 246 := ⟨by kernel_rfl, by kernel_rfl⟩
  obtain rfl := Option.some.inj (gg0.symm.trans hg0)
  obtain rfl := Option.some.inj (tt0.symm.trans ht0)
  obtain ⟨gg1, tt1⟩ : Tryd.prog.globalNamed "math/bits.deBruijn64tab" = some 1 ∧ (Tryd.prog.globals[1]?).map (·.type) = some 247 := ⟨by kernel_rfl, by kernel_rfl⟩
  obtain rfl := Option.some.inj (gg1.symm.trans hg1)
  obtain rfl := Option.some.inj (tt1.symm.trans ht1)
  have i1 := tab_in (k := .u8) (l := [0, 1, 56, 2, 57, 49, 28, 3, 61, 58, 42, 50, 38, 29, 17, 4, 62, 47, 59, 36, 45, 43, 51, 22, 53, 39, 33, 30, 24, 18, 12, 5, 63, 55, 48, 27, 60, 41, 37, 16, 46, 35, 44, 21, 52, 32, 23, 11, 54, 26, 40, 15, 34, 20, 31, 10, 25, 14, 19, 9, 13, 8, 7, 6]) hg1 hv1 Tryd.underlying247 (by kernel_rfl) (by kernel_rfl) (by kernel_rfl) (by kernel_rfl) hd1 (r := []) trivial
  have i0 := tab_in (k := .u8) (l := [0, 1, 28, 2, 29, 14, 24, 3, 30, 22, 20, 15, 25, 17, 4, 8, 31, 27, 13, 23, 21, 19, 16, 7, 26, 12, 18, 6, 11, 5, 10, 9]) hg0 hv0 Tryd.underlying246 (by kernel_rfl) (by kernel_rfl) (by kernel_rfl) (by kernel_rfl) hd0 i1.1
  exact ⟨i1.2, i0.1⟩
theorem lifted (os : Os) (started : os.Started) (H : Type) (enc : TypeId × Value → H) :
    ReturnsInHanded {} Tryd.checked os 11 .any (fun w args => (Rows.frameLongSpec.pre enc Tryd.prog Tryd.f11 [] false w args ∧ laidMetH Tryd.prog [("math/bits.deBruijn32tab", Rows.laid_math_bits_deBruijn32tab), ("math/bits.deBruijn64tab", Rows.laid_math_bits_deBruijn64tab)] w) ∧ sizedMet enc Tryd.prog Tryd.f11 (OpenSpec.ofChange Rows.frameLongSpec) false w args) (Rows.frameLongSpec.post enc Tryd.prog Tryd.f11 false true false false) := by
  refine returnsInHanded_of_change_and (C := Tryd.checked) (X := fun w _ => laidMetH Tryd.prog [("math/bits.deBruijn32tab", Rows.laid_math_bits_deBruijn32tab), ("math/bits.deBruijn64tab", Rows.laid_math_bits_deBruijn64tab)] w) (fun _ _ _ hh h => h.of_heap hh) own started (by kernel_rfl) Tryd.func11
    (ChangeSpec.witness_shaped (enc := enc) (C := Tryd.checked) (os := os) (X := fun w _ => laidMetH Tryd.prog [("math/bits.deBruijn32tab", Rows.laid_math_bits_deBruijn32tab), ("math/bits.deBruijn64tab", Rows.laid_math_bits_deBruijn64tab)] w) false (World.doorLaid Tryd.prog 400 os) (c_law06_FrameLong.params.map zeroV).toArray 8 rfl (World.shaped_of_RefB (by kernel_rfl) (by kernel_rfl)) (by kernel_rfl) (by kernel_rfl) (by kernel_rfl) (door_met os _)) ?_
  intro W base args ds gs before hval hW hcnd hsz hL _
  have hI := inv_of hL
  have hW' := hW
  obtain ⟨p, q, hA, hV, rfl, hfz, hnd⟩ := hW
  obtain ⟨x, hx, hwf⟩ := args_rep (n := 20) (ts := c_law06_FrameLong.params) (by kernel_rfl) hA (fun j T v h1 h2 => hval j T v (by simpa using h1) (by simpa using h2))
  have hlen : ds.length = 2 := (trodAll_length hA).trans (by kernel_rfl)
  obtain ⟨d1, d2, rfl⟩ : ∃ d1 d2, ds = [d1, d2] := by match ds, hlen with | [d1, d2], _ => exact ⟨d1, d2, rfl⟩
  obtain ⟨rfl, rfl⟩ := trodVars_none hV
  refine (law_calls (K := 11) c_law06_FrameLong_ok hI hx (lawFrameLong x hwf)).mono fun e W' ⟨he, bel⟩ => ?_
  subst he
  exact ⟨_, rfl, _, _, _, [], _, [], hW', trodAll_mk1 (shut_bool Tryd.underlying4 _), trodAll_below laidOut bel (by kernel_rfl) hA, rfl, bel.frame _, fun h => by cases h⟩
theorem proved : Rows.FrameLongSaid :=
  OpenClaim.holds_of_wide 11 Tryd.f11 rfl rfl rfl rfl rfl rfl rfl ⟨rfl, rfl, rfl, rfl, rfl⟩ rfl rfl rfl rfl rfl (by kernel_rfl) Tryd.func11 (by kernel_rfl)
    (of_decide_eq_true (by kernel_rfl)) (by unfold Func.isWrapper; first | (rw [if_pos (by decide +kernel)]; kernel_rfl) | (rw [if_neg (by decide +kernel)]; exact ⟨rfl, rfl⟩))
    (fun os started H enc _ => lifted os started H enc)
theorem card : Rows.FrameLongCardSaid :=
  Claim7.holds_tied_plain_at .later [] [.data, .data] true (true, "1021a36958bef67feb8e8930050b74075fa45ed83853cf8c22c3fa63b7773168") true
    proved (fun _ h => by cases h) (by kernel_rfl) (fun _ h => by cases h) frameLong_row_tie rfl ⟨rfl, rfl⟩ (by kernel_rfl) rfl
    (fun f fn hf hfn => by
      obtain rfl : f = 11 := Option.some.inj ((show Tryd.prog.funcNamed "domino/dominolaw06.FrameLong" = some 11 by kernel_rfl).symm.trans hf) |>.symm
      obtain rfl : fn = Tryd.f11 := (Option.some.inj (Tryd.func11.symm.trans hfn)).symm
      exact ⟨by kernel_rfl, fun j t ht => by
        have all : ∀ t ∈ [5, 5], Tryd.prog.wantsStandIn t = false := by
          intro t h
          simp only [List.mem_cons, List.not_mem_nil, or_false] at h
          rcases h with rfl | rfl <;> kernel_rfl
        have hp : Tryd.f11.params = #[5, 5] := rfl
        rw [hp] at ht
        exact all t (by
          have := List.mem_of_getElem? (l := [5, 5]) (i := j) (a := t) (by simpa using ht)
          exact this)⟩)
    (by kernel_rfl)
end Go.Proofs.YtjdjlijjolibkaaDoor.V.RowFrameLong
namespace Go.Proofs.YtjdjlijjolibkaaDoor
/-- The statement, under a short name, for the claim. -/
theorem frameLong_card : Rows.FrameLongCardSaid := V.RowFrameLong.card
end Go.Proofs.YtjdjlijjolibkaaDoor
