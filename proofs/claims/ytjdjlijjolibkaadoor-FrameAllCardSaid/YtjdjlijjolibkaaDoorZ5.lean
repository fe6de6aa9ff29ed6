/- The law FrameAll, part 5 of 5: what is proved: for every input that can be read the call of FrameAll returns true and leaves its arguments alone. No conditions but the listed tables of the card. -/
import Derived.OpenShut
import Derived.LaidHandle
import Derived.LaidMore
import Derived.Stop.Joined
import Derived.Test.YtjdjlijjolibkaaDoorRows
import Derived.Test.YtjdjlijjolibkaaDoorCards
import Derived.Test.YtjdjlijjolibkaaDoorTie
import Derived.SevenTiedAt
import Derived.Test.YtjdjlijjolibkaaDoorZ4
namespace Go.Proofs.YtjdjlijjolibkaaDoor.V
open Go.RowKit Go.Proofs.Tryd
set_option maxRecDepth 100000
set_option linter.unusedVariables false
noncomputable def m_frame_framer_read_h0 : Mach prog Inv gInv := mach bas [(88, f88), (117, f117), (122, f122), (123, f123), (125, f125), (126, f126), (127, f127), (128, f128), (149, f149)] ⟨ok88, ok117, ok122, ok123, ok125, ok126, ok127, ok128, ok149, trivial⟩ [(34, c_frame_May), (124, c_varint_Size), (163, c_varint_Get)] ⟨⟨c_frame_May_ok, FnOk.callable ok34⟩, ⟨c_varint_Size_ok, FnOk.callable ok124⟩, ⟨c_varint_Get_ok, FnOk.callable ok163⟩, trivial⟩ [] trivial [(123, h_frame_reader_need_h0), (149, h_frame_reader_number_h0), (122, h_frame_reader_into_h0), (122, h_frame_reader_into_h1), (122, h_frame_reader_into_h2), (122, h_frame_reader_into_h3), (122, h_frame_reader_into_h4), (122, h_frame_reader_into_h5), (122, h_frame_reader_into_h6), (122, h_frame_reader_into_h7), (122, h_frame_reader_into_h8), (122, h_frame_reader_into_h9), (122, h_frame_reader_into_h10), (123, h_frame_reader_need_h1), (149, h_frame_reader_number_h1), (122, h_frame_reader_into_h11), (125, h_frame_framer_ack_h0), (127, h_frame_reader_take_h0), (122, h_frame_reader_into_h12), (126, h_frame_reader_long_h0), (128, h_frame_framer_stream_h0)] ⟨⟨h_frame_reader_need_h0_ok, FnOk.callable ok123⟩, ⟨h_frame_reader_number_h0_ok, FnOk.callable ok149⟩, ⟨h_frame_reader_into_h0_ok, FnOk.callable ok122⟩, ⟨h_frame_reader_into_h1_ok, FnOk.callable ok122⟩, ⟨h_frame_reader_into_h2_ok, FnOk.callable ok122⟩, ⟨h_frame_reader_into_h3_ok, FnOk.callable ok122⟩, ⟨h_frame_reader_into_h4_ok, FnOk.callable ok122⟩, ⟨h_frame_reader_into_h5_ok, FnOk.callable ok122⟩, ⟨h_frame_reader_into_h6_ok, FnOk.callable ok122⟩, ⟨h_frame_reader_into_h7_ok, FnOk.callable ok122⟩, ⟨h_frame_reader_into_h8_ok, FnOk.callable ok122⟩, ⟨h_frame_reader_into_h9_ok, FnOk.callable ok122⟩, ⟨h_frame_reader_into_h10_ok, FnOk.callable ok122⟩, ⟨h_frame_reader_need_h1_ok, FnOk.callable ok123⟩, ⟨h_frame_reader_number_h1_ok, FnOk.callable ok149⟩, ⟨h_frame_reader_into_h11_ok, FnOk.callable ok122⟩, ⟨h_frame_framer_ack_h0_ok, FnOk.callable ok125⟩, ⟨h_frame_reader_take_h0_ok, FnOk.callable ok127⟩, ⟨h_frame_reader_into_h12_ok, FnOk.callable ok122⟩, ⟨h_frame_reader_long_h0_ok, FnOk.callable ok126⟩, ⟨h_frame_framer_stream_h0_ok, FnOk.callable ok128⟩, trivial⟩
@[reducible] noncomputable def pa_frame_framer_read_h0 : List Pat := [.ptr 0 0]
@[reducible] noncomputable def pH_frame_framer_read_h0 : List HPat := [.dat 154 T_frame_framer]
/-! ### (*domino/frame.framer).read -/
abbrev R_frame_framer_read_h0 : Type := D_frame_framer × Unit
@[reducible] noncomputable def qa_frame_framer_read_h0 : List Pat := []
@[reducible] noncomputable def qH_frame_framer_read_h0 : List HPat := [.dat 154 T_frame_framer]
noncomputable def g_frame_framer_read_h0 : HCon := HCon.mkP 149 pa_frame_framer_read_h0 pH_frame_framer_read_h0 qa_frame_framer_read_h0 qH_frame_framer_read_h0 R_frame_framer_read_h0 default (fun _ => none) (fun r => ((), (r.1, ()))) (fun y => (y.2.1, ())) (fun _ => rfl)
def ks_frame_framer_read_h0 : List Nat := [88, 117, 122, 123, 125, 126, 127, 128, 149]
abbrev H_frame_framer_read_h0 (base : Base) (S0 : Nat → Prop) := base.n = 1 ∧ FinOk (finH g_frame_framer_read_h0) base S0 (HPost g_frame_framer_read_h0 base S0)
abbrev J_frame_framer_read_h0 (base : Base) (S0 : Nat → Prop) (cs0 : List Go.Frame) (p : CPat) (J : denC p → Option (Option R_frame_framer_read_h0)) := JSound m_frame_framer_read_h0 base S0 cs0 (HPost g_frame_framer_read_h0 base S0) p J
abbrev O_frame_framer_read_h0 (base : Base) (S0 : Nat → Prop) (cs0 : List Go.Frame) (X : Cfg → Option (Option (Option R_frame_framer_read_h0))) := OSound m_frame_framer_read_h0 base S0 cs0 (HPost g_frame_framer_read_h0 base S0) X
@[reducible] noncomputable def p_frame_framer_read_h0_4 : CPat := ⟨⟨88, [1, 1, 1, 1], none, [.ptr 0 0], 273⟩, [], [.cells 154 [.str, .int .u64, .int .u64, .int .u64, .int .u64, .int .u64, .int .u64, .int .u64, .int .u64, .bool, .str, .str, .str, .rows T_ranges_Range false]], 1⟩
@[reducible] noncomputable def u_frame_framer_read_h0_4 (k : ByteArray → Int → Int → Int → Int → Int → Int → Int → Int → Bool → ByteArray → ByteArray → ByteArray → (List D_ranges_Range) → Option (Option R_frame_framer_read_h0)) : denC p_frame_framer_read_h0_4 → Option (Option R_frame_framer_read_h0) := fun x => k x.2.2.1.1 x.2.2.1.2.1 x.2.2.1.2.2.1 x.2.2.1.2.2.2.1 x.2.2.1.2.2.2.2.1 x.2.2.1.2.2.2.2.2.1 x.2.2.1.2.2.2.2.2.2.1 x.2.2.1.2.2.2.2.2.2.2.1 x.2.2.1.2.2.2.2.2.2.2.2.1 x.2.2.1.2.2.2.2.2.2.2.2.2.1 x.2.2.1.2.2.2.2.2.2.2.2.2.2.1 x.2.2.1.2.2.2.2.2.2.2.2.2.2.2.1 x.2.2.1.2.2.2.2.2.2.2.2.2.2.2.2.1 x.2.2.1.2.2.2.2.2.2.2.2.2.2.2.2.2.1
noncomputable def b_frame_framer_read_h0_4 (s69 : ByteArray) (i70 : Int) (i71 : Int) (i72 : Int) (i73 : Int) (i74 : Int) (i75 : Int) (i76 : Int) (i77 : Int) (b78 : Bool) (s79 : ByteArray) (s80 : ByteArray) (s81 : ByteArray) (l82 : (List D_ranges_Range)) : Option (Option R_frame_framer_read_h0) :=
  obind (frame_May (i70, (i71, (i72, (i73, (i74, (i75, (i76, (i77, (b78, (s79, (s80, (s81, (l82, ())))))))))))))) fun y83 =>
  obindP (frame_reader_need_h0 y83.1 ((s69, ()), ((i70, (i71, (i72, (i73, (i74, (i75, (i76, (i77, (b78, (s79, (s80, (s81, (l82, ()))))))))))))), ()))) (
    some none) fun y84 =>
  some (some (y84.1, ()))
theorem ex_frame_framer_read_h0_4 : ∃ f, f = @b_frame_framer_read_h0_4 := ⟨_, rfl⟩
noncomputable def frame_framer_read_h0_4 := Classical.choose ex_frame_framer_read_h0_4
theorem frame_framer_read_h0_4_eq : @frame_framer_read_h0_4 = @b_frame_framer_read_h0_4 := Classical.choose_spec ex_frame_framer_read_h0_4
theorem s_frame_framer_read_h0_4 {base S0 cs0} (hfin : H_frame_framer_read_h0 base S0) : J_frame_framer_read_h0 base S0 cs0 p_frame_framer_read_h0_4 (u_frame_framer_read_h0_4 (frame_framer_read_h0_4)) :=
  JSound.join hfin.2 (OSound.nowhere) ks_frame_framer_read_h0 100000 (by rw [frame_framer_read_h0_4_eq]; intro x; kernel_rfl)
noncomputable def x_frame_framer_read_h0_4 : Cfg → Option (Option (Option R_frame_framer_read_h0)) := cut p_frame_framer_read_h0_4 (u_frame_framer_read_h0_4 (frame_framer_read_h0_4)) (nowhere)
theorem o_frame_framer_read_h0_4 {base S0 cs0} (hfin : H_frame_framer_read_h0 base S0) : O_frame_framer_read_h0 base S0 cs0 (x_frame_framer_read_h0_4) := OSound.cut (OSound.nowhere) (Nat.le_of_eq hfin.1) (s_frame_framer_read_h0_4 hfin)
@[reducible] noncomputable def p_frame_framer_read_h0_3 : CPat := ⟨⟨88, [1, 1, 1, 0, 1, 0, 1, 1, 1, 1, 1, 1, 1, 1, 1, 1, 1, 1, 1, 1, 1, 1, 1, 1, 1], none, [.ptr 0 0, .any, .any, .any, .any, .any, .any, .any, .any, .any, .any, .any, .any, .any, .any, .any, .any, .any, .any, .any, .any, .any, .any, .any, .any, .any, .any, .any, .any, .any, .any, .any, .any, .any, .any, .any, .any, .any, .any, .any, .any, .int .u64, .any, .any, .any, .any, .any, .any, .any, .any, .any, .any, .any, .any, .any, .any, .any, .any, .any, .any, .any, .any, .any, .any, .any, .any, .any, .any, .any, .any, .any, .any, .any, .any, .any, .any, .any, .any, .any, .any, .any, .any, .any, .any, .any, .any, .any, .any, .any, .any, .any, .any, .any, .any, .any, .any, .any, .any, .any, .any, .any, .any, .any, .any, .any, .any, .any, .any, .any, .any, .any, .any, .any, .any, .any, .any, .any, .any, .any, .any, .any, .any, .any, .any, .any, .any, .any, .any, .any, .any, .any, .any, .any, .any, .any, .any, .any, .any, .any, .any, .any, .any, .any, .any, .any, .any, .any, .any, .any, .any, .any, .any, .any, .any, .any, .any, .any, .any, .any, .any, .any, .any, .any, .any, .any, .any, .any, .any, .any, .any, .any, .any, .any, .any, .any, .any, .any, .any, .any, .any, .any, .any, .any, .any, .any, .any, .any, .any, .any, .any, .any, .any, .any, .any, .any, .any, .any, .any, .any, .any, .any, .any, .any, .any, .any, .any, .any, .any, .any, .any, .any, .any, .bool], 61⟩, [], [.dat 154 T_frame_framer], 1⟩
@[reducible] noncomputable def u_frame_framer_read_h0_3 (k : Int → Bool → D_frame_framer → Option (Option R_frame_framer_read_h0)) : denC p_frame_framer_read_h0_3 → Option (Option R_frame_framer_read_h0) := fun x => k x.1.2.2.2.2.2.2.2.2.2.2.2.2.2.2.2.2.2.2.2.2.2.2.2.2.2.2.2.2.2.2.2.2.2.2.2.2.2.2.2.2.2.1 x.1.2.2.2.2.2.2.2.2.2.2.2.2.2.2.2.2.2.2.2.2.2.2.2.2.2.2.2.2.2.2.2.2.2.2.2.2.2.2.2.2.2.2.2.2.2.2.2.2.2.2.2.2.2.2.2.2.2.2.2.2.2.2.2.2.2.2.2.2.2.2.2.2.2.2.2.2.2.2.2.2.2.2.2.2.2.2.2.2.2.2.2.2.2.2.2.2.2.2.2.2.2.2.2.2.2.2.2.2.2.2.2.2.2.2.2.2.2.2.2.2.2.2.2.2.2.2.2.2.2.2.2.2.2.2.2.2.2.2.2.2.2.2.2.2.2.2.2.2.2.2.2.2.2.2.2.2.2.2.2.2.2.2.2.2.2.2.2.2.2.2.2.2.2.2.2.2.2.2.2.2.2.2.2.2.2.2.2.2.2.2.2.2.2.2.2.2.2.2.2.2.2.2.2.2.2.2.2.2.2.2.2.2.1 x.2.2.1
noncomputable def b_frame_framer_read_h0_3 (i51 : Int) (b52 : Bool) (d53 : D_frame_framer) : Option (Option R_frame_framer_read_h0) :=
  bif b52 then
    obindP (frame_reader_take_h0 (8 : Int) d53) (
      some none) fun y54 =>
    frame_framer_read_h0_4 y54.2.1.1.1 y54.2.1.2.1.1 y54.2.1.2.1.2.1 y54.2.1.2.1.2.2.1 y54.2.1.2.1.2.2.2.1 y54.2.1.2.1.2.2.2.2.1 y54.2.1.2.1.2.2.2.2.2.1 y54.2.1.2.1.2.2.2.2.2.2.1 y54.2.1.2.1.2.2.2.2.2.2.2.1 y54.2.1.2.1.2.2.2.2.2.2.2.2.1 y54.2.1.2.1.2.2.2.2.2.2.2.2.2.1 y54.2.1.2.1.2.2.2.2.2.2.2.2.2.2.1 y54.1 y54.2.1.2.1.2.2.2.2.2.2.2.2.2.2.2.2.1
  else
    let b55 : Bool := (i51 == (28 : Int))
    bif b55 then
      obindP (frame_reader_into_h7 d53) (
        some none) fun y56 =>
      obindP (frame_reader_long_h0 y56.1) (
        some none) fun y57 =>
      frame_framer_read_h0_4 y57.2.1.1.1 y57.2.1.2.1.1 y57.2.1.2.1.2.1 y57.2.1.2.1.2.2.1 y57.2.1.2.1.2.2.2.1 y57.2.1.2.1.2.2.2.2.1 y57.2.1.2.1.2.2.2.2.2.1 y57.2.1.2.1.2.2.2.2.2.2.1 y57.2.1.2.1.2.2.2.2.2.2.2.1 y57.2.1.2.1.2.2.2.2.2.2.2.2.1 y57.1 y57.2.1.2.1.2.2.2.2.2.2.2.2.2.2.1 y57.2.1.2.1.2.2.2.2.2.2.2.2.2.2.2.1 y57.2.1.2.1.2.2.2.2.2.2.2.2.2.2.2.2.1
    else
      let b58 : Bool := (i51 == (29 : Int))
      bif b58 then
        obindP (frame_reader_into_h3 d53) (
          some none) fun y59 =>
        obindP (frame_reader_long_h0 y59.1) (
          some none) fun y60 =>
        frame_framer_read_h0_4 y60.2.1.1.1 y60.2.1.2.1.1 y60.2.1.2.1.2.1 y60.2.1.2.1.2.2.1 y60.2.1.2.1.2.2.2.1 y60.2.1.2.1.2.2.2.2.1 y60.2.1.2.1.2.2.2.2.2.1 y60.2.1.2.1.2.2.2.2.2.2.1 y60.2.1.2.1.2.2.2.2.2.2.2.1 y60.2.1.2.1.2.2.2.2.2.2.2.2.1 y60.1 y60.2.1.2.1.2.2.2.2.2.2.2.2.2.2.1 y60.2.1.2.1.2.2.2.2.2.2.2.2.2.2.2.1 y60.2.1.2.1.2.2.2.2.2.2.2.2.2.2.2.2.1
      else
        let b61 : Bool := (decide (d53.2.1.1 ≥ (8 : Int)))
        bif b61 then
          let b62 : Bool := (decide (d53.2.1.1 < (16 : Int)))
          obindP (frame_reader_need_h0 b62 d53) (
            some none) fun y63 =>
          obindP (frame_framer_stream_h0 y63.1.2.1.1 y63.1) (
            some none) fun y64 =>
          frame_framer_read_h0_4 y64.1.1.1 y64.1.2.1.1 y64.1.2.1.2.1 y64.1.2.1.2.2.1 y64.1.2.1.2.2.2.1 y64.1.2.1.2.2.2.2.1 y64.1.2.1.2.2.2.2.2.1 y64.1.2.1.2.2.2.2.2.2.1 y64.1.2.1.2.2.2.2.2.2.2.1 y64.1.2.1.2.2.2.2.2.2.2.2.1 y64.1.2.1.2.2.2.2.2.2.2.2.2.1 y64.1.2.1.2.2.2.2.2.2.2.2.2.2.1 y64.1.2.1.2.2.2.2.2.2.2.2.2.2.2.1 y64.1.2.1.2.2.2.2.2.2.2.2.2.2.2.2.1
        else
          obindP (frame_reader_need_h0 false d53) (
            some none) fun y65 =>
          obindP (frame_framer_stream_h0 y65.1.2.1.1 y65.1) (
            some none) fun y66 =>
          frame_framer_read_h0_4 y66.1.1.1 y66.1.2.1.1 y66.1.2.1.2.1 y66.1.2.1.2.2.1 y66.1.2.1.2.2.2.1 y66.1.2.1.2.2.2.2.1 y66.1.2.1.2.2.2.2.2.1 y66.1.2.1.2.2.2.2.2.2.1 y66.1.2.1.2.2.2.2.2.2.2.1 y66.1.2.1.2.2.2.2.2.2.2.2.1 y66.1.2.1.2.2.2.2.2.2.2.2.2.1 y66.1.2.1.2.2.2.2.2.2.2.2.2.2.1 y66.1.2.1.2.2.2.2.2.2.2.2.2.2.2.1 y66.1.2.1.2.2.2.2.2.2.2.2.2.2.2.2.1
theorem ex_frame_framer_read_h0_3 : ∃ f, f = @b_frame_framer_read_h0_3 := ⟨_, rfl⟩
noncomputable def frame_framer_read_h0_3 := Classical.choose ex_frame_framer_read_h0_3
theorem frame_framer_read_h0_3_eq : @frame_framer_read_h0_3 = @b_frame_framer_read_h0_3 := Classical.choose_spec ex_frame_framer_read_h0_3
theorem s_frame_framer_read_h0_3 {base S0 cs0} (hfin : H_frame_framer_read_h0 base S0) : J_frame_framer_read_h0 base S0 cs0 p_frame_framer_read_h0_3 (u_frame_framer_read_h0_3 (frame_framer_read_h0_3)) :=
  JSound.join hfin.2 (o_frame_framer_read_h0_4 hfin) ks_frame_framer_read_h0 100000 (by rw [frame_framer_read_h0_3_eq]; intro x; kernel_rfl)
noncomputable def x_frame_framer_read_h0_3 : Cfg → Option (Option (Option R_frame_framer_read_h0)) := cut p_frame_framer_read_h0_3 (u_frame_framer_read_h0_3 (frame_framer_read_h0_3)) (x_frame_framer_read_h0_4)
theorem o_frame_framer_read_h0_3 {base S0 cs0} (hfin : H_frame_framer_read_h0 base S0) : O_frame_framer_read_h0 base S0 cs0 (x_frame_framer_read_h0_3) := OSound.cut (o_frame_framer_read_h0_4 hfin) (Nat.le_of_eq hfin.1) (s_frame_framer_read_h0_3 hfin)
@[reducible] noncomputable def p_frame_framer_read_h0_2 : CPat := ⟨⟨88, [1, 1, 1, 0, 1, 0, 1, 1, 1, 1, 1, 1, 1, 1, 1, 1, 1, 1, 1], none, [.ptr 0 0, .any, .any, .any, .any, .any, .any, .any, .any, .any, .any, .any, .any, .any, .any, .any, .any, .any, .any, .any, .any, .any, .any, .any, .any, .any, .any, .any, .any, .any, .any, .any, .any, .any, .any, .any, .any, .any, .any, .any, .any, .int .u64, .any, .any, .any, .any, .any, .any, .any, .any, .any, .any, .any, .any, .any, .any, .any, .any, .any, .any, .any, .any, .any, .any, .any, .any, .any, .any, .any, .any, .any, .any, .any, .any, .any, .any, .any, .any, .any, .any, .any, .any, .any, .any, .any, .any, .any, .any, .any, .any, .any, .any, .any, .any, .any, .any, .any, .any, .any, .any, .any, .any, .any, .any, .any, .any, .any, .any, .any, .any, .any, .any, .any, .any, .any, .any, .any, .any, .any, .any, .any, .any, .any, .any, .any, .any, .any, .any, .any, .any, .any, .any, .any, .any, .any, .any, .any, .any, .any, .any, .any, .any, .any, .any, .bool], 129⟩, [], [.dat 154 T_frame_framer], 1⟩
@[reducible] noncomputable def u_frame_framer_read_h0_2 (k : Int → Bool → D_frame_framer → Option (Option R_frame_framer_read_h0)) : denC p_frame_framer_read_h0_2 → Option (Option R_frame_framer_read_h0) := fun x => k x.1.2.2.2.2.2.2.2.2.2.2.2.2.2.2.2.2.2.2.2.2.2.2.2.2.2.2.2.2.2.2.2.2.2.2.2.2.2.2.2.2.2.1 x.1.2.2.2.2.2.2.2.2.2.2.2.2.2.2.2.2.2.2.2.2.2.2.2.2.2.2.2.2.2.2.2.2.2.2.2.2.2.2.2.2.2.2.2.2.2.2.2.2.2.2.2.2.2.2.2.2.2.2.2.2.2.2.2.2.2.2.2.2.2.2.2.2.2.2.2.2.2.2.2.2.2.2.2.2.2.2.2.2.2.2.2.2.2.2.2.2.2.2.2.2.2.2.2.2.2.2.2.2.2.2.2.2.2.2.2.2.2.2.2.2.2.2.2.2.2.2.2.2.2.2.2.2.2.2.2.2.2.2.2.2.2.2.2.2.1 x.2.2.1
noncomputable def b_frame_framer_read_h0_2 (i35 : Int) (b36 : Bool) (d37 : D_frame_framer) : Option (Option R_frame_framer_read_h0) :=
  bif b36 then
    obindP (frame_reader_into_h5 d37) (
      some none) fun y38 =>
    frame_framer_read_h0_4 y38.1.1.1 y38.1.2.1.1 y38.1.2.1.2.1 y38.1.2.1.2.2.1 y38.1.2.1.2.2.2.1 y38.1.2.1.2.2.2.2.1 y38.1.2.1.2.2.2.2.2.1 y38.1.2.1.2.2.2.2.2.2.1 y38.1.2.1.2.2.2.2.2.2.2.1 y38.1.2.1.2.2.2.2.2.2.2.2.1 y38.1.2.1.2.2.2.2.2.2.2.2.2.1 y38.1.2.1.2.2.2.2.2.2.2.2.2.2.1 y38.1.2.1.2.2.2.2.2.2.2.2.2.2.2.1 y38.1.2.1.2.2.2.2.2.2.2.2.2.2.2.2.1
  else
    let b39 : Bool := (i35 == (24 : Int))
    bif b39 then
      obindP (frame_reader_into_h8 d37) (
        some none) fun y40 =>
      obindP (frame_reader_take_h0 (1 : Int) y40.1) (
        some none) fun y41 =>
      bif (decide (((0 : Int) ≤ (0 : Int)) ∧ ((0 : Int) < (((ByteArray.size y41.1) : Nat) : Int)))) then
        let n42 : Int := (byteAt y41.1 (0 : Int))
        let b43 : Bool := (n42 == (8 : Int))
        obindP (frame_reader_need_h0 b43 y41.2.1) (
          some none) fun y44 =>
        obindP (frame_reader_take_h0 (8 : Int) y44.1) (
          some none) fun y45 =>
        obindP (frame_reader_take_h0 (16 : Int) y45.2.1) (
          some none) fun y46 =>
        frame_framer_read_h0_4 y46.2.1.1.1 y46.2.1.2.1.1 y46.2.1.2.1.2.1 y46.2.1.2.1.2.2.1 y46.2.1.2.1.2.2.2.1 y46.2.1.2.1.2.2.2.2.1 y46.2.1.2.1.2.2.2.2.2.1 y46.2.1.2.1.2.2.2.2.2.2.1 y46.2.1.2.1.2.2.2.2.2.2.2.1 y46.2.1.2.1.2.2.2.2.2.2.2.2.1 y46.2.1.2.1.2.2.2.2.2.2.2.2.2.1 y45.1 y46.1 y46.2.1.2.1.2.2.2.2.2.2.2.2.2.2.2.2.1
      else none
    else
      let b47 : Bool := (i35 == (25 : Int))
      bif b47 then
        obindP (frame_reader_into_h4 d37) (
          some none) fun y48 =>
        frame_framer_read_h0_4 y48.1.1.1 y48.1.2.1.1 y48.1.2.1.2.1 y48.1.2.1.2.2.1 y48.1.2.1.2.2.2.1 y48.1.2.1.2.2.2.2.1 y48.1.2.1.2.2.2.2.2.1 y48.1.2.1.2.2.2.2.2.2.1 y48.1.2.1.2.2.2.2.2.2.2.1 y48.1.2.1.2.2.2.2.2.2.2.2.1 y48.1.2.1.2.2.2.2.2.2.2.2.2.1 y48.1.2.1.2.2.2.2.2.2.2.2.2.2.1 y48.1.2.1.2.2.2.2.2.2.2.2.2.2.2.1 y48.1.2.1.2.2.2.2.2.2.2.2.2.2.2.2.1
      else
        let b49 : Bool := (i35 == (26 : Int))
        bif b49 then
          frame_framer_read_h0_3 i35 true d37
        else
          let b50 : Bool := (i35 == (27 : Int))
          frame_framer_read_h0_3 i35 b50 d37
theorem ex_frame_framer_read_h0_2 : ∃ f, f = @b_frame_framer_read_h0_2 := ⟨_, rfl⟩
noncomputable def frame_framer_read_h0_2 := Classical.choose ex_frame_framer_read_h0_2
theorem frame_framer_read_h0_2_eq : @frame_framer_read_h0_2 = @b_frame_framer_read_h0_2 := Classical.choose_spec ex_frame_framer_read_h0_2
theorem s_frame_framer_read_h0_2 {base S0 cs0} (hfin : H_frame_framer_read_h0 base S0) : J_frame_framer_read_h0 base S0 cs0 p_frame_framer_read_h0_2 (u_frame_framer_read_h0_2 (frame_framer_read_h0_2)) :=
  JSound.join hfin.2 (o_frame_framer_read_h0_3 hfin) ks_frame_framer_read_h0 100000 (by rw [frame_framer_read_h0_2_eq]; intro x; kernel_rfl)
noncomputable def x_frame_framer_read_h0_2 : Cfg → Option (Option (Option R_frame_framer_read_h0)) := cut p_frame_framer_read_h0_2 (u_frame_framer_read_h0_2 (frame_framer_read_h0_2)) (x_frame_framer_read_h0_3)
theorem o_frame_framer_read_h0_2 {base S0 cs0} (hfin : H_frame_framer_read_h0 base S0) : O_frame_framer_read_h0 base S0 cs0 (x_frame_framer_read_h0_2) := OSound.cut (o_frame_framer_read_h0_3 hfin) (Nat.le_of_eq hfin.1) (s_frame_framer_read_h0_2 hfin)
@[reducible] noncomputable def p_frame_framer_read_h0_1 : CPat := ⟨⟨88, [1, 1, 1, 0, 1, 0, 1, 1, 1, 1, 1, 1, 1, 1, 1, 1, 1], none, [.ptr 0 0, .any, .any, .any, .any, .any, .any, .any, .any, .any, .any, .any, .any, .any, .any, .any, .any, .any, .any, .any, .any, .any, .any, .any, .any, .any, .any, .any, .any, .any, .any, .any, .any, .any, .any, .any, .any, .any, .any, .any, .any, .int .u64, .any, .any, .any, .any, .any, .any, .any, .any, .any, .any, .any, .any, .any, .any, .any, .any, .any, .any, .any, .any, .any, .any, .any, .any, .any, .any, .any, .any, .any, .any, .any, .any, .any, .any, .any, .any, .any, .any, .any, .any, .any, .any, .any, .any, .any, .any, .any, .any, .any, .any, .any, .any, .any, .any, .any, .any, .any, .any, .any, .any, .any, .any, .any, .any, .any, .any, .any, .any, .any, .any, .any, .any, .any, .any, .any, .any, .any, .any, .any, .any, .any, .any, .any, .any, .any, .any, .bool], 145⟩, [], [.dat 154 T_frame_framer], 1⟩
@[reducible] noncomputable def u_frame_framer_read_h0_1 (k : Int → Bool → D_frame_framer → Option (Option R_frame_framer_read_h0)) : denC p_frame_framer_read_h0_1 → Option (Option R_frame_framer_read_h0) := fun x => k x.1.2.2.2.2.2.2.2.2.2.2.2.2.2.2.2.2.2.2.2.2.2.2.2.2.2.2.2.2.2.2.2.2.2.2.2.2.2.2.2.2.2.1 x.1.2.2.2.2.2.2.2.2.2.2.2.2.2.2.2.2.2.2.2.2.2.2.2.2.2.2.2.2.2.2.2.2.2.2.2.2.2.2.2.2.2.2.2.2.2.2.2.2.2.2.2.2.2.2.2.2.2.2.2.2.2.2.2.2.2.2.2.2.2.2.2.2.2.2.2.2.2.2.2.2.2.2.2.2.2.2.2.2.2.2.2.2.2.2.2.2.2.2.2.2.2.2.2.2.2.2.2.2.2.2.2.2.2.2.2.2.2.2.2.2.2.2.2.2.2.2.2.2.1 x.2.2.1
noncomputable def b_frame_framer_read_h0_1 (i29 : Int) (b30 : Bool) (d31 : D_frame_framer) : Option (Option R_frame_framer_read_h0) :=
  bif b30 then
    obindP (frame_reader_into_h2 d31) (
      some none) fun y32 =>
    frame_framer_read_h0_4 y32.1.1.1 y32.1.2.1.1 y32.1.2.1.2.1 y32.1.2.1.2.2.1 y32.1.2.1.2.2.2.1 y32.1.2.1.2.2.2.2.1 y32.1.2.1.2.2.2.2.2.1 y32.1.2.1.2.2.2.2.2.2.1 y32.1.2.1.2.2.2.2.2.2.2.1 y32.1.2.1.2.2.2.2.2.2.2.2.1 y32.1.2.1.2.2.2.2.2.2.2.2.2.1 y32.1.2.1.2.2.2.2.2.2.2.2.2.2.1 y32.1.2.1.2.2.2.2.2.2.2.2.2.2.2.1 y32.1.2.1.2.2.2.2.2.2.2.2.2.2.2.2.1
  else
    let b33 : Bool := (i29 == (17 : Int))
    bif b33 then
      frame_framer_read_h0_2 i29 true d31
    else
      let b34 : Bool := (i29 == (21 : Int))
      frame_framer_read_h0_2 i29 b34 d31
theorem ex_frame_framer_read_h0_1 : ∃ f, f = @b_frame_framer_read_h0_1 := ⟨_, rfl⟩
noncomputable def frame_framer_read_h0_1 := Classical.choose ex_frame_framer_read_h0_1
theorem frame_framer_read_h0_1_eq : @frame_framer_read_h0_1 = @b_frame_framer_read_h0_1 := Classical.choose_spec ex_frame_framer_read_h0_1
theorem s_frame_framer_read_h0_1 {base S0 cs0} (hfin : H_frame_framer_read_h0 base S0) : J_frame_framer_read_h0 base S0 cs0 p_frame_framer_read_h0_1 (u_frame_framer_read_h0_1 (frame_framer_read_h0_1)) :=
  JSound.join hfin.2 (o_frame_framer_read_h0_2 hfin) ks_frame_framer_read_h0 100000 (by rw [frame_framer_read_h0_1_eq]; intro x; kernel_rfl)
noncomputable def x_frame_framer_read_h0_1 : Cfg → Option (Option (Option R_frame_framer_read_h0)) := cut p_frame_framer_read_h0_1 (u_frame_framer_read_h0_1 (frame_framer_read_h0_1)) (x_frame_framer_read_h0_2)
theorem o_frame_framer_read_h0_1 {base S0 cs0} (hfin : H_frame_framer_read_h0 base S0) : O_frame_framer_read_h0 base S0 cs0 (x_frame_framer_read_h0_1) := OSound.cut (o_frame_framer_read_h0_2 hfin) (Nat.le_of_eq hfin.1) (s_frame_framer_read_h0_1 hfin)
@[reducible] noncomputable def p_frame_framer_read_h0_0 : CPat := ⟨⟨88, [1, 1, 1, 0, 1, 0, 1], none, [.ptr 0 0, .any, .any, .any, .any, .any, .any, .any, .any, .any, .any, .any, .any, .any, .any, .any, .any, .any, .any, .any, .any, .any, .any, .any, .any, .any, .any, .any, .any, .any, .any, .any, .any, .any, .any, .any, .any, .any, .any, .any, .any, .int .u64, .any, .any, .any, .any, .any, .any, .any, .any, .any, .any, .any, .any, .any, .any, .any, .any, .any, .any, .any, .any, .any, .any, .any, .any, .any, .bool], 206⟩, [], [.dat 154 T_frame_framer], 1⟩
@[reducible] noncomputable def u_frame_framer_read_h0_0 (k : Int → Bool → D_frame_framer → Option (Option R_frame_framer_read_h0)) : denC p_frame_framer_read_h0_0 → Option (Option R_frame_framer_read_h0) := fun x => k x.1.2.2.2.2.2.2.2.2.2.2.2.2.2.2.2.2.2.2.2.2.2.2.2.2.2.2.2.2.2.2.2.2.2.2.2.2.2.2.2.2.2.1 x.1.2.2.2.2.2.2.2.2.2.2.2.2.2.2.2.2.2.2.2.2.2.2.2.2.2.2.2.2.2.2.2.2.2.2.2.2.2.2.2.2.2.2.2.2.2.2.2.2.2.2.2.2.2.2.2.2.2.2.2.2.2.2.2.2.2.2.2.1 x.2.2.1
noncomputable def b_frame_framer_read_h0_0 (i11 : Int) (b12 : Bool) (d13 : D_frame_framer) : Option (Option R_frame_framer_read_h0) :=
  bif b12 then
    frame_framer_read_h0_4 d13.1.1 d13.2.1.1 d13.2.1.2.1 d13.2.1.2.2.1 d13.2.1.2.2.2.1 d13.2.1.2.2.2.2.1 d13.2.1.2.2.2.2.2.1 d13.2.1.2.2.2.2.2.2.1 d13.2.1.2.2.2.2.2.2.2.1 d13.2.1.2.2.2.2.2.2.2.2.1 d13.2.1.2.2.2.2.2.2.2.2.2.1 d13.2.1.2.2.2.2.2.2.2.2.2.2.1 d13.2.1.2.2.2.2.2.2.2.2.2.2.2.1 d13.2.1.2.2.2.2.2.2.2.2.2.2.2.2.1
  else
    let b14 : Bool := (i11 == (2 : Int))
    bif b14 then
      obindP (frame_framer_ack_h0 d13) (
        some none) fun y15 =>
      frame_framer_read_h0_4 y15.1 y15.2.1 y15.2.2.1 y15.2.2.2.1 y15.2.2.2.2.1 y15.2.2.2.2.2.1 y15.2.2.2.2.2.2.1 y15.2.2.2.2.2.2.2.1 y15.2.2.2.2.2.2.2.2.1 y15.2.2.2.2.2.2.2.2.2.1 y15.2.2.2.2.2.2.2.2.2.2.1 y15.2.2.2.2.2.2.2.2.2.2.2.1 y15.2.2.2.2.2.2.2.2.2.2.2.2.1 y15.2.2.2.2.2.2.2.2.2.2.2.2.2.1
    else
      let b16 : Bool := (i11 == (4 : Int))
      bif b16 then
        obindP (frame_reader_into_h9 d13) (
          some none) fun y17 =>
        frame_framer_read_h0_4 y17.1.1.1 y17.1.2.1.1 y17.1.2.1.2.1 y17.1.2.1.2.2.1 y17.1.2.1.2.2.2.1 y17.1.2.1.2.2.2.2.1 y17.1.2.1.2.2.2.2.2.1 y17.1.2.1.2.2.2.2.2.2.1 y17.1.2.1.2.2.2.2.2.2.2.1 y17.1.2.1.2.2.2.2.2.2.2.2.1 y17.1.2.1.2.2.2.2.2.2.2.2.2.1 y17.1.2.1.2.2.2.2.2.2.2.2.2.2.1 y17.1.2.1.2.2.2.2.2.2.2.2.2.2.2.1 y17.1.2.1.2.2.2.2.2.2.2.2.2.2.2.2.1
      else
        let b18 : Bool := (i11 == (5 : Int))
        bif b18 then
          obindP (frame_reader_into_h6 d13) (
            some none) fun y19 =>
          frame_framer_read_h0_4 y19.1.1.1 y19.1.2.1.1 y19.1.2.1.2.1 y19.1.2.1.2.2.1 y19.1.2.1.2.2.2.1 y19.1.2.1.2.2.2.2.1 y19.1.2.1.2.2.2.2.2.1 y19.1.2.1.2.2.2.2.2.2.1 y19.1.2.1.2.2.2.2.2.2.2.1 y19.1.2.1.2.2.2.2.2.2.2.2.1 y19.1.2.1.2.2.2.2.2.2.2.2.2.1 y19.1.2.1.2.2.2.2.2.2.2.2.2.2.1 y19.1.2.1.2.2.2.2.2.2.2.2.2.2.2.1 y19.1.2.1.2.2.2.2.2.2.2.2.2.2.2.2.1
        else
          let b20 : Bool := (i11 == (6 : Int))
          bif b20 then
            obindP (frame_reader_into_h1 d13) (
              some none) fun y21 =>
            obindP (frame_reader_long_h0 y21.1) (
              some none) fun y22 =>
            frame_framer_read_h0_4 y22.2.1.1.1 y22.2.1.2.1.1 y22.2.1.2.1.2.1 y22.2.1.2.1.2.2.1 y22.2.1.2.1.2.2.2.1 y22.2.1.2.1.2.2.2.2.1 y22.2.1.2.1.2.2.2.2.2.1 y22.2.1.2.1.2.2.2.2.2.2.1 y22.2.1.2.1.2.2.2.2.2.2.2.1 y22.2.1.2.1.2.2.2.2.2.2.2.2.1 y22.1 y22.2.1.2.1.2.2.2.2.2.2.2.2.2.2.1 y22.2.1.2.1.2.2.2.2.2.2.2.2.2.2.2.1 y22.2.1.2.1.2.2.2.2.2.2.2.2.2.2.2.2.1
          else
            let b23 : Bool := (i11 == (16 : Int))
            bif b23 then
              frame_framer_read_h0_1 i11 true d13
            else
              let b24 : Bool := (i11 == (18 : Int))
              bif b24 then
                frame_framer_read_h0_1 i11 true d13
              else
                let b25 : Bool := (i11 == (19 : Int))
                bif b25 then
                  frame_framer_read_h0_1 i11 true d13
                else
                  let b26 : Bool := (i11 == (20 : Int))
                  bif b26 then
                    frame_framer_read_h0_1 i11 true d13
                  else
                    let b27 : Bool := (i11 == (22 : Int))
                    bif b27 then
                      frame_framer_read_h0_1 i11 true d13
                    else
                      let b28 : Bool := (i11 == (23 : Int))
                      frame_framer_read_h0_1 i11 b28 d13
theorem ex_frame_framer_read_h0_0 : ∃ f, f = @b_frame_framer_read_h0_0 := ⟨_, rfl⟩
noncomputable def frame_framer_read_h0_0 := Classical.choose ex_frame_framer_read_h0_0
theorem frame_framer_read_h0_0_eq : @frame_framer_read_h0_0 = @b_frame_framer_read_h0_0 := Classical.choose_spec ex_frame_framer_read_h0_0
theorem s_frame_framer_read_h0_0 {base S0 cs0} (hfin : H_frame_framer_read_h0 base S0) : J_frame_framer_read_h0 base S0 cs0 p_frame_framer_read_h0_0 (u_frame_framer_read_h0_0 (frame_framer_read_h0_0)) :=
  JSound.join hfin.2 (o_frame_framer_read_h0_1 hfin) ks_frame_framer_read_h0 100000 (by rw [frame_framer_read_h0_0_eq]; intro x; kernel_rfl)
noncomputable def x_frame_framer_read_h0_0 : Cfg → Option (Option (Option R_frame_framer_read_h0)) := cut p_frame_framer_read_h0_0 (u_frame_framer_read_h0_0 (frame_framer_read_h0_0)) (x_frame_framer_read_h0_1)
theorem o_frame_framer_read_h0_0 {base S0 cs0} (hfin : H_frame_framer_read_h0 base S0) : O_frame_framer_read_h0 base S0 cs0 (x_frame_framer_read_h0_0) := OSound.cut (o_frame_framer_read_h0_1 hfin) (Nat.le_of_eq hfin.1) (s_frame_framer_read_h0_0 hfin)
noncomputable def b_frame_framer_read_h0 (d0 : D_frame_framer) : Option (Option R_frame_framer_read_h0) :=
  let n1 : Int := (((ByteArray.size d0.1.1) : Nat) : Int)
  obindP (frame_reader_into_h0 d0) (
    some none) fun y2 =>
  let n3 : Int := (((ByteArray.size y2.1.1.1) : Nat) : Int)
  let n4 : Int := (Go.IntKind.wrap Go.IntKind.i64 (n1 - n3))
  obind (varint_Size y2.1.2.1.1) fun y5 =>
  let b6 : Bool := (n4 == y5.1)
  obindP (frame_reader_need_h0 b6 y2.1) (
    some none) fun y7 =>
  let b8 : Bool := (y7.1.2.1.1 == (0 : Int))
  bif b8 then
    frame_framer_read_h0_0 y7.1.2.1.1 true y7.1
  else
    let b9 : Bool := (y7.1.2.1.1 == (1 : Int))
    bif b9 then
      frame_framer_read_h0_0 y7.1.2.1.1 true y7.1
    else
      let b10 : Bool := (y7.1.2.1.1 == (30 : Int))
      frame_framer_read_h0_0 y7.1.2.1.1 b10 y7.1
theorem ex_frame_framer_read_h0 : ∃ f, f = @b_frame_framer_read_h0 := ⟨_, rfl⟩
noncomputable def frame_framer_read_h0 := Classical.choose ex_frame_framer_read_h0
theorem frame_framer_read_h0_eq : @frame_framer_read_h0 = @b_frame_framer_read_h0 := Classical.choose_spec ex_frame_framer_read_h0
noncomputable def hb_frame_framer_read_h0 : HCon := HCon.mkP 149 pa_frame_framer_read_h0 pH_frame_framer_read_h0 qa_frame_framer_read_h0 qH_frame_framer_read_h0 R_frame_framer_read_h0 default (fun x => b_frame_framer_read_h0 x.2.1) (fun r => ((), (r.1, ()))) (fun y => (y.2.1, ())) (fun _ => rfl)
noncomputable def h_frame_framer_read_h0 : HCon := HCon.mkP 149 pa_frame_framer_read_h0 pH_frame_framer_read_h0 qa_frame_framer_read_h0 qH_frame_framer_read_h0 R_frame_framer_read_h0 default (fun x => frame_framer_read_h0 x.2.1) (fun r => ((), (r.1, ()))) (fun y => (y.2.1, ())) (fun _ => rfl)
theorem hb_frame_framer_read_h0_ok : hb_frame_framer_read_h0.Sound prog Inv gInv 88 :=
  hcon_run (M := m_frame_framer_read_h0) (f := f88) rfl ks_frame_framer_read_h0 100000 (X := x_frame_framer_read_h0_0) (fun base S0 cs0 hn hf => have hfin : H_frame_framer_read_h0 base S0 := ⟨hn, hf⟩; o_frame_framer_read_h0_0 hfin) (by intro x; kernel_rfl)
theorem h_frame_framer_read_h0_ok : h_frame_framer_read_h0.Sound prog Inv gInv 88 := by
  have e : h_frame_framer_read_h0 = hb_frame_framer_read_h0 := by unfold h_frame_framer_read_h0 hb_frame_framer_read_h0; rw [frame_framer_read_h0_eq]
  rw [e]; exact hb_frame_framer_read_h0_ok
end Go.Proofs.YtjdjlijjolibkaaDoor.V
namespace Go.Proofs.YtjdjlijjolibkaaDoor.V
open Go.RowKit Go.Proofs.Tryd
set_option maxRecDepth 100000
set_option linter.unusedVariables false
noncomputable def m_frame_Get : Mach prog Inv gInv := mach bas [(38, f38), (87, f87), (88, f88)] ⟨ok38, ok87, ok88, trivial⟩ [] trivial [] trivial [(88, h_frame_framer_read_h0)] ⟨⟨h_frame_framer_read_h0_ok, FnOk.callable ok88⟩, trivial⟩
/-! ### domino/frame.Get -/
@[reducible] def r_frame_Get : List Ty := [T_frame_Frame, .str, (.int .i64)]
noncomputable def b_frame_Get (a0 : ByteArray) : Option (D_frame_Frame × ByteArray × Int × Unit) :=
  obindP (frame_framer_read_h0 ((a0, ()), ((0, (0, (0, (0, (0, (0, (0, (0, (false, (⟨#[]⟩, (⟨#[]⟩, (⟨#[]⟩, ([], ()))))))))))))), ()))) (some ((0, (0, (0, (0, (0, (0, (0, (0, (false, (⟨#[]⟩, (⟨#[]⟩, (⟨#[]⟩, ([], ()))))))))))))), (⟨#[]⟩, (60, ())))) fun y =>
    some (y.1.2.1, (y.1.1.1, (0, ())))
theorem ex_frame_Get : ∃ f, f = @b_frame_Get := ⟨_, rfl⟩
noncomputable def frame_Get := Classical.choose ex_frame_Get
theorem frame_Get_eq : @frame_Get = @b_frame_Get := Classical.choose_spec ex_frame_Get
noncomputable def cb_frame_Get : Con := ⟨[.str], r_frame_Get, fun x => b_frame_Get x.1⟩
noncomputable def c_frame_Get : Con := ⟨[.str], r_frame_Get, fun x => frame_Get x.1⟩
theorem cb_frame_Get_ok : cb_frame_Get.Sound prog Inv gInv 38 :=
  defer_con (M := m_frame_Get) inv_g (f := f38) rfl 30 (by intro x; kernel_rfl)
theorem c_frame_Get_ok : c_frame_Get.Sound prog Inv gInv 38 := by
  have e : c_frame_Get = cb_frame_Get := by unfold c_frame_Get cb_frame_Get; rw [frame_Get_eq]
  rw [e]; exact cb_frame_Get_ok
end Go.Proofs.YtjdjlijjolibkaaDoor.V
/- What frame.Get answers, in plain Lean: a reader of bytes. -/
namespace Go.Proofs.YtjdjlijjolibkaaDoor.V
open Go.RowKit
set_option linter.unusedVariables false
/-! ### readers -/
abbrev Pr (α : Type) := List Int → Option (α × List Int)
def pb {α β : Type} (p : Pr α) (f : α → Pr β) : Pr β := fun l => match p l with
  | some (a, r) => f a r
  | none => none
def pr {α : Type} (a : α) : Pr α := fun l => some (a, l)
def pg (b : Bool) : Pr Unit := fun l => bif b then some ((), l) else none
def ptake (n : Nat) : Pr (List Int) := fun l => if n ≤ l.length then some (l.take n, l.drop n) else none
theorem pb_assoc {α β γ : Type} (p : Pr α) (f : α → Pr β) (g : β → Pr γ) : pb (pb p f) g = pb p fun a => pb (f a) g := by
  funext l
  simp only [pb]
  cases p l <;> rfl
theorem pb_pr {α β : Type} (a : α) (f : α → Pr β) : pb (pr a) f = f a := rfl
theorem pb_gt {β : Type} {b : Bool} (h : b = true) (f : Unit → Pr β) : pb (pg b) f = f () := by subst h; rfl
theorem pb_gf {β : Type} {b : Bool} (h : b = false) (f : Unit → Pr β) (l : List Int) : pb (pg b) f l = none := by subst h; rfl
/-- What is behind what was read was there. -/
def Suf {α : Type} (p : Pr α) : Prop := ∀ l a r, p l = some (a, r) → ∃ q, l = q ++ r
/-- More bytes behind turn nothing. -/
def Mono {α : Type} (p : Pr α) : Prop := ∀ l a r t, p l = some (a, r) → p (l ++ t) = some (a, r ++ t)
theorem Suf.pr {α : Type} (a : α) : Suf (pr a) := fun l b r h => by cases h; exact ⟨[], rfl⟩
theorem Mono.pr {α : Type} (a : α) : Mono (pr a) := fun l b r t h => by cases h; rfl
theorem Suf.pg (b : Bool) : Suf (pg b) := fun l a r h => by
  cases b with
  | true => cases h; exact ⟨[], rfl⟩
  | false => cases h
theorem Mono.pg (b : Bool) : Mono (pg b) := fun l a r t h => by
  cases b with
  | true => cases h; rfl
  | false => cases h
theorem pb_some {α β : Type} {p : Pr α} {f : α → Pr β} {l : List Int} {b : β} {r : List Int} (h : pb p f l = some (b, r)) : ∃ a r1, p l = some (a, r1) ∧ f a r1 = some (b, r) := by
  simp only [pb] at h
  cases hp : p l with
  | none => rw [hp] at h; cases h
  | some x => rw [hp] at h; exact ⟨x.1, x.2, rfl, h⟩
theorem Suf.bind {α β : Type} {p : Pr α} {f : α → Pr β} (h : Suf p) (k : ∀ a, Suf (f a)) : Suf (pb p f) := fun l b r e => by
  obtain ⟨a, r1, e1, e2⟩ := pb_some e
  obtain ⟨q1, rfl⟩ := h _ _ _ e1
  obtain ⟨q2, rfl⟩ := k a _ _ _ e2
  exact ⟨q1 ++ q2, by simp⟩
theorem Mono.bind {α β : Type} {p : Pr α} {f : α → Pr β} (h : Mono p) (k : ∀ a, Mono (f a)) : Mono (pb p f) := fun l b r t e => by
  obtain ⟨a, r1, e1, e2⟩ := pb_some e
  simp only [pb, h _ _ _ t e1, k a _ _ _ t e2]
theorem Suf.take (n : Nat) : Suf (ptake n) := fun l a r h => by
  simp only [ptake] at h
  split at h
  · cases h; exact ⟨l.take n, (List.take_append_drop n l).symm⟩
  · cases h
theorem Mono.take (n : Nat) : Mono (ptake n) := fun l a r t h => by
  simp only [ptake] at h
  split at h
  · rename_i hn
    cases h
    have : n ≤ (l ++ t).length := by simp; omega
    simp only [ptake, this, if_true, List.take_append_of_le_length hn, List.drop_append_of_le_length hn]
  · cases h
theorem vget_some {l : List Int} {n : Int} {r : List Int} (h : vget l = some (n, r)) : ∃ q, l = q ++ r ∧ 1 ≤ q.length ∧ (Byt l → In62 n) ∧ ∀ t, vget (q ++ t) = some (n, t) := by
  cases l with
  | nil => cases h
  | cons b l =>
    by_cases h1 : b < 64
    · simp only [vget, h1, if_true, Option.some.injEq, Prod.mk.injEq] at h
      obtain ⟨rfl, rfl⟩ := h
      exact ⟨[b], rfl, by simp, fun hb => by have := (Byt.cons.mp hb).1; unfold In62; omega, fun t => by simp [vget, h1]⟩
    · by_cases h2 : b < 128
      · rcases l with _ | ⟨b1, l⟩
        · simp [vget, h1, h2] at h
        · simp only [vget, h1, h2, if_true, if_false, Option.some.injEq, Prod.mk.injEq] at h
          obtain ⟨rfl, rfl⟩ := h
          refine ⟨[b, b1], rfl, by simp, fun hb => ?_, fun t => by simp [vget, h1, h2]⟩
          simp only [Byt.cons] at hb
          unfold In62; omega
      · by_cases h3 : b < 192
        · rcases l with _ | ⟨b1, _ | ⟨b2, _ | ⟨b3, l⟩⟩⟩
          case cons.cons.cons =>
            simp only [vget, h1, h2, h3, if_true, if_false, Option.some.injEq, Prod.mk.injEq] at h
            obtain ⟨rfl, rfl⟩ := h
            refine ⟨[b, b1, b2, b3], rfl, by simp, fun hb => ?_, fun t => by simp [vget, h1, h2, h3]⟩
            simp only [Byt.cons] at hb
            unfold In62; omega
          all_goals simp [vget, h1, h2, h3] at h
        · rcases l with _ | ⟨b1, _ | ⟨b2, _ | ⟨b3, _ | ⟨b4, _ | ⟨b5, _ | ⟨b6, _ | ⟨b7, l⟩⟩⟩⟩⟩⟩⟩
          case cons.cons.cons.cons.cons.cons.cons =>
            simp only [vget, h1, h2, h3, if_false, Option.some.injEq, Prod.mk.injEq] at h
            obtain ⟨rfl, rfl⟩ := h
            refine ⟨[b, b1, b2, b3, b4, b5, b6, b7], rfl, by simp, fun hb => ?_, fun t => by simp [vget, h1, h2, h3]⟩
            simp only [Byt.cons] at hb
            unfold In62; omega
          all_goals simp [vget, h1, h2, h3] at h
theorem Suf.vget : Suf vget := fun l a r h => by
  obtain ⟨q, e, _⟩ := vget_some h
  exact ⟨q, e⟩
theorem Mono.vget : Mono vget := fun l a r t h => by
  obtain ⟨q, rfl, _, _, k⟩ := vget_some h
  rw [List.append_assoc]; exact k _
theorem vget_vb (n : Int) (h : In62 n) (t : List Int) : vget (vb n ++ t) = some (n, t) := by
  obtain ⟨h0, h1⟩ := h
  unfold vb
  split
  · rename_i e; simp [vget, e]
  · split
    · rename_i e1 e2
      have c1 : ¬ 64 + n / 256 < 64 := by omega
      have c2 : 64 + n / 256 < 128 := by omega
      simp only [List.cons_append, List.nil_append, vget, c1, c2, if_true, if_false]
      congr 2; omega
    · split
      · rename_i e1 e2 e3
        have c1 : ¬ 128 + n / 16777216 < 64 := by omega
        have c2 : ¬ 128 + n / 16777216 < 128 := by omega
        have c3 : 128 + n / 16777216 < 192 := by omega
        simp only [List.cons_append, List.nil_append, vget, c1, c2, c3, if_true, if_false]
        congr 2; omega
      · rename_i e1 e2 e3
        have c1 : ¬ 192 + n / 72057594037927936 < 64 := by omega
        have c2 : ¬ 192 + n / 72057594037927936 < 128 := by omega
        have c3 : ¬ 192 + n / 72057594037927936 < 192 := by omega
        simp only [List.cons_append, List.nil_append, vget, c1, c2, c3, if_false]
        congr 2; omega
theorem vb_vsize (n : Int) (h : In62 n) : (((vb n).length : Nat) : Int) = vsize n := by
  obtain ⟨h0, h1⟩ := h
  unfold vb vsize
  split
  · rfl
  · split
    · rfl
    · split
      · rfl
      · rfl
/-! ### a frame -/
abbrev eB : ByteArray := ⟨#[]⟩
abbrev zF (k : Int) : D_frame_Frame := (k, 0, 0, 0, 0, 0, 0, 0, false, eB, eB, eB, [], ())
def plong : Pr ByteArray := pb vget fun n => pb (ptake n.toNat) fun bs => pr (bytesStr bs)
def pstr (n : Nat) : Pr ByteArray := pb (ptake n) fun bs => pr (bytesStr bs)
def prest : Pr ByteArray := fun l => some (bytesStr l, [])
def gapsP : Nat → Int → Pr (List D_ranges_Range)
  | 0, _ => pr []
  | n + 1, lo => pb vget fun gap => pb vget fun len => pb (pg (decide (gap + 2 ≤ lo) && decide (len ≤ lo - gap - 2))) fun _ =>
    pb (gapsP n (lo - gap - 2 - len)) fun rs => pr ((lo - gap - 2 - len, lo - gap - 2, ()) :: rs)
def ackP : Pr D_frame_Frame := pb vget fun hi => pb vget fun delay => pb vget fun cnt => pb vget fun first => pb (pg (decide (cnt < 32) && decide (first ≤ hi))) fun _ =>
  pb (gapsP cnt.toNat (hi - first)) fun rs => pr (2, 0, 0, 0, 0, 0, 0, delay, false, eB, eB, eB, ((hi - first, hi, ()) :: rs).reverse, ())
def streamP (fin : Bool) (off len : Bool) : Pr D_frame_Frame := pb vget fun id => pb (bif off then vget else pr 0) fun o => pb (bif len then plong else prest) fun data =>
  pr (8, id, o, 0, 0, 0, 0, 0, fin, data, eB, eB, [], ())
def bodyP (k : Int) : Pr D_frame_Frame :=
  bif k == 0 || (k == 1 || k == 30) then pr (zF k)
  else bif k == 2 then ackP
  else bif k == 4 then pb vget fun id => pb vget fun code => pb vget fun mx => pr (4, id, 0, mx, code, 0, 0, 0, false, eB, eB, eB, [], ())
  else bif k == 5 then pb vget fun id => pb vget fun code => pr (5, id, 0, 0, code, 0, 0, 0, false, eB, eB, eB, [], ())
  else bif k == 6 then pb vget fun off => pb plong fun data => pr (6, 0, off, 0, 0, 0, 0, 0, false, data, eB, eB, [], ())
  else bif k == 8 then streamP false false false
  else bif k == 9 then streamP true false false
  else bif k == 10 then streamP false false true
  else bif k == 11 then streamP true false true
  else bif k == 12 then streamP false true false
  else bif k == 13 then streamP true true false
  else bif k == 14 then streamP false true true
  else bif k == 15 then streamP true true true
  else bif k == 16 || (k == 18 || (k == 19 || (k == 20 || (k == 22 || k == 23)))) then pb vget fun mx => pr (k, 0, 0, mx, 0, 0, 0, 0, false, eB, eB, eB, [], ())
  else bif k == 17 || k == 21 then pb vget fun id => pb vget fun mx => pr (k, id, 0, mx, 0, 0, 0, 0, false, eB, eB, eB, [], ())
  else bif k == 24 then pb vget fun seq => pb vget fun prior => pb (ptake 1) fun n => pb (pg (n == [8])) fun _ => pb (pstr 8) fun cid => pb (pstr 16) fun tok =>
    pr (24, 0, 0, 0, 0, seq, prior, 0, false, eB, cid, tok, [], ())
  else bif k == 25 then pb vget fun seq => pr (25, 0, 0, 0, 0, seq, 0, 0, false, eB, eB, eB, [], ())
  else bif k == 26 || k == 27 then pb (pstr 8) fun tok => pr (k, 0, 0, 0, 0, 0, 0, 0, false, eB, eB, tok, [], ())
  else bif k == 28 then pb vget fun code => pb vget fun delay => pb plong fun data => pr (28, 0, 0, 0, code, 0, 0, delay, false, data, eB, eB, [], ())
  else bif k == 29 then pb vget fun code => pb plong fun data => pr (29, 0, 0, 0, code, 0, 0, 0, false, data, eB, eB, [], ())
  else fun _ => none
def finP' (f : D_frame_Frame) : Pr D_frame_Frame := pb (pg (mayFr f)) fun _ => pr f
def getL : Pr D_frame_Frame := fun l => pb vget (fun k r => bif decide (((l.length : Nat) : Int) - ((r.length : Nat) : Int) = vsize k) then pb (bodyP k) finP' r else none) l
/-! ### the program's reader -/
abbrev st (l : List Int) (f : D_frame_Frame) : D_frame_framer := ((bytesStr l, ()), (f, ()))
def outP (o : Option (D_frame_Frame × List Int)) : Option (Option (D_frame_framer × Unit)) := some (o.map fun x => (st x.2 x.1, ()))
theorem obindP_assoc {α β γ : Type} (o : Option (Option α)) (k1 : α → Option (Option β)) (a : Option γ) (k2 : β → Option γ) : obindP (obindP o (some none) k1) a k2 = obindP o a fun y => obindP (k1 y) a k2 := by
  cases o with
  | none => rfl
  | some x => cases x <;> rfl
theorem obindP_ss {α β : Type} (x : α) (a : Option β) (k : α → Option β) : obindP (some (some x)) a k = k x := rfl
theorem obindP_sn {α β : Type} (a : Option β) (k : α → Option β) : obindP (some none) a k = a := rfl
theorem need_is (b : Bool) (d : D_frame_framer) : frame_reader_need_h0 b d = some (bif b then some (d, ()) else none) := by
  rw [frame_reader_need_h0_eq, b_frame_reader_need_h0]
  cases b <;> rfl
theorem strBytes_bs {l : List Int} (h : Byt l) : strBytes (bytesStr l) = l := strBytes_bytesStr h
theorem number_is {l : List Int} (h : Byt l) (f : D_frame_Frame) : frame_reader_number_h0 (st l f) = some ((vget l).map fun x => (x.1, (st x.2 f, ()))) := by
  rw [frame_reader_number_h0_eq, b_frame_reader_number_h0]
  simp only [vget_is, strBytes_bs h, obind_some]
  cases vget l with
  | none => simp [need_is, obindP]
  | some x => simp [need_is, obindP]
theorem Byt.suf {q r : List Int} (h : Byt (q ++ r)) : Byt r := (Byt.app.mp h).2
/-- A number is read. -/
theorem num_pb {f : Int → Pr D_frame_Frame} {l : List Int} {fr : D_frame_Frame} {k : Int × D_frame_framer × Unit → Option (Option (D_frame_framer × Unit))} (hB : Byt l)
    (H : ∀ n r, In62 n → Byt r → r.length < l.length → k (n, (st r fr, ())) = outP (f n r)) : obindP (frame_reader_number_h0 (st l fr)) (some none) k = outP (pb vget f l) := by
  rw [number_is hB]
  cases hv : vget l with
  | none => simp [obindP, pb, hv, outP]
  | some x =>
    obtain ⟨n, r⟩ := x
    obtain ⟨q, rfl, hq, hn, _⟩ := vget_some hv
    simp only [Option.map_some, obindP_ss, pb, hv]
    exact H n r (hn hB) hB.suf (by simp; omega)
theorem take_is {l : List Int} (h : Byt l) (f : D_frame_Frame) (n : Nat) (hn : n ≤ 10000000) (hl : l.length ≤ 1000000) : frame_reader_take_h0 ((n : Nat) : Int) (st l f) = some ((ptake n l).map fun x => (bytesStr x.1, (st x.2 f, ()))) := by
  rw [frame_reader_take_h0_eq, b_frame_reader_take_h0]
  simp only [bytesStr_size, need_is, ptake]
  by_cases c : n ≤ l.length
  · have c1 : ((n : Nat) : Int) ≤ ((l.length : Nat) : Int) := by omega
    have e1 : (bytesStr l).extract 0 n = bytesStr (l.take n) := by
      rw [← strBytes_inj, strBytes_extract, strBytes_bs h, strBytes_bs (fun x hx => h x (List.mem_of_mem_take hx))]; rfl
    have e2 : (bytesStr l).extract n l.length = bytesStr (l.drop n) := by
      rw [← strBytes_inj, strBytes_extract, strBytes_bs h, strBytes_bs (fun x hx => h x (List.mem_of_mem_drop hx)), List.take_length]
    simp only [c1, c, if_true, decide_true, cond_true, obindP_ss, bytesStr_size, Int.toNat_natCast, nn, Int.le_refl, and_self, e1, e2, Option.map_some]
  · have c1 : ¬ ((n : Nat) : Int) ≤ ((l.length : Nat) : Int) := by omega
    simp only [c1, c, if_false, decide_false, cond_false, obindP_sn, Option.map_none]
theorem take_pb {f : ByteArray → Pr D_frame_Frame} {l : List Int} {fr : D_frame_Frame} {n : Nat} {k : ByteArray × D_frame_framer × Unit → Option (Option (D_frame_framer × Unit))} (hB : Byt l) (hn : n ≤ 10000000) (hl : l.length ≤ 1000000)
    (H : ∀ bs r, Byt r → r.length ≤ l.length → bs.length = n → Byt bs → l = bs ++ r → k (bytesStr bs, (st r fr, ())) = outP (f (bytesStr bs) r)) : obindP (frame_reader_take_h0 ((n : Nat) : Int) (st l fr)) (some none) k = outP (pb (pstr n) f l) := by
  rw [take_is hB fr n hn hl]
  simp only [pstr, pb_assoc, pb_pr]
  by_cases c : n ≤ l.length
  · simp only [ptake, c, if_true, Option.map_some, obindP_ss, pb]
    exact H _ _ (fun x hx => hB x (List.mem_of_mem_drop hx)) (by simp) (by simp; omega) (fun x hx => hB x (List.mem_of_mem_take hx)) (List.take_append_drop n l).symm
  · simp only [ptake, c, if_false, Option.map_none, obindP_sn, pb, outP]
theorem long_pb {f : ByteArray → Pr D_frame_Frame} {l : List Int} {fr : D_frame_Frame} {k : ByteArray × D_frame_framer × Unit → Option (Option (D_frame_framer × Unit))} (hB : Byt l) (hl : l.length ≤ 1000000)
    (H : ∀ bs r, Byt r → r.length ≤ l.length → Byt bs → k (bytesStr bs, (st r fr, ())) = outP (f (bytesStr bs) r)) : obindP (frame_reader_long_h0 (st l fr)) (some none) k = outP (pb plong f l) := by
  rw [frame_reader_long_h0_eq, b_frame_reader_long_h0]
  simp only [obindP_assoc, obindP_ss, plong, pb_assoc]
  refine num_pb hB fun n r hn hr hlr => ?_
  simp only [bytesStr_size]
  rw [wrap_u64 _ (by omega) (by omega), need_is]
  obtain ⟨n0, n1⟩ := hn
  by_cases c : n ≤ ((r.length : Nat) : Int)
  · simp only [c, decide_true, cond_true, obindP_ss]
    rw [wrap_i64 n (by omega) (by omega)]
    have := take_pb (f := f) (n := n.toNat) (fr := fr) (k := k) hr (by omega) (by omega) (fun bs r2 h1 h2 h3 h4 h5 => H bs r2 h1 (by omega) h4)
    rw [show ((n.toNat : Nat) : Int) = n by omega] at this
    simp only [pstr, pb_assoc] at this
    exact this
  · have c2 : ¬ n.toNat ≤ r.length := by omega
    simp only [c, decide_false, cond_false, obindP_sn, pb, ptake, c2, if_false, outP, Option.map_none]
end Go.Proofs.YtjdjlijjolibkaaDoor.V
/- What frame.Get answers: an Ack. -/
namespace Go.Proofs.YtjdjlijjolibkaaDoor.V
open Go.RowKit
section
variable (k id off mx code seq prior delay : Int) (fin : Bool) (data cid tok : ByteArray)
theorem number1_is {l : List Int} (h : Byt l) (L : List D_ranges_Range) : frame_reader_number_h1 (bytesStr l) k id off mx code seq prior delay fin data cid tok L =
    some ((vget l).map fun x => (x.1, (bytesStr x.2, (k, (id, (off, (mx, (code, (seq, (prior, (delay, (fin, (data, (cid, (tok, (L, ())))))))))))))))) := by
  rw [frame_reader_number_h1_eq, b_frame_reader_number_h1]
  simp only [vget_is, strBytes_bs h, obind_some, frame_reader_need_h1_eq, b_frame_reader_need_h1]
  cases vget l with
  | none => simp [obindP]
  | some x => simp [obindP]
theorem back_loop (s : ByteArray) : ∀ (n : Nat) (mid pre suf : List D_ranges_Range) (m : Nat), mid.length ≤ n → n < m → (pre ++ (mid ++ suf)).length ≤ 1000 →
    frame_framer_ack_h0_1 m ((pre.length : Nat) : Int) (((pre.length : Nat) : Int) + ((mid.length : Nat) : Int) - 1) s k id off mx code seq prior delay fin data cid tok (pre ++ (mid ++ suf)) =
      some (some (s, (k, (id, (off, (mx, (code, (seq, (prior, (delay, (fin, (data, (cid, (tok, (pre ++ (mid.reverse ++ suf), ())))))))))))))))  := by
  intro n
  induction n using Nat.strongRecOn with
  | _ n ih =>
    intro mid pre suf m hn hm hl
    obtain ⟨m, rfl⟩ : ∃ k, m = k + 1 := ⟨m - 1, by omega⟩
    have done : mid.length ≤ 1 → mid.reverse = mid := by
      intro h
      match mid, h with
      | [], _ => rfl
      | [x], _ => rfl
    by_cases h1 : mid.length ≤ 1
    · have c : ¬ ((pre.length : Nat) : Int) < ((pre.length : Nat) : Int) + ((mid.length : Nat) : Int) - 1 := by omega
      rw [done h1]
      simp only [frame_framer_ack_h0_1, t_frame_framer_ack_h0_1, c, decide_false, cond_false]
    · obtain ⟨x, r, rfl⟩ : ∃ x r, mid = x :: r := by
        cases mid with
        | nil => simp at h1
        | cons x r => exact ⟨x, r, rfl⟩
      obtain ⟨md, y, rfl⟩ : ∃ md y, r = md ++ [y] := by
        rcases List.eq_nil_or_concat r with e | ⟨md, y, e⟩
        · subst e; simp at h1
        · exact ⟨md, y, by simpa using e⟩
      have ej : ((pre.length : Nat) : Int) + (((x :: (md ++ [y])).length : Nat) : Int) - 1 = ((pre.length + 1 + md.length : Nat) : Int) := by simp; omega
      have eL : pre ++ ((x :: (md ++ [y])) ++ suf) = pre ++ x :: (md ++ y :: suf) := by simp
      rw [ej, eL]
      have c : ((pre.length : Nat) : Int) < ((pre.length + 1 + md.length : Nat) : Int) := by omega
      have c1 : ((pre.length + 1 + md.length : Nat) : Int) < (((pre ++ x :: (md ++ y :: suf)).length : Nat) : Int) := by simp; omega
      have c2 : ((pre.length + 1 + md.length : Nat) : Int) < (((pre ++ y :: (md ++ y :: suf)).length : Nat) : Int) := by simp; omega
      have ey : ((y.1, (y.2.1, ())) : D_ranges_Range) = y := rfl
      have ex : ((x.1, (x.2.1, ())) : D_ranges_Range) = x := rfl
      rw [frame_framer_ack_h0_1]
      simp only [t_frame_framer_ack_h0_1, c, c1, c2, mid_lt, nn, and_self, decide_true, cond_true, Int.toNat_natCast, getD_mid, getD_mid2, set_mid, set_mid2, ey, ex]
      have w1 : IntKind.wrap .i64 (((pre.length : Nat) : Int) + 1) = (((pre ++ [y]).length : Nat) : Int) := by rw [wrap_i64 _ (by simp at hl; omega) (by simp at hl; omega)]; simp
      have w2 : IntKind.wrap .i64 (((pre.length + 1 + md.length : Nat) : Int) - 1) = (((pre ++ [y]).length : Nat) : Int) + ((md.length : Nat) : Int) - 1 := by rw [wrap_i64 _ (by simp at hl; omega) (by simp at hl; omega)]; simp
      rw [w1, w2, show pre ++ y :: (md ++ x :: suf) = (pre ++ [y]) ++ (md ++ (x :: suf)) by simp]
      simp at hn
      rw [ih (n - 2) (by omega) md (pre ++ [y]) (x :: suf) m (by omega) (by omega) (by simp at hl ⊢; omega)]
      simp
/-- What an Ack's reader tells. -/
def ackOut (s : ByteArray) (L : List D_ranges_Range) : R_frame_framer_ack_h0 := (s, (k, (id, (off, (mx, (code, (seq, (prior, (delay, (fin, (data, (cid, (tok, (L, ()))))))))))))))
theorem ack_loop (cnt : Nat) (hc : cnt < 40) : ∀ (n : Nat) (l : List Int) (lo x : Int) (acc : List D_ranges_Range) (i70 : Int) (m : Nat), n < m → n ≤ cnt → Byt l → 0 ≤ lo → lo < 4611686018427387904 → acc.length + n ≤ 100 →
    frame_framer_ack_h0_0 m ((cnt : Nat) : Int) ((cnt - n : Nat) : Int) (bytesStr l) k id off mx code seq prior delay fin data cid tok i70 (acc ++ [(lo, x, ())]) =
      some ((gapsP n lo l).map fun r => ackOut k id off mx code seq prior delay fin data cid tok (bytesStr r.2) ((acc ++ [(lo, x, ())]) ++ r.1).reverse) := by
  intro n
  induction n with
  | zero =>
    intro l lo x acc i70 m hm _ hB _ _ ha
    obtain ⟨m, rfl⟩ : ∃ k, m = k + 1 := ⟨m - 1, by omega⟩
    have w : IntKind.wrap .i64 ((((acc ++ [(lo, x, ())]).length : Nat) : Int) - 1) = (((([] : List D_ranges_Range).length : Nat) : Int) + (((acc ++ [(lo, x, ())]).length : Nat) : Int) - 1) := by
      rw [wrap_i64 _ (by simp <;> omega) (by simp <;> omega)]; simp
    simp only [frame_framer_ack_h0_0, t_frame_framer_ack_h0_0, Nat.sub_zero, Int.lt_irrefl, decide_false, cond_false, w, frame_framer_ack_h0_1'_eq, b_frame_framer_ack_h0_1']
    have := back_loop k id off mx code seq prior delay fin data cid tok (bytesStr l) (acc ++ [(lo, x, ())]).length (acc ++ [(lo, x, ())]) [] [] (Int.toNat (((([] : List D_ranges_Range).length : Nat) : Int) + (((acc ++ [(lo, x, ())]).length : Nat) : Int) - 1 - 0) + 2) (Nat.le_refl _) (by simp) (by simp; omega)
    simp only [List.nil_append, List.append_nil] at this
    simp only [gapsP, pr, Option.map_some, List.append_nil, ackOut]
    exact this
  | succ n ih =>
    intro l lo x acc i70 m hm hn hB h0 h1 ha
    obtain ⟨m, rfl⟩ : ∃ k, m = k + 1 := ⟨m - 1, by omega⟩
    have c1 : ((cnt - (n + 1) : Nat) : Int) < ((cnt : Nat) : Int) := by omega
    have w : IntKind.wrap .i64 ((((acc ++ [(lo, x, ())]).length : Nat) : Int) - 1) = ((acc.length : Nat) : Int) := by rw [wrap_i64 _ (by simp <;> omega) (by simp <;> omega)]; simp
    have c2 : ((acc.length : Nat) : Int) < (((acc ++ [(lo, x, ())]).length : Nat) : Int) := by simp; omega
    have g : (acc ++ [(lo, x, ())]).getD acc.length (Ty.dflt T_ranges_Range) = (lo, x, ()) := getD_mid acc _ [] _
    have wi : IntKind.wrap .u64 (((cnt - (n + 1) : Nat) : Int) + 1) = ((cnt - n : Nat) : Int) := by rw [wrap_u64 _ (by omega) (by omega)]; omega
    simp only [frame_framer_ack_h0_0, t_frame_framer_ack_h0_0, c1, decide_true, cond_true, w, nn, c2, and_self, Int.toNat_natCast, g, frame_reader_into_h11_eq, b_frame_reader_into_h11, number1_is _ _ _ _ _ _ _ _ _ _ _ _ hB, gapsP, pb]
    cases hv : vget l with
    | none => simp [obindP]
    | some p =>
      obtain ⟨gap, l1⟩ := p
      obtain ⟨q, rfl, _, hg, _⟩ := vget_some hv
      have hgI := hg hB
      have hB1 := hB.suf
      simp only [Option.map_some, obindP_ss, number1_is _ _ _ _ _ _ _ _ _ _ _ _ hB1]
      cases hv2 : vget l1 with
      | none => simp [obindP]
      | some p =>
        obtain ⟨len, l2⟩ := p
        obtain ⟨q2, rfl, _, hlen, _⟩ := vget_some hv2
        have hlI := hlen hB1
        have hB2 := hB1.suf
        obtain ⟨g0, g1⟩ := hgI
        obtain ⟨n0, n1⟩ := hlI
        simp only [Option.map_some, obindP_ss]
        rw [wrap_u64 (gap + 2) (by omega) (by omega)]
        by_cases d1 : gap + 2 ≤ lo
        · rw [wrap_u64 (lo - gap) (by omega) (by omega), wrap_u64 (lo - gap - 2) (by omega) (by omega)]
          by_cases d2 : len ≤ lo - gap - 2
          · rw [wrap_u64 (lo - gap - 2 - len) (by omega) (by omega)]
            have c3 : (acc ++ [(lo, x, ())]).length + [((lo - gap - 2 - len, (lo - gap - 2, ())) : D_ranges_Range)].length ≤ 4294967296 := by simp; omega
            simp only [d1, d2, decide_true, cond_true, frame_reader_need_h1_eq, b_frame_reader_need_h1, Bool.not_true, cond_false, obindP_ss, c3, wi, Bool.and_self, pg]
            rw [ih l2 (lo - gap - 2 - len) (lo - gap - 2) (acc ++ [(lo, x, ())]) len m (by omega) (by omega) hB2 (by omega) (by omega) (by simp; omega)]
            cases gapsP n (lo - gap - 2 - len) l2 with
            | none => simp only [Option.map_none]
            | some r => simp only [pr, ackOut, Option.map_some, List.append_assoc, List.cons_append, List.nil_append]
          · simp only [d1, d2, decide_true, decide_false, cond_true, frame_reader_need_h1_eq, b_frame_reader_need_h1, Bool.not_false, obindP_sn, Bool.and_false, pg, cond_false, Option.map_none]
        · simp only [d1, decide_false, cond_false, frame_reader_need_h1_eq, b_frame_reader_need_h1, Bool.not_false, cond_true, obindP_sn, Bool.false_and, pg, Option.map_none]
end
end Go.Proofs.YtjdjlijjolibkaaDoor.V
/- What frame.Get answers: all kinds. -/
namespace Go.Proofs.YtjdjlijjolibkaaDoor.V
open Go.RowKit
theorem last_is (s : ByteArray) (k id off mx code seq prior delay : Int) (fin : Bool) (data cid tok : ByteArray) (set : List D_ranges_Range) (h : FrOk (k, id, off, mx, code, seq, prior, delay, fin, data, cid, tok, set, ())) :
    frame_framer_read_h0_4 s k id off mx code seq prior delay fin data cid tok set = some (bif mayFr (k, id, off, mx, code, seq, prior, delay, fin, data, cid, tok, set, ()) then some (((s, ()), ((k, id, off, mx, code, seq, prior, delay, fin, data, cid, tok, set, ()), ())), ()) else none) := by
  rw [frame_framer_read_h0_4_eq, b_frame_framer_read_h0_4, may_is_fr _ h]
  simp only [obind_some, need_is]
  cases mayFr (k, id, off, mx, code, seq, prior, delay, fin, data, cid, tok, set, ()) <;> rfl
theorem last_out (r : List Int) (k id off mx code seq prior delay : Int) (fin : Bool) (data cid tok : ByteArray) (set : List D_ranges_Range) (h : FrOk (k, id, off, mx, code, seq, prior, delay, fin, data, cid, tok, set, ())) :
    frame_framer_read_h0_4 (bytesStr r) k id off mx code seq prior delay fin data cid tok set = outP (finP' (k, id, off, mx, code, seq, prior, delay, fin, data, cid, tok, set, ()) r) := by
  rw [last_is _ _ _ _ _ _ _ _ _ _ _ _ _ _ h]
  simp only [finP', pb, pg]
  cases mayFr (k, id, off, mx, code, seq, prior, delay, fin, data, cid, tok, set, ()) <;> rfl
theorem in62_64 {n : Int} (h : In62 n) : 0 ≤ n ∧ n < 18446744073709551616 := by unfold In62 at h; omega
theorem in62_0 : In62 0 := by unfold In62; omega
/-- A frame out of numbers of 62 bits, without ranges. -/
theorem frok0 {k id off mx code seq prior delay : Int} {fin : Bool} {data cid tok : ByteArray} (h1 : In62 k) (h2 : In62 id) (h3 : In62 off) (h4 : In62 mx) (h5 : In62 code) (h6 : In62 seq) (h7 : In62 prior) (h8 : In62 delay) :
    FrOk (k, id, off, mx, code, seq, prior, delay, fin, data, cid, tok, [], ()) :=
  ⟨in62_64 h1, in62_64 h2, in62_64 h3, in62_64 h4, in62_64 h5, in62_64 h6, in62_64 h7, in62_64 h8, by simp, by simp⟩
theorem rest_pb {f : ByteArray → Pr D_frame_Frame} {l : List Int} {fr : D_frame_Frame} {k : ByteArray × D_frame_framer × Unit → Option (Option (D_frame_framer × Unit))} (hB : Byt l) (hl : l.length ≤ 1000000)
    (H : k (bytesStr l, (st [] fr, ())) = outP (f (bytesStr l) [])) : obindP (frame_reader_take_h0 ((l.length : Nat) : Int) (st l fr)) (some none) k = outP (pb prest f l) := by
  rw [take_is hB fr _ (by omega) hl]
  simp only [ptake, Nat.le_refl, if_true, Option.map_some, obindP_ss, List.take_length, List.drop_length, pb, prest]
  exact H
theorem stream0_is (q : Int) (len : Bool) (hq : (bits .and .u64 q 2 != 0) = len) (id off : Int) (fin : Bool) {l : List Int} (hB : Byt l) (hl : l.length ≤ 1000000) (h1 : In62 id) (h2 : In62 off) :
    obindP (frame_framer_stream_h0_0 q (st l (8, id, off, 0, 0, 0, 0, 0, fin, eB, eB, eB, [], ()))) (some none) (fun y => frame_framer_read_h0_4 y.1.1.1 y.1.2.1.1 y.1.2.1.2.1 y.1.2.1.2.2.1 y.1.2.1.2.2.2.1 y.1.2.1.2.2.2.2.1 y.1.2.1.2.2.2.2.2.1 y.1.2.1.2.2.2.2.2.2.1 y.1.2.1.2.2.2.2.2.2.2.1 y.1.2.1.2.2.2.2.2.2.2.2.1 y.1.2.1.2.2.2.2.2.2.2.2.2.1 y.1.2.1.2.2.2.2.2.2.2.2.2.2.1 y.1.2.1.2.2.2.2.2.2.2.2.2.2.2.1 y.1.2.1.2.2.2.2.2.2.2.2.2.2.2.2.1) =
      outP (pb (bif len then plong else prest) (fun data => finP' (8, id, off, 0, 0, 0, 0, 0, fin, data, eB, eB, [], ())) l) := by
  have i8 : In62 8 := by unfold In62; omega
  rw [frame_framer_stream_h0_0_eq, b_frame_framer_stream_h0_0]
  simp only [hq]
  cases len with
  | true =>
    simp only [cond_true, obindP_assoc, obindP_ss]
    refine long_pb hB hl fun bs r hr hlr hbs => ?_
    exact last_out r _ _ _ _ _ _ _ _ _ _ _ _ _ (frok0 i8 h1 h2 in62_0 in62_0 in62_0 in62_0 in62_0)
  | false =>
    simp only [cond_false, obindP_assoc, obindP_ss, bytesStr_size]
    refine rest_pb hB hl ?_
    exact last_out [] _ _ _ _ _ _ _ _ _ _ _ _ _ (frok0 i8 h1 h2 in62_0 in62_0 in62_0 in62_0 in62_0)
theorem stream_pb (q : Int) (fin off len : Bool) (h1 : (bits .and .u64 q 1 != 0) = fin) (h4 : (bits .and .u64 q 4 != 0) = off) (h2 : (bits .and .u64 q 2 != 0) = len) {l : List Int} (hB : Byt l) (hl : l.length ≤ 1000000) :
    obindP (frame_framer_stream_h0 q (st l (zF q))) (some none) (fun y => frame_framer_read_h0_4 y.1.1.1 y.1.2.1.1 y.1.2.1.2.1 y.1.2.1.2.2.1 y.1.2.1.2.2.2.1 y.1.2.1.2.2.2.2.1 y.1.2.1.2.2.2.2.2.1 y.1.2.1.2.2.2.2.2.2.1 y.1.2.1.2.2.2.2.2.2.2.1 y.1.2.1.2.2.2.2.2.2.2.2.1 y.1.2.1.2.2.2.2.2.2.2.2.2.1 y.1.2.1.2.2.2.2.2.2.2.2.2.2.1 y.1.2.1.2.2.2.2.2.2.2.2.2.2.2.1 y.1.2.1.2.2.2.2.2.2.2.2.2.2.2.2.1) =
      outP (pb (streamP fin off len) finP' l) := by
  rw [frame_framer_stream_h0_eq, b_frame_framer_stream_h0]
  simp only [h1, h4, frame_reader_into_h12_eq, b_frame_reader_into_h12, obindP_assoc, obindP_ss, streamP, pb_assoc, pb_pr]
  refine num_pb hB fun id r hid hr hlr => ?_
  cases off with
  | true =>
    simp only [cond_true, frame_reader_into_h1_eq, b_frame_reader_into_h1, obindP_assoc, obindP_ss]
    refine num_pb hr fun o r2 ho hr2 hlr2 => ?_
    exact stream0_is q len h2 id o fin hr2 (by omega) hid ho
  | false =>
    simp only [cond_false, pb_pr]
    exact stream0_is q len h2 id 0 fin hr (by omega) hid in62_0
theorem gaps_ok : ∀ (n : Nat) (lo : Int) (l : List Int) (rs : List D_ranges_Range) (r : List Int), gapsP n lo l = some (rs, r) → Byt l → 0 ≤ lo → In62 lo → rs.length = n ∧ ∀ x ∈ rs, In62 x.1 ∧ In62 x.2.1
  | 0, lo, l, rs, r, h, _, _, _ => by cases h; simp
  | n + 1, lo, l, rs, r, h, hB, h0, hlo => by
    simp only [gapsP] at h
    obtain ⟨gap, l1, e1, h⟩ := pb_some h
    obtain ⟨len, l2, e2, h⟩ := pb_some h
    obtain ⟨⟨⟩, l3, e3, h⟩ := pb_some h
    obtain ⟨rs', l4, e4, h⟩ := pb_some h
    cases h
    obtain ⟨q1, rfl, _, g1, _⟩ := vget_some e1
    obtain ⟨q2, rfl, _, g2, _⟩ := vget_some e2
    have i1 := g1 hB
    have i2 := g2 hB.suf
    cases hc : (decide (gap + 2 ≤ lo) && decide (len ≤ lo - gap - 2)) with
    | false => rw [hc] at e3; cases e3
    | true =>
      rw [hc] at e3
      cases e3
      simp only [Bool.and_eq_true, decide_eq_true_eq] at hc
      obtain ⟨c1, c2⟩ := hc
      obtain ⟨a0, a1⟩ := i1
      obtain ⟨b0, b1⟩ := i2
      obtain ⟨_, lo1⟩ := hlo
      obtain ⟨k1, k2⟩ := gaps_ok n _ _ _ _ e4 hB.suf.suf (by omega) ⟨by omega, by omega⟩
      refine ⟨by simp [k1], fun x hx => ?_⟩
      rcases List.mem_cons.mp hx with rfl | hx
      · exact ⟨⟨by show 0 ≤ lo - gap - 2 - len; omega, by show lo - gap - 2 - len < _; omega⟩, ⟨by show 0 ≤ lo - gap - 2; omega, by show lo - gap - 2 < _; omega⟩⟩
      · exact k2 x hx
theorem ack_pb {l : List Int} (hB : Byt l) :
    obindP (frame_framer_ack_h0 (st l (zF 2))) (some none) (fun y => frame_framer_read_h0_4 y.1 y.2.1 y.2.2.1 y.2.2.2.1 y.2.2.2.2.1 y.2.2.2.2.2.1 y.2.2.2.2.2.2.1 y.2.2.2.2.2.2.2.1 y.2.2.2.2.2.2.2.2.1 y.2.2.2.2.2.2.2.2.2.1 y.2.2.2.2.2.2.2.2.2.2.1 y.2.2.2.2.2.2.2.2.2.2.2.1 y.2.2.2.2.2.2.2.2.2.2.2.2.1 y.2.2.2.2.2.2.2.2.2.2.2.2.2.1) =
      outP (pb ackP finP' l) := by
  rw [frame_framer_ack_h0_eq, b_frame_framer_ack_h0]
  simp only [frame_reader_into_h10_eq, b_frame_reader_into_h10, obindP_assoc, obindP_ss, ackP, pb_assoc, pb_pr]
  refine num_pb hB fun hi r1 h1 hr1 _ => ?_
  refine num_pb hr1 fun delay r2 h2 hr2 _ => ?_
  refine num_pb hr2 fun cnt r3 h3 hr3 _ => ?_
  refine num_pb hr3 fun first r4 h4 hr4 _ => ?_
  simp only [need_is]
  obtain ⟨a0, a1⟩ := h1
  obtain ⟨c0, c1⟩ := h3
  obtain ⟨f0, f1⟩ := h4
  by_cases e1 : cnt < 32
  · by_cases e2 : first ≤ hi
    · rw [wrap_u64 (hi - first) (by omega) (by omega)]
      simp only [e1, e2, decide_true, cond_true, obindP_ss, Bool.and_self, frame_framer_ack_h0_0'_eq, b_frame_framer_ack_h0_0', pb_gt rfl]
      have := ack_loop 2 0 0 0 0 0 0 delay false eB eB eB cnt.toNat (by omega) cnt.toNat r4 (hi - first) hi [] first (Int.toNat (cnt - 0) + 2) (by omega) (Nat.le_refl _) hr4 (by omega) (by omega) (by simp; omega)
      rw [show ((cnt.toNat : Nat) : Int) = cnt by omega, Nat.sub_self] at this
      simp only [List.nil_append] at this
      rw [show ((0 : Nat) : Int) = 0 from rfl] at this
      rw [this]
      simp only [pb]
      cases hg : gapsP cnt.toNat (hi - first) r4 with
      | none => rfl
      | some x =>
        obtain ⟨rs, r5⟩ := x
        obtain ⟨k1, k2⟩ := gaps_ok _ _ _ _ _ hg hr4 (by omega) ⟨by omega, by omega⟩
        simp only [Option.map_some, obindP_ss, ackOut]
        have i2 : In62 2 := by unfold In62; omega
        have ok0 := frok0 (k := 2) (id := 0) (off := 0) (mx := 0) (code := 0) (seq := 0) (prior := 0) (delay := delay) (fin := false) (data := eB) (cid := eB) (tok := eB) i2 in62_0 in62_0 in62_0 in62_0 in62_0 in62_0 h2
        refine last_out r5 _ _ _ _ _ _ _ _ _ _ _ _ _ ⟨ok0.kind, ok0.id, ok0.off, ok0.max, ok0.code, ok0.seq, ok0.prior, ok0.delay, fun x hx => ?_, ?_⟩
        · simp only [List.mem_reverse, List.cons_append, List.nil_append, List.mem_cons] at hx
          rcases hx with rfl | hx
          · exact ⟨⟨by show 0 ≤ hi - first; omega, by show hi - first < _; omega⟩, ⟨a0, by show hi < _; omega⟩⟩
          · exact ⟨in62_64 (k2 x hx).1, in62_64 (k2 x hx).2⟩
        · show (([(hi - first, hi, ())] ++ rs).reverse).length ≤ 9223372036854775807
          simp; omega
    · simp only [e1, e2, decide_true, decide_false, cond_true, cond_false, obindP_sn, Bool.and_false]
      simp only [pb, pg, cond_false, outP, Option.map_none]
  · simp only [e1, decide_false, cond_false, obindP_sn, Bool.false_and]
    simp only [pb, pg, cond_false, outP, Option.map_none]
end Go.Proofs.YtjdjlijjolibkaaDoor.V
/- What frame.Get answers: each kind. -/
namespace Go.Proofs.YtjdjlijjolibkaaDoor.V
open Go.RowKit
set_option linter.unusedVariables false
/-- Behind the kind. -/
noncomputable def startR (k : Int) (r : List Int) : Option (Option (D_frame_framer × Unit)) :=
  bif k == 0 then frame_framer_read_h0_0 k true (st r (zF k)) else bif k == 1 then frame_framer_read_h0_0 k true (st r (zF k)) else frame_framer_read_h0_0 k (k == 30) (st r (zF k))
theorem i62 (n : Nat) (h : n < 1000) : In62 ((n : Nat) : Int) := by unfold In62; omega
/-- One byte. -/
theorem byte_pb {f : List Int → Pr D_frame_Frame} {l : List Int} {fr : D_frame_Frame} {k : ByteArray × D_frame_framer × Unit → Option (Option (D_frame_framer × Unit))} (hB : Byt l) (hl : l.length ≤ 1000000)
    (H : ∀ b r, (0 ≤ b ∧ b ≤ 255) → Byt r → r.length ≤ l.length → k (bytesStr [b], (st r fr, ())) = outP (f [b] r)) : obindP (frame_reader_take_h0 1 (st l fr)) (some none) k = outP (pb (ptake 1) f l) := by
  have e := take_is hB fr 1 (by omega) hl
  rw [show ((1 : Nat) : Int) = 1 from rfl] at e
  rw [e]
  cases l with
  | nil => rfl
  | cons b r =>
    obtain ⟨h1, h2⟩ := Byt.cons.mp hB
    have c : 1 ≤ (b :: r).length := by simp
    simp only [ptake, c, if_true, Option.map_some, obindP_ss, pb, List.take_succ_cons, List.take_zero, List.drop_succ_cons, List.drop_zero]
    exact H b r h1 h2 (by simp)
theorem body_0 {r : List Int} (hB : Byt r) (hl : r.length ≤ 1000000) : startR 0 r = outP (pb (bodyP 0) finP' r) := by
  have ik : In62 0 := i62 0 (by decide)
  simp only [startR, bodyP, frame_framer_read_h0_0_eq, b_frame_framer_read_h0_0, frame_framer_read_h0_1_eq, b_frame_framer_read_h0_1, frame_framer_read_h0_2_eq, b_frame_framer_read_h0_2, frame_framer_read_h0_3_eq, b_frame_framer_read_h0_3, Int.reduceBEq, Bool.or_false, Bool.or_self, cond_true, cond_false, ge_iff_le, Int.reduceLE, Int.reduceLT, decide_true, decide_false]
  exact last_out r _ _ _ _ _ _ _ _ _ _ _ _ _ (frok0 ik in62_0 in62_0 in62_0 in62_0 in62_0 in62_0 in62_0)
theorem body_1 {r : List Int} (hB : Byt r) (hl : r.length ≤ 1000000) : startR 1 r = outP (pb (bodyP 1) finP' r) := by
  have ik : In62 1 := i62 1 (by decide)
  simp only [startR, bodyP, frame_framer_read_h0_0_eq, b_frame_framer_read_h0_0, frame_framer_read_h0_1_eq, b_frame_framer_read_h0_1, frame_framer_read_h0_2_eq, b_frame_framer_read_h0_2, frame_framer_read_h0_3_eq, b_frame_framer_read_h0_3, Int.reduceBEq, Bool.or_true, Bool.or_false, Bool.or_self, cond_true, cond_false, ge_iff_le, Int.reduceLE, Int.reduceLT, decide_true, decide_false]
  exact last_out r _ _ _ _ _ _ _ _ _ _ _ _ _ (frok0 ik in62_0 in62_0 in62_0 in62_0 in62_0 in62_0 in62_0)
theorem body_2 {r : List Int} (hB : Byt r) (hl : r.length ≤ 1000000) : startR 2 r = outP (pb (bodyP 2) finP' r) := by
  have ik : In62 2 := i62 2 (by decide)
  simp only [startR, bodyP, frame_framer_read_h0_0_eq, b_frame_framer_read_h0_0, frame_framer_read_h0_1_eq, b_frame_framer_read_h0_1, frame_framer_read_h0_2_eq, b_frame_framer_read_h0_2, frame_framer_read_h0_3_eq, b_frame_framer_read_h0_3, Int.reduceBEq, Bool.or_self, cond_true, cond_false, ge_iff_le, Int.reduceLE, Int.reduceLT, decide_true, decide_false]
  exact ack_pb hB
theorem body_4 {r : List Int} (hB : Byt r) (hl : r.length ≤ 1000000) : startR 4 r = outP (pb (bodyP 4) finP' r) := by
  have ik : In62 4 := i62 4 (by decide)
  simp only [startR, bodyP, frame_framer_read_h0_0_eq, b_frame_framer_read_h0_0, frame_framer_read_h0_1_eq, b_frame_framer_read_h0_1, frame_framer_read_h0_2_eq, b_frame_framer_read_h0_2, frame_framer_read_h0_3_eq, b_frame_framer_read_h0_3, Int.reduceBEq, Bool.or_self, cond_true, cond_false, ge_iff_le, Int.reduceLE, Int.reduceLT, decide_true, decide_false]
  simp only [frame_reader_into_h9_eq, b_frame_reader_into_h9, obindP_assoc, obindP_ss, pb_assoc, pb_pr]
  refine num_pb hB fun id r0 hid hr0 hl0 => ?_
  refine num_pb hr0 fun code r1 hcode hr1 hl1 => ?_
  refine num_pb hr1 fun mx r2 hmx hr2 hl2 => ?_
  exact last_out r2 _ _ _ _ _ _ _ _ _ _ _ _ _ (frok0 ik hid in62_0 hmx hcode in62_0 in62_0 in62_0)
theorem body_5 {r : List Int} (hB : Byt r) (hl : r.length ≤ 1000000) : startR 5 r = outP (pb (bodyP 5) finP' r) := by
  have ik : In62 5 := i62 5 (by decide)
  simp only [startR, bodyP, frame_framer_read_h0_0_eq, b_frame_framer_read_h0_0, frame_framer_read_h0_1_eq, b_frame_framer_read_h0_1, frame_framer_read_h0_2_eq, b_frame_framer_read_h0_2, frame_framer_read_h0_3_eq, b_frame_framer_read_h0_3, Int.reduceBEq, Bool.or_self, cond_true, cond_false, ge_iff_le, Int.reduceLE, Int.reduceLT, decide_true, decide_false]
  simp only [frame_reader_into_h6_eq, b_frame_reader_into_h6, obindP_assoc, obindP_ss, pb_assoc, pb_pr]
  refine num_pb hB fun id r0 hid hr0 hl0 => ?_
  refine num_pb hr0 fun code r1 hcode hr1 hl1 => ?_
  exact last_out r1 _ _ _ _ _ _ _ _ _ _ _ _ _ (frok0 ik hid in62_0 in62_0 hcode in62_0 in62_0 in62_0)
theorem body_6 {r : List Int} (hB : Byt r) (hl : r.length ≤ 1000000) : startR 6 r = outP (pb (bodyP 6) finP' r) := by
  have ik : In62 6 := i62 6 (by decide)
  simp only [startR, bodyP, frame_framer_read_h0_0_eq, b_frame_framer_read_h0_0, frame_framer_read_h0_1_eq, b_frame_framer_read_h0_1, frame_framer_read_h0_2_eq, b_frame_framer_read_h0_2, frame_framer_read_h0_3_eq, b_frame_framer_read_h0_3, Int.reduceBEq, Bool.or_self, cond_true, cond_false, ge_iff_le, Int.reduceLE, Int.reduceLT, decide_true, decide_false]
  simp only [frame_reader_into_h1_eq, b_frame_reader_into_h1, obindP_assoc, obindP_ss, pb_assoc, pb_pr]
  refine num_pb hB fun off r0 hoff hr0 hl0 => ?_
  refine long_pb hr0 (by omega) fun bs r1 hr1 hl1 hbs => ?_
  exact last_out r1 _ _ _ _ _ _ _ _ _ _ _ _ _ (frok0 ik in62_0 hoff in62_0 in62_0 in62_0 in62_0 in62_0)
theorem body_8 {r : List Int} (hB : Byt r) (hl : r.length ≤ 1000000) : startR 8 r = outP (pb (bodyP 8) finP' r) := by
  have ik : In62 8 := i62 8 (by decide)
  simp only [startR, bodyP, frame_framer_read_h0_0_eq, b_frame_framer_read_h0_0, frame_framer_read_h0_1_eq, b_frame_framer_read_h0_1, frame_framer_read_h0_2_eq, b_frame_framer_read_h0_2, frame_framer_read_h0_3_eq, b_frame_framer_read_h0_3, Int.reduceBEq, Bool.or_self, cond_true, cond_false, ge_iff_le, Int.reduceLE, Int.reduceLT, decide_true]
  simp only [need_is, cond_true, obindP_ss]
  exact stream_pb 8 false false false (by rw [bits_and_u64 _ _ (by omega) (by omega)]; decide) (by rw [bits_and_u64 _ _ (by omega) (by omega)]; decide) (by rw [bits_and_u64 _ _ (by omega) (by omega)]; decide) hB hl
theorem body_9 {r : List Int} (hB : Byt r) (hl : r.length ≤ 1000000) : startR 9 r = outP (pb (bodyP 9) finP' r) := by
  have ik : In62 9 := i62 9 (by decide)
  simp only [startR, bodyP, frame_framer_read_h0_0_eq, b_frame_framer_read_h0_0, frame_framer_read_h0_1_eq, b_frame_framer_read_h0_1, frame_framer_read_h0_2_eq, b_frame_framer_read_h0_2, frame_framer_read_h0_3_eq, b_frame_framer_read_h0_3, Int.reduceBEq, Bool.or_self, cond_true, cond_false, ge_iff_le, Int.reduceLE, Int.reduceLT, decide_true]
  simp only [need_is, cond_true, obindP_ss]
  exact stream_pb 9 true false false (by rw [bits_and_u64 _ _ (by omega) (by omega)]; decide) (by rw [bits_and_u64 _ _ (by omega) (by omega)]; decide) (by rw [bits_and_u64 _ _ (by omega) (by omega)]; decide) hB hl
theorem body_10 {r : List Int} (hB : Byt r) (hl : r.length ≤ 1000000) : startR 10 r = outP (pb (bodyP 10) finP' r) := by
  have ik : In62 10 := i62 10 (by decide)
  simp only [startR, bodyP, frame_framer_read_h0_0_eq, b_frame_framer_read_h0_0, frame_framer_read_h0_1_eq, b_frame_framer_read_h0_1, frame_framer_read_h0_2_eq, b_frame_framer_read_h0_2, frame_framer_read_h0_3_eq, b_frame_framer_read_h0_3, Int.reduceBEq, Bool.or_self, cond_true, cond_false, ge_iff_le, Int.reduceLE, Int.reduceLT, decide_true]
  simp only [need_is, cond_true, obindP_ss]
  exact stream_pb 10 false false true (by rw [bits_and_u64 _ _ (by omega) (by omega)]; decide) (by rw [bits_and_u64 _ _ (by omega) (by omega)]; decide) (by rw [bits_and_u64 _ _ (by omega) (by omega)]; decide) hB hl
theorem body_11 {r : List Int} (hB : Byt r) (hl : r.length ≤ 1000000) : startR 11 r = outP (pb (bodyP 11) finP' r) := by
  have ik : In62 11 := i62 11 (by decide)
  simp only [startR, bodyP, frame_framer_read_h0_0_eq, b_frame_framer_read_h0_0, frame_framer_read_h0_1_eq, b_frame_framer_read_h0_1, frame_framer_read_h0_2_eq, b_frame_framer_read_h0_2, frame_framer_read_h0_3_eq, b_frame_framer_read_h0_3, Int.reduceBEq, Bool.or_self, cond_true, cond_false, ge_iff_le, Int.reduceLE, Int.reduceLT, decide_true]
  simp only [need_is, cond_true, obindP_ss]
  exact stream_pb 11 true false true (by rw [bits_and_u64 _ _ (by omega) (by omega)]; decide) (by rw [bits_and_u64 _ _ (by omega) (by omega)]; decide) (by rw [bits_and_u64 _ _ (by omega) (by omega)]; decide) hB hl
theorem body_12 {r : List Int} (hB : Byt r) (hl : r.length ≤ 1000000) : startR 12 r = outP (pb (bodyP 12) finP' r) := by
  have ik : In62 12 := i62 12 (by decide)
  simp only [startR, bodyP, frame_framer_read_h0_0_eq, b_frame_framer_read_h0_0, frame_framer_read_h0_1_eq, b_frame_framer_read_h0_1, frame_framer_read_h0_2_eq, b_frame_framer_read_h0_2, frame_framer_read_h0_3_eq, b_frame_framer_read_h0_3, Int.reduceBEq, Bool.or_self, cond_true, cond_false, ge_iff_le, Int.reduceLE, Int.reduceLT, decide_true]
  simp only [need_is, cond_true, obindP_ss]
  exact stream_pb 12 false true false (by rw [bits_and_u64 _ _ (by omega) (by omega)]; decide) (by rw [bits_and_u64 _ _ (by omega) (by omega)]; decide) (by rw [bits_and_u64 _ _ (by omega) (by omega)]; decide) hB hl
theorem body_13 {r : List Int} (hB : Byt r) (hl : r.length ≤ 1000000) : startR 13 r = outP (pb (bodyP 13) finP' r) := by
  have ik : In62 13 := i62 13 (by decide)
  simp only [startR, bodyP, frame_framer_read_h0_0_eq, b_frame_framer_read_h0_0, frame_framer_read_h0_1_eq, b_frame_framer_read_h0_1, frame_framer_read_h0_2_eq, b_frame_framer_read_h0_2, frame_framer_read_h0_3_eq, b_frame_framer_read_h0_3, Int.reduceBEq, Bool.or_self, cond_true, cond_false, ge_iff_le, Int.reduceLE, Int.reduceLT, decide_true]
  simp only [need_is, cond_true, obindP_ss]
  exact stream_pb 13 true true false (by rw [bits_and_u64 _ _ (by omega) (by omega)]; decide) (by rw [bits_and_u64 _ _ (by omega) (by omega)]; decide) (by rw [bits_and_u64 _ _ (by omega) (by omega)]; decide) hB hl
theorem body_14 {r : List Int} (hB : Byt r) (hl : r.length ≤ 1000000) : startR 14 r = outP (pb (bodyP 14) finP' r) := by
  have ik : In62 14 := i62 14 (by decide)
  simp only [startR, bodyP, frame_framer_read_h0_0_eq, b_frame_framer_read_h0_0, frame_framer_read_h0_1_eq, b_frame_framer_read_h0_1, frame_framer_read_h0_2_eq, b_frame_framer_read_h0_2, frame_framer_read_h0_3_eq, b_frame_framer_read_h0_3, Int.reduceBEq, Bool.or_self, cond_true, cond_false, ge_iff_le, Int.reduceLE, Int.reduceLT, decide_true]
  simp only [need_is, cond_true, obindP_ss]
  exact stream_pb 14 false true true (by rw [bits_and_u64 _ _ (by omega) (by omega)]; decide) (by rw [bits_and_u64 _ _ (by omega) (by omega)]; decide) (by rw [bits_and_u64 _ _ (by omega) (by omega)]; decide) hB hl
theorem body_15 {r : List Int} (hB : Byt r) (hl : r.length ≤ 1000000) : startR 15 r = outP (pb (bodyP 15) finP' r) := by
  have ik : In62 15 := i62 15 (by decide)
  simp only [startR, bodyP, frame_framer_read_h0_0_eq, b_frame_framer_read_h0_0, frame_framer_read_h0_1_eq, b_frame_framer_read_h0_1, frame_framer_read_h0_2_eq, b_frame_framer_read_h0_2, frame_framer_read_h0_3_eq, b_frame_framer_read_h0_3, Int.reduceBEq, Bool.or_self, cond_true, cond_false, ge_iff_le, Int.reduceLE, Int.reduceLT, decide_true]
  simp only [need_is, cond_true, obindP_ss]
  exact stream_pb 15 true true true (by rw [bits_and_u64 _ _ (by omega) (by omega)]; decide) (by rw [bits_and_u64 _ _ (by omega) (by omega)]; decide) (by rw [bits_and_u64 _ _ (by omega) (by omega)]; decide) hB hl
theorem body_16 {r : List Int} (hB : Byt r) (hl : r.length ≤ 1000000) : startR 16 r = outP (pb (bodyP 16) finP' r) := by
  have ik : In62 16 := i62 16 (by decide)
  simp only [startR, bodyP, frame_framer_read_h0_0_eq, b_frame_framer_read_h0_0, frame_framer_read_h0_1_eq, b_frame_framer_read_h0_1, frame_framer_read_h0_2_eq, b_frame_framer_read_h0_2, frame_framer_read_h0_3_eq, b_frame_framer_read_h0_3, Int.reduceBEq, Bool.or_false, Bool.or_self, cond_true, cond_false, ge_iff_le, Int.reduceLE, Int.reduceLT, decide_true, decide_false]
  simp only [frame_reader_into_h2_eq, b_frame_reader_into_h2, obindP_assoc, obindP_ss, pb_assoc, pb_pr]
  refine num_pb hB fun mx r0 hmx hr0 hl0 => ?_
  exact last_out r0 _ _ _ _ _ _ _ _ _ _ _ _ _ (frok0 ik in62_0 in62_0 hmx in62_0 in62_0 in62_0 in62_0)
theorem body_17 {r : List Int} (hB : Byt r) (hl : r.length ≤ 1000000) : startR 17 r = outP (pb (bodyP 17) finP' r) := by
  have ik : In62 17 := i62 17 (by decide)
  simp only [startR, bodyP, frame_framer_read_h0_0_eq, b_frame_framer_read_h0_0, frame_framer_read_h0_1_eq, b_frame_framer_read_h0_1, frame_framer_read_h0_2_eq, b_frame_framer_read_h0_2, frame_framer_read_h0_3_eq, b_frame_framer_read_h0_3, Int.reduceBEq, Bool.or_false, Bool.or_self, cond_true, cond_false, ge_iff_le, Int.reduceLE, Int.reduceLT, decide_true, decide_false]
  simp only [frame_reader_into_h5_eq, b_frame_reader_into_h5, obindP_assoc, obindP_ss, pb_assoc, pb_pr]
  refine num_pb hB fun id r0 hid hr0 hl0 => ?_
  refine num_pb hr0 fun mx r1 hmx hr1 hl1 => ?_
  exact last_out r1 _ _ _ _ _ _ _ _ _ _ _ _ _ (frok0 ik hid in62_0 hmx in62_0 in62_0 in62_0 in62_0)
theorem body_18 {r : List Int} (hB : Byt r) (hl : r.length ≤ 1000000) : startR 18 r = outP (pb (bodyP 18) finP' r) := by
  have ik : In62 18 := i62 18 (by decide)
  simp only [startR, bodyP, frame_framer_read_h0_0_eq, b_frame_framer_read_h0_0, frame_framer_read_h0_1_eq, b_frame_framer_read_h0_1, frame_framer_read_h0_2_eq, b_frame_framer_read_h0_2, frame_framer_read_h0_3_eq, b_frame_framer_read_h0_3, Int.reduceBEq, Bool.or_true, Bool.or_false, Bool.or_self, cond_true, cond_false, ge_iff_le, Int.reduceLE, Int.reduceLT, decide_true, decide_false]
  simp only [frame_reader_into_h2_eq, b_frame_reader_into_h2, obindP_assoc, obindP_ss, pb_assoc, pb_pr]
  refine num_pb hB fun mx r0 hmx hr0 hl0 => ?_
  exact last_out r0 _ _ _ _ _ _ _ _ _ _ _ _ _ (frok0 ik in62_0 in62_0 hmx in62_0 in62_0 in62_0 in62_0)
theorem body_19 {r : List Int} (hB : Byt r) (hl : r.length ≤ 1000000) : startR 19 r = outP (pb (bodyP 19) finP' r) := by
  have ik : In62 19 := i62 19 (by decide)
  simp only [startR, bodyP, frame_framer_read_h0_0_eq, b_frame_framer_read_h0_0, frame_framer_read_h0_1_eq, b_frame_framer_read_h0_1, frame_framer_read_h0_2_eq, b_frame_framer_read_h0_2, frame_framer_read_h0_3_eq, b_frame_framer_read_h0_3, Int.reduceBEq, Bool.or_true, Bool.or_false, Bool.or_self, cond_true, cond_false, ge_iff_le, Int.reduceLE, Int.reduceLT, decide_true, decide_false]
  simp only [frame_reader_into_h2_eq, b_frame_reader_into_h2, obindP_assoc, obindP_ss, pb_assoc, pb_pr]
  refine num_pb hB fun mx r0 hmx hr0 hl0 => ?_
  exact last_out r0 _ _ _ _ _ _ _ _ _ _ _ _ _ (frok0 ik in62_0 in62_0 hmx in62_0 in62_0 in62_0 in62_0)
theorem body_20 {r : List Int} (hB : Byt r) (hl : r.length ≤ 1000000) : startR 20 r = outP (pb (bodyP 20) finP' r) := by
  have ik : In62 20 := i62 20 (by decide)
  simp only [startR, bodyP, frame_framer_read_h0_0_eq, b_frame_framer_read_h0_0, frame_framer_read_h0_1_eq, b_frame_framer_read_h0_1, frame_framer_read_h0_2_eq, b_frame_framer_read_h0_2, frame_framer_read_h0_3_eq, b_frame_framer_read_h0_3, Int.reduceBEq, Bool.or_true, Bool.or_false, Bool.or_self, cond_true, cond_false, ge_iff_le, Int.reduceLE, Int.reduceLT, decide_true, decide_false]
  simp only [frame_reader_into_h2_eq, b_frame_reader_into_h2, obindP_assoc, obindP_ss, pb_assoc, pb_pr]
  refine num_pb hB fun mx r0 hmx hr0 hl0 => ?_
  exact last_out r0 _ _ _ _ _ _ _ _ _ _ _ _ _ (frok0 ik in62_0 in62_0 hmx in62_0 in62_0 in62_0 in62_0)
theorem body_21 {r : List Int} (hB : Byt r) (hl : r.length ≤ 1000000) : startR 21 r = outP (pb (bodyP 21) finP' r) := by
  have ik : In62 21 := i62 21 (by decide)
  simp only [startR, bodyP, frame_framer_read_h0_0_eq, b_frame_framer_read_h0_0, frame_framer_read_h0_1_eq, b_frame_framer_read_h0_1, frame_framer_read_h0_2_eq, b_frame_framer_read_h0_2, frame_framer_read_h0_3_eq, b_frame_framer_read_h0_3, Int.reduceBEq, Bool.or_true, Bool.or_self, cond_true, cond_false, ge_iff_le, Int.reduceLE, Int.reduceLT, decide_true, decide_false]
  simp only [frame_reader_into_h5_eq, b_frame_reader_into_h5, obindP_assoc, obindP_ss, pb_assoc, pb_pr]
  refine num_pb hB fun id r0 hid hr0 hl0 => ?_
  refine num_pb hr0 fun mx r1 hmx hr1 hl1 => ?_
  exact last_out r1 _ _ _ _ _ _ _ _ _ _ _ _ _ (frok0 ik hid in62_0 hmx in62_0 in62_0 in62_0 in62_0)
theorem body_22 {r : List Int} (hB : Byt r) (hl : r.length ≤ 1000000) : startR 22 r = outP (pb (bodyP 22) finP' r) := by
  have ik : In62 22 := i62 22 (by decide)
  simp only [startR, bodyP, frame_framer_read_h0_0_eq, b_frame_framer_read_h0_0, frame_framer_read_h0_1_eq, b_frame_framer_read_h0_1, frame_framer_read_h0_2_eq, b_frame_framer_read_h0_2, frame_framer_read_h0_3_eq, b_frame_framer_read_h0_3, Int.reduceBEq, Bool.or_true, Bool.or_false, Bool.or_self, cond_true, cond_false, ge_iff_le, Int.reduceLE, Int.reduceLT, decide_true, decide_false]
  simp only [frame_reader_into_h2_eq, b_frame_reader_into_h2, obindP_assoc, obindP_ss, pb_assoc, pb_pr]
  refine num_pb hB fun mx r0 hmx hr0 hl0 => ?_
  exact last_out r0 _ _ _ _ _ _ _ _ _ _ _ _ _ (frok0 ik in62_0 in62_0 hmx in62_0 in62_0 in62_0 in62_0)
theorem body_23 {r : List Int} (hB : Byt r) (hl : r.length ≤ 1000000) : startR 23 r = outP (pb (bodyP 23) finP' r) := by
  have ik : In62 23 := i62 23 (by decide)
  simp only [startR, bodyP, frame_framer_read_h0_0_eq, b_frame_framer_read_h0_0, frame_framer_read_h0_1_eq, b_frame_framer_read_h0_1, frame_framer_read_h0_2_eq, b_frame_framer_read_h0_2, frame_framer_read_h0_3_eq, b_frame_framer_read_h0_3, Int.reduceBEq, Bool.or_true, Bool.or_self, cond_true, cond_false, ge_iff_le, Int.reduceLE, Int.reduceLT, decide_true, decide_false]
  simp only [frame_reader_into_h2_eq, b_frame_reader_into_h2, obindP_assoc, obindP_ss, pb_assoc, pb_pr]
  refine num_pb hB fun mx r0 hmx hr0 hl0 => ?_
  exact last_out r0 _ _ _ _ _ _ _ _ _ _ _ _ _ (frok0 ik in62_0 in62_0 hmx in62_0 in62_0 in62_0 in62_0)
theorem body_24 {r : List Int} (hB : Byt r) (hl : r.length ≤ 1000000) : startR 24 r = outP (pb (bodyP 24) finP' r) := by
  have ik : In62 24 := i62 24 (by decide)
  simp only [startR, bodyP, frame_framer_read_h0_0_eq, b_frame_framer_read_h0_0, frame_framer_read_h0_1_eq, b_frame_framer_read_h0_1, frame_framer_read_h0_2_eq, b_frame_framer_read_h0_2, frame_framer_read_h0_3_eq, b_frame_framer_read_h0_3, Int.reduceBEq, Bool.or_self, cond_true, cond_false, ge_iff_le, Int.reduceLE, Int.reduceLT, decide_true, decide_false]
  simp only [frame_reader_into_h8_eq, b_frame_reader_into_h8, obindP_assoc, obindP_ss, pb_assoc, pb_pr]
  refine num_pb hB fun seq r0 hseq hr0 hl0 => ?_
  refine num_pb hr0 fun prior r1 hprior hr1 hl1 => ?_
  refine byte_pb hr1 (by omega) fun b r2 hb hr2 hl2 => ?_
  have eb : byteAt (bytesStr [b]) 0 = b := by rw [byteAt_is, strBytes_bs (Byt.cons.mpr ⟨hb, Byt.nil⟩)]; rfl
  have ec : (0 : Int) < (((bytesStr [b]).size : Nat) : Int) := by rw [bytesStr_size]; simp
  simp only [need_is, eb, ec, and_self, decide_true, cond_true]
  cases hb8 : (b == 8) with
  | false =>
    have : ([b] == [8]) = false := by simpa using hb8
    simp only [cond_false, obindP_sn, pb, pg, this, outP, Option.map_none]
  | true =>
    have e8 : ([b] == [8]) = true := by simpa using hb8
    simp only [cond_true, obindP_ss, e8, pb_gt rfl]
    refine take_pb (n := 8) hr2 (by omega) (by omega) fun cid r3 hr3 hl3 _ _ _ => ?_
    refine take_pb (n := 16) hr3 (by omega) (by omega) fun tok r4 hr4 hl4 _ _ _ => ?_
    exact last_out r4 _ _ _ _ _ _ _ _ _ _ _ _ _ (frok0 ik in62_0 in62_0 in62_0 in62_0 hseq hprior in62_0)
theorem body_25 {r : List Int} (hB : Byt r) (hl : r.length ≤ 1000000) : startR 25 r = outP (pb (bodyP 25) finP' r) := by
  have ik : In62 25 := i62 25 (by decide)
  simp only [startR, bodyP, frame_framer_read_h0_0_eq, b_frame_framer_read_h0_0, frame_framer_read_h0_1_eq, b_frame_framer_read_h0_1, frame_framer_read_h0_2_eq, b_frame_framer_read_h0_2, frame_framer_read_h0_3_eq, b_frame_framer_read_h0_3, Int.reduceBEq, Bool.or_self, cond_true, cond_false, ge_iff_le, Int.reduceLE, Int.reduceLT, decide_true, decide_false]
  simp only [frame_reader_into_h4_eq, b_frame_reader_into_h4, obindP_assoc, obindP_ss, pb_assoc, pb_pr]
  refine num_pb hB fun seq r0 hseq hr0 hl0 => ?_
  exact last_out r0 _ _ _ _ _ _ _ _ _ _ _ _ _ (frok0 ik in62_0 in62_0 in62_0 in62_0 hseq in62_0 in62_0)
theorem body_26 {r : List Int} (hB : Byt r) (hl : r.length ≤ 1000000) : startR 26 r = outP (pb (bodyP 26) finP' r) := by
  have ik : In62 26 := i62 26 (by decide)
  simp only [startR, bodyP, frame_framer_read_h0_0_eq, b_frame_framer_read_h0_0, frame_framer_read_h0_1_eq, b_frame_framer_read_h0_1, frame_framer_read_h0_2_eq, b_frame_framer_read_h0_2, frame_framer_read_h0_3_eq, b_frame_framer_read_h0_3, Int.reduceBEq, Bool.or_false, Bool.or_self, cond_true, cond_false, ge_iff_le, Int.reduceLE, Int.reduceLT, decide_true, decide_false]
  simp only [pb_assoc, pb_pr]
  refine take_pb (n := 8) hB (by omega) hl fun tok r1 hr1 hl1 _ _ _ => ?_
  exact last_out r1 _ _ _ _ _ _ _ _ _ _ _ _ _ (frok0 ik in62_0 in62_0 in62_0 in62_0 in62_0 in62_0 in62_0)
theorem body_27 {r : List Int} (hB : Byt r) (hl : r.length ≤ 1000000) : startR 27 r = outP (pb (bodyP 27) finP' r) := by
  have ik : In62 27 := i62 27 (by decide)
  simp only [startR, bodyP, frame_framer_read_h0_0_eq, b_frame_framer_read_h0_0, frame_framer_read_h0_1_eq, b_frame_framer_read_h0_1, frame_framer_read_h0_2_eq, b_frame_framer_read_h0_2, frame_framer_read_h0_3_eq, b_frame_framer_read_h0_3, Int.reduceBEq, Bool.or_true, Bool.or_self, cond_true, cond_false, ge_iff_le, Int.reduceLE, Int.reduceLT, decide_true, decide_false]
  simp only [pb_assoc, pb_pr]
  refine take_pb (n := 8) hB (by omega) hl fun tok r1 hr1 hl1 _ _ _ => ?_
  exact last_out r1 _ _ _ _ _ _ _ _ _ _ _ _ _ (frok0 ik in62_0 in62_0 in62_0 in62_0 in62_0 in62_0 in62_0)
theorem body_28 {r : List Int} (hB : Byt r) (hl : r.length ≤ 1000000) : startR 28 r = outP (pb (bodyP 28) finP' r) := by
  have ik : In62 28 := i62 28 (by decide)
  simp only [startR, bodyP, frame_framer_read_h0_0_eq, b_frame_framer_read_h0_0, frame_framer_read_h0_1_eq, b_frame_framer_read_h0_1, frame_framer_read_h0_2_eq, b_frame_framer_read_h0_2, frame_framer_read_h0_3_eq, b_frame_framer_read_h0_3, Int.reduceBEq, Bool.or_self, cond_true, cond_false, ge_iff_le, Int.reduceLE, Int.reduceLT, decide_true, decide_false]
  simp only [frame_reader_into_h7_eq, b_frame_reader_into_h7, obindP_assoc, obindP_ss, pb_assoc, pb_pr]
  refine num_pb hB fun code r0 hcode hr0 hl0 => ?_
  refine num_pb hr0 fun delay r1 hdelay hr1 hl1 => ?_
  refine long_pb hr1 (by omega) fun bs r2 hr2 hl2 hbs => ?_
  exact last_out r2 _ _ _ _ _ _ _ _ _ _ _ _ _ (frok0 ik in62_0 in62_0 in62_0 hcode in62_0 in62_0 hdelay)
theorem body_29 {r : List Int} (hB : Byt r) (hl : r.length ≤ 1000000) : startR 29 r = outP (pb (bodyP 29) finP' r) := by
  have ik : In62 29 := i62 29 (by decide)
  simp only [startR, bodyP, frame_framer_read_h0_0_eq, b_frame_framer_read_h0_0, frame_framer_read_h0_1_eq, b_frame_framer_read_h0_1, frame_framer_read_h0_2_eq, b_frame_framer_read_h0_2, frame_framer_read_h0_3_eq, b_frame_framer_read_h0_3, Int.reduceBEq, Bool.or_self, cond_true, cond_false, ge_iff_le, Int.reduceLE, Int.reduceLT, decide_true, decide_false]
  simp only [frame_reader_into_h3_eq, b_frame_reader_into_h3, obindP_assoc, obindP_ss, pb_assoc, pb_pr]
  refine num_pb hB fun code r0 hcode hr0 hl0 => ?_
  refine long_pb hr0 (by omega) fun bs r1 hr1 hl1 hbs => ?_
  exact last_out r1 _ _ _ _ _ _ _ _ _ _ _ _ _ (frok0 ik in62_0 in62_0 in62_0 hcode in62_0 in62_0 in62_0)
theorem body_30 {r : List Int} (hB : Byt r) (hl : r.length ≤ 1000000) : startR 30 r = outP (pb (bodyP 30) finP' r) := by
  have ik : In62 30 := i62 30 (by decide)
  simp only [startR, bodyP, frame_framer_read_h0_0_eq, b_frame_framer_read_h0_0, frame_framer_read_h0_1_eq, b_frame_framer_read_h0_1, frame_framer_read_h0_2_eq, b_frame_framer_read_h0_2, frame_framer_read_h0_3_eq, b_frame_framer_read_h0_3, Int.reduceBEq, Bool.or_true, Bool.or_self, cond_true, cond_false, ge_iff_le, Int.reduceLE, Int.reduceLT, decide_true, decide_false]
  exact last_out r _ _ _ _ _ _ _ _ _ _ _ _ _ (frok0 ik in62_0 in62_0 in62_0 in62_0 in62_0 in62_0 in62_0)
theorem body_none {k : Int} (r : List Int) (h0 : k ≠ 0) (h1 : k ≠ 1) (h2 : k ≠ 2) (h4 : k ≠ 4) (h5 : k ≠ 5) (h6 : k ≠ 6) (h8 : k ≠ 8) (h9 : k ≠ 9) (h10 : k ≠ 10) (h11 : k ≠ 11) (h12 : k ≠ 12) (h13 : k ≠ 13) (h14 : k ≠ 14) (h15 : k ≠ 15) (h16 : k ≠ 16) (h17 : k ≠ 17) (h18 : k ≠ 18) (h19 : k ≠ 19) (h20 : k ≠ 20) (h21 : k ≠ 21) (h22 : k ≠ 22) (h23 : k ≠ 23) (h24 : k ≠ 24) (h25 : k ≠ 25) (h26 : k ≠ 26) (h27 : k ≠ 27) (h28 : k ≠ 28) (h29 : k ≠ 29) (h30 : k ≠ 30) : startR k r = outP (pb (bodyP k) finP' r) := by
  have c : ¬ (k ≥ 8 ∧ k < 16) := by omega
  simp only [startR, bodyP, frame_framer_read_h0_0_eq, b_frame_framer_read_h0_0, frame_framer_read_h0_1_eq, b_frame_framer_read_h0_1, frame_framer_read_h0_2_eq, b_frame_framer_read_h0_2, frame_framer_read_h0_3_eq, b_frame_framer_read_h0_3, beq_false_of_ne h0, beq_false_of_ne h1, beq_false_of_ne h2, beq_false_of_ne h4, beq_false_of_ne h5, beq_false_of_ne h6, beq_false_of_ne h8, beq_false_of_ne h9, beq_false_of_ne h10, beq_false_of_ne h11, beq_false_of_ne h12, beq_false_of_ne h13, beq_false_of_ne h14, beq_false_of_ne h15, beq_false_of_ne h16, beq_false_of_ne h17, beq_false_of_ne h18, beq_false_of_ne h19, beq_false_of_ne h20, beq_false_of_ne h21, beq_false_of_ne h22, beq_false_of_ne h23, beq_false_of_ne h24, beq_false_of_ne h25, beq_false_of_ne h26, beq_false_of_ne h27, beq_false_of_ne h28, beq_false_of_ne h29, beq_false_of_ne h30, Bool.or_self, cond_false]
  have e : (outP (pb (fun _ => none) finP' r) : Option (Option (D_frame_framer × Unit))) = some none := rfl
  rw [e]
  by_cases c1 : k ≥ 8
  · have c2 : ¬ k < 16 := fun h => c ⟨c1, h⟩
    simp only [c1, c2, decide_true, decide_false, cond_true, need_is, cond_false, obindP_sn]
  · simp only [c1, decide_false, need_is, cond_false, obindP_sn]
theorem body_is (k : Int) {r : List Int} (hB : Byt r) (hl : r.length ≤ 1000000) : startR k r = outP (pb (bodyP k) finP' r) := by
  by_cases h0 : k = 0
  · subst h0; exact body_0 hB hl
  by_cases h1 : k = 1
  · subst h1; exact body_1 hB hl
  by_cases h2 : k = 2
  · subst h2; exact body_2 hB hl
  by_cases h4 : k = 4
  · subst h4; exact body_4 hB hl
  by_cases h5 : k = 5
  · subst h5; exact body_5 hB hl
  by_cases h6 : k = 6
  · subst h6; exact body_6 hB hl
  by_cases h8 : k = 8
  · subst h8; exact body_8 hB hl
  by_cases h9 : k = 9
  · subst h9; exact body_9 hB hl
  by_cases h10 : k = 10
  · subst h10; exact body_10 hB hl
  by_cases h11 : k = 11
  · subst h11; exact body_11 hB hl
  by_cases h12 : k = 12
  · subst h12; exact body_12 hB hl
  by_cases h13 : k = 13
  · subst h13; exact body_13 hB hl
  by_cases h14 : k = 14
  · subst h14; exact body_14 hB hl
  by_cases h15 : k = 15
  · subst h15; exact body_15 hB hl
  by_cases h16 : k = 16
  · subst h16; exact body_16 hB hl
  by_cases h17 : k = 17
  · subst h17; exact body_17 hB hl
  by_cases h18 : k = 18
  · subst h18; exact body_18 hB hl
  by_cases h19 : k = 19
  · subst h19; exact body_19 hB hl
  by_cases h20 : k = 20
  · subst h20; exact body_20 hB hl
  by_cases h21 : k = 21
  · subst h21; exact body_21 hB hl
  by_cases h22 : k = 22
  · subst h22; exact body_22 hB hl
  by_cases h23 : k = 23
  · subst h23; exact body_23 hB hl
  by_cases h24 : k = 24
  · subst h24; exact body_24 hB hl
  by_cases h25 : k = 25
  · subst h25; exact body_25 hB hl
  by_cases h26 : k = 26
  · subst h26; exact body_26 hB hl
  by_cases h27 : k = 27
  · subst h27; exact body_27 hB hl
  by_cases h28 : k = 28
  · subst h28; exact body_28 hB hl
  by_cases h29 : k = 29
  · subst h29; exact body_29 hB hl
  by_cases h30 : k = 30
  · subst h30; exact body_30 hB hl
  exact body_none r h0 h1 h2 h4 h5 h6 h8 h9 h10 h11 h12 h13 h14 h15 h16 h17 h18 h19 h20 h21 h22 h23 h24 h25 h26 h27 h28 h29 h30
end Go.Proofs.YtjdjlijjolibkaaDoor.V
/- What frame.Get answers, and what its reader is like. -/
namespace Go.Proofs.YtjdjlijjolibkaaDoor.V
open Go.RowKit
set_option linter.unusedVariables false
theorem read_is {l : List Int} (hB : Byt l) (hl : l.length ≤ 1000000) : frame_framer_read_h0 (st l (zF 0)) = outP (getL l) := by
  rw [frame_framer_read_h0_eq, b_frame_framer_read_h0]
  simp only [frame_reader_into_h0_eq, b_frame_reader_into_h0, obindP_assoc, obindP_ss, getL]
  refine num_pb hB fun k r hk hr hlr => ?_
  simp only [bytesStr_size]
  rw [wrap_i64 _ (by omega) (by omega), vsize_is k hk.1 (in62_64 hk).2]
  simp only [obind_some, need_is, beq_dec]
  by_cases c : ((l.length : Nat) : Int) - ((r.length : Nat) : Int) = vsize k
  · simp only [c, decide_true, cond_true, obindP_ss]
    have := body_is k hr (by omega)
    simp only [startR, beq_dec] at this
    exact this
  · simp only [c, decide_false, cond_false, obindP_sn, outP, Option.map_none]
theorem get_is (s : ByteArray) (hl : s.size ≤ 1000000) : frame_Get s = some (match getL (strBytes s) with | some (f, r) => (f, bytesStr r, 0, ()) | none => (zF 0, eB, 60, ())) := by
  rw [frame_Get_eq, b_frame_Get]
  have e := read_is (l := strBytes s) (strBytes_range s) (by rw [strBytes_len]; exact hl)
  simp only [st, bytesStr_strBytes] at e
  rw [e]
  cases getL (strBytes s) with
  | none => rfl
  | some x => rfl
/-! ### what is behind was there -/
theorem Suf.long : Suf plong := Suf.bind Suf.vget fun n => Suf.bind (Suf.take _) fun _ => Suf.pr _
theorem Mono.long : Mono plong := Mono.bind Mono.vget fun n => Mono.bind (Mono.take _) fun _ => Mono.pr _
theorem Suf.str (n : Nat) : Suf (pstr n) := Suf.bind (Suf.take _) fun _ => Suf.pr _
theorem Mono.str (n : Nat) : Mono (pstr n) := Mono.bind (Mono.take _) fun _ => Mono.pr _
theorem Suf.rest : Suf prest := fun l a r h => by cases h; exact ⟨l, by simp⟩
theorem Suf.gaps : ∀ (n : Nat) (lo : Int), Suf (gapsP n lo)
  | 0, _ => Suf.pr _
  | n + 1, lo => Suf.bind Suf.vget fun _ => Suf.bind Suf.vget fun _ => Suf.bind (Suf.pg _) fun _ => Suf.bind (Suf.gaps n _) fun _ => Suf.pr _
theorem Mono.gaps : ∀ (n : Nat) (lo : Int), Mono (gapsP n lo)
  | 0, _ => Mono.pr _
  | n + 1, lo => Mono.bind Mono.vget fun _ => Mono.bind Mono.vget fun _ => Mono.bind (Mono.pg _) fun _ => Mono.bind (Mono.gaps n _) fun _ => Mono.pr _
theorem Suf.ack : Suf ackP := Suf.bind Suf.vget fun _ => Suf.bind Suf.vget fun _ => Suf.bind Suf.vget fun _ => Suf.bind Suf.vget fun _ => Suf.bind (Suf.pg _) fun _ => Suf.bind (Suf.gaps _ _) fun _ => Suf.pr _
theorem Mono.ack : Mono ackP := Mono.bind Mono.vget fun _ => Mono.bind Mono.vget fun _ => Mono.bind Mono.vget fun _ => Mono.bind Mono.vget fun _ => Mono.bind (Mono.pg _) fun _ => Mono.bind (Mono.gaps _ _) fun _ => Mono.pr _
theorem Suf.stream (a b c : Bool) : Suf (streamP a b c) := Suf.bind Suf.vget fun _ => Suf.bind (by cases b; exact Suf.pr _; exact Suf.vget) fun _ => Suf.bind (by cases c; exact Suf.rest; exact Suf.long) fun _ => Suf.pr _
theorem Mono.stream (a b : Bool) : Mono (streamP a b true) := Mono.bind Mono.vget fun _ => Mono.bind (by cases b; exact Mono.pr _; exact Mono.vget) fun _ => Mono.bind Mono.long fun _ => Mono.pr _
theorem Suf.none {α : Type} : Suf (fun _ => none : Pr α) := fun _ _ _ h => by cases h
theorem Mono.none {α : Type} : Mono (fun _ => none : Pr α) := fun _ _ _ _ h => by cases h
theorem Suf.cond {α : Type} {b : Bool} {p q : Pr α} (h : Suf p) (k : Suf q) : Suf (bif b then p else q) := by cases b; exact k; exact h
theorem Mono.cond {α : Type} {b : Bool} {p q : Pr α} (h : b = true → Mono p) (k : b = false → Mono q) : Mono (bif b then p else q) := by cases b; exact k rfl; exact h rfl
theorem Suf.body (k : Int) : Suf (bodyP k) := by
  unfold bodyP
  refine Suf.cond (Suf.pr _) (Suf.cond Suf.ack (Suf.cond (Suf.bind Suf.vget fun _ => Suf.bind Suf.vget fun _ => Suf.bind Suf.vget fun _ => Suf.pr _) (Suf.cond (Suf.bind Suf.vget fun _ => Suf.bind Suf.vget fun _ => Suf.pr _) (Suf.cond (Suf.bind Suf.vget fun _ => Suf.bind Suf.long fun _ => Suf.pr _) ?_))))
  refine Suf.cond (Suf.stream _ _ _) (Suf.cond (Suf.stream _ _ _) (Suf.cond (Suf.stream _ _ _) (Suf.cond (Suf.stream _ _ _) (Suf.cond (Suf.stream _ _ _) (Suf.cond (Suf.stream _ _ _) (Suf.cond (Suf.stream _ _ _) (Suf.cond (Suf.stream _ _ _) ?_)))))))
  refine Suf.cond (Suf.bind Suf.vget fun _ => Suf.pr _) (Suf.cond (Suf.bind Suf.vget fun _ => Suf.bind Suf.vget fun _ => Suf.pr _) ?_)
  refine Suf.cond (Suf.bind Suf.vget fun _ => Suf.bind Suf.vget fun _ => Suf.bind (Suf.take _) fun _ => Suf.bind (Suf.pg _) fun _ => Suf.bind (Suf.str _) fun _ => Suf.bind (Suf.str _) fun _ => Suf.pr _) ?_
  refine Suf.cond (Suf.bind Suf.vget fun _ => Suf.pr _) (Suf.cond (Suf.bind (Suf.str _) fun _ => Suf.pr _) ?_)
  exact Suf.cond (Suf.bind Suf.vget fun _ => Suf.bind Suf.vget fun _ => Suf.bind Suf.long fun _ => Suf.pr _) (Suf.cond (Suf.bind Suf.vget fun _ => Suf.bind Suf.long fun _ => Suf.pr _) Suf.none)
theorem Mono.body (k : Int) (h8 : k ≠ 8) (h9 : k ≠ 9) (h12 : k ≠ 12) (h13 : k ≠ 13) : Mono (bodyP k) := by
  unfold bodyP
  rw [beq_false_of_ne h8, beq_false_of_ne h9, beq_false_of_ne h12, beq_false_of_ne h13]
  simp only [cond_false]
  refine Mono.cond (fun _ => Mono.pr _) fun _ => Mono.cond (fun _ => Mono.ack) fun _ => Mono.cond (fun _ => Mono.bind Mono.vget fun _ => Mono.bind Mono.vget fun _ => Mono.bind Mono.vget fun _ => Mono.pr _) fun _ => Mono.cond (fun _ => Mono.bind Mono.vget fun _ => Mono.bind Mono.vget fun _ => Mono.pr _) fun _ => Mono.cond (fun _ => Mono.bind Mono.vget fun _ => Mono.bind Mono.long fun _ => Mono.pr _) fun _ => ?_
  refine Mono.cond (fun _ => Mono.stream _ _) fun _ => Mono.cond (fun _ => Mono.stream _ _) fun _ => Mono.cond (fun _ => Mono.stream _ _) fun _ => Mono.cond (fun _ => Mono.stream _ _) fun _ => ?_
  refine Mono.cond (fun _ => Mono.bind Mono.vget fun _ => Mono.pr _) fun _ => Mono.cond (fun _ => Mono.bind Mono.vget fun _ => Mono.bind Mono.vget fun _ => Mono.pr _) fun _ => ?_
  refine Mono.cond (fun _ => Mono.bind Mono.vget fun _ => Mono.bind Mono.vget fun _ => Mono.bind (Mono.take _) fun _ => Mono.bind (Mono.pg _) fun _ => Mono.bind (Mono.str _) fun _ => Mono.bind (Mono.str _) fun _ => Mono.pr _) fun _ => ?_
  refine Mono.cond (fun _ => Mono.bind Mono.vget fun _ => Mono.pr _) fun _ => Mono.cond (fun _ => Mono.bind (Mono.str _) fun _ => Mono.pr _) fun _ => ?_
  exact Mono.cond (fun _ => Mono.bind Mono.vget fun _ => Mono.bind Mono.vget fun _ => Mono.bind Mono.long fun _ => Mono.pr _) fun _ => Mono.cond (fun _ => Mono.bind Mono.vget fun _ => Mono.bind Mono.long fun _ => Mono.pr _) fun _ => Mono.none
theorem Suf.fin (f : D_frame_Frame) : Suf (finP' f) := Suf.bind (Suf.pg _) fun _ => Suf.pr _
theorem Mono.fin (f : D_frame_Frame) : Mono (finP' f) := Mono.bind (Mono.pg _) fun _ => Mono.pr _
/-- What is got: its kind first, then its body; it may be. -/
theorem getL_some {l : List Int} {f : D_frame_Frame} {r : List Int} (h : getL l = some (f, r)) : ∃ k r1, vget l = some (k, r1) ∧ ((l.length : Nat) : Int) - ((r1.length : Nat) : Int) = vsize k ∧ bodyP k r1 = some (f, r) ∧ mayFr f = true := by
  unfold getL at h
  obtain ⟨k, r1, h1, h2⟩ := pb_some h
  by_cases c : ((l.length : Nat) : Int) - ((r1.length : Nat) : Int) = vsize k
  · simp only [c, decide_true, cond_true] at h2
    obtain ⟨f', r2, h3, h4⟩ := pb_some h2
    unfold finP' at h4
    obtain ⟨⟨⟩, r3, h5, h6⟩ := pb_some h4
    cases h6
    cases hm : mayFr f with
    | true =>
      rw [hm] at h5
      cases h5
      exact ⟨k, r1, h1, c, h3, rfl⟩
    | false => rw [hm] at h5; cases h5
  · simp only [c, decide_false, cond_false] at h2
    cases h2
theorem getL_of {l : List Int} {f : D_frame_Frame} {r r1 : List Int} {k : Int} (h1 : vget l = some (k, r1)) (h2 : ((l.length : Nat) : Int) - ((r1.length : Nat) : Int) = vsize k) (h3 : bodyP k r1 = some (f, r)) (h4 : mayFr f = true) : getL l = some (f, r) := by
  unfold getL
  simp only [pb, h1, h2, decide_true, cond_true, h3, finP', h4, pg, pr]
theorem getL_suf {l : List Int} {f : D_frame_Frame} {r : List Int} (h : getL l = some (f, r)) : ∃ q, l = q ++ r ∧ 1 ≤ q.length := by
  obtain ⟨k, r1, h1, _, h3, _⟩ := getL_some h
  obtain ⟨q, rfl, hq, _⟩ := vget_some h1
  obtain ⟨q2, rfl⟩ := Suf.body k _ _ _ h3
  exact ⟨q ++ q2, by simp, by simp; omega⟩
end Go.Proofs.YtjdjlijjolibkaaDoor.V
/- A frame that was put is got back. -/
namespace Go.Proofs.YtjdjlijjolibkaaDoor.V
open Go.RowKit
theorem pb_vb {β : Type} (n : Int) (h : In62 n) (f : Int → Pr β) (t : List Int) : pb vget f (vb n ++ t) = f n t := by
  simp only [pb, vget_vb n h t]
theorem pb_bytes {β : Type} (s : ByteArray) (n : Nat) (h : s.size = n) (f : List Int → Pr β) (t : List Int) : pb (ptake n) f (strBytes s ++ t) = f (strBytes s) t := by
  have hl : (strBytes s).length = n := by rw [strBytes_len, h]
  have c : n ≤ (strBytes s ++ t).length := by simp; omega
  simp only [pb, ptake, c, if_true]
  subst hl
  rw [List.take_left, List.drop_left]
theorem pb_str {β : Type} (s : ByteArray) (n : Nat) (h : s.size = n) (f : ByteArray → Pr β) (t : List Int) : pb (pstr n) f (strBytes s ++ t) = f s t := by
  rw [pstr, pb_assoc, pb_bytes s n h]
  simp only [pb_pr, bytesStr_strBytes]
theorem pb_text {β : Type} (s : ByteArray) (h : s.size ≤ 100000) (f : ByteArray → Pr β) (t : List Int) : pb plong f (textL s ++ t) = f s t := by
  rw [plong, textL, pb_assoc, List.append_assoc, pb_vb _ (size62 h)]
  simp only [Int.toNat_natCast]
  rw [pb_assoc, pb_bytes s _ rfl]
  simp only [pb_pr, bytesStr_strBytes]
theorem gaps_back (t : List Int) : ∀ (l : List D_ranges_Range) (lo : Int), descR lo l → lo < 4611686018427387904 → gapsP l.length lo (ackGaps lo l ++ t) = some (l, t)
  | [], lo, _, _ => rfl
  | r :: l, lo, ⟨d1, d2, d3, d4⟩, hlo => by
    have e1 : lo - (lo - r.2.1 - 2) - 2 = r.2.1 := by omega
    have e2 : r.2.1 - (r.2.1 - r.1) = r.1 := by omega
    have c1 : lo - r.2.1 - 2 + 2 ≤ lo := by omega
    have c2 : r.2.1 - r.1 ≤ r.2.1 := by omega
    simp only [gapsP, List.length_cons, ackGaps, List.append_assoc]
    rw [pb_vb _ ⟨by omega, by omega⟩, pb_vb _ ⟨by omega, by omega⟩]
    simp only [e1, e2, c1, c2, decide_true, Bool.and_self, pb_gt rfl]
    have ih := gaps_back t l r.1 d4 (by omega)
    simp only [pb, ih, pr]
theorem only_parts {k id off mx code seq prior delay : Int} {fin : Bool} {data cid tok : ByteArray} {set : List D_ranges_Range} (h : (k, id, off, mx, code, seq, prior, delay, fin, data, cid, tok, set, ()) = onlyF (k, id, off, mx, code, seq, prior, delay, fin, data, cid, tok, set, ())) :
    (hasId k = false → id = 0) ∧ (hasOff k = false → off = 0) ∧ (hasMax k = false → mx = 0) ∧ (hasCode k = false → code = 0) ∧ (hasSeq k = false → seq = 0) ∧ (hasPrior k = false → prior = 0) ∧ (hasDelay k = false → delay = 0) ∧ (hasFin k = false → fin = false) ∧
    (hasData k = false → data = eB) ∧ (hasCid k = false → cid = eB) ∧ (hasToken k = false → tok = eB) ∧ (hasSet k = false → set = []) := by
  simp only [onlyF, Prod.mk.injEq, and_true, true_and] at h
  obtain ⟨h1, h2, h3, h4, h5, h6, h7, h8, h9, h10, h11, h12⟩ := h
  refine ⟨fun e => ?_, fun e => ?_, fun e => ?_, fun e => ?_, fun e => ?_, fun e => ?_, fun e => ?_, fun e => ?_, fun e => ?_, fun e => ?_, fun e => ?_, fun e => ?_⟩
  · rw [h1, e]; rfl
  · rw [h2, e]; rfl
  · rw [h3, e]; rfl
  · rw [h4, e]; rfl
  · rw [h5, e]; rfl
  · rw [h6, e]; rfl
  · rw [h7, e]; rfl
  · rw [h8, e]; rfl
  · rw [h9, e]; rfl
  · rw [h10, e]; rfl
  · rw [h11, e]; rfl
  · rw [h12, e]; rfl
theorem getL_vb {k : Int} (hk : In62 k) {l t : List Int} {f : D_frame_Frame} (h : bodyP k l = some (f, t)) (hm : mayFr f = true) : getL (vb k ++ l) = some (f, t) :=
  getL_of (vget_vb k hk l) (by rw [List.length_append]; have := vb_vsize k hk; omega) h hm
theorem back_is (f : D_frame_Frame) (h : FrOk f) (hm : mayFr f = true) (t : List Int) : getL (putL f ++ t) = some (f, t) := by
  obtain ⟨hk, ho, hn, hd, he⟩ := mayFr_parts hm
  obtain ⟨n1, n2, n3, n4, n5, n6, n7⟩ := nums62 h hn
  have hset := h.set
  obtain ⟨k, id, off, mx, code, seq, prior, delay, fin, data, cid, tok, set, ⟨⟩⟩ := f
  obtain ⟨o1, o2, o3, o4, o5, o6, o7, o8, o9, o10, o11, o12⟩ := only_parts ho
  simp only at n1 n2 n3 n4 n5 n6 n7 hd hset hk
  have v1 : ∀ (a : Int) (t : List Int), vbs [a] ++ t = vb a ++ t := fun a t => by simp [vbs]
  have v2 : ∀ (a b : Int) (t : List Int), vbs [a, b] ++ t = vb a ++ (vb b ++ t) := fun a b t => by simp [vbs]
  have v3 : ∀ (a b c : Int) (t : List Int), vbs [a, b, c] ++ t = vb a ++ (vb b ++ (vb c ++ t)) := fun a b c t => by simp [vbs]
  have K : In62 k := by rcases kinds hk with rfl | rfl | rfl | rfl | rfl | rfl | rfl | rfl | rfl | rfl | rfl | rfl | rfl | rfl | rfl | rfl | rfl | rfl | rfl | rfl | rfl | rfl <;> (unfold In62; omega)
  by_cases h8 : k = 8
  · subst h8
    have z3 := o3 rfl; have z4 := o4 rfl; have z5 := o5 rfl; have z6 := o6 rfl; have z7 := o7 rfl; have z10 := o10 rfl; have z11 := o11 rfl; have z12 := o12 rfl
    subst z3 z4 z5 z6 z7 z10 z11 z12
    simp only [putL, beq_self_eq_true, cond_true, List.append_assoc, v2, streamK]
    have i10 := i62 10 (by decide); have i11 := i62 11 (by decide); have i14 := i62 14 (by decide); have i15 := i62 15 (by decide)
    by_cases h0 : off = 0
    · subst h0
      cases fin
      · refine getL_vb (k := 10) i10 ?_ hm
        show streamP false false true _ = _
        simp only [streamP, cond_false, cond_true, pb_pr, beq_self_eq_true, List.nil_append]
        rw [pb_vb _ n1, pb_text data (by omega)]; rfl
      · refine getL_vb (k := 11) i11 ?_ hm
        show streamP true false true _ = _
        simp only [streamP, cond_false, cond_true, pb_pr, beq_self_eq_true, List.nil_append]
        rw [pb_vb _ n1, pb_text data (by omega)]; rfl
    · have e0 : (off == 0) = false := beq_false_of_ne h0
      simp only [e0, cond_false, v1]
      cases fin
      · refine getL_vb (k := 14) i14 ?_ hm
        show streamP false true true _ = _
        simp only [streamP, cond_true]
        rw [pb_vb _ n1, pb_vb _ n2, pb_text data (by omega)]; rfl
      · refine getL_vb (k := 15) i15 ?_ hm
        show streamP true true true _ = _
        simp only [streamP, cond_true]
        rw [pb_vb _ n1, pb_vb _ n2, pb_text data (by omega)]; rfl
  · have hb : (k == 8) = false := beq_false_of_ne h8
    simp only [putL, hb, cond_false, List.append_assoc, v1]
    refine getL_vb K ?_ hm
    rcases kinds hk with rfl | rfl | rfl | rfl | rfl | rfl | rfl | rfl | rfl | rfl | rfl | rfl | rfl | rfl | rfl | rfl | rfl | rfl | rfl | rfl | rfl | rfl
    case inr.inr.inl =>
      simp only [extraF, beq_self_eq_true, cond_true, Bool.and_eq_true, decide_eq_true_eq] at he
      obtain ⟨⟨⟨e1, e2⟩, e3⟩, e4⟩ := he
      obtain ⟨r, l, er, el, d1, d2, d3, d4⟩ := ack_desc (fun r hr => (hset r hr).1.1) e1 e2 e4
      have z1 := o1 rfl; have z2 := o2 rfl; have z3 := o3 rfl; have z4 := o4 rfl; have z5 := o5 rfl; have z6 := o6 rfl; have z8 := o8 rfl; have z9 := o9 rfl; have z10 := o10 rfl; have z11 := o11 rfl
      subst z1 z2 z3 z4 z5 z6 z8 z9 z10 z11
      have e5 : r.2.1 - (r.2.1 - r.1) = r.1 := by omega
      have c1 : ((l.length : Nat) : Int) < 32 := by omega
      have c2 : r.2.1 - r.1 ≤ r.2.1 := by omega
      show ackP (ackL delay set.reverse ++ t) = _
      rw [er]
      simp only [ackP, ackL, List.append_assoc]
      rw [pb_vb _ ⟨by omega, by omega⟩, pb_vb _ n7, pb_vb _ ⟨by omega, by omega⟩, pb_vb _ ⟨by omega, by omega⟩]
      simp only [e5, c1, c2, decide_true, Bool.and_self, pb_gt rfl, Int.toNat_natCast]
      have g := gaps_back t l r.1 d4 (by omega)
      simp only [pb, g, pr]
      have e6 : ((r.1, (r.2.1, ())) : D_ranges_Range) = r := rfl
      rw [e6, ← er, List.reverse_reverse]
    · have z1 := o1 rfl; have z2 := o2 rfl; have z3 := o3 rfl; have z4 := o4 rfl; have z5 := o5 rfl; have z6 := o6 rfl; have z7 := o7 rfl; have z8 := o8 rfl; have z9 := o9 rfl; have z10 := o10 rfl; have z11 := o11 rfl; have z12 := o12 rfl
      subst z1 z2 z3 z4 z5 z6 z7 z8 z9 z10 z11 z12
      simp only [partsL, bodyP, Int.reduceBEq, Bool.or_false, Bool.or_self, cond_true, cond_false, v1, v2, List.append_assoc, List.nil_append]
      rfl
    · have z1 := o1 rfl; have z2 := o2 rfl; have z3 := o3 rfl; have z4 := o4 rfl; have z5 := o5 rfl; have z6 := o6 rfl; have z7 := o7 rfl; have z8 := o8 rfl; have z9 := o9 rfl; have z10 := o10 rfl; have z11 := o11 rfl; have z12 := o12 rfl
      subst z1 z2 z3 z4 z5 z6 z7 z8 z9 z10 z11 z12
      simp only [partsL, bodyP, Int.reduceBEq, Bool.or_true, Bool.or_false, Bool.or_self, cond_true, cond_false, v1, v2, List.append_assoc, List.nil_append]
      rfl
    · have z2 := o2 rfl; have z5 := o5 rfl; have z6 := o6 rfl; have z7 := o7 rfl; have z8 := o8 rfl; have z9 := o9 rfl; have z10 := o10 rfl; have z11 := o11 rfl; have z12 := o12 rfl
      subst z2 z5 z6 z7 z8 z9 z10 z11 z12
      simp only [partsL, bodyP, Int.reduceBEq, Bool.or_self, cond_true, cond_false, v1, v2, v3, List.append_assoc]
      rw [pb_vb _ n1, pb_vb _ n4, pb_vb _ n3]; rfl
    · have z2 := o2 rfl; have z3 := o3 rfl; have z5 := o5 rfl; have z6 := o6 rfl; have z7 := o7 rfl; have z8 := o8 rfl; have z9 := o9 rfl; have z10 := o10 rfl; have z11 := o11 rfl; have z12 := o12 rfl
      subst z2 z3 z5 z6 z7 z8 z9 z10 z11 z12
      simp only [partsL, bodyP, Int.reduceBEq, Bool.or_self, cond_true, cond_false, v1, v2, List.append_assoc]
      rw [pb_vb _ n1, pb_vb _ n4]; rfl
    · have z1 := o1 rfl; have z3 := o3 rfl; have z4 := o4 rfl; have z5 := o5 rfl; have z6 := o6 rfl; have z7 := o7 rfl; have z8 := o8 rfl; have z10 := o10 rfl; have z11 := o11 rfl; have z12 := o12 rfl
      subst z1 z3 z4 z5 z6 z7 z8 z10 z11 z12
      simp only [partsL, bodyP, Int.reduceBEq, Bool.or_self, cond_true, cond_false, v1, v2, List.append_assoc]
      rw [pb_vb _ n2, pb_text data (by omega)]; rfl
    · exact absurd rfl h8
    · have z1 := o1 rfl; have z2 := o2 rfl; have z4 := o4 rfl; have z5 := o5 rfl; have z6 := o6 rfl; have z7 := o7 rfl; have z8 := o8 rfl; have z9 := o9 rfl; have z10 := o10 rfl; have z11 := o11 rfl; have z12 := o12 rfl
      subst z1 z2 z4 z5 z6 z7 z8 z9 z10 z11 z12
      simp only [partsL, bodyP, Int.reduceBEq, Bool.or_false, Bool.or_self, cond_true, cond_false, v1, v2, List.append_assoc]
      rw [pb_vb _ n3]; rfl
    · have z2 := o2 rfl; have z4 := o4 rfl; have z5 := o5 rfl; have z6 := o6 rfl; have z7 := o7 rfl; have z8 := o8 rfl; have z9 := o9 rfl; have z10 := o10 rfl; have z11 := o11 rfl; have z12 := o12 rfl
      subst z2 z4 z5 z6 z7 z8 z9 z10 z11 z12
      simp only [partsL, bodyP, Int.reduceBEq, Bool.or_false, Bool.or_self, cond_true, cond_false, v1, v2, List.append_assoc]
      rw [pb_vb _ n1, pb_vb _ n3]; rfl
    · have z1 := o1 rfl; have z2 := o2 rfl; have z4 := o4 rfl; have z5 := o5 rfl; have z6 := o6 rfl; have z7 := o7 rfl; have z8 := o8 rfl; have z9 := o9 rfl; have z10 := o10 rfl; have z11 := o11 rfl; have z12 := o12 rfl
      subst z1 z2 z4 z5 z6 z7 z8 z9 z10 z11 z12
      simp only [partsL, bodyP, Int.reduceBEq, Bool.or_true, Bool.or_false, Bool.or_self, cond_true, cond_false, v1, v2, List.append_assoc]
      rw [pb_vb _ n3]; rfl
    · have z1 := o1 rfl; have z2 := o2 rfl; have z4 := o4 rfl; have z5 := o5 rfl; have z6 := o6 rfl; have z7 := o7 rfl; have z8 := o8 rfl; have z9 := o9 rfl; have z10 := o10 rfl; have z11 := o11 rfl; have z12 := o12 rfl
      subst z1 z2 z4 z5 z6 z7 z8 z9 z10 z11 z12
      simp only [partsL, bodyP, Int.reduceBEq, Bool.or_true, Bool.or_false, Bool.or_self, cond_true, cond_false, v1, v2, List.append_assoc]
      rw [pb_vb _ n3]; rfl
    · have z1 := o1 rfl; have z2 := o2 rfl; have z4 := o4 rfl; have z5 := o5 rfl; have z6 := o6 rfl; have z7 := o7 rfl; have z8 := o8 rfl; have z9 := o9 rfl; have z10 := o10 rfl; have z11 := o11 rfl; have z12 := o12 rfl
      subst z1 z2 z4 z5 z6 z7 z8 z9 z10 z11 z12
      simp only [partsL, bodyP, Int.reduceBEq, Bool.or_true, Bool.or_false, Bool.or_self, cond_true, cond_false, v1, v2, List.append_assoc]
      rw [pb_vb _ n3]; rfl
    · have z2 := o2 rfl; have z4 := o4 rfl; have z5 := o5 rfl; have z6 := o6 rfl; have z7 := o7 rfl; have z8 := o8 rfl; have z9 := o9 rfl; have z10 := o10 rfl; have z11 := o11 rfl; have z12 := o12 rfl
      subst z2 z4 z5 z6 z7 z8 z9 z10 z11 z12
      simp only [partsL, bodyP, Int.reduceBEq, Bool.or_true, Bool.or_self, cond_true, cond_false, v1, v2, List.append_assoc]
      rw [pb_vb _ n1, pb_vb _ n3]; rfl
    · have z1 := o1 rfl; have z2 := o2 rfl; have z4 := o4 rfl; have z5 := o5 rfl; have z6 := o6 rfl; have z7 := o7 rfl; have z8 := o8 rfl; have z9 := o9 rfl; have z10 := o10 rfl; have z11 := o11 rfl; have z12 := o12 rfl
      subst z1 z2 z4 z5 z6 z7 z8 z9 z10 z11 z12
      simp only [partsL, bodyP, Int.reduceBEq, Bool.or_true, Bool.or_false, Bool.or_self, cond_true, cond_false, v1, v2, List.append_assoc]
      rw [pb_vb _ n3]; rfl
    · have z1 := o1 rfl; have z2 := o2 rfl; have z4 := o4 rfl; have z5 := o5 rfl; have z6 := o6 rfl; have z7 := o7 rfl; have z8 := o8 rfl; have z9 := o9 rfl; have z10 := o10 rfl; have z11 := o11 rfl; have z12 := o12 rfl
      subst z1 z2 z4 z5 z6 z7 z8 z9 z10 z11 z12
      simp only [partsL, bodyP, Int.reduceBEq, Bool.or_true, Bool.or_self, cond_true, cond_false, v1, v2, List.append_assoc]
      rw [pb_vb _ n3]; rfl
    · have z1 := o1 rfl; have z2 := o2 rfl; have z3 := o3 rfl; have z4 := o4 rfl; have z7 := o7 rfl; have z8 := o8 rfl; have z9 := o9 rfl; have z12 := o12 rfl
      subst z1 z2 z3 z4 z7 z8 z9 z12
      have hc : cid.size = 8 ∧ tok.size = 16 := by
        simp [extraF] at he
        omega
      simp only [partsL, bodyP, Int.reduceBEq, Bool.or_self, cond_true, cond_false, v1, v2, List.append_assoc]
      rw [pb_vb _ n5, pb_vb _ n6]
      have e1 : ∀ (f : List Int → Pr D_frame_Frame) (l : List Int), pb (ptake 1) f ([8] ++ l) = f [8] l := fun f l => by simp [pb, ptake]
      rw [e1]
      simp only [beq_self_eq_true, pb_gt rfl]
      rw [pb_str cid 8 hc.1, pb_str tok 16 hc.2]; rfl
    · have z1 := o1 rfl; have z2 := o2 rfl; have z3 := o3 rfl; have z4 := o4 rfl; have z6 := o6 rfl; have z7 := o7 rfl; have z8 := o8 rfl; have z9 := o9 rfl; have z10 := o10 rfl; have z11 := o11 rfl; have z12 := o12 rfl
      subst z1 z2 z3 z4 z6 z7 z8 z9 z10 z11 z12
      simp only [partsL, bodyP, Int.reduceBEq, Bool.or_self, cond_true, cond_false, v1, v2, List.append_assoc]
      rw [pb_vb _ n5]; rfl
    · have z1 := o1 rfl; have z2 := o2 rfl; have z3 := o3 rfl; have z4 := o4 rfl; have z5 := o5 rfl; have z6 := o6 rfl; have z7 := o7 rfl; have z8 := o8 rfl; have z9 := o9 rfl; have z10 := o10 rfl; have z12 := o12 rfl
      subst z1 z2 z3 z4 z5 z6 z7 z8 z9 z10 z12
      have hc : tok.size = 8 := by
        simp [extraF] at he
        omega
      simp only [partsL, bodyP, Int.reduceBEq, Bool.or_false, Bool.or_self, cond_true, cond_false, v1, v2, List.append_assoc]
      rw [pb_str tok 8 hc]; rfl
    · have z1 := o1 rfl; have z2 := o2 rfl; have z3 := o3 rfl; have z4 := o4 rfl; have z5 := o5 rfl; have z6 := o6 rfl; have z7 := o7 rfl; have z8 := o8 rfl; have z9 := o9 rfl; have z10 := o10 rfl; have z12 := o12 rfl
      subst z1 z2 z3 z4 z5 z6 z7 z8 z9 z10 z12
      have hc : tok.size = 8 := by
        simp [extraF] at he
        omega
      simp only [partsL, bodyP, Int.reduceBEq, Bool.or_true, Bool.or_self, cond_true, cond_false, v1, v2, List.append_assoc]
      rw [pb_str tok 8 hc]; rfl
    · have z1 := o1 rfl; have z2 := o2 rfl; have z3 := o3 rfl; have z5 := o5 rfl; have z6 := o6 rfl; have z8 := o8 rfl; have z10 := o10 rfl; have z11 := o11 rfl; have z12 := o12 rfl
      subst z1 z2 z3 z5 z6 z8 z10 z11 z12
      simp only [partsL, bodyP, Int.reduceBEq, Bool.or_self, cond_true, cond_false, v1, v2, List.append_assoc]
      rw [pb_vb _ n4, pb_vb _ n7, pb_text data (by omega)]; rfl
    · have z1 := o1 rfl; have z2 := o2 rfl; have z3 := o3 rfl; have z5 := o5 rfl; have z6 := o6 rfl; have z7 := o7 rfl; have z8 := o8 rfl; have z10 := o10 rfl; have z11 := o11 rfl; have z12 := o12 rfl
      subst z1 z2 z3 z5 z6 z7 z8 z10 z11 z12
      simp only [partsL, bodyP, Int.reduceBEq, Bool.or_self, cond_true, cond_false, v1, v2, List.append_assoc]
      rw [pb_vb _ n4, pb_text data (by omega)]; rfl
    · have z1 := o1 rfl; have z2 := o2 rfl; have z3 := o3 rfl; have z4 := o4 rfl; have z5 := o5 rfl; have z6 := o6 rfl; have z7 := o7 rfl; have z8 := o8 rfl; have z9 := o9 rfl; have z10 := o10 rfl; have z11 := o11 rfl; have z12 := o12 rfl
      subst z1 z2 z3 z4 z5 z6 z7 z8 z9 z10 z11 z12
      simp only [partsL, bodyP, Int.reduceBEq, Bool.or_true, Bool.or_self, cond_true, cond_false, v1, v2, List.append_assoc, List.nil_append]
      rfl
end Go.Proofs.YtjdjlijjolibkaaDoor.V
namespace Go.Proofs.YtjdjlijjolibkaaDoor.V
open Go.RowKit Go.Proofs.Tryd
set_option maxRecDepth 100000
set_option linter.unusedVariables false
noncomputable def m_slices_Index_uint64 : Mach prog Inv gInv := mach bas [(121, f121)] ⟨ok121, trivial⟩ [] trivial [] trivial [] trivial
/-! ### slices.Index[[]uint64,uint64] -/
@[reducible] def r_slices_Index_uint64 : List Ty := [(.int .i64)]
def ks_slices_Index_uint64 : List Nat := [121]
abbrev H_slices_Index_uint64 (base : Base) (S0 : Nat → Prop) := base.n = 0 ∧ FinOk (finR r_slices_Index_uint64) base S0 (Post r_slices_Index_uint64 S0)
abbrev J_slices_Index_uint64 (base : Base) (S0 : Nat → Prop) (cs0 : List Go.Frame) (p : CPat) (J : denC p → Option (denL r_slices_Index_uint64)) := JSound m_slices_Index_uint64 base S0 cs0 (Post r_slices_Index_uint64 S0) p J
abbrev O_slices_Index_uint64 (base : Base) (S0 : Nat → Prop) (cs0 : List Go.Frame) (X : Cfg → Option (Option (denL r_slices_Index_uint64))) := OSound m_slices_Index_uint64 base S0 cs0 (Post r_slices_Index_uint64 S0) X
@[reducible] noncomputable def p_slices_Index_uint64_0 : CPat := ⟨⟨121, [1, 0, 1, 0], none, [.rows (.int .u64) false, .int .u64, .any, .any, .any, .any, .any, .int .i64, .int .i64], 10⟩, [], [], 0⟩
@[reducible] noncomputable def u_slices_Index_uint64_0 (k : (List Int) → Int → Int → Int → Option (Int × Unit)) : denC p_slices_Index_uint64_0 → Option (Int × Unit) := fun x => k x.1.1 x.1.2.1 x.1.2.2.2.2.2.2.2.1 x.1.2.2.2.2.2.2.2.2.1
noncomputable def t_slices_Index_uint64_0 (k0 : (List Int) → Int → Int → Int → Option (Int × Unit)) (l9 : (List Int)) (i10 : Int) (i11 : Int) (i12 : Int) : Option (Int × Unit) :=
  let b13 : Bool := (decide (i12 < i11))
  bif b13 then
    bif (decide (((0 : Int) ≤ i12) ∧ (i12 < (((List.length l9) : Nat) : Int)))) then
      let x14 : Int := (List.getD l9 (Int.toNat i12) (0 : Int))
      let b15 : Bool := (i10 == x14)
      bif b15 then
        some (i12, ())
      else
        let n16 : Int := (Go.IntKind.wrap Go.IntKind.i64 (i12 + (1 : Int)))
        k0 l9 i10 i11 n16
    else none
  else
    some ((-1 : Int), ())
noncomputable def slices_Index_uint64_0 : Nat → (List Int) → Int → Int → Int → Option (Int × Unit)
  | 0 => fun _ _ _ _ => none
  | m + 1 => t_slices_Index_uint64_0 (slices_Index_uint64_0 m)
noncomputable def b_slices_Index_uint64_0' (l9 : (List Int)) (i10 : Int) (i11 : Int) (i12 : Int) : Option (Int × Unit) := slices_Index_uint64_0 (Int.toNat (i11 - i12) + 2) l9 i10 i11 i12
theorem ex_slices_Index_uint64_0' : ∃ f, f = @b_slices_Index_uint64_0' := ⟨_, rfl⟩
noncomputable def slices_Index_uint64_0' := Classical.choose ex_slices_Index_uint64_0'
theorem slices_Index_uint64_0'_eq : @slices_Index_uint64_0' = @b_slices_Index_uint64_0' := Classical.choose_spec ex_slices_Index_uint64_0'
theorem s_slices_Index_uint64_0 {base S0 cs0} (hfin : H_slices_Index_uint64 base S0) : ∀ m, J_slices_Index_uint64 base S0 cs0 p_slices_Index_uint64_0 (u_slices_Index_uint64_0 (slices_Index_uint64_0 m)) :=
  JSound.loop' hfin.2 ks_slices_Index_uint64 100000 u_slices_Index_uint64_0 (fun k0 => cut p_slices_Index_uint64_0 (u_slices_Index_uint64_0 k0) (nowhere)) (fun k0 h0 => OSound.cut (OSound.nowhere) (Nat.le_of_eq hfin.1) h0) (slices_Index_uint64_0) (by intro x; rfl) (by intro m x; kernel_rfl)
theorem s_slices_Index_uint64_0' {base S0 cs0} (hfin : H_slices_Index_uint64 base S0) : J_slices_Index_uint64 base S0 cs0 p_slices_Index_uint64_0 (u_slices_Index_uint64_0 (slices_Index_uint64_0')) := by
  rw [slices_Index_uint64_0'_eq]; exact fun x r hx => s_slices_Index_uint64_0 hfin _ x r hx
noncomputable def x_slices_Index_uint64_0 : Cfg → Option (Option (Int × Unit)) := cut p_slices_Index_uint64_0 (u_slices_Index_uint64_0 (slices_Index_uint64_0')) (nowhere)
theorem o_slices_Index_uint64_0 {base S0 cs0} (hfin : H_slices_Index_uint64 base S0) : O_slices_Index_uint64 base S0 cs0 (x_slices_Index_uint64_0) := OSound.cut (OSound.nowhere) (Nat.le_of_eq hfin.1) (s_slices_Index_uint64_0' hfin)
noncomputable def b_slices_Index_uint64 (a0 : (List Int)) (a1 : Int) : Option (Int × Unit) :=
  let n2 : Int := (((List.length a0) : Nat) : Int)
  slices_Index_uint64_0' a0 a1 n2 (0 : Int)
theorem ex_slices_Index_uint64 : ∃ f, f = @b_slices_Index_uint64 := ⟨_, rfl⟩
noncomputable def slices_Index_uint64 := Classical.choose ex_slices_Index_uint64
theorem slices_Index_uint64_eq : @slices_Index_uint64 = @b_slices_Index_uint64 := Classical.choose_spec ex_slices_Index_uint64
noncomputable def cb_slices_Index_uint64 : Con := ⟨[(.slice (.int .u64)), (.int .u64)], r_slices_Index_uint64, fun x => b_slices_Index_uint64 x.1 x.2.1⟩
noncomputable def c_slices_Index_uint64 : Con := ⟨[(.slice (.int .u64)), (.int .u64)], r_slices_Index_uint64, fun x => slices_Index_uint64 x.1 x.2.1⟩
theorem cb_slices_Index_uint64_ok : cb_slices_Index_uint64.Sound prog Inv gInv 121 :=
  con_run (M := m_slices_Index_uint64) inv_g (f := f121) rfl ks_slices_Index_uint64 100000 (X := x_slices_Index_uint64_0) (fun base S0 cs0 hn hf => have hfin : H_slices_Index_uint64 base S0 := ⟨hn, hf⟩; o_slices_Index_uint64_0 hfin) (by intro x; kernel_rfl)
theorem c_slices_Index_uint64_ok : c_slices_Index_uint64.Sound prog Inv gInv 121 := by
  have e : c_slices_Index_uint64 = cb_slices_Index_uint64 := by unfold c_slices_Index_uint64 cb_slices_Index_uint64; rw [slices_Index_uint64_eq]
  rw [e]; exact cb_slices_Index_uint64_ok
end Go.Proofs.YtjdjlijjolibkaaDoor.V
namespace Go.Proofs.YtjdjlijjolibkaaDoor.V
open Go.RowKit Go.Proofs.Tryd
set_option maxRecDepth 100000
set_option linter.unusedVariables false
noncomputable def m_slices_Contains_uint64 : Mach prog Inv gInv := mach bas [(86, f86)] ⟨ok86, trivial⟩ [(121, c_slices_Index_uint64)] ⟨⟨c_slices_Index_uint64_ok, FnOk.callable ok121⟩, trivial⟩ [] trivial [] trivial
/-! ### slices.Contains[[]uint64,uint64] -/
@[reducible] def r_slices_Contains_uint64 : List Ty := [.bool]
def ks_slices_Contains_uint64 : List Nat := [86]
noncomputable def b_slices_Contains_uint64 (a0 : (List Int)) (a1 : Int) : Option (Bool × Unit) :=
  obind (slices_Index_uint64 a0 a1) fun y2 =>
  let b3 : Bool := (decide (y2.1 ≥ (0 : Int)))
  some (b3, ())
theorem ex_slices_Contains_uint64 : ∃ f, f = @b_slices_Contains_uint64 := ⟨_, rfl⟩
noncomputable def slices_Contains_uint64 := Classical.choose ex_slices_Contains_uint64
theorem slices_Contains_uint64_eq : @slices_Contains_uint64 = @b_slices_Contains_uint64 := Classical.choose_spec ex_slices_Contains_uint64
noncomputable def cb_slices_Contains_uint64 : Con := ⟨[(.slice (.int .u64)), (.int .u64)], r_slices_Contains_uint64, fun x => b_slices_Contains_uint64 x.1 x.2.1⟩
noncomputable def c_slices_Contains_uint64 : Con := ⟨[(.slice (.int .u64)), (.int .u64)], r_slices_Contains_uint64, fun x => slices_Contains_uint64 x.1 x.2.1⟩
theorem cb_slices_Contains_uint64_ok : cb_slices_Contains_uint64.Sound prog Inv gInv 86 :=
  con_run (M := m_slices_Contains_uint64) inv_g (f := f86) rfl ks_slices_Contains_uint64 100000 (X := nowhere) (fun base S0 cs0 hn hf => OSound.nowhere) (by intro x; kernel_rfl)
theorem c_slices_Contains_uint64_ok : c_slices_Contains_uint64.Sound prog Inv gInv 86 := by
  have e : c_slices_Contains_uint64 = cb_slices_Contains_uint64 := by unfold c_slices_Contains_uint64 cb_slices_Contains_uint64; rw [slices_Contains_uint64_eq]
  rw [e]; exact cb_slices_Contains_uint64_ok
end Go.Proofs.YtjdjlijjolibkaaDoor.V
namespace Go.Proofs.YtjdjlijjolibkaaDoor.V
open Go.RowKit Go.Proofs.Tryd
set_option maxRecDepth 100000
set_option linter.unusedVariables false
noncomputable def m_frame_Elicits : Mach prog Inv gInv := mach bas [(36, f36)] ⟨ok36, trivial⟩ [(86, c_slices_Contains_uint64)] ⟨⟨c_slices_Contains_uint64_ok, FnOk.callable ok86⟩, trivial⟩ [] trivial [] trivial
/-! ### domino/frame.Elicits -/
@[reducible] def r_frame_Elicits : List Ty := [.bool]
def ks_frame_Elicits : List Nat := [36]
noncomputable def b_frame_Elicits (a0 : D_frame_Frame) : Option (Bool × Unit) :=
  obind (slices_Contains_uint64 ((0 : Int) :: ((2 : Int) :: ((28 : Int) :: ((29 : Int) :: ([] : List Int))))) a0.1) fun y1 =>
  let b2 : Bool := (!y1.1)
  some (b2, ())
theorem ex_frame_Elicits : ∃ f, f = @b_frame_Elicits := ⟨_, rfl⟩
noncomputable def frame_Elicits := Classical.choose ex_frame_Elicits
theorem frame_Elicits_eq : @frame_Elicits = @b_frame_Elicits := Classical.choose_spec ex_frame_Elicits
noncomputable def cb_frame_Elicits : Con := ⟨[T_frame_Frame], r_frame_Elicits, fun x => b_frame_Elicits x.1⟩
noncomputable def c_frame_Elicits : Con := ⟨[T_frame_Frame], r_frame_Elicits, fun x => frame_Elicits x.1⟩
theorem cb_frame_Elicits_ok : cb_frame_Elicits.Sound prog Inv gInv 36 :=
  con_run (M := m_frame_Elicits) inv_g (f := f36) rfl ks_frame_Elicits 100000 (X := nowhere) (fun base S0 cs0 hn hf => OSound.nowhere) (by intro x; kernel_rfl)
theorem c_frame_Elicits_ok : c_frame_Elicits.Sound prog Inv gInv 36 := by
  have e : c_frame_Elicits = cb_frame_Elicits := by unfold c_frame_Elicits cb_frame_Elicits; rw [frame_Elicits_eq]
  rw [e]; exact cb_frame_Elicits_ok
end Go.Proofs.YtjdjlijjolibkaaDoor.V
namespace Go.Proofs.YtjdjlijjolibkaaDoor.V
open Go.RowKit Go.Proofs.Tryd
set_option maxRecDepth 100000
set_option linter.unusedVariables false
noncomputable def m_law06_shown : Mach prog Inv gInv := mach bas [(30, f30)] ⟨ok30, trivial⟩ [(31, c_frame_Put), (36, c_frame_Elicits), (38, c_frame_Get), (39, c_frame_Same)] ⟨⟨c_frame_Put_ok, FnOk.callable ok31⟩, ⟨c_frame_Elicits_ok, FnOk.callable ok36⟩, ⟨c_frame_Get_ok, FnOk.callable ok38⟩, ⟨c_frame_Same_ok, FnOk.callable ok39⟩, trivial⟩ [] trivial [] trivial
/-! ### domino/dominolaw06.shown -/
@[reducible] def r_law06_shown : List Ty := [.bool]
def ks_law06_shown : List Nat := [30]
noncomputable def b_law06_shown : Option (Bool × Unit) :=
  let e0 : (Int × (Int × Unit)) := ((1 : Int), ((3 : Int), ()))
  let e1 : (Int × (Int × Unit)) := ((6 : Int), ((6 : Int), ()))
  let s2 : ByteArray := (ByteArray.mk (List.toArray ([] : List UInt8)))
  let s3 : ByteArray := (ByteArray.mk (List.toArray ([] : List UInt8)))
  obind (frame_Put ((2 : Int), ((0 : Int), ((0 : Int), ((0 : Int), ((0 : Int), ((0 : Int), ((0 : Int), ((0 : Int), (false, (s2, (s2, (s2, ((e0 :: (e1 :: ([] : List D_ranges_Range))), ())))))))))))))) fun y4 =>
  bif (decide (((ByteArray.size y4.1) + 1) ≤ 9223372036854775807)) then
    let s5 : ByteArray := (y4.1 ++ (ByteArray.mk (List.toArray ((1 : UInt8) :: ([] : List UInt8)))))
    obind (frame_Get s5) fun y6 =>
    let s7 : ByteArray := (ByteArray.mk (List.toArray ([] : List UInt8)))
    let b8 : Bool := (y4.2.1 == (0 : Int))
    bif b8 then
      let b9 : Bool := (y6.2.2.1 == (0 : Int))
      bif b9 then
        let b10 : Bool := ((ByteArray.toList y4.1) == (ByteArray.toList (ByteArray.mk (List.toArray ((2 : UInt8) :: ((6 : UInt8) :: ((0 : UInt8) :: ((1 : UInt8) :: ((0 : UInt8) :: ((1 : UInt8) :: ((2 : UInt8) :: ([] : List UInt8))))))))))))
        bif b10 then
          let b11 : Bool := ((ByteArray.toList y6.2.1) == (ByteArray.toList (ByteArray.mk (List.toArray ((1 : UInt8) :: ([] : List UInt8))))))
          bif b11 then
            obind (frame_Same ((2 : Int), ((0 : Int), ((0 : Int), ((0 : Int), ((0 : Int), ((0 : Int), ((0 : Int), ((0 : Int), (false, (s2, (s2, (s2, ((e0 :: (e1 :: ([] : List D_ranges_Range))), ()))))))))))))) y6.1) fun y12 =>
            bif y12.1 then
              obind (frame_Elicits y6.1) fun y13 =>
              let b14 : Bool := (!y13.1)
              some (b14, ())
            else
              some (false, ())
          else
            some (false, ())
        else
          some (false, ())
      else
        some (false, ())
    else
      some (false, ())
  else none
theorem ex_law06_shown : ∃ f, f = @b_law06_shown := ⟨_, rfl⟩
noncomputable def law06_shown := Classical.choose ex_law06_shown
theorem law06_shown_eq : @law06_shown = @b_law06_shown := Classical.choose_spec ex_law06_shown
noncomputable def cb_law06_shown : Con := ⟨[], r_law06_shown, fun x => b_law06_shown⟩
noncomputable def c_law06_shown : Con := ⟨[], r_law06_shown, fun x => law06_shown⟩
theorem cb_law06_shown_ok : cb_law06_shown.Sound prog Inv gInv 30 :=
  con_run (M := m_law06_shown) inv_g (f := f30) rfl ks_law06_shown 100000 (X := nowhere) (fun base S0 cs0 hn hf => OSound.nowhere) (by intro x; kernel_rfl)
theorem c_law06_shown_ok : c_law06_shown.Sound prog Inv gInv 30 := by
  have e : c_law06_shown = cb_law06_shown := by unfold c_law06_shown cb_law06_shown; rw [law06_shown_eq]
  rw [e]; exact cb_law06_shown_ok
end Go.Proofs.YtjdjlijjolibkaaDoor.V
namespace Go.Proofs.YtjdjlijjolibkaaDoor.V
open Go.RowKit Go.Proofs.Tryd
set_option maxRecDepth 100000
set_option linter.unusedVariables false
noncomputable def m_law06_bounded : Mach prog Inv gInv := mach bas [(29, f29)] ⟨ok29, trivial⟩ [] trivial [] trivial [] trivial
/-! ### domino/dominolaw06.bounded -/
@[reducible] def r_law06_bounded : List Ty := [.bool]
def ks_law06_bounded : List Nat := [29]
noncomputable def b_law06_bounded (a0 : D_frame_Frame) : Option (Bool × Unit) :=
  let n1 : Int := (((ByteArray.size a0.2.2.2.2.2.2.2.2.2.1) : Nat) : Int)
  let b2 : Bool := (decide (n1 ≤ (1300 : Int)))
  bif b2 then
    let n3 : Int := (((ByteArray.size a0.2.2.2.2.2.2.2.2.2.2.1) : Nat) : Int)
    let b4 : Bool := (decide (n3 ≤ (100 : Int)))
    bif b4 then
      let n5 : Int := (((ByteArray.size a0.2.2.2.2.2.2.2.2.2.2.2.1) : Nat) : Int)
      let b6 : Bool := (decide (n5 ≤ (100 : Int)))
      bif b6 then
        let n7 : Int := (((List.length a0.2.2.2.2.2.2.2.2.2.2.2.2.1) : Nat) : Int)
        let b8 : Bool := (decide (n7 ≤ (50 : Int)))
        some (b8, ())
      else
        some (false, ())
    else
      some (false, ())
  else
    some (false, ())
theorem ex_law06_bounded : ∃ f, f = @b_law06_bounded := ⟨_, rfl⟩
noncomputable def law06_bounded := Classical.choose ex_law06_bounded
theorem law06_bounded_eq : @law06_bounded = @b_law06_bounded := Classical.choose_spec ex_law06_bounded
noncomputable def cb_law06_bounded : Con := ⟨[T_frame_Frame], r_law06_bounded, fun x => b_law06_bounded x.1⟩
noncomputable def c_law06_bounded : Con := ⟨[T_frame_Frame], r_law06_bounded, fun x => law06_bounded x.1⟩
theorem cb_law06_bounded_ok : cb_law06_bounded.Sound prog Inv gInv 29 :=
  con_run (M := m_law06_bounded) inv_g (f := f29) rfl ks_law06_bounded 100000 (X := nowhere) (fun base S0 cs0 hn hf => OSound.nowhere) (by intro x; kernel_rfl)
theorem c_law06_bounded_ok : c_law06_bounded.Sound prog Inv gInv 29 := by
  have e : c_law06_bounded = cb_law06_bounded := by unfold c_law06_bounded cb_law06_bounded; rw [law06_bounded_eq]
  rw [e]; exact cb_law06_bounded_ok
end Go.Proofs.YtjdjlijjolibkaaDoor.V
/- What the laws of frames share. -/
namespace Go.Proofs.YtjdjlijjolibkaaDoor.V
open Go.RowKit
theorem frok_of_wf {f : D_frame_Frame} (h : Wf T_frame_Frame f) : FrOk f := by
  obtain ⟨k, id, off, mx, code, seq, prior, delay, fin, data, cid, tok, set, ⟨⟩⟩ := f
  obtain ⟨h1, h2, h3, h4, h5, h6, h7, h8, _, _, _, _, ⟨h9, h10⟩, _⟩ := h
  have w : ∀ {n : Int}, (Lit.int .u64 n).wf = true → 0 ≤ n ∧ n < 18446744073709551616 := fun h => by have := wf_u64 h; omega
  refine ⟨w h1, w h2, w h3, w h4, w h5, w h6, w h7, w h8, fun r hr => ?_, h9⟩
  obtain ⟨g1, g2, _⟩ := h10 r hr
  exact ⟨w g1, w g2⟩
def boundF (f : D_frame_Frame) : Bool := decide (f.2.2.2.2.2.2.2.2.2.1.size ≤ 1300) && decide (f.2.2.2.2.2.2.2.2.2.2.1.size ≤ 100) && decide (f.2.2.2.2.2.2.2.2.2.2.2.1.size ≤ 100) && decide (f.2.2.2.2.2.2.2.2.2.2.2.2.1.length ≤ 50)
theorem bounded_is (f : D_frame_Frame) : law06_bounded f = some (boundF f, ()) := by
  rw [law06_bounded_eq, b_law06_bounded]
  have c1 : decide (((f.2.2.2.2.2.2.2.2.2.1.size : Nat) : Int) ≤ 1300) = decide (f.2.2.2.2.2.2.2.2.2.1.size ≤ 1300) := decide_eq_decide.mpr (by omega)
  have c2 : decide (((f.2.2.2.2.2.2.2.2.2.2.1.size : Nat) : Int) ≤ 100) = decide (f.2.2.2.2.2.2.2.2.2.2.1.size ≤ 100) := decide_eq_decide.mpr (by omega)
  have c3 : decide (((f.2.2.2.2.2.2.2.2.2.2.2.1.size : Nat) : Int) ≤ 100) = decide (f.2.2.2.2.2.2.2.2.2.2.2.1.size ≤ 100) := decide_eq_decide.mpr (by omega)
  have c4 : decide (((f.2.2.2.2.2.2.2.2.2.2.2.2.1.length : Nat) : Int) ≤ 50) = decide (f.2.2.2.2.2.2.2.2.2.2.2.2.1.length ≤ 50) := decide_eq_decide.mpr (by omega)
  simp only [c1, c2, c3, c4, boundF]
  cases decide (f.2.2.2.2.2.2.2.2.2.1.size ≤ 1300) <;> cases decide (f.2.2.2.2.2.2.2.2.2.2.1.size ≤ 100) <;> cases decide (f.2.2.2.2.2.2.2.2.2.2.2.1.size ≤ 100) <;> rfl
def f0 : D_frame_Frame := (2, 0, 0, 0, 0, 0, 0, 0, false, eB, eB, eB, [(1, (3, ())), (6, (6, ()))], ())
theorem f0_ok : FrOk f0 := ⟨by decide, by decide, by decide, by decide, by decide, by decide, by decide, by decide, by decide, by decide⟩
theorem f0_may : mayFr f0 = true := by decide +kernel
theorem f0_put : putL f0 = [2, 6, 0, 1, 0, 1, 2] := by decide +kernel
theorem index_loop (x : Int) : ∀ (suf pre : List Int) (m : Nat), suf.length < m → (pre ++ suf).length ≤ 9223372036854775807 →
    ∃ i, slices_Index_uint64_0 m (pre ++ suf) x (((pre ++ suf).length : Nat) : Int) ((pre.length : Nat) : Int) = some (i, ()) ∧ (0 ≤ i ↔ x ∈ suf) := by
  intro suf
  induction suf with
  | nil =>
    intro pre m hm _
    obtain ⟨m, rfl⟩ : ∃ k, m = k + 1 := ⟨m - 1, by omega⟩
    refine ⟨-1, ?_, by simp⟩
    simp only [slices_Index_uint64_0, t_slices_Index_uint64_0, mid_end, decide_false, cond_false]
  | cons y suf ih =>
    intro pre m hm hl
    obtain ⟨m, rfl⟩ : ∃ k, m = k + 1 := ⟨m - 1, by omega⟩
    by_cases e : x = y
    · subst e
      refine ⟨((pre.length : Nat) : Int), ?_, by simp⟩
      simp only [slices_Index_uint64_0, t_slices_Index_uint64_0, mid_lt, nn, and_true, decide_true, cond_true, toNat_len, getD_mid, beq_self_eq_true]
    · obtain ⟨i, h1, h2⟩ := ih (pre ++ [y]) m (by simp at hm; omega) (by simpa using hl)
      refine ⟨i, ?_, by rw [h2]; simp [e]⟩
      simp only [slices_Index_uint64_0, t_slices_Index_uint64_0, mid_lt, nn, and_true, decide_true, cond_true, toNat_len, getD_mid, beq_false_of_ne e, cond_false]
      rw [mid_next' pre y y suf hl, snoc_app, h1]
theorem contains_is (x : Int) (l : List Int) (hl : l.length ≤ 9223372036854775807) : slices_Contains_uint64 l x = some (decide (x ∈ l), ()) := by
  rw [slices_Contains_uint64_eq, b_slices_Contains_uint64, slices_Index_uint64_eq, b_slices_Index_uint64]
  simp only
  rw [slices_Index_uint64_0'_eq, b_slices_Index_uint64_0']
  obtain ⟨i, h1, h2⟩ := index_loop x l [] (Int.toNat (((l.length : Nat) : Int) - 0) + 2) (by omega) (by simpa using hl)
  simp only [List.nil_append, List.length_nil] at h1
  rw [show ((0 : Nat) : Int) = 0 from rfl] at h1
  rw [h1]
  simp only [obind_some]
  exact some_b (decide_eq_decide.mpr h2)
theorem elicits_is (f : D_frame_Frame) : frame_Elicits f = some (!decide (f.1 ∈ ([0, 2, 28, 29] : List Int)), ()) := by
  rw [frame_Elicits_eq, b_frame_Elicits, contains_is _ _ (by simp)]
  simp only [obind_some]
theorem size_app (a b : ByteArray) : (a ++ b).size = a.size + b.size := by
  rw [← strBytes_len, strBytes_app, List.length_append, strBytes_len, strBytes_len]
/-- A frame that was put, with bytes behind: it is got back. -/
theorem got_back (f : D_frame_Frame) (h : FrOk f) (hm : mayFr f = true) (t : ByteArray) (ht : t.size ≤ 900000) : frame_Get (bytesStr (putL f) ++ t) = some (f, t, 0, ()) := by
  obtain ⟨p1, p2, p3⟩ := put_ok f h hm
  rw [get_is _ (by rw [size_app, bytesStr_size]; omega), strBytes_app, strBytes_bs p1, back_is f h hm]
  simp only [bytesStr_strBytes]
theorem shown_is : law06_shown = some (true, ()) := by
  rw [law06_shown_eq, b_law06_shown]
  have e0 : ByteArray.mk (List.toArray ([] : List UInt8)) = eB := rfl
  simp only [e0]
  have ep := put_is f0 f0_ok
  rw [f0_may, f0_put] at ep
  simp only [f0, if_true] at ep
  simp only [ep, obind_some]
  have es : (bytesStr [2, 6, 0, 1, 0, 1, 2]).size = 7 := by rw [bytesStr_size]; rfl
  have eg := got_back f0 f0_ok f0_may (ByteArray.mk (List.toArray ((1 : UInt8) :: ([] : List UInt8)))) (by decide)
  rw [f0_put] at eg
  have eb : bytesStr [2, 6, 0, 1, 0, 1, 2] = ByteArray.mk (List.toArray ((2 : UInt8) :: ((6 : UInt8) :: ((0 : UInt8) :: ((1 : UInt8) :: ((0 : UInt8) :: ((1 : UInt8) :: ((2 : UInt8) :: ([] : List UInt8))))))))) := by
    rw [byt_eq, bytesStr_data]; decide
  have esame : frame_Same f0 f0 = some (true, ()) := by rw [same_is _ _ f0_ok.few]; simp
  have eel : frame_Elicits f0 = some (false, ()) := by rw [elicits_is]; rfl
  simp only [f0] at eg esame eel
  simp only [es, eg, obind_some, toList_beq, ← eb, esame, eel]
  simp
end Go.Proofs.YtjdjlijjolibkaaDoor.V
/- What is got has numbers of 62 bits. -/
namespace Go.Proofs.YtjdjlijjolibkaaDoor.V
open Go.RowKit
/-- What a reader tells. -/
def Tell {α : Type} (p : Pr α) (Q : α → Prop) : Prop := ∀ l a r, Byt l → p l = some (a, r) → Q a
theorem Tell.any {α : Type} (p : Pr α) : Tell p fun _ => True := fun _ _ _ _ _ => trivial
theorem Tell.pr {α : Type} {a : α} {Q : α → Prop} (h : Q a) : Tell (pr a) Q := fun _ _ _ _ e => by cases e; exact h
theorem Tell.nat : Tell vget In62 := fun l a r hB e => by
  obtain ⟨q, rfl, _, h, _⟩ := vget_some e
  exact h hB
theorem Tell.bind {α β : Type} {p : Pr α} {f : α → Pr β} {Q : α → Prop} {R : β → Prop} (hs : Suf p) (h : Tell p Q) (k : ∀ a, Q a → Tell (f a) R) : Tell (pb p f) R := fun l b r hB e => by
  obtain ⟨a, r1, e1, e2⟩ := pb_some e
  obtain ⟨q, rfl⟩ := hs _ _ _ e1
  exact k a (h _ _ _ hB e1) _ _ _ hB.suf e2
theorem Tell.num {β : Type} {f : Int → Pr β} {R : β → Prop} (k : ∀ n, In62 n → Tell (f n) R) : Tell (pb vget f) R := Tell.bind Suf.vget Tell.nat k
theorem Tell.cond {α : Type} {b : Bool} {p q : Pr α} {Q : α → Prop} (h : b = true → Tell p Q) (k : b = false → Tell q Q) : Tell (bif b then p else q) Q := by cases b; exact k rfl; exact h rfl
theorem Tell.none {α : Type} {Q : α → Prop} : Tell (fun _ => none : Pr α) Q := fun _ _ _ _ h => by cases h
theorem Tell.stream (a b c : Bool) : Tell (streamP a b c) FrOk := by
  have i8 := i62 8 (by decide)
  refine Tell.num fun id hid => Tell.bind (Q := In62) (by cases b; exact Suf.pr _; exact Suf.vget) (by cases b; exact Tell.pr in62_0; exact Tell.nat) fun off hoff => ?_
  refine Tell.bind (by cases c; exact Suf.rest; exact Suf.long) (Tell.any _) fun data _ => Tell.pr ?_
  exact frok0 i8 hid hoff in62_0 in62_0 in62_0 in62_0 in62_0
theorem Tell.ack : Tell ackP FrOk := by
  refine Tell.num fun hi h1 => Tell.num fun delay h2 => Tell.num fun cnt h3 => Tell.num fun first h4 => ?_
  intro l f r hB e
  obtain ⟨⟨⟩, r1, e1, e2⟩ := pb_some e
  obtain ⟨rs, r2, e3, e4⟩ := pb_some e2
  cases e4
  obtain ⟨a0, a1⟩ := h1
  obtain ⟨f0, f1⟩ := h4
  cases hc : (decide (cnt < 32) && decide (first ≤ hi)) with
  | false => rw [hc] at e1; cases e1
  | true =>
    rw [hc] at e1
    cases e1
    simp only [Bool.and_eq_true, decide_eq_true_eq] at hc
    obtain ⟨c1, c2⟩ := hc
    obtain ⟨k1, k2⟩ := gaps_ok _ _ _ _ _ e3 hB (by omega) ⟨by omega, by omega⟩
    have ok0 := frok0 (k := 2) (id := 0) (off := 0) (mx := 0) (code := 0) (seq := 0) (prior := 0) (delay := delay) (fin := false) (data := eB) (cid := eB) (tok := eB) (i62 2 (by decide)) in62_0 in62_0 in62_0 in62_0 in62_0 in62_0 h2
    refine ⟨ok0.kind, ok0.id, ok0.off, ok0.max, ok0.code, ok0.seq, ok0.prior, ok0.delay, fun x hx => ?_, ?_⟩
    · simp only [List.mem_reverse, List.mem_cons] at hx
      rcases hx with rfl | hx
      · exact ⟨⟨by show 0 ≤ hi - first; omega, by show hi - first < _; omega⟩, ⟨a0, by show hi < _; omega⟩⟩
      · exact ⟨in62_64 (k2 x hx).1, in62_64 (k2 x hx).2⟩
    · show (((hi - first, hi, ()) :: rs).reverse).length ≤ 9223372036854775807
      simp; omega
theorem Tell.body (k : Int) (hk : In62 k) : Tell (bodyP k) FrOk := by
  have Z := in62_0
  unfold bodyP
  refine Tell.cond (fun _ => Tell.pr (frok0 hk Z Z Z Z Z Z Z)) fun _ => Tell.cond (fun _ => Tell.ack) fun _ => Tell.cond (fun e => ?_) fun _ => Tell.cond (fun _ => ?_) fun _ => Tell.cond (fun _ => ?_) fun _ => ?_
  · exact Tell.num fun id h1 => Tell.num fun code h2 => Tell.num fun mx h3 => Tell.pr (frok0 (i62 4 (by decide)) h1 Z h3 h2 Z Z Z)
  · exact Tell.num fun id h1 => Tell.num fun code h2 => Tell.pr (frok0 (i62 5 (by decide)) h1 Z Z h2 Z Z Z)
  · exact Tell.num fun off h1 => Tell.bind Suf.long (Tell.any _) fun data _ => Tell.pr (frok0 (i62 6 (by decide)) Z h1 Z Z Z Z Z)
  refine Tell.cond (fun _ => Tell.stream _ _ _) fun _ => Tell.cond (fun _ => Tell.stream _ _ _) fun _ => Tell.cond (fun _ => Tell.stream _ _ _) fun _ => Tell.cond (fun _ => Tell.stream _ _ _) fun _ => Tell.cond (fun _ => Tell.stream _ _ _) fun _ => Tell.cond (fun _ => Tell.stream _ _ _) fun _ => Tell.cond (fun _ => Tell.stream _ _ _) fun _ => Tell.cond (fun _ => Tell.stream _ _ _) fun _ => ?_
  refine Tell.cond (fun _ => Tell.num fun mx h => Tell.pr (frok0 hk Z Z h Z Z Z Z)) fun _ => Tell.cond (fun _ => Tell.num fun id h1 => Tell.num fun mx h => Tell.pr (frok0 hk h1 Z h Z Z Z Z)) fun _ => Tell.cond (fun _ => ?_) fun _ => ?_
  · exact Tell.num fun seq h1 => Tell.num fun prior h2 => Tell.bind (Suf.take _) (Tell.any _) fun _ _ => Tell.bind (Suf.pg _) (Tell.any _) fun _ _ => Tell.bind (Suf.str _) (Tell.any _) fun _ _ => Tell.bind (Suf.str _) (Tell.any _) fun _ _ => Tell.pr (frok0 (i62 24 (by decide)) Z Z Z Z h1 h2 Z)
  refine Tell.cond (fun _ => Tell.num fun seq h => Tell.pr (frok0 (i62 25 (by decide)) Z Z Z Z h Z Z)) fun _ => Tell.cond (fun _ => Tell.bind (Suf.str _) (Tell.any _) fun _ _ => Tell.pr (frok0 hk Z Z Z Z Z Z Z)) fun _ => Tell.cond (fun _ => ?_) fun _ => Tell.cond (fun _ => ?_) fun _ => Tell.none
  · exact Tell.num fun code h1 => Tell.num fun delay h2 => Tell.bind Suf.long (Tell.any _) fun _ _ => Tell.pr (frok0 (i62 28 (by decide)) Z Z Z h1 Z Z h2)
  · exact Tell.num fun code h1 => Tell.bind Suf.long (Tell.any _) fun _ _ => Tell.pr (frok0 (i62 29 (by decide)) Z Z Z h1 Z Z Z)
theorem getL_ok {l : List Int} {f : D_frame_Frame} {r : List Int} (hB : Byt l) (h : getL l = some (f, r)) : FrOk f ∧ mayFr f = true := by
  obtain ⟨k, r1, h1, _, h3, h4⟩ := getL_some h
  obtain ⟨q, rfl, _, hk, _⟩ := vget_some h1
  exact ⟨Tell.body k (hk hB) _ _ _ hB.suf h3, h4⟩
theorem same_self {f : D_frame_Frame} (h : f.2.2.2.2.2.2.2.2.2.2.2.2.1.length ≤ 9223372036854775807) : frame_Same f f = some (true, ()) := by
  rw [same_is _ _ h]; simp
end Go.Proofs.YtjdjlijjolibkaaDoor.V
namespace Go.Proofs.YtjdjlijjolibkaaDoor.V
open Go.RowKit Go.Proofs.Tryd
set_option maxRecDepth 100000
set_option linter.unusedVariables false
noncomputable def m_law06_its : Mach prog Inv gInv := mach bas [(33, f33)] ⟨ok33, trivial⟩ [] trivial [] trivial [] trivial
/-! ### domino/dominolaw06.its -/
@[reducible] def r_law06_its : List Ty := [T_frame_Frame]
def ks_law06_its : List Nat := [33]
abbrev H_law06_its (base : Base) (S0 : Nat → Prop) := base.n = 0 ∧ FinOk (finR r_law06_its) base S0 (Post r_law06_its S0)
abbrev J_law06_its (base : Base) (S0 : Nat → Prop) (cs0 : List Go.Frame) (p : CPat) (J : denC p → Option (denL r_law06_its)) := JSound m_law06_its base S0 cs0 (Post r_law06_its S0) p J
abbrev O_law06_its (base : Base) (S0 : Nat → Prop) (cs0 : List Go.Frame) (X : Cfg → Option (Option (denL r_law06_its))) := OSound m_law06_its base S0 cs0 (Post r_law06_its S0) X
@[reducible] noncomputable def p_law06_its_0 : CPat := ⟨⟨33, [1, 1, 0, 1, 0], none, [.any, .ptr 0 0, .ptr 1 0, .ptr 2 0, .int .i64], 43⟩, [], [.dat 34 T_frame_Frame, .cells 60 [.intC .u64 (0), .intC .u64 (0), .intC .u64 (0), .intC .u64 (0), .intC .u64 (0), .intC .u64 (0), .intC .u64 (0), .intC .u64 (0), .boolC false, .str, .str, .str, .nilSlice], .cells 60 [.int .u64, .int .u64, .int .u64, .int .u64, .int .u64, .int .u64, .int .u64, .int .u64, .bool, .str, .str, .str, .all 3], .row T_ranges_Range], 0⟩
@[reducible] noncomputable def u_law06_its_0 (k : Int → D_frame_Frame → ByteArray → ByteArray → ByteArray → Int → Int → Int → Int → Int → Int → Int → Int → Bool → ByteArray → ByteArray → ByteArray → (List D_ranges_Range) → Option (D_frame_Frame × Unit)) : denC p_law06_its_0 → Option (D_frame_Frame × Unit) := fun x => k x.1.2.2.2.2.1 x.2.2.1 x.2.2.2.1.2.2.2.2.2.2.2.2.2.1 x.2.2.2.1.2.2.2.2.2.2.2.2.2.2.1 x.2.2.2.1.2.2.2.2.2.2.2.2.2.2.2.1 x.2.2.2.2.1.1 x.2.2.2.2.1.2.1 x.2.2.2.2.1.2.2.1 x.2.2.2.2.1.2.2.2.1 x.2.2.2.2.1.2.2.2.2.1 x.2.2.2.2.1.2.2.2.2.2.1 x.2.2.2.2.1.2.2.2.2.2.2.1 x.2.2.2.2.1.2.2.2.2.2.2.2.1 x.2.2.2.2.1.2.2.2.2.2.2.2.2.1 x.2.2.2.2.1.2.2.2.2.2.2.2.2.2.1 x.2.2.2.2.1.2.2.2.2.2.2.2.2.2.2.1 x.2.2.2.2.1.2.2.2.2.2.2.2.2.2.2.2.1 x.2.2.2.2.2.1
noncomputable def t_law06_its_0 (k0 : Int → D_frame_Frame → ByteArray → ByteArray → ByteArray → Int → Int → Int → Int → Int → Int → Int → Int → Bool → ByteArray → ByteArray → ByteArray → (List D_ranges_Range) → Option (D_frame_Frame × Unit)) (i23 : Int) (d24 : D_frame_Frame) (s25 : ByteArray) (s26 : ByteArray) (s27 : ByteArray) (i28 : Int) (i29 : Int) (i30 : Int) (i31 : Int) (i32 : Int) (i33 : Int) (i34 : Int) (i35 : Int) (b36 : Bool) (s37 : ByteArray) (s38 : ByteArray) (s39 : ByteArray) (l40 : (List D_ranges_Range)) : Option (D_frame_Frame × Unit) :=
  let n41 : Int := (((List.length d24.2.2.2.2.2.2.2.2.2.2.2.2.1) : Nat) : Int)
  let b42 : Bool := (decide (i23 < n41))
  bif b42 then
    bif (decide (((0 : Int) ≤ i23) ∧ (i23 < (((List.length d24.2.2.2.2.2.2.2.2.2.2.2.2.1) : Nat) : Int)))) then
      let x43 : D_ranges_Range := (List.getD d24.2.2.2.2.2.2.2.2.2.2.2.2.1 (Int.toNat i23) (Ty.dflt T_ranges_Range))
      let e44 : (Int × (Int × Unit)) := (x43.1, (x43.2.1, ()))
      bif (decide (((List.length l40) + (List.length (e44 :: ([] : List D_ranges_Range)))) ≤ 4294967296)) then
        let l45 : (List D_ranges_Range) := (l40 ++ (e44 :: ([] : List D_ranges_Range)))
        let n46 : Int := (Go.IntKind.wrap Go.IntKind.i64 (i23 + (1 : Int)))
        k0 n46 d24 s25 s26 s27 i28 i29 i30 i31 i32 i33 i34 i35 b36 s37 s38 s39 l45
      else none
    else none
  else
    some ((i28, (i29, (i30, (i31, (i32, (i33, (i34, (i35, (b36, (s37, (s38, (s39, (l40, ()))))))))))))), ())
noncomputable def law06_its_0 : Nat → Int → D_frame_Frame → ByteArray → ByteArray → ByteArray → Int → Int → Int → Int → Int → Int → Int → Int → Bool → ByteArray → ByteArray → ByteArray → (List D_ranges_Range) → Option (D_frame_Frame × Unit)
  | 0 => fun _ _ _ _ _ _ _ _ _ _ _ _ _ _ _ _ _ _ => none
  | m + 1 => t_law06_its_0 (law06_its_0 m)
noncomputable def b_law06_its_0' (i23 : Int) (d24 : D_frame_Frame) (s25 : ByteArray) (s26 : ByteArray) (s27 : ByteArray) (i28 : Int) (i29 : Int) (i30 : Int) (i31 : Int) (i32 : Int) (i33 : Int) (i34 : Int) (i35 : Int) (b36 : Bool) (s37 : ByteArray) (s38 : ByteArray) (s39 : ByteArray) (l40 : (List D_ranges_Range)) : Option (D_frame_Frame × Unit) := law06_its_0 (Int.toNat ((((List.length d24.2.2.2.2.2.2.2.2.2.2.2.2.1) : Nat) : Int) - i23) + 2) i23 d24 s25 s26 s27 i28 i29 i30 i31 i32 i33 i34 i35 b36 s37 s38 s39 l40
theorem ex_law06_its_0' : ∃ f, f = @b_law06_its_0' := ⟨_, rfl⟩
noncomputable def law06_its_0' := Classical.choose ex_law06_its_0'
theorem law06_its_0'_eq : @law06_its_0' = @b_law06_its_0' := Classical.choose_spec ex_law06_its_0'
theorem s_law06_its_0 {base S0 cs0} (hfin : H_law06_its base S0) : ∀ m, J_law06_its base S0 cs0 p_law06_its_0 (u_law06_its_0 (law06_its_0 m)) :=
  JSound.loop' hfin.2 ks_law06_its 100000 u_law06_its_0 (fun k0 => cut p_law06_its_0 (u_law06_its_0 k0) (nowhere)) (fun k0 h0 => OSound.cut (OSound.nowhere) (Nat.le_of_eq hfin.1) h0) (law06_its_0) (by intro x; rfl) (by intro m x; kernel_rfl)
theorem s_law06_its_0' {base S0 cs0} (hfin : H_law06_its base S0) : J_law06_its base S0 cs0 p_law06_its_0 (u_law06_its_0 (law06_its_0')) := by
  rw [law06_its_0'_eq]; exact fun x r hx => s_law06_its_0 hfin _ x r hx
noncomputable def x_law06_its_0 : Cfg → Option (Option (D_frame_Frame × Unit)) := cut p_law06_its_0 (u_law06_its_0 (law06_its_0')) (nowhere)
theorem o_law06_its_0 {base S0 cs0} (hfin : H_law06_its base S0) : O_law06_its base S0 cs0 (x_law06_its_0) := OSound.cut (OSound.nowhere) (Nat.le_of_eq hfin.1) (s_law06_its_0' hfin)
noncomputable def b_law06_its (a0 : D_frame_Frame) : Option (D_frame_Frame × Unit) :=
  let s1 : ByteArray := (ByteArray.mk (List.toArray ([] : List UInt8)))
  let s2 : ByteArray := (ByteArray.mk (List.toArray ([] : List UInt8)))
  law06_its_0' (0 : Int) a0 s1 s1 s1 a0.1 a0.2.1 a0.2.2.1 a0.2.2.2.1 a0.2.2.2.2.1 a0.2.2.2.2.2.1 a0.2.2.2.2.2.2.1 a0.2.2.2.2.2.2.2.1 a0.2.2.2.2.2.2.2.2.1 a0.2.2.2.2.2.2.2.2.2.1 a0.2.2.2.2.2.2.2.2.2.2.1 a0.2.2.2.2.2.2.2.2.2.2.2.1 ([] : List D_ranges_Range)
theorem ex_law06_its : ∃ f, f = @b_law06_its := ⟨_, rfl⟩
noncomputable def law06_its := Classical.choose ex_law06_its
theorem law06_its_eq : @law06_its = @b_law06_its := Classical.choose_spec ex_law06_its
noncomputable def cb_law06_its : Con := ⟨[T_frame_Frame], r_law06_its, fun x => b_law06_its x.1⟩
noncomputable def c_law06_its : Con := ⟨[T_frame_Frame], r_law06_its, fun x => law06_its x.1⟩
theorem cb_law06_its_ok : cb_law06_its.Sound prog Inv gInv 33 :=
  con_run (M := m_law06_its) inv_g (f := f33) rfl ks_law06_its 100000 (X := x_law06_its_0) (fun base S0 cs0 hn hf => have hfin : H_law06_its base S0 := ⟨hn, hf⟩; o_law06_its_0 hfin) (by intro x; kernel_rfl)
theorem c_law06_its_ok : c_law06_its.Sound prog Inv gInv 33 := by
  have e : c_law06_its = cb_law06_its := by unfold c_law06_its cb_law06_its; rw [law06_its_eq]
  rw [e]; exact cb_law06_its_ok
end Go.Proofs.YtjdjlijjolibkaaDoor.V
namespace Go.Proofs.YtjdjlijjolibkaaDoor.V
open Go.RowKit Go.Proofs.Tryd
set_option maxRecDepth 100000
set_option linter.unusedVariables false
noncomputable def m_ref03_Same : Mach prog Inv gInv := mach bas [(91, f91)] ⟨ok91, trivial⟩ [] trivial [] trivial [] trivial
/-! ### domino/dominoref03.Same -/
@[reducible] def r_ref03_Same : List Ty := [.bool]
def ks_ref03_Same : List Nat := [91]
abbrev H_ref03_Same (base : Base) (S0 : Nat → Prop) := base.n = 0 ∧ FinOk (finR r_ref03_Same) base S0 (Post r_ref03_Same S0)
abbrev J_ref03_Same (base : Base) (S0 : Nat → Prop) (cs0 : List Go.Frame) (p : CPat) (J : denC p → Option (denL r_ref03_Same)) := JSound m_ref03_Same base S0 cs0 (Post r_ref03_Same S0) p J
abbrev O_ref03_Same (base : Base) (S0 : Nat → Prop) (cs0 : List Go.Frame) (X : Cfg → Option (Option (denL r_ref03_Same))) := OSound m_ref03_Same base S0 cs0 (Post r_ref03_Same S0) X
@[reducible] noncomputable def p_ref03_Same_0 : CPat := ⟨⟨91, [1, 1, 0, 1, 0], none, [.rows T_ranges_Range false, .rows T_ranges_Range false, .any, .any, .any, .int .i64], 20⟩, [], [], 0⟩
@[reducible] noncomputable def u_ref03_Same_0 (k : (List D_ranges_Range) → (List D_ranges_Range) → Int → Option (Bool × Unit)) : denC p_ref03_Same_0 → Option (Bool × Unit) := fun x => k x.1.1 x.1.2.1 x.1.2.2.2.2.2.1
noncomputable def t_ref03_Same_0 (k0 : (List D_ranges_Range) → (List D_ranges_Range) → Int → Option (Bool × Unit)) (l12 : (List D_ranges_Range)) (l13 : (List D_ranges_Range)) (i14 : Int) : Option (Bool × Unit) :=
  let n15 : Int := (((List.length l12) : Nat) : Int)
  let b16 : Bool := (decide (i14 < n15))
  bif b16 then
    bif (decide (((0 : Int) ≤ i14) ∧ (i14 < (((List.length l12) : Nat) : Int)))) then
      let x17 : D_ranges_Range := (List.getD l12 (Int.toNat i14) (Ty.dflt T_ranges_Range))
      bif (decide (((0 : Int) ≤ i14) ∧ (i14 < (((List.length l13) : Nat) : Int)))) then
        let x18 : D_ranges_Range := (List.getD l13 (Int.toNat i14) (Ty.dflt T_ranges_Range))
        let b19 : Bool := (!((x17.1 == x18.1) && ((x17.2.1 == x18.2.1) && true)))
        bif b19 then
          some (false, ())
        else
          let n20 : Int := (Go.IntKind.wrap Go.IntKind.i64 (i14 + (1 : Int)))
          k0 l12 l13 n20
      else none
    else none
  else
    some (true, ())
noncomputable def ref03_Same_0 : Nat → (List D_ranges_Range) → (List D_ranges_Range) → Int → Option (Bool × Unit)
  | 0 => fun _ _ _ => none
  | m + 1 => t_ref03_Same_0 (ref03_Same_0 m)
noncomputable def b_ref03_Same_0' (l12 : (List D_ranges_Range)) (l13 : (List D_ranges_Range)) (i14 : Int) : Option (Bool × Unit) := ref03_Same_0 (Int.toNat ((((List.length l12) : Nat) : Int) - i14) + 2) l12 l13 i14
theorem ex_ref03_Same_0' : ∃ f, f = @b_ref03_Same_0' := ⟨_, rfl⟩
noncomputable def ref03_Same_0' := Classical.choose ex_ref03_Same_0'
theorem ref03_Same_0'_eq : @ref03_Same_0' = @b_ref03_Same_0' := Classical.choose_spec ex_ref03_Same_0'
theorem s_ref03_Same_0 {base S0 cs0} (hfin : H_ref03_Same base S0) : ∀ m, J_ref03_Same base S0 cs0 p_ref03_Same_0 (u_ref03_Same_0 (ref03_Same_0 m)) :=
  JSound.loop' hfin.2 ks_ref03_Same 100000 u_ref03_Same_0 (fun k0 => cut p_ref03_Same_0 (u_ref03_Same_0 k0) (nowhere)) (fun k0 h0 => OSound.cut (OSound.nowhere) (Nat.le_of_eq hfin.1) h0) (ref03_Same_0) (by intro x; rfl) (by intro m x; kernel_rfl)
theorem s_ref03_Same_0' {base S0 cs0} (hfin : H_ref03_Same base S0) : J_ref03_Same base S0 cs0 p_ref03_Same_0 (u_ref03_Same_0 (ref03_Same_0')) := by
  rw [ref03_Same_0'_eq]; exact fun x r hx => s_ref03_Same_0 hfin _ x r hx
noncomputable def x_ref03_Same_0 : Cfg → Option (Option (Bool × Unit)) := cut p_ref03_Same_0 (u_ref03_Same_0 (ref03_Same_0')) (nowhere)
theorem o_ref03_Same_0 {base S0 cs0} (hfin : H_ref03_Same base S0) : O_ref03_Same base S0 cs0 (x_ref03_Same_0) := OSound.cut (OSound.nowhere) (Nat.le_of_eq hfin.1) (s_ref03_Same_0' hfin)
noncomputable def b_ref03_Same (a0 : (List D_ranges_Range)) (a1 : (List D_ranges_Range)) : Option (Bool × Unit) :=
  let n2 : Int := (((List.length a0) : Nat) : Int)
  let n3 : Int := (((List.length a1) : Nat) : Int)
  let b4 : Bool := (n2 != n3)
  bif b4 then
    some (false, ())
  else
    ref03_Same_0' a0 a1 (0 : Int)
theorem ex_ref03_Same : ∃ f, f = @b_ref03_Same := ⟨_, rfl⟩
noncomputable def ref03_Same := Classical.choose ex_ref03_Same
theorem ref03_Same_eq : @ref03_Same = @b_ref03_Same := Classical.choose_spec ex_ref03_Same
noncomputable def cb_ref03_Same : Con := ⟨[(.slice T_ranges_Range), (.slice T_ranges_Range)], r_ref03_Same, fun x => b_ref03_Same x.1 x.2.1⟩
noncomputable def c_ref03_Same : Con := ⟨[(.slice T_ranges_Range), (.slice T_ranges_Range)], r_ref03_Same, fun x => ref03_Same x.1 x.2.1⟩
theorem cb_ref03_Same_ok : cb_ref03_Same.Sound prog Inv gInv 91 :=
  con_run (M := m_ref03_Same) inv_g (f := f91) rfl ks_ref03_Same 100000 (X := x_ref03_Same_0) (fun base S0 cs0 hn hf => have hfin : H_ref03_Same base S0 := ⟨hn, hf⟩; o_ref03_Same_0 hfin) (by intro x; kernel_rfl)
theorem c_ref03_Same_ok : c_ref03_Same.Sound prog Inv gInv 91 := by
  have e : c_ref03_Same = cb_ref03_Same := by unfold c_ref03_Same cb_ref03_Same; rw [ref03_Same_eq]
  rw [e]; exact cb_ref03_Same_ok
end Go.Proofs.YtjdjlijjolibkaaDoor.V
namespace Go.Proofs.YtjdjlijjolibkaaDoor.V
open Go.RowKit Go.Proofs.Tryd
set_option maxRecDepth 100000
set_option linter.unusedVariables false
noncomputable def m_ref06_Same : Mach prog Inv gInv := mach bas [(40, f40)] ⟨ok40, trivial⟩ [(91, c_ref03_Same)] ⟨⟨c_ref03_Same_ok, FnOk.callable ok91⟩, trivial⟩ [] trivial [] trivial
/-! ### domino/dominoref06.Same -/
@[reducible] def r_ref06_Same : List Ty := [.bool]
def ks_ref06_Same : List Nat := [40]
noncomputable def b_ref06_Same (a0 : D_frame_Frame) (a1 : D_frame_Frame) : Option (Bool × Unit) :=
  let b2 : Bool := (a0.1 == a1.1)
  bif b2 then
    let b3 : Bool := (a0.2.1 == a1.2.1)
    bif b3 then
      let b4 : Bool := (a0.2.2.1 == a1.2.2.1)
      bif b4 then
        let b5 : Bool := (a0.2.2.2.1 == a1.2.2.2.1)
        bif b5 then
          let b6 : Bool := (a0.2.2.2.2.1 == a1.2.2.2.2.1)
          bif b6 then
            let b7 : Bool := (a0.2.2.2.2.2.1 == a1.2.2.2.2.2.1)
            bif b7 then
              let b8 : Bool := (a0.2.2.2.2.2.2.1 == a1.2.2.2.2.2.2.1)
              bif b8 then
                let b9 : Bool := (a0.2.2.2.2.2.2.2.1 == a1.2.2.2.2.2.2.2.1)
                bif b9 then
                  let b10 : Bool := (a0.2.2.2.2.2.2.2.2.1 == a1.2.2.2.2.2.2.2.2.1)
                  bif b10 then
                    let b11 : Bool := ((ByteArray.toList a0.2.2.2.2.2.2.2.2.2.1) == (ByteArray.toList a1.2.2.2.2.2.2.2.2.2.1))
                    bif b11 then
                      let b12 : Bool := ((ByteArray.toList a0.2.2.2.2.2.2.2.2.2.2.1) == (ByteArray.toList a1.2.2.2.2.2.2.2.2.2.2.1))
                      bif b12 then
                        let b13 : Bool := ((ByteArray.toList a0.2.2.2.2.2.2.2.2.2.2.2.1) == (ByteArray.toList a1.2.2.2.2.2.2.2.2.2.2.2.1))
                        bif b13 then
                          obind (ref03_Same a0.2.2.2.2.2.2.2.2.2.2.2.2.1 a1.2.2.2.2.2.2.2.2.2.2.2.2.1) fun y14 =>
                          some y14
                        else
                          some (false, ())
                      else
                        some (false, ())
                    else
                      some (false, ())
                  else
                    some (false, ())
                else
                  some (false, ())
              else
                some (false, ())
            else
              some (false, ())
          else
            some (false, ())
        else
          some (false, ())
      else
        some (false, ())
    else
      some (false, ())
  else
    some (false, ())
theorem ex_ref06_Same : ∃ f, f = @b_ref06_Same := ⟨_, rfl⟩
noncomputable def ref06_Same := Classical.choose ex_ref06_Same
theorem ref06_Same_eq : @ref06_Same = @b_ref06_Same := Classical.choose_spec ex_ref06_Same
noncomputable def cb_ref06_Same : Con := ⟨[T_frame_Frame, T_frame_Frame], r_ref06_Same, fun x => b_ref06_Same x.1 x.2.1⟩
noncomputable def c_ref06_Same : Con := ⟨[T_frame_Frame, T_frame_Frame], r_ref06_Same, fun x => ref06_Same x.1 x.2.1⟩
theorem cb_ref06_Same_ok : cb_ref06_Same.Sound prog Inv gInv 40 :=
  con_run (M := m_ref06_Same) inv_g (f := f40) rfl ks_ref06_Same 100000 (X := nowhere) (fun base S0 cs0 hn hf => OSound.nowhere) (by intro x; kernel_rfl)
theorem c_ref06_Same_ok : c_ref06_Same.Sound prog Inv gInv 40 := by
  have e : c_ref06_Same = cb_ref06_Same := by unfold c_ref06_Same cb_ref06_Same; rw [ref06_Same_eq]
  rw [e]; exact cb_ref06_Same_ok
end Go.Proofs.YtjdjlijjolibkaaDoor.V
/- law06.its, ref06.Same, in plain Lean. -/
namespace Go.Proofs.YtjdjlijjolibkaaDoor.V
open Go.RowKit
set_option linter.unusedVariables false
theorem its_loop (f : D_frame_Frame) (s1 s2 s3 : ByteArray) (i1 i2 i3 i4 i5 i6 i7 i8 : Int) (b : Bool) (t1 t2 t3 : ByteArray) (hl : f.2.2.2.2.2.2.2.2.2.2.2.2.1.length ≤ 1000000) : ∀ (suf pre : List D_ranges_Range) (m : Nat), suf.length < m → f.2.2.2.2.2.2.2.2.2.2.2.2.1 = pre ++ suf →
    law06_its_0 m ((pre.length : Nat) : Int) f s1 s2 s3 i1 i2 i3 i4 i5 i6 i7 i8 b t1 t2 t3 pre = some ((i1, (i2, (i3, (i4, (i5, (i6, (i7, (i8, (b, (t1, (t2, (t3, (pre ++ suf, ()))))))))))))), ()) := by
  intro suf
  induction suf with
  | nil =>
    intro pre m hm e
    obtain ⟨m, rfl⟩ : ∃ k, m = k + 1 := ⟨m - 1, by omega⟩
    rw [List.append_nil] at e
    simp only [law06_its_0, t_law06_its_0, e, Int.lt_irrefl, decide_false, cond_false, List.append_nil]
  | cons x suf ih =>
    intro pre m hm e
    obtain ⟨m, rfl⟩ : ∃ k, m = k + 1 := ⟨m - 1, by omega⟩
    have hl' : (pre ++ x :: suf).length ≤ 1000000 := by rw [← e]; exact hl
    have c : pre.length + [((x.1, (x.2.1, ())) : D_ranges_Range)].length ≤ 4294967296 := by simp at hl' ⊢; omega
    have ex : ((x.1, (x.2.1, ())) : D_ranges_Range) = x := rfl
    simp only [law06_its_0, t_law06_its_0, e, mid_lt, nn, and_true, decide_true, cond_true, toNat_len, getD_mid, c]
    rw [mid_next pre x x suf (by omega), ex, ih (pre ++ [x]) m (by simp at hm; omega) (by rw [e]; simp)]
    simp
theorem its_is (f : D_frame_Frame) (hl : f.2.2.2.2.2.2.2.2.2.2.2.2.1.length ≤ 1000000) : law06_its f = some (f, ()) := by
  rw [law06_its_eq, b_law06_its]
  rw [law06_its_0'_eq, b_law06_its_0']
  have := its_loop f eB eB eB f.1 f.2.1 f.2.2.1 f.2.2.2.1 f.2.2.2.2.1 f.2.2.2.2.2.1 f.2.2.2.2.2.2.1 f.2.2.2.2.2.2.2.1 f.2.2.2.2.2.2.2.2.1 f.2.2.2.2.2.2.2.2.2.1 f.2.2.2.2.2.2.2.2.2.2.1 f.2.2.2.2.2.2.2.2.2.2.2.1 hl f.2.2.2.2.2.2.2.2.2.2.2.2.1 [] (Int.toNat (((f.2.2.2.2.2.2.2.2.2.2.2.2.1.length : Nat) : Int) - 0) + 2) (by omega) rfl
  exact this
theorem same3_loop : ∀ (s1 s2 p1 p2 : List D_ranges_Range) (m : Nat), s1.length < m → p1.length = p2.length → s1.length = s2.length → (p1 ++ s1).length ≤ 9223372036854775807 →
    ref03_Same_0 m (p1 ++ s1) (p2 ++ s2) ((p1.length : Nat) : Int) = some (decide (s1 = s2), ()) := by
  intro s1
  induction s1 with
  | nil =>
    intro s2 p1 p2 m hm _ h2 _
    obtain ⟨m, rfl⟩ : ∃ k, m = k + 1 := ⟨m - 1, by omega⟩
    obtain rfl : s2 = [] := List.eq_nil_of_length_eq_zero (by simpa using h2.symm)
    simp only [ref03_Same_0, t_ref03_Same_0, mid_end, decide_false, cond_false, decide_true]
  | cons x s1 ih =>
    intro s2 p1 p2 m hm h1 h2 hl
    obtain ⟨m, rfl⟩ : ∃ k, m = k + 1 := ⟨m - 1, by omega⟩
    obtain ⟨y, s2, rfl⟩ : ∃ y t, s2 = y :: t := by
      cases s2 with
      | nil => simp at h2
      | cons y t => exact ⟨y, t, rfl⟩
    have e : ((p1.length : Nat) : Int) = ((p2.length : Nat) : Int) := by rw [h1]
    have g2 : ((p1.length : Nat) : Int) < (((p2 ++ y :: s2).length : Nat) : Int) := by rw [h1]; simp; omega
    have g3 : (p2 ++ y :: s2).getD p1.length (Ty.dflt T_ranges_Range) = y := by rw [h1, getD_mid]
    simp only [ref03_Same_0, t_ref03_Same_0, mid_lt, nn, and_true, decide_true, cond_true, toNat_len, getD_mid, g2, g3]
    obtain ⟨a, b, ⟨⟩⟩ := x
    obtain ⟨c, d, ⟨⟩⟩ := y
    by_cases hx : a = c ∧ b = d
    · obtain ⟨rfl, rfl⟩ := hx
      simp only [beq_self_eq_true, Bool.and_self, Bool.not_true, cond_false]
      rw [mid_next' p1 (a, b, ()) (a, b, ()) s1 hl, snoc_app p1, snoc_app p2, ih s2 (p1 ++ [(a, b, ())]) (p2 ++ [(a, b, ())]) m (by simp at hm; omega) (by simp [h1]) (by simpa using h2) (by simpa using hl)]
      simp
    · have : ((a == c) && ((b == d) && true)) = false := by
        simp only [Bool.and_true, Bool.and_eq_false_iff, beq_eq_false_iff_ne]
        by_cases e : a = c
        · exact .inr fun e2 => hx ⟨e, e2⟩
        · exact .inl e
      simp only [this, Bool.not_false, cond_true]
      rw [decide_eq_false]
      intro e
      simp only [List.cons.injEq, Prod.mk.injEq, and_true] at e
      exact hx e.1
theorem same3_is (a b : List D_ranges_Range) (ha : a.length ≤ 9223372036854775807) : ref03_Same a b = some (decide (a = b), ()) := by
  rw [ref03_Same_eq, b_ref03_Same]
  by_cases h : a.length = b.length
  · have : (((a.length : Nat) : Int) != ((b.length : Nat) : Int)) = false := by rw [h]; simp
    simp only [this, cond_false]
    rw [ref03_Same_0'_eq, b_ref03_Same_0']
    exact same3_loop a b [] [] _ (by simp) rfl h (by simp; omega)
  · have : (((a.length : Nat) : Int) != ((b.length : Nat) : Int)) = true := by simp; omega
    simp only [this, cond_true]
    rw [decide_eq_false (fun e => h (by rw [e]))]
theorem same6_is (f g : D_frame_Frame) (hf : f.2.2.2.2.2.2.2.2.2.2.2.2.1.length ≤ 9223372036854775807) : ref06_Same f g = some (decide (f = g), ()) := by
  rw [ref06_Same_eq, b_ref06_Same, same3_is _ _ hf]
  simp only [obind_some, toList_beq, beq_dec]
  obtain ⟨a1, a2, a3, a4, a5, a6, a7, a8, a9, a10, a11, a12, a13, ⟨⟩⟩ := f
  obtain ⟨b1, b2, b3, b4, b5, b6, b7, b8, b9, b10, b11, b12, b13, ⟨⟩⟩ := g
  simp only [Prod.mk.injEq, and_true]
  have hb : (a9 == b9) = decide (a9 = b9) := by cases a9 <;> cases b9 <;> rfl
  simp only [hb]
  by_cases h1 : a1 = b1
  · by_cases h2 : a2 = b2
    · by_cases h3 : a3 = b3
      · by_cases h4 : a4 = b4
        · by_cases h5 : a5 = b5
          · by_cases h6 : a6 = b6
            · by_cases h7 : a7 = b7
              · by_cases h8 : a8 = b8
                · by_cases h9 : a9 = b9
                  · by_cases h10 : a10 = b10
                    · by_cases h11 : a11 = b11
                      · by_cases h12 : a12 = b12
                        · simp only [h1, h2, h3, h4, h5, h6, h7, h8, h9, h10, h11, h12, decide_true, cond_true, true_and]
                        · simp only [h1, h2, h3, h4, h5, h6, h7, h8, h9, h10, h11, h12, decide_true, decide_false, cond_true, cond_false, true_and, false_and]
                      · simp only [h1, h2, h3, h4, h5, h6, h7, h8, h9, h10, h11, decide_true, decide_false, cond_true, cond_false, true_and, false_and]
                    · simp only [h1, h2, h3, h4, h5, h6, h7, h8, h9, h10, decide_true, decide_false, cond_true, cond_false, true_and, false_and]
                  · simp only [h1, h2, h3, h4, h5, h6, h7, h8, h9, decide_true, decide_false, cond_true, cond_false, true_and, false_and]
                · simp only [h1, h2, h3, h4, h5, h6, h7, h8, decide_true, decide_false, cond_true, cond_false, true_and, false_and]
              · simp only [h1, h2, h3, h4, h5, h6, h7, decide_true, decide_false, cond_true, cond_false, true_and, false_and]
            · simp only [h1, h2, h3, h4, h5, h6, decide_true, decide_false, cond_true, cond_false, true_and, false_and]
          · simp only [h1, h2, h3, h4, h5, decide_true, decide_false, cond_true, cond_false, true_and, false_and]
        · simp only [h1, h2, h3, h4, decide_true, decide_false, cond_true, cond_false, true_and, false_and]
      · simp only [h1, h2, h3, decide_true, decide_false, cond_true, cond_false, true_and, false_and]
    · simp only [h1, h2, decide_true, decide_false, cond_true, cond_false, true_and, false_and]
  · simp only [h1, decide_false, cond_false, false_and]
theorem bound_set {f : D_frame_Frame} (h : boundF f = true) : f.2.2.2.2.2.2.2.2.2.2.2.2.1.length ≤ 50 := by
  simp only [boundF, Bool.and_eq_true, decide_eq_true_eq] at h
  exact h.2
end Go.Proofs.YtjdjlijjolibkaaDoor.V
namespace Go.Proofs.YtjdjlijjolibkaaDoor.V
open Go.RowKit Go.Proofs.Tryd
set_option maxRecDepth 100000
set_option linter.unusedVariables false
noncomputable def m_frame_All : Mach prog Inv gInv := mach bas [(42, f42)] ⟨ok42, trivial⟩ [(38, c_frame_Get)] ⟨⟨c_frame_Get_ok, FnOk.callable ok38⟩, trivial⟩ [] trivial [] trivial
/-! ### domino/frame.All -/
@[reducible] def r_frame_All : List Ty := [(.slice T_frame_Frame), (.int .i64)]
def ks_frame_All : List Nat := [42]
abbrev H_frame_All (base : Base) (S0 : Nat → Prop) := base.n = 0 ∧ FinOk (finR r_frame_All) base S0 (Post r_frame_All S0)
abbrev J_frame_All (base : Base) (S0 : Nat → Prop) (cs0 : List Go.Frame) (p : CPat) (J : denC p → Option (denL r_frame_All)) := JSound m_frame_All base S0 cs0 (Post r_frame_All S0) p J
abbrev O_frame_All (base : Base) (S0 : Nat → Prop) (cs0 : List Go.Frame) (X : Cfg → Option (Option (denL r_frame_All))) := OSound m_frame_All base S0 cs0 (Post r_frame_All S0) X
@[reducible] noncomputable def p_frame_All_0 : CPat := ⟨⟨42, [1, 1, 0, 0], none, [.str, .any, .all 0], 26⟩, [], [.row T_frame_Frame], 0⟩
@[reducible] noncomputable def u_frame_All_0 (k : ByteArray → (List D_frame_Frame) → Option ((List D_frame_Frame) × Int × Unit)) : denC p_frame_All_0 → Option ((List D_frame_Frame) × Int × Unit) := fun x => k x.1.1 x.2.2.1
noncomputable def t_frame_All_0 (k0 : ByteArray → (List D_frame_Frame) → Option ((List D_frame_Frame) × Int × Unit)) (s11 : ByteArray) (l12 : (List D_frame_Frame)) : Option ((List D_frame_Frame) × Int × Unit) :=
  let b13 : Bool := (!((ByteArray.toList s11) == (ByteArray.toList (ByteArray.mk (List.toArray ([] : List UInt8))))))
  bif b13 then
    let s14 : ByteArray := (ByteArray.mk (List.toArray ([] : List UInt8)))
    obind (frame_Get s11) fun y15 =>
    let b16 : Bool := (y15.2.2.1 != (0 : Int))
    bif b16 then
      some (([] : List D_frame_Frame), y15.2.2)
    else
      let b17 : Bool := (y15.1.1 == (0 : Int))
      bif b17 then
        k0 y15.2.1 l12
      else
        let e18 : (Int × (Int × (Int × (Int × (Int × (Int × (Int × (Int × (Bool × (ByteArray × (ByteArray × (ByteArray × ((List D_ranges_Range) × Unit))))))))))))) := (y15.1.1, (y15.1.2.1, (y15.1.2.2.1, (y15.1.2.2.2.1, (y15.1.2.2.2.2.1, (y15.1.2.2.2.2.2.1, (y15.1.2.2.2.2.2.2.1, (y15.1.2.2.2.2.2.2.2.1, (y15.1.2.2.2.2.2.2.2.2.1, (y15.1.2.2.2.2.2.2.2.2.2.1, (y15.1.2.2.2.2.2.2.2.2.2.2.1, (y15.1.2.2.2.2.2.2.2.2.2.2.2.1, (y15.1.2.2.2.2.2.2.2.2.2.2.2.2.1, ())))))))))))))
        bif (decide (((List.length l12) + (List.length (e18 :: ([] : List D_frame_Frame)))) ≤ 4294967296)) then
          let l19 : (List D_frame_Frame) := (l12 ++ (e18 :: ([] : List D_frame_Frame)))
          let n20 : Int := (((List.length l19) : Nat) : Int)
          let b21 : Bool := (decide (n20 > (40 : Int)))
          bif b21 then
            some (([] : List D_frame_Frame), ((60 : Int), ()))
          else
            k0 y15.2.1 l19
        else none
  else
    some (l12, ((0 : Int), ()))
noncomputable def frame_All_0 : Nat → ByteArray → (List D_frame_Frame) → Option ((List D_frame_Frame) × Int × Unit)
  | 0 => fun _ _ => none
  | m + 1 => t_frame_All_0 (frame_All_0 m)
noncomputable def b_frame_All_0' (s11 : ByteArray) (l12 : (List D_frame_Frame)) : Option ((List D_frame_Frame) × Int × Unit) := frame_All_0 (4294967296) s11 l12
theorem ex_frame_All_0' : ∃ f, f = @b_frame_All_0' := ⟨_, rfl⟩
noncomputable def frame_All_0' := Classical.choose ex_frame_All_0'
theorem frame_All_0'_eq : @frame_All_0' = @b_frame_All_0' := Classical.choose_spec ex_frame_All_0'
theorem s_frame_All_0 {base S0 cs0} (hfin : H_frame_All base S0) : ∀ m, J_frame_All base S0 cs0 p_frame_All_0 (u_frame_All_0 (frame_All_0 m)) :=
  JSound.loop' hfin.2 ks_frame_All 100000 u_frame_All_0 (fun k0 => cut p_frame_All_0 (u_frame_All_0 k0) (nowhere)) (fun k0 h0 => OSound.cut (OSound.nowhere) (Nat.le_of_eq hfin.1) h0) (frame_All_0) (by intro x; rfl) (by intro m x; kernel_rfl)
theorem s_frame_All_0' {base S0 cs0} (hfin : H_frame_All base S0) : J_frame_All base S0 cs0 p_frame_All_0 (u_frame_All_0 (frame_All_0')) := by
  rw [frame_All_0'_eq]; exact fun x r hx => s_frame_All_0 hfin _ x r hx
noncomputable def x_frame_All_0 : Cfg → Option (Option ((List D_frame_Frame) × Int × Unit)) := cut p_frame_All_0 (u_frame_All_0 (frame_All_0')) (nowhere)
theorem o_frame_All_0 {base S0 cs0} (hfin : H_frame_All base S0) : O_frame_All base S0 cs0 (x_frame_All_0) := OSound.cut (OSound.nowhere) (Nat.le_of_eq hfin.1) (s_frame_All_0' hfin)
noncomputable def b_frame_All (a0 : ByteArray) : Option ((List D_frame_Frame) × Int × Unit) :=
  let b1 : Bool := ((ByteArray.toList a0) == (ByteArray.toList (ByteArray.mk (List.toArray ([] : List UInt8)))))
  bif b1 then
    some (([] : List D_frame_Frame), ((60 : Int), ()))
  else
    frame_All_0' a0 ([] : List D_frame_Frame)
theorem ex_frame_All : ∃ f, f = @b_frame_All := ⟨_, rfl⟩
noncomputable def frame_All := Classical.choose ex_frame_All
theorem frame_All_eq : @frame_All = @b_frame_All := Classical.choose_spec ex_frame_All
noncomputable def cb_frame_All : Con := ⟨[.str], r_frame_All, fun x => b_frame_All x.1⟩
noncomputable def c_frame_All : Con := ⟨[.str], r_frame_All, fun x => frame_All x.1⟩
theorem cb_frame_All_ok : cb_frame_All.Sound prog Inv gInv 42 :=
  con_run (M := m_frame_All) inv_g (f := f42) rfl ks_frame_All 100000 (X := x_frame_All_0) (fun base S0 cs0 hn hf => have hfin : H_frame_All base S0 := ⟨hn, hf⟩; o_frame_All_0 hfin) (by intro x; kernel_rfl)
theorem c_frame_All_ok : c_frame_All.Sound prog Inv gInv 42 := by
  have e : c_frame_All = cb_frame_All := by unfold c_frame_All cb_frame_All; rw [frame_All_eq]
  rw [e]; exact cb_frame_All_ok
end Go.Proofs.YtjdjlijjolibkaaDoor.V
namespace Go.Proofs.YtjdjlijjolibkaaDoor.V
open Go.RowKit Go.Proofs.Tryd
set_option maxRecDepth 100000
set_option linter.unusedVariables false
noncomputable def m_law06_all : Mach prog Inv gInv := mach bas [(45, f45)] ⟨ok45, trivial⟩ [(33, c_law06_its)] ⟨⟨c_law06_its_ok, FnOk.callable ok33⟩, trivial⟩ [] trivial [] trivial
/-! ### domino/dominolaw06.all -/
@[reducible] def r_law06_all : List Ty := [(.slice T_frame_Frame)]
def ks_law06_all : List Nat := [45]
abbrev H_law06_all (base : Base) (S0 : Nat → Prop) := base.n = 0 ∧ FinOk (finR r_law06_all) base S0 (Post r_law06_all S0)
abbrev J_law06_all (base : Base) (S0 : Nat → Prop) (cs0 : List Go.Frame) (p : CPat) (J : denC p → Option (denL r_law06_all)) := JSound m_law06_all base S0 cs0 (Post r_law06_all S0) p J
abbrev O_law06_all (base : Base) (S0 : Nat → Prop) (cs0 : List Go.Frame) (X : Cfg → Option (Option (denL r_law06_all))) := OSound m_law06_all base S0 cs0 (Post r_law06_all S0) X
@[reducible] noncomputable def p_law06_all_0 : CPat := ⟨⟨45, [1, 1, 0, 1, 0], none, [.rows T_frame_Frame false, .any, .any, .all 0, .int .i64], 16⟩, [], [.row T_frame_Frame], 0⟩
@[reducible] noncomputable def u_law06_all_0 (k : (List D_frame_Frame) → Int → (List D_frame_Frame) → Option ((List D_frame_Frame) × Unit)) : denC p_law06_all_0 → Option ((List D_frame_Frame) × Unit) := fun x => k x.1.1 x.1.2.2.2.2.1 x.2.2.1
noncomputable def t_law06_all_0 (k0 : (List D_frame_Frame) → Int → (List D_frame_Frame) → Option ((List D_frame_Frame) × Unit)) (l9 : (List D_frame_Frame)) (i10 : Int) (l11 : (List D_frame_Frame)) : Option ((List D_frame_Frame) × Unit) :=
  let n12 : Int := (((List.length l9) : Nat) : Int)
  let b13 : Bool := (decide (i10 < n12))
  bif b13 then
    bif (decide (((0 : Int) ≤ i10) ∧ (i10 < (((List.length l9) : Nat) : Int)))) then
      let x14 : D_frame_Frame := (List.getD l9 (Int.toNat i10) (Ty.dflt T_frame_Frame))
      obind (law06_its x14) fun y15 =>
      let e16 : (Int × (Int × (Int × (Int × (Int × (Int × (Int × (Int × (Bool × (ByteArray × (ByteArray × (ByteArray × ((List D_ranges_Range) × Unit))))))))))))) := (y15.1.1, (y15.1.2.1, (y15.1.2.2.1, (y15.1.2.2.2.1, (y15.1.2.2.2.2.1, (y15.1.2.2.2.2.2.1, (y15.1.2.2.2.2.2.2.1, (y15.1.2.2.2.2.2.2.2.1, (y15.1.2.2.2.2.2.2.2.2.1, (y15.1.2.2.2.2.2.2.2.2.2.1, (y15.1.2.2.2.2.2.2.2.2.2.2.1, (y15.1.2.2.2.2.2.2.2.2.2.2.2.1, (y15.1.2.2.2.2.2.2.2.2.2.2.2.2.1, ())))))))))))))
      bif (decide (((List.length l11) + (List.length (e16 :: ([] : List D_frame_Frame)))) ≤ 4294967296)) then
        let l17 : (List D_frame_Frame) := (l11 ++ (e16 :: ([] : List D_frame_Frame)))
        let n18 : Int := (Go.IntKind.wrap Go.IntKind.i64 (i10 + (1 : Int)))
        k0 l9 n18 l17
      else none
    else none
  else
    some (l11, ())
noncomputable def law06_all_0 : Nat → (List D_frame_Frame) → Int → (List D_frame_Frame) → Option ((List D_frame_Frame) × Unit)
  | 0 => fun _ _ _ => none
  | m + 1 => t_law06_all_0 (law06_all_0 m)
noncomputable def b_law06_all_0' (l9 : (List D_frame_Frame)) (i10 : Int) (l11 : (List D_frame_Frame)) : Option ((List D_frame_Frame) × Unit) := law06_all_0 (Int.toNat ((((List.length l9) : Nat) : Int) - i10) + 2) l9 i10 l11
theorem ex_law06_all_0' : ∃ f, f = @b_law06_all_0' := ⟨_, rfl⟩
noncomputable def law06_all_0' := Classical.choose ex_law06_all_0'
theorem law06_all_0'_eq : @law06_all_0' = @b_law06_all_0' := Classical.choose_spec ex_law06_all_0'
theorem s_law06_all_0 {base S0 cs0} (hfin : H_law06_all base S0) : ∀ m, J_law06_all base S0 cs0 p_law06_all_0 (u_law06_all_0 (law06_all_0 m)) :=
  JSound.loop' hfin.2 ks_law06_all 100000 u_law06_all_0 (fun k0 => cut p_law06_all_0 (u_law06_all_0 k0) (nowhere)) (fun k0 h0 => OSound.cut (OSound.nowhere) (Nat.le_of_eq hfin.1) h0) (law06_all_0) (by intro x; rfl) (by intro m x; kernel_rfl)
theorem s_law06_all_0' {base S0 cs0} (hfin : H_law06_all base S0) : J_law06_all base S0 cs0 p_law06_all_0 (u_law06_all_0 (law06_all_0')) := by
  rw [law06_all_0'_eq]; exact fun x r hx => s_law06_all_0 hfin _ x r hx
noncomputable def x_law06_all_0 : Cfg → Option (Option ((List D_frame_Frame) × Unit)) := cut p_law06_all_0 (u_law06_all_0 (law06_all_0')) (nowhere)
theorem o_law06_all_0 {base S0 cs0} (hfin : H_law06_all base S0) : O_law06_all base S0 cs0 (x_law06_all_0) := OSound.cut (OSound.nowhere) (Nat.le_of_eq hfin.1) (s_law06_all_0' hfin)
noncomputable def b_law06_all (a0 : (List D_frame_Frame)) : Option ((List D_frame_Frame) × Unit) :=
  law06_all_0' a0 (0 : Int) ([] : List D_frame_Frame)
theorem ex_law06_all : ∃ f, f = @b_law06_all := ⟨_, rfl⟩
noncomputable def law06_all := Classical.choose ex_law06_all
theorem law06_all_eq : @law06_all = @b_law06_all := Classical.choose_spec ex_law06_all
noncomputable def cb_law06_all : Con := ⟨[(.slice T_frame_Frame)], r_law06_all, fun x => b_law06_all x.1⟩
noncomputable def c_law06_all : Con := ⟨[(.slice T_frame_Frame)], r_law06_all, fun x => law06_all x.1⟩
theorem cb_law06_all_ok : cb_law06_all.Sound prog Inv gInv 45 :=
  con_run (M := m_law06_all) inv_g (f := f45) rfl ks_law06_all 100000 (X := x_law06_all_0) (fun base S0 cs0 hn hf => have hfin : H_law06_all base S0 := ⟨hn, hf⟩; o_law06_all_0 hfin) (by intro x; kernel_rfl)
theorem c_law06_all_ok : c_law06_all.Sound prog Inv gInv 45 := by
  have e : c_law06_all = cb_law06_all := by unfold c_law06_all cb_law06_all; rw [law06_all_eq]
  rw [e]; exact cb_law06_all_ok
end Go.Proofs.YtjdjlijjolibkaaDoor.V
namespace Go.Proofs.YtjdjlijjolibkaaDoor.V
open Go.RowKit Go.Proofs.Tryd
set_option maxRecDepth 100000
set_option linter.unusedVariables false
noncomputable def m_ref06_SameAll : Mach prog Inv gInv := mach bas [(44, f44)] ⟨ok44, trivial⟩ [(40, c_ref06_Same)] ⟨⟨c_ref06_Same_ok, FnOk.callable ok40⟩, trivial⟩ [] trivial [] trivial
/-! ### domino/dominoref06.SameAll -/
@[reducible] def r_ref06_SameAll : List Ty := [.bool]
def ks_ref06_SameAll : List Nat := [44]
abbrev H_ref06_SameAll (base : Base) (S0 : Nat → Prop) := base.n = 0 ∧ FinOk (finR r_ref06_SameAll) base S0 (Post r_ref06_SameAll S0)
abbrev J_ref06_SameAll (base : Base) (S0 : Nat → Prop) (cs0 : List Go.Frame) (p : CPat) (J : denC p → Option (denL r_ref06_SameAll)) := JSound m_ref06_SameAll base S0 cs0 (Post r_ref06_SameAll S0) p J
abbrev O_ref06_SameAll (base : Base) (S0 : Nat → Prop) (cs0 : List Go.Frame) (X : Cfg → Option (Option (denL r_ref06_SameAll))) := OSound m_ref06_SameAll base S0 cs0 (Post r_ref06_SameAll S0) X
@[reducible] noncomputable def p_ref06_SameAll_0 : CPat := ⟨⟨44, [1, 1, 0, 1, 0], none, [.rows T_frame_Frame false, .rows T_frame_Frame false, .any, .any, .any, .int .i64], 21⟩, [], [], 0⟩
@[reducible] noncomputable def u_ref06_SameAll_0 (k : (List D_frame_Frame) → (List D_frame_Frame) → Int → Option (Bool × Unit)) : denC p_ref06_SameAll_0 → Option (Bool × Unit) := fun x => k x.1.1 x.1.2.1 x.1.2.2.2.2.2.1
noncomputable def t_ref06_SameAll_0 (k0 : (List D_frame_Frame) → (List D_frame_Frame) → Int → Option (Bool × Unit)) (l13 : (List D_frame_Frame)) (l14 : (List D_frame_Frame)) (i15 : Int) : Option (Bool × Unit) :=
  let n16 : Int := (((List.length l13) : Nat) : Int)
  let b17 : Bool := (decide (i15 < n16))
  bif b17 then
    bif (decide (((0 : Int) ≤ i15) ∧ (i15 < (((List.length l13) : Nat) : Int)))) then
      let x18 : D_frame_Frame := (List.getD l13 (Int.toNat i15) (Ty.dflt T_frame_Frame))
      bif (decide (((0 : Int) ≤ i15) ∧ (i15 < (((List.length l14) : Nat) : Int)))) then
        let x19 : D_frame_Frame := (List.getD l14 (Int.toNat i15) (Ty.dflt T_frame_Frame))
        obind (ref06_Same x18 x19) fun y20 =>
        let b21 : Bool := (!y20.1)
        bif b21 then
          some (false, ())
        else
          let n22 : Int := (Go.IntKind.wrap Go.IntKind.i64 (i15 + (1 : Int)))
          k0 l13 l14 n22
      else none
    else none
  else
    some (true, ())
noncomputable def ref06_SameAll_0 : Nat → (List D_frame_Frame) → (List D_frame_Frame) → Int → Option (Bool × Unit)
  | 0 => fun _ _ _ => none
  | m + 1 => t_ref06_SameAll_0 (ref06_SameAll_0 m)
noncomputable def b_ref06_SameAll_0' (l13 : (List D_frame_Frame)) (l14 : (List D_frame_Frame)) (i15 : Int) : Option (Bool × Unit) := ref06_SameAll_0 (Int.toNat ((((List.length l13) : Nat) : Int) - i15) + 2) l13 l14 i15
theorem ex_ref06_SameAll_0' : ∃ f, f = @b_ref06_SameAll_0' := ⟨_, rfl⟩
noncomputable def ref06_SameAll_0' := Classical.choose ex_ref06_SameAll_0'
theorem ref06_SameAll_0'_eq : @ref06_SameAll_0' = @b_ref06_SameAll_0' := Classical.choose_spec ex_ref06_SameAll_0'
theorem s_ref06_SameAll_0 {base S0 cs0} (hfin : H_ref06_SameAll base S0) : ∀ m, J_ref06_SameAll base S0 cs0 p_ref06_SameAll_0 (u_ref06_SameAll_0 (ref06_SameAll_0 m)) :=
  JSound.loop' hfin.2 ks_ref06_SameAll 100000 u_ref06_SameAll_0 (fun k0 => cut p_ref06_SameAll_0 (u_ref06_SameAll_0 k0) (nowhere)) (fun k0 h0 => OSound.cut (OSound.nowhere) (Nat.le_of_eq hfin.1) h0) (ref06_SameAll_0) (by intro x; rfl) (by intro m x; kernel_rfl)
theorem s_ref06_SameAll_0' {base S0 cs0} (hfin : H_ref06_SameAll base S0) : J_ref06_SameAll base S0 cs0 p_ref06_SameAll_0 (u_ref06_SameAll_0 (ref06_SameAll_0')) := by
  rw [ref06_SameAll_0'_eq]; exact fun x r hx => s_ref06_SameAll_0 hfin _ x r hx
noncomputable def x_ref06_SameAll_0 : Cfg → Option (Option (Bool × Unit)) := cut p_ref06_SameAll_0 (u_ref06_SameAll_0 (ref06_SameAll_0')) (nowhere)
theorem o_ref06_SameAll_0 {base S0 cs0} (hfin : H_ref06_SameAll base S0) : O_ref06_SameAll base S0 cs0 (x_ref06_SameAll_0) := OSound.cut (OSound.nowhere) (Nat.le_of_eq hfin.1) (s_ref06_SameAll_0' hfin)
noncomputable def b_ref06_SameAll (a0 : (List D_frame_Frame)) (a1 : (List D_frame_Frame)) : Option (Bool × Unit) :=
  let n2 : Int := (((List.length a0) : Nat) : Int)
  let n3 : Int := (((List.length a1) : Nat) : Int)
  let b4 : Bool := (n2 != n3)
  bif b4 then
    some (false, ())
  else
    ref06_SameAll_0' a0 a1 (0 : Int)
theorem ex_ref06_SameAll : ∃ f, f = @b_ref06_SameAll := ⟨_, rfl⟩
noncomputable def ref06_SameAll := Classical.choose ex_ref06_SameAll
theorem ref06_SameAll_eq : @ref06_SameAll = @b_ref06_SameAll := Classical.choose_spec ex_ref06_SameAll
noncomputable def cb_ref06_SameAll : Con := ⟨[(.slice T_frame_Frame), (.slice T_frame_Frame)], r_ref06_SameAll, fun x => b_ref06_SameAll x.1 x.2.1⟩
noncomputable def c_ref06_SameAll : Con := ⟨[(.slice T_frame_Frame), (.slice T_frame_Frame)], r_ref06_SameAll, fun x => ref06_SameAll x.1 x.2.1⟩
theorem cb_ref06_SameAll_ok : cb_ref06_SameAll.Sound prog Inv gInv 44 :=
  con_run (M := m_ref06_SameAll) inv_g (f := f44) rfl ks_ref06_SameAll 100000 (X := x_ref06_SameAll_0) (fun base S0 cs0 hn hf => have hfin : H_ref06_SameAll base S0 := ⟨hn, hf⟩; o_ref06_SameAll_0 hfin) (by intro x; kernel_rfl)
theorem c_ref06_SameAll_ok : c_ref06_SameAll.Sound prog Inv gInv 44 := by
  have e : c_ref06_SameAll = cb_ref06_SameAll := by unfold c_ref06_SameAll cb_ref06_SameAll; rw [ref06_SameAll_eq]
  rw [e]; exact cb_ref06_SameAll_ok
end Go.Proofs.YtjdjlijjolibkaaDoor.V
/- frame.All, and lists of frames, in plain Lean. -/
namespace Go.Proofs.YtjdjlijjolibkaaDoor.V
open Go.RowKit
set_option linter.unusedVariables false
theorem getB {l : List Int} (hB : Byt l) (hl : l.length ≤ 1000000) : frame_Get (bytesStr l) = some (match getL l with | some (f, r) => (f, bytesStr r, 0, ()) | none => (zF 0, eB, 60, ())) := by
  have e := get_is (bytesStr l) (by rw [bytesStr_size]; exact hl)
  rw [strBytes_bs hB] at e
  refine e.trans ?_
  cases getL l <;> rfl
theorem bs_nil {l : List Int} : bytesStr l = eB ↔ l = [] := by
  constructor
  · intro h
    have := congrArg ByteArray.size h
    rw [bytesStr_size] at this
    exact List.eq_nil_of_length_eq_zero this
  · rintro rfl; rfl
/-- All frames of bytes. -/
def allF : Nat → List Int → List D_frame_Frame → List D_frame_Frame × Int × Unit
  | 0, _, _ => ([], 60, ())
  | m + 1, l, acc => bif decide (l = []) then (acc, 0, ()) else match getL l with
    | none => ([], 60, ())
    | some (f, r) => bif f.1 == 0 then allF m r acc else bif decide (40 < acc.length + 1) then ([], 60, ()) else allF m r (acc ++ [f])
theorem getL_less {l r : List Int} {f : D_frame_Frame} (h : getL l = some (f, r)) (hB : Byt l) : r.length < l.length ∧ Byt r := by
  obtain ⟨q, hq, hq1⟩ := getL_suf h
  rw [hq] at hB ⊢
  exact ⟨by simp; omega, Byt.suf hB⟩
theorem all_loop : ∀ (m n : Nat) (l : List Int) (acc : List D_frame_Frame), l.length < m → l.length < n → Byt l → l.length ≤ 1000000 → acc.length ≤ 40 → frame_All_0 m (bytesStr l) acc = some (allF n l acc) := by
  intro m
  induction m with
  | zero => intro n l acc h; omega
  | succ m ih =>
    intro n l acc hm hn hB hl ha
    obtain ⟨n, rfl⟩ : ∃ k, n = k + 1 := ⟨n - 1, by omega⟩
    have e0 : ByteArray.mk (List.toArray ([] : List UInt8)) = eB := rfl
    have hd : decide (bytesStr l = eB) = decide (l = []) := decide_eq_decide.mpr bs_nil
    simp only [frame_All_0, t_frame_All_0, e0, toList_beq, hd, allF]
    by_cases h0 : l = []
    · simp only [h0, decide_true, Bool.not_true, cond_false, cond_true]
    · simp only [h0, decide_false, Bool.not_false, cond_true, cond_false, getB hB hl, obind_some]
      cases hg : getL l with
      | none => rfl
      | some x =>
        obtain ⟨f, r⟩ := x
        obtain ⟨h1, h2⟩ := getL_less hg hB
        simp only [bne_self_eq_false, cond_false]
        cases hk : f.1 == 0 with
        | true => simp only [cond_true]; exact ih n r acc (by omega) (by omega) h2 (by omega) ha
        | false =>
          have c : acc.length + [f].length ≤ 4294967296 := by simp; omega
          have ef : ((f.1, (f.2.1, (f.2.2.1, (f.2.2.2.1, (f.2.2.2.2.1, (f.2.2.2.2.2.1, (f.2.2.2.2.2.2.1, (f.2.2.2.2.2.2.2.1, (f.2.2.2.2.2.2.2.2.1, (f.2.2.2.2.2.2.2.2.2.1, (f.2.2.2.2.2.2.2.2.2.2.1, (f.2.2.2.2.2.2.2.2.2.2.2.1, (f.2.2.2.2.2.2.2.2.2.2.2.2.1, ()))))))))))))) : D_frame_Frame) = f := rfl
          have hd2 : decide ((((acc ++ [f]).length : Nat) : Int) > 40) = decide (40 < acc.length + 1) := decide_eq_decide.mpr (by simp; omega)
          simp only [ef, cond_false, c, decide_true, cond_true, hd2]
          by_cases h40 : 40 < acc.length + 1
          · simp only [h40, decide_true, cond_true]
          · simp only [h40, decide_false, cond_false]
            exact ih n r (acc ++ [f]) (by omega) (by omega) h2 (by omega) (by simp; omega)
theorem all_is (l : List Int) (hB : Byt l) (hl : l.length ≤ 1000000) : frame_All (bytesStr l) = some (bif decide (l = []) then ([], 60, ()) else allF (l.length + 1) l []) := by
  rw [frame_All_eq, b_frame_All]
  have e0 : ByteArray.mk (List.toArray ([] : List UInt8)) = eB := rfl
  have hd : decide (bytesStr l = eB) = decide (l = []) := decide_eq_decide.mpr bs_nil
  simp only [e0, toList_beq, hd]
  by_cases h0 : l = []
  · simp only [h0, decide_true, cond_true]
  · simp only [h0, decide_false, cond_false]
    rw [frame_All_0'_eq, b_frame_All_0']
    exact all_loop _ _ l [] (by omega) (by omega) hB hl (by simp)
/-! ### lists of frames -/
theorem lall_loop : ∀ (suf pre : List D_frame_Frame) (m : Nat), suf.length < m → (pre ++ suf).length ≤ 1000 → (∀ f ∈ pre ++ suf, f.2.2.2.2.2.2.2.2.2.2.2.2.1.length ≤ 1000000) →
    law06_all_0 m (pre ++ suf) ((pre.length : Nat) : Int) pre = some (pre ++ suf, ()) := by
  intro suf
  induction suf with
  | nil =>
    intro pre m hm _ _
    obtain ⟨m, rfl⟩ : ∃ k, m = k + 1 := ⟨m - 1, by omega⟩
    simp only [law06_all_0, t_law06_all_0, List.append_nil, Int.lt_irrefl, decide_false, cond_false]
  | cons x suf ih =>
    intro pre m hm hl hs
    obtain ⟨m, rfl⟩ : ∃ k, m = k + 1 := ⟨m - 1, by omega⟩
    have hx : law06_its x = some (x, ()) := its_is x (hs x (by simp))
    have c : pre.length + [x].length ≤ 4294967296 := by simp at hl ⊢; omega
    have ef : ((x.1, (x.2.1, (x.2.2.1, (x.2.2.2.1, (x.2.2.2.2.1, (x.2.2.2.2.2.1, (x.2.2.2.2.2.2.1, (x.2.2.2.2.2.2.2.1, (x.2.2.2.2.2.2.2.2.1, (x.2.2.2.2.2.2.2.2.2.1, (x.2.2.2.2.2.2.2.2.2.2.1, (x.2.2.2.2.2.2.2.2.2.2.2.1, (x.2.2.2.2.2.2.2.2.2.2.2.2.1, ()))))))))))))) : D_frame_Frame) = x := rfl
    simp only [law06_all_0, t_law06_all_0, mid_lt, nn, and_true, decide_true, cond_true, toNat_len, getD_mid, hx, obind_some, ef, c]
    rw [mid_next pre x x suf (by omega), snoc_app pre x suf]
    exact ih (pre ++ [x]) m (by simp at hm; omega) (by simpa using hl) (by rw [← snoc_app]; exact hs)
theorem lall_is (l : List D_frame_Frame) (hl : l.length ≤ 1000) (hs : ∀ f ∈ l, f.2.2.2.2.2.2.2.2.2.2.2.2.1.length ≤ 1000000) : law06_all l = some (l, ()) := by
  rw [law06_all_eq, b_law06_all, law06_all_0'_eq, b_law06_all_0']
  exact lall_loop l [] _ (by omega) (by simpa using hl) (by simpa using hs)
theorem sall_loop : ∀ (s1 s2 p1 p2 : List D_frame_Frame) (m : Nat), s1.length < m → p1.length = p2.length → s1.length = s2.length → (p1 ++ s1).length ≤ 1000 → (∀ f ∈ s1, f.2.2.2.2.2.2.2.2.2.2.2.2.1.length ≤ 1000000) →
    ref06_SameAll_0 m (p1 ++ s1) (p2 ++ s2) ((p1.length : Nat) : Int) = some (decide (s1 = s2), ()) := by
  intro s1
  induction s1 with
  | nil =>
    intro s2 p1 p2 m hm _ h2 _ _
    obtain ⟨m, rfl⟩ : ∃ k, m = k + 1 := ⟨m - 1, by omega⟩
    obtain rfl : s2 = [] := List.eq_nil_of_length_eq_zero (by simpa using h2.symm)
    simp only [ref06_SameAll_0, t_ref06_SameAll_0, mid_end, decide_false, cond_false, decide_true]
  | cons x s1 ih =>
    intro s2 p1 p2 m hm h1 h2 hl hs
    obtain ⟨m, rfl⟩ : ∃ k, m = k + 1 := ⟨m - 1, by omega⟩
    obtain ⟨y, s2, rfl⟩ : ∃ y t, s2 = y :: t := by
      cases s2 with
      | nil => simp at h2
      | cons y t => exact ⟨y, t, rfl⟩
    have g2 : ((p1.length : Nat) : Int) < (((p2 ++ y :: s2).length : Nat) : Int) := by rw [h1]; simp; omega
    have g3 : (p2 ++ y :: s2).getD p1.length (Ty.dflt T_frame_Frame) = y := by rw [h1, getD_mid]
    have hx := hs x (by simp)
    simp only [ref06_SameAll_0, t_ref06_SameAll_0, mid_lt, nn, and_true, decide_true, cond_true, toNat_len, getD_mid, g2, g3, same6_is x y (by omega), obind_some]
    by_cases he : x = y
    · subst he
      simp only [decide_true, Bool.not_true, cond_false]
      rw [mid_next p1 x x s1 (by omega), snoc_app p1, snoc_app p2, ih s2 (p1 ++ [x]) (p2 ++ [x]) m (by simp at hm; omega) (by simp [h1]) (by simpa using h2) (by simpa using hl) (fun f hf => hs f (by simp [hf]))]
      simp
    · simp only [he, decide_false, Bool.not_false, cond_true]
      rw [decide_eq_false]
      intro e
      simp only [List.cons.injEq] at e
      exact he e.1
theorem sall_is (a b : List D_frame_Frame) (ha : a.length ≤ 1000) (hs : ∀ f ∈ a, f.2.2.2.2.2.2.2.2.2.2.2.2.1.length ≤ 1000000) : ref06_SameAll a b = some (decide (a = b), ()) := by
  rw [ref06_SameAll_eq, b_ref06_SameAll]
  by_cases h : a.length = b.length
  · have : (((a.length : Nat) : Int) != ((b.length : Nat) : Int)) = false := by rw [h]; simp
    simp only [this, cond_false]
    rw [ref06_SameAll_0'_eq, b_ref06_SameAll_0']
    exact sall_loop a b [] [] _ (by simp) rfl h (by simp; omega) hs
  · have : (((a.length : Nat) : Int) != ((b.length : Nat) : Int)) = true := by simp; omega
    simp only [this, cond_true]
    rw [decide_eq_false (fun e => h (by rw [e]))]
/-- What a frame that may be holds is not much. -/
theorem may_few {f : D_frame_Frame} (h : mayFr f = true) : f.2.2.2.2.2.2.2.2.2.2.2.2.1.length ≤ 32 := by
  obtain ⟨hk, ho, hn, hd, he⟩ := mayFr_parts h
  by_cases h2 : f.1 = 2
  · simp only [extraF, h2, beq_self_eq_true, cond_true, Bool.and_eq_true, decide_eq_true_eq] at he
    exact he.1.2
  · have : f.2.2.2.2.2.2.2.2.2.2.2.2.1 = [] := by
      have := congrArg (fun f : D_frame_Frame => f.2.2.2.2.2.2.2.2.2.2.2.2.1) ho
      simp only [onlyF, hasSet] at this
      rw [this]
      simp [h2]
    rw [this]; simp
theorem allF_ok : ∀ (n : Nat) (l : List Int) (acc : List D_frame_Frame), Byt l → (∀ f ∈ acc, FrOk f ∧ mayFr f = true) → acc.length ≤ 40 → (∀ f ∈ (allF n l acc).1, FrOk f ∧ mayFr f = true) ∧ (allF n l acc).1.length ≤ 40
  | 0, _, _, _, _, _ => ⟨by simp [allF], by simp [allF]⟩
  | n + 1, l, acc, hB, ha, h40 => by
    simp only [allF]
    by_cases h0 : l = []
    · simp only [h0, decide_true, cond_true]; exact ⟨ha, h40⟩
    · simp only [h0, decide_false, cond_false]
      cases hg : getL l with
      | none => exact ⟨by simp, by simp⟩
      | some x =>
        obtain ⟨f, r⟩ := x
        obtain ⟨h1, h2⟩ := getL_less hg hB
        simp only
        cases hk : f.1 == 0 with
        | true => exact allF_ok n r acc h2 ha h40
        | false =>
          simp only [cond_false]
          by_cases c : 40 < acc.length + 1
          · simp only [c, decide_true, cond_true]; exact ⟨by simp, by simp⟩
          · simp only [c, decide_false, cond_false]
            refine allF_ok n r (acc ++ [f]) h2 (fun g hg2 => ?_) (by simp; omega)
            rcases List.mem_append.mp hg2 with h | h
            · exact ha g h
            · rw [List.mem_singleton.mp h]; exact getL_ok hB hg
end Go.Proofs.YtjdjlijjolibkaaDoor.V
namespace Go.Proofs.YtjdjlijjolibkaaDoor.V
open Go.RowKit Go.Proofs.Tryd
set_option maxRecDepth 100000
set_option linter.unusedVariables false
noncomputable def m_law06_FrameAll : Mach prog Inv gInv := mach bas [(14, f14)] ⟨ok14, trivial⟩ [(29, c_law06_bounded), (30, c_law06_shown), (31, c_frame_Put), (42, c_frame_All), (44, c_ref06_SameAll), (45, c_law06_all)] ⟨⟨c_law06_bounded_ok, FnOk.callable ok29⟩, ⟨c_law06_shown_ok, FnOk.callable ok30⟩, ⟨c_frame_Put_ok, FnOk.callable ok31⟩, ⟨c_frame_All_ok, FnOk.callable ok42⟩, ⟨c_ref06_SameAll_ok, FnOk.callable ok44⟩, ⟨c_law06_all_ok, FnOk.callable ok45⟩, trivial⟩ [] trivial [] trivial
/-! ### domino/dominolaw06.FrameAll -/
@[reducible] def r_law06_FrameAll : List Ty := [.bool]
def ks_law06_FrameAll : List Nat := [14]
abbrev H_law06_FrameAll (base : Base) (S0 : Nat → Prop) := base.n = 0 ∧ FinOk (finR r_law06_FrameAll) base S0 (Post r_law06_FrameAll S0)
abbrev J_law06_FrameAll (base : Base) (S0 : Nat → Prop) (cs0 : List Go.Frame) (p : CPat) (J : denC p → Option (denL r_law06_FrameAll)) := JSound m_law06_FrameAll base S0 cs0 (Post r_law06_FrameAll S0) p J
abbrev O_law06_FrameAll (base : Base) (S0 : Nat → Prop) (cs0 : List Go.Frame) (X : Cfg → Option (Option (denL r_law06_FrameAll))) := OSound m_law06_FrameAll base S0 cs0 (Post r_law06_FrameAll S0) X
@[reducible] noncomputable def p_law06_FrameAll_6 : CPat := ⟨⟨14, [1, 1, 1, 1, 1, 1, 0, 1, 0], none, [.any, .any, .any, .any, .any, .str, .all 0, .any, .any, .any, .rows T_frame_Frame false, .int .i64], 103⟩, [], [.row T_frame_Frame], 0⟩
@[reducible] noncomputable def u_law06_FrameAll_6 (k : ByteArray → (List D_frame_Frame) → Int → (List D_frame_Frame) → Option (Bool × Unit)) : denC p_law06_FrameAll_6 → Option (Bool × Unit) := fun x => k x.1.2.2.2.2.2.1 x.1.2.2.2.2.2.2.2.2.2.2.1 x.1.2.2.2.2.2.2.2.2.2.2.2.1 x.2.2.1
noncomputable def b_law06_FrameAll_6 (s105 : ByteArray) (l106 : (List D_frame_Frame)) (i107 : Int) (l108 : (List D_frame_Frame)) : Option (Bool × Unit) :=
  let n109 : Int := (((List.length l106) : Nat) : Int)
  let b110 : Bool := (n109 == (0 : Int))
  bif b110 then
    let b111 : Bool := (i107 == (60 : Int))
    let b112 : Bool := ((ByteArray.toList s105) == (ByteArray.toList (ByteArray.mk (List.toArray ([] : List UInt8)))))
    bif b112 then
      let b113 : Bool := (b111 == true)
      some (b113, ())
    else
      let n114 : Int := (((List.length l108) : Nat) : Int)
      let b115 : Bool := (decide (n114 > (40 : Int)))
      let b116 : Bool := (b111 == b115)
      some (b116, ())
  else
    some (false, ())
theorem ex_law06_FrameAll_6 : ∃ f, f = @b_law06_FrameAll_6 := ⟨_, rfl⟩
noncomputable def law06_FrameAll_6 := Classical.choose ex_law06_FrameAll_6
theorem law06_FrameAll_6_eq : @law06_FrameAll_6 = @b_law06_FrameAll_6 := Classical.choose_spec ex_law06_FrameAll_6
theorem s_law06_FrameAll_6 {base S0 cs0} (hfin : H_law06_FrameAll base S0) : J_law06_FrameAll base S0 cs0 p_law06_FrameAll_6 (u_law06_FrameAll_6 (law06_FrameAll_6)) :=
  JSound.join hfin.2 (OSound.nowhere) ks_law06_FrameAll 100000 (by rw [law06_FrameAll_6_eq]; intro x; kernel_rfl)
noncomputable def x_law06_FrameAll_6 : Cfg → Option (Option (Bool × Unit)) := cut p_law06_FrameAll_6 (u_law06_FrameAll_6 (law06_FrameAll_6)) (nowhere)
theorem o_law06_FrameAll_6 {base S0 cs0} (hfin : H_law06_FrameAll base S0) : O_law06_FrameAll base S0 cs0 (x_law06_FrameAll_6) := OSound.cut (OSound.nowhere) (Nat.le_of_eq hfin.1) (s_law06_FrameAll_6 hfin)
@[reducible] noncomputable def p_law06_FrameAll_1 : CPat := ⟨⟨14, [1, 1, 1, 1, 0, 1, 0], none, [.rows T_frame_Frame false, .rows (.byt 5) false, .any, .any, .any, .str, .all 0, .int .i64], 107⟩, [], [.row T_frame_Frame], 0⟩
@[reducible] noncomputable def u_law06_FrameAll_1 (k : (List D_frame_Frame) → (List Int) → ByteArray → Int → (List D_frame_Frame) → Option (Bool × Unit)) : denC p_law06_FrameAll_1 → Option (Bool × Unit) := fun x => k x.1.1 x.1.2.1 x.1.2.2.2.2.2.1 x.1.2.2.2.2.2.2.2.1 x.2.2.1
@[reducible] noncomputable def p_law06_FrameAll_5 : CPat := ⟨⟨14, [1, 1, 1, 1, 0, 1, 0, 0, 1, 0, 0, 1, 1, 1], none, [.rows T_frame_Frame false, .rows (.byt 5) false, .any, .any, .any, .str, .all 0, .int .i64, .str], 106⟩, [], [.row T_frame_Frame], 0⟩
@[reducible] noncomputable def u_law06_FrameAll_5 (k : (List D_frame_Frame) → (List Int) → ByteArray → Int → ByteArray → (List D_frame_Frame) → Option (Bool × Unit)) : denC p_law06_FrameAll_5 → Option (Bool × Unit) := fun x => k x.1.1 x.1.2.1 x.1.2.2.2.2.2.1 x.1.2.2.2.2.2.2.2.1 x.1.2.2.2.2.2.2.2.2.1 x.2.2.1
noncomputable def b_law06_FrameAll_5 (k1 : (List D_frame_Frame) → (List Int) → ByteArray → Int → (List D_frame_Frame) → Option (Bool × Unit)) (l86 : (List D_frame_Frame)) (l87 : (List Int)) (s88 : ByteArray) (i89 : Int) (s90 : ByteArray) (l91 : (List D_frame_Frame)) : Option (Bool × Unit) :=
  bif (decide (((ByteArray.size s88) + (ByteArray.size s90)) ≤ 9223372036854775807)) then
    let s92 : ByteArray := (s88 ++ s90)
    bif (decide (((0 : Int) ≤ i89) ∧ (i89 < (((List.length l86) : Nat) : Int)))) then
      let x93 : D_frame_Frame := (List.getD l86 (Int.toNat i89) (Ty.dflt T_frame_Frame))
      let e94 : (Int × (Int × (Int × (Int × (Int × (Int × (Int × (Int × (Bool × (ByteArray × (ByteArray × (ByteArray × ((List D_ranges_Range) × Unit))))))))))))) := (x93.1, (x93.2.1, (x93.2.2.1, (x93.2.2.2.1, (x93.2.2.2.2.1, (x93.2.2.2.2.2.1, (x93.2.2.2.2.2.2.1, (x93.2.2.2.2.2.2.2.1, (x93.2.2.2.2.2.2.2.2.1, (x93.2.2.2.2.2.2.2.2.2.1, (x93.2.2.2.2.2.2.2.2.2.2.1, (x93.2.2.2.2.2.2.2.2.2.2.2.1, (x93.2.2.2.2.2.2.2.2.2.2.2.2.1, ())))))))))))))
      bif (decide (((List.length l91) + (List.length (e94 :: ([] : List D_frame_Frame)))) ≤ 4294967296)) then
        let l95 : (List D_frame_Frame) := (l91 ++ (e94 :: ([] : List D_frame_Frame)))
        let n96 : Int := (Go.IntKind.wrap Go.IntKind.i64 (i89 + (1 : Int)))
        k1 l86 l87 s92 n96 l95
      else none
    else none
  else none
theorem ex_law06_FrameAll_5 : ∃ f, f = @b_law06_FrameAll_5 := ⟨_, rfl⟩
noncomputable def law06_FrameAll_5 := Classical.choose ex_law06_FrameAll_5
theorem law06_FrameAll_5_eq : @law06_FrameAll_5 = @b_law06_FrameAll_5 := Classical.choose_spec ex_law06_FrameAll_5
theorem s_law06_FrameAll_5 {base S0 cs0} (hfin : H_law06_FrameAll base S0) (k1) (h1 : J_law06_FrameAll base S0 cs0 p_law06_FrameAll_1 (u_law06_FrameAll_1 k1)) : J_law06_FrameAll base S0 cs0 p_law06_FrameAll_5 (u_law06_FrameAll_5 (law06_FrameAll_5 k1)) :=
  JSound.join hfin.2 (OSound.cut (o_law06_FrameAll_6 hfin) (Nat.le_of_eq hfin.1) h1) ks_law06_FrameAll 100000 (by rw [law06_FrameAll_5_eq]; intro x; kernel_rfl)
noncomputable def x_law06_FrameAll_5 (k1 : (List D_frame_Frame) → (List Int) → ByteArray → Int → (List D_frame_Frame) → Option (Bool × Unit)) : Cfg → Option (Option (Bool × Unit)) := cut p_law06_FrameAll_5 (u_law06_FrameAll_5 (law06_FrameAll_5 k1)) (cut p_law06_FrameAll_1 (u_law06_FrameAll_1 k1) (x_law06_FrameAll_6))
theorem o_law06_FrameAll_5 {base S0 cs0} (hfin : H_law06_FrameAll base S0) (k1) (h1 : J_law06_FrameAll base S0 cs0 p_law06_FrameAll_1 (u_law06_FrameAll_1 k1)) : O_law06_FrameAll base S0 cs0 (x_law06_FrameAll_5 k1) := OSound.cut (OSound.cut (o_law06_FrameAll_6 hfin) (Nat.le_of_eq hfin.1) h1) (Nat.le_of_eq hfin.1) (s_law06_FrameAll_5 hfin k1 h1)
@[reducible] noncomputable def p_law06_FrameAll_4 : CPat := ⟨⟨14, [1, 1, 1, 1, 0, 1, 0, 0, 1, 0, 0, 1, 0, 1, 0], none, [], 115⟩, [], [], 0⟩
@[reducible] noncomputable def u_law06_FrameAll_4 (k : Option (Bool × Unit)) : denC p_law06_FrameAll_4 → Option (Bool × Unit) := fun x => k
noncomputable def b_law06_FrameAll_4 (k1 : (List D_frame_Frame) → (List Int) → ByteArray → Int → (List D_frame_Frame) → Option (Bool × Unit)) : Option (Bool × Unit) :=
  obind law06_shown fun y72 =>
  some y72
theorem ex_law06_FrameAll_4 : ∃ f, f = @b_law06_FrameAll_4 := ⟨_, rfl⟩
noncomputable def law06_FrameAll_4 := Classical.choose ex_law06_FrameAll_4
theorem law06_FrameAll_4_eq : @law06_FrameAll_4 = @b_law06_FrameAll_4 := Classical.choose_spec ex_law06_FrameAll_4
theorem s_law06_FrameAll_4 {base S0 cs0} (hfin : H_law06_FrameAll base S0) (k1) (h1 : J_law06_FrameAll base S0 cs0 p_law06_FrameAll_1 (u_law06_FrameAll_1 k1)) : J_law06_FrameAll base S0 cs0 p_law06_FrameAll_4 (u_law06_FrameAll_4 (law06_FrameAll_4 k1)) :=
  JSound.join hfin.2 (o_law06_FrameAll_5 hfin k1 h1) ks_law06_FrameAll 100000 (by rw [law06_FrameAll_4_eq]; intro x; kernel_rfl)
noncomputable def x_law06_FrameAll_4 (k1 : (List D_frame_Frame) → (List Int) → ByteArray → Int → (List D_frame_Frame) → Option (Bool × Unit)) : Cfg → Option (Option (Bool × Unit)) := cut p_law06_FrameAll_4 (u_law06_FrameAll_4 (law06_FrameAll_4 k1)) (x_law06_FrameAll_5 k1)
theorem o_law06_FrameAll_4 {base S0 cs0} (hfin : H_law06_FrameAll base S0) (k1) (h1 : J_law06_FrameAll base S0 cs0 p_law06_FrameAll_1 (u_law06_FrameAll_1 k1)) : O_law06_FrameAll base S0 cs0 (x_law06_FrameAll_4 k1) := OSound.cut (o_law06_FrameAll_5 hfin k1 h1) (Nat.le_of_eq hfin.1) (s_law06_FrameAll_4 hfin k1 h1)
noncomputable def t_law06_FrameAll_1 (k1 : (List D_frame_Frame) → (List Int) → ByteArray → Int → (List D_frame_Frame) → Option (Bool × Unit)) (l51 : (List D_frame_Frame)) (l52 : (List Int)) (s53 : ByteArray) (i54 : Int) (l55 : (List D_frame_Frame)) : Option (Bool × Unit) :=
  let n56 : Int := (((List.length l51) : Nat) : Int)
  let b57 : Bool := (decide (i54 < n56))
  bif b57 then
    bif (decide (((0 : Int) ≤ i54) ∧ (i54 < (((List.length l51) : Nat) : Int)))) then
      let x58 : D_frame_Frame := (List.getD l51 (Int.toNat i54) (Ty.dflt T_frame_Frame))
      obind (frame_Put x58) fun y59 =>
      bif (decide (((0 : Int) ≤ i54) ∧ (i54 < (((List.length l51) : Nat) : Int)))) then
        let x60 : D_frame_Frame := (List.getD l51 (Int.toNat i54) (Ty.dflt T_frame_Frame))
        obind (law06_bounded x60) fun y61 =>
        let b62 : Bool := (!y61.1)
        bif b62 then
          law06_FrameAll_4 k1
        else
          let b63 : Bool := (y59.2.1 != (0 : Int))
          bif b63 then
            law06_FrameAll_4 k1
          else
            bif (decide (((0 : Int) ≤ i54) ∧ (i54 < (((List.length l51) : Nat) : Int)))) then
              let x64 : D_frame_Frame := (List.getD l51 (Int.toNat i54) (Ty.dflt T_frame_Frame))
              let b65 : Bool := (x64.1 == (0 : Int))
              bif b65 then
                law06_FrameAll_4 k1
              else
                let n73 : Int := (((List.length l52) : Nat) : Int)
                let b74 : Bool := (decide (i54 < n73))
                bif b74 then
                  bif (decide (((0 : Int) ≤ i54) ∧ (i54 < (((List.length l52) : Nat) : Int)))) then
                    let x75 : Int := (List.getD l52 (Int.toNat i54) (0 : Int))
                    let n76 : Int := (Go.IntKind.wrap Go.IntKind.i64 x75)
                    let n77 : Int := (Int.tmod n76 (20 : Int))
                    bif (decide (((0 : Int) ≤ n77) ∧ ((n77 ≤ (4294967296 : Int)) ∧ (n77 = n77)))) then
                      let l78 : (List Int) := (List.replicate (Int.toNat n77) (0 : Int))
                      let s79 : ByteArray := (bytesStr l78)
                      bif (decide (((ByteArray.size s53) + (ByteArray.size s79)) ≤ 9223372036854775807)) then
                        let s80 : ByteArray := (s53 ++ s79)
                        law06_FrameAll_5 k1 l51 l52 s80 i54 y59.1 l55
                      else none
                    else none
                  else none
                else
                  law06_FrameAll_5 k1 l51 l52 s53 i54 y59.1 l55
            else none
      else none
    else none
  else
    obind (frame_All s53) fun y66 =>
    let n67 : Int := (((List.length l55) : Nat) : Int)
    let b68 : Bool := (n67 == (0 : Int))
    bif b68 then
      law06_FrameAll_6 s53 y66.1 y66.2.1 l55
    else
      let n69 : Int := (((List.length l55) : Nat) : Int)
      let b70 : Bool := (decide (n69 > (40 : Int)))
      bif b70 then
        law06_FrameAll_6 s53 y66.1 y66.2.1 l55
      else
        let b117 : Bool := (y66.2.1 == (0 : Int))
        bif b117 then
          obind (law06_all y66.1) fun y118 =>
          obind (law06_all l55) fun y119 =>
          obind (ref06_SameAll y118.1 y119.1) fun y120 =>
          some y120
        else
          some (false, ())
noncomputable def law06_FrameAll_1 : Nat → (List D_frame_Frame) → (List Int) → ByteArray → Int → (List D_frame_Frame) → Option (Bool × Unit)
  | 0 => fun _ _ _ _ _ => none
  | m + 1 => t_law06_FrameAll_1 (law06_FrameAll_1 m)
noncomputable def b_law06_FrameAll_1' (l51 : (List D_frame_Frame)) (l52 : (List Int)) (s53 : ByteArray) (i54 : Int) (l55 : (List D_frame_Frame)) : Option (Bool × Unit) := law06_FrameAll_1 (Int.toNat ((((List.length l51) : Nat) : Int) - i54) + 2) l51 l52 s53 i54 l55
theorem ex_law06_FrameAll_1' : ∃ f, f = @b_law06_FrameAll_1' := ⟨_, rfl⟩
noncomputable def law06_FrameAll_1' := Classical.choose ex_law06_FrameAll_1'
theorem law06_FrameAll_1'_eq : @law06_FrameAll_1' = @b_law06_FrameAll_1' := Classical.choose_spec ex_law06_FrameAll_1'
theorem s_law06_FrameAll_1 {base S0 cs0} (hfin : H_law06_FrameAll base S0) : ∀ m, J_law06_FrameAll base S0 cs0 p_law06_FrameAll_1 (u_law06_FrameAll_1 (law06_FrameAll_1 m)) :=
  JSound.loop' hfin.2 ks_law06_FrameAll 100000 u_law06_FrameAll_1 (fun k1 => x_law06_FrameAll_4 k1) (fun k1 h1 => o_law06_FrameAll_4 hfin k1 h1) (law06_FrameAll_1) (by intro x; rfl) (by intro m x; kernel_rfl)
theorem s_law06_FrameAll_1' {base S0 cs0} (hfin : H_law06_FrameAll base S0) : J_law06_FrameAll base S0 cs0 p_law06_FrameAll_1 (u_law06_FrameAll_1 (law06_FrameAll_1')) := by
  rw [law06_FrameAll_1'_eq]; exact fun x r hx => s_law06_FrameAll_1 hfin _ x r hx
noncomputable def x_law06_FrameAll_1 : Cfg → Option (Option (Bool × Unit)) := cut p_law06_FrameAll_1 (u_law06_FrameAll_1 (law06_FrameAll_1')) (x_law06_FrameAll_6)
theorem o_law06_FrameAll_1 {base S0 cs0} (hfin : H_law06_FrameAll base S0) : O_law06_FrameAll base S0 cs0 (x_law06_FrameAll_1) := OSound.cut (o_law06_FrameAll_6 hfin) (Nat.le_of_eq hfin.1) (s_law06_FrameAll_1' hfin)
@[reducible] noncomputable def p_law06_FrameAll_0 : CPat := ⟨⟨14, [1, 0, 1, 0], none, [], 115⟩, [], [], 0⟩
@[reducible] noncomputable def u_law06_FrameAll_0 (k : Option (Bool × Unit)) : denC p_law06_FrameAll_0 → Option (Bool × Unit) := fun x => k
noncomputable def b_law06_FrameAll_0 : Option (Bool × Unit) :=
  obind law06_shown fun y7 =>
  some y7
theorem ex_law06_FrameAll_0 : ∃ f, f = @b_law06_FrameAll_0 := ⟨_, rfl⟩
noncomputable def law06_FrameAll_0 := Classical.choose ex_law06_FrameAll_0
theorem law06_FrameAll_0_eq : @law06_FrameAll_0 = @b_law06_FrameAll_0 := Classical.choose_spec ex_law06_FrameAll_0
theorem s_law06_FrameAll_0 {base S0 cs0} (hfin : H_law06_FrameAll base S0) : J_law06_FrameAll base S0 cs0 p_law06_FrameAll_0 (u_law06_FrameAll_0 (law06_FrameAll_0)) :=
  JSound.join hfin.2 (o_law06_FrameAll_1 hfin) ks_law06_FrameAll 100000 (by rw [law06_FrameAll_0_eq]; intro x; kernel_rfl)
noncomputable def x_law06_FrameAll_0 : Cfg → Option (Option (Bool × Unit)) := cut p_law06_FrameAll_0 (u_law06_FrameAll_0 (law06_FrameAll_0)) (x_law06_FrameAll_1)
theorem o_law06_FrameAll_0 {base S0 cs0} (hfin : H_law06_FrameAll base S0) : O_law06_FrameAll base S0 cs0 (x_law06_FrameAll_0) := OSound.cut (o_law06_FrameAll_1 hfin) (Nat.le_of_eq hfin.1) (s_law06_FrameAll_0 hfin)
noncomputable def b_law06_FrameAll (a0 : (List D_frame_Frame)) (a1 : (List Int)) : Option (Bool × Unit) :=
  let n2 : Int := (((List.length a0) : Nat) : Int)
  let b3 : Bool := (decide (n2 > (45 : Int)))
  bif b3 then
    law06_FrameAll_0
  else
    obind law06_shown fun y4 =>
    let b5 : Bool := (!y4.1)
    bif b5 then
      law06_FrameAll_0
    else
      let s8 : ByteArray := (ByteArray.mk (List.toArray ([] : List UInt8)))
      law06_FrameAll_1' a0 a1 s8 (0 : Int) ([] : List D_frame_Frame)
theorem ex_law06_FrameAll : ∃ f, f = @b_law06_FrameAll := ⟨_, rfl⟩
noncomputable def law06_FrameAll := Classical.choose ex_law06_FrameAll
theorem law06_FrameAll_eq : @law06_FrameAll = @b_law06_FrameAll := Classical.choose_spec ex_law06_FrameAll
noncomputable def cb_law06_FrameAll : Con := ⟨[(.slice T_frame_Frame), (.slice (.byt 5))], r_law06_FrameAll, fun x => b_law06_FrameAll x.1 x.2.1⟩
noncomputable def c_law06_FrameAll : Con := ⟨[(.slice T_frame_Frame), (.slice (.byt 5))], r_law06_FrameAll, fun x => law06_FrameAll x.1 x.2.1⟩
theorem cb_law06_FrameAll_ok : cb_law06_FrameAll.Sound prog Inv gInv 14 :=
  con_run (M := m_law06_FrameAll) inv_g (f := f14) rfl ks_law06_FrameAll 100000 (X := x_law06_FrameAll_0) (fun base S0 cs0 hn hf => have hfin : H_law06_FrameAll base S0 := ⟨hn, hf⟩; o_law06_FrameAll_0 hfin) (by intro x; kernel_rfl)
theorem c_law06_FrameAll_ok : c_law06_FrameAll.Sound prog Inv gInv 14 := by
  have e : c_law06_FrameAll = cb_law06_FrameAll := by unfold c_law06_FrameAll cb_law06_FrameAll; rw [law06_FrameAll_eq]
  rw [e]; exact cb_law06_FrameAll_ok
end Go.Proofs.YtjdjlijjolibkaaDoor.V
/- law06.FrameAll, in plain Lean. -/
namespace Go.Proofs.YtjdjlijjolibkaaDoor.V
open Go.RowKit
set_option linter.unusedVariables false
def catF (gs : List D_frame_Frame) : List Int := (gs.map putL).flatten
def realF (gs : List D_frame_Frame) : List D_frame_Frame := gs.filter fun g => !(g.1 == 0)
theorem catF_app (a b : List D_frame_Frame) : catF (a ++ b) = catF a ++ catF b := by simp [catF]
theorem realF_app (a b : List D_frame_Frame) : realF (a ++ b) = realF a ++ realF b := by simp [realF]
theorem allF_cat : ∀ (gs : List D_frame_Frame) (n : Nat) (acc : List D_frame_Frame), gs.length < n → (∀ g ∈ gs, FrOk g ∧ mayFr g = true) → acc.length ≤ 40 →
    allF n (catF gs) acc = if acc.length + (realF gs).length ≤ 40 then (acc ++ realF gs, 0, ()) else ([], 60, ())
  | [], n, acc, hn, _, h40 => by
    obtain ⟨n, rfl⟩ : ∃ k, n = k + 1 := ⟨n - 1, by omega⟩
    simp [allF, catF, realF, h40]
  | g :: gs, n, acc, hn, hg, h40 => by
    obtain ⟨n, rfl⟩ : ∃ k, n = k + 1 := ⟨n - 1, by omega⟩
    obtain ⟨g1, g2⟩ := hg g (by simp)
    obtain ⟨p1, p2, p3⟩ := put_ok g g1 g2
    have hne : ¬ (putL g ++ catF gs) = [] := fun e => by have := congrArg List.length e; rw [List.length_append, List.length_nil] at this; omega
    have hb := back_is g g1 g2 (catF gs)
    have hc : catF (g :: gs) = putL g ++ catF gs := by simp [catF]
    simp only [allF, hc, hne, decide_false, cond_false, hb]
    have hn' : gs.length < n := by rw [List.length_cons] at hn; omega
    have ih := fun acc h => allF_cat gs n acc hn' (fun x hx => hg x (by simp [hx])) h
    cases hk : g.1 == 0 with
    | true =>
      have hr : realF (g :: gs) = realF gs := by simp [realF, hk]
      simp only [cond_true, hr]
      exact ih acc h40
    | false =>
      have hr : realF (g :: gs) = g :: realF gs := by simp [realF, hk]
      simp only [cond_false, hr, List.length_cons]
      by_cases c : 40 < acc.length + 1
      · simp only [c, decide_true, cond_true]
        rw [if_neg (by omega)]
      · simp only [c, decide_false, cond_false]
        rw [ih (acc ++ [g]) (by simp; omega)]
        simp only [List.length_append, List.length_cons, List.length_nil]
        by_cases d : acc.length + (realF gs).length + 1 ≤ 40
        · rw [if_pos (by omega), if_pos (by omega)]; simp
        · rw [if_neg (by omega), if_neg (by omega)]
theorem pad_ok : FrOk (zF 0) ∧ mayFr (zF 0) = true ∧ putL (zF 0) = [0] :=
  ⟨⟨by decide, by decide, by decide, by decide, by decide, by decide, by decide, by decide, by decide, by decide⟩, by decide +kernel, by decide +kernel⟩
theorem catF_pads (n : Nat) : catF (List.replicate n (zF 0)) = List.replicate n 0 := by
  induction n with
  | zero => rfl
  | succ n ih => simp only [List.replicate_succ]; simp only [catF, List.map_cons, List.flatten_cons, pad_ok.2.2] at ih ⊢; rw [ih]; rfl
theorem realF_pads (n : Nat) : realF (List.replicate n (zF 0)) = [] := by
  simp [realF]
theorem catF_byt {gs : List D_frame_Frame} (h : ∀ g ∈ gs, FrOk g ∧ mayFr g = true) : Byt (catF gs) := by
  intro x hx
  simp only [catF, List.mem_flatten, List.mem_map] at hx
  obtain ⟨_, ⟨g, hg, rfl⟩, hx⟩ := hx
  exact (put_ok g (h g hg).1 (h g hg).2).1 x hx
theorem catF_ge : ∀ {gs : List D_frame_Frame}, (∀ g ∈ gs, FrOk g ∧ mayFr g = true) → gs.length ≤ (catF gs).length
  | [], _ => by simp
  | g :: gs, h => by
    have := (put_ok g (h g (by simp)).1 (h g (by simp)).2).2.2
    have ih := catF_ge (gs := gs) (fun x hx => h x (by simp [hx]))
    have hc : catF (g :: gs) = putL g ++ catF gs := by simp [catF]
    rw [hc]; simp; omega
theorem end_is (gs : List D_frame_Frame) (hg : ∀ g ∈ gs, FrOk g ∧ mayFr g = true) (hl : (catF gs).length ≤ 1000000) (hw : (realF gs).length ≤ 45) (hne : gs ≠ [] → realF gs ≠ []) :
    (obind (frame_All (bytesStr (catF gs))) fun y66 =>
      bif (((realF gs).length : Nat) : Int) == 0 then law06_FrameAll_6 (bytesStr (catF gs)) y66.1 y66.2.1 (realF gs)
      else bif decide ((((realF gs).length : Nat) : Int) > 40) then law06_FrameAll_6 (bytesStr (catF gs)) y66.1 y66.2.1 (realF gs)
      else bif y66.2.1 == 0 then obind (law06_all y66.1) fun y118 => obind (law06_all (realF gs)) fun y119 => obind (ref06_SameAll y118.1 y119.1) fun y120 => some y120
      else some (false, ())) = some (true, ()) := by
  have e0 : ByteArray.mk (List.toArray ([] : List UInt8)) = eB := rfl
  have hd : decide (bytesStr (catF gs) = eB) = decide (catF gs = []) := decide_eq_decide.mpr bs_nil
  rw [all_is _ (catF_byt hg) hl]
  simp only [obind_some]
  by_cases h0 : gs = []
  · subst h0
    simp only [catF, realF, List.map_nil, List.flatten_nil, List.filter_nil, List.length_nil, law06_FrameAll_6_eq, b_law06_FrameAll_6, e0, toList_beq]
    rfl
  · have hc : ¬ catF gs = [] := fun e => by
      have := catF_ge hg
      rw [e] at this
      exact h0 (List.eq_nil_of_length_eq_zero (by simpa using this))
    have hr := hne h0
    have hr1 : ((((realF gs).length : Nat) : Int) == 0) = false := by
      have : 0 < (realF gs).length := List.length_pos_iff.mpr hr
      exact beq_false_of_ne (by omega)
    simp only [hc, decide_false, cond_false, hr1]
    rw [allF_cat gs _ [] (by have := catF_ge hg; omega) hg (by simp)]
    simp only [List.length_nil, Nat.zero_add, List.nil_append]
    by_cases h40 : (realF gs).length ≤ 40
    · have c : ¬ (((realF gs).length : Nat) : Int) > 40 := by omega
      have hs : ∀ f ∈ realF gs, f.2.2.2.2.2.2.2.2.2.2.2.2.1.length ≤ 1000000 := fun f hf => by
        have := may_few (hg f (List.mem_filter.mp hf).1).2
        omega
      simp only [h40, if_true, c, decide_false, cond_false, beq_self_eq_true, cond_true, lall_is _ (by omega) hs, obind_some, sall_is _ _ (by omega) hs, decide_true]
    · have c : (((realF gs).length : Nat) : Int) > 40 := by omega
      simp only [h40, if_false, c, decide_true, cond_true, law06_FrameAll_6_eq, b_law06_FrameAll_6, List.length_nil, e0, toList_beq, hd, hc, decide_false, cond_false]
      rfl
theorem fall_loop (pads : List Int) (hp : ∀ x ∈ pads, 0 ≤ x ∧ x ≤ 255) : ∀ (suf pre : List D_frame_Frame) (gs : List D_frame_Frame) (m : Nat), suf.length < m → (pre ++ suf).length ≤ 45 → (∀ f ∈ suf, FrOk f) → (∀ g ∈ gs, FrOk g ∧ mayFr g = true) →
    (catF gs).length ≤ 6000 * pre.length → realF gs = pre → (gs ≠ [] → realF gs ≠ []) →
    law06_FrameAll_1 m (pre ++ suf) pads (bytesStr (catF gs)) ((pre.length : Nat) : Int) pre = some (true, ()) := by
  intro suf
  induction suf with
  | nil =>
    intro pre gs m hm hl hf hg hc hr hne
    obtain ⟨m, rfl⟩ : ∃ k, m = k + 1 := ⟨m - 1, by omega⟩
    have hl' : pre.length ≤ 45 := by simpa using hl
    have := end_is gs hg (by omega) (by rw [hr]; omega) hne
    rw [hr] at this
    simp only [law06_FrameAll_1, t_law06_FrameAll_1, List.append_nil, Int.lt_irrefl, decide_false, cond_false]
    exact this
  | cons x suf ih =>
    intro pre gs m hm hl hf hg hc hr hne
    obtain ⟨m, rfl⟩ : ∃ k, m = k + 1 := ⟨m - 1, by omega⟩
    have hx := hf x (by simp)
    simp only [law06_FrameAll_1, t_law06_FrameAll_1, mid_lt, nn, and_true, decide_true, cond_true, toNat_len, getD_mid, put_is x hx, obind_some, bounded_is, law06_FrameAll_4_eq, b_law06_FrameAll_4, shown_is]
    cases hb : boundF x with
    | false => simp only [Bool.not_false, cond_true]
    | true =>
      simp only [Bool.not_true, cond_false]
      by_cases hmx : mayFr x = true
      · obtain ⟨p1, p2, p3⟩ := put_ok x hx hmx
        simp only [hmx, if_true, bne_self_eq_false, cond_false]
        cases hk : x.1 == 0 with
        | true => simp only [cond_true]
        | false =>
          simp only [cond_false]
          have step : ∀ (n : Nat), n < 20 → law06_FrameAll_5 (law06_FrameAll_1 m) (pre ++ x :: suf) pads (bytesStr (catF gs ++ List.replicate n 0)) ((pre.length : Nat) : Int) (bytesStr (putL x)) pre = some (true, ()) := by
            intro n hn
            rw [law06_FrameAll_5_eq, b_law06_FrameAll_5]
            have c1 : (catF gs ++ List.replicate n 0).length + (putL x).length ≤ 9223372036854775807 := by simp at hl ⊢; omega
            have c2 : pre.length + [x].length ≤ 4294967296 := by simp at hl ⊢; omega
            have ef : ((x.1, (x.2.1, (x.2.2.1, (x.2.2.2.1, (x.2.2.2.2.1, (x.2.2.2.2.2.1, (x.2.2.2.2.2.2.1, (x.2.2.2.2.2.2.2.1, (x.2.2.2.2.2.2.2.2.1, (x.2.2.2.2.2.2.2.2.2.1, (x.2.2.2.2.2.2.2.2.2.2.1, (x.2.2.2.2.2.2.2.2.2.2.2.1, (x.2.2.2.2.2.2.2.2.2.2.2.2.1, ()))))))))))))) : D_frame_Frame) = x := rfl
            simp only [bytesStr_size, c1, decide_true, cond_true, mid_lt, nn, and_true, toNat_len, getD_mid, ef, c2, ← bytesStr_app]
            have e : catF gs ++ List.replicate n 0 ++ putL x = catF (gs ++ List.replicate n (zF 0) ++ [x]) := by
              rw [catF_app, catF_app, catF_pads]; simp [catF]
            have hr2 : realF (gs ++ List.replicate n (zF 0) ++ [x]) = pre ++ [x] := by
              rw [realF_app, realF_app, realF_pads, hr]; simp [realF, hk]
            rw [mid_next pre x x suf (by omega), snoc_app pre x suf, e]
            refine ih (pre ++ [x]) (gs ++ List.replicate n (zF 0) ++ [x]) m (by simp at hm; omega) (by simpa using hl) (fun f h => hf f (by simp [h])) (fun g h => ?_) ?_ hr2 (fun _ => by rw [hr2]; simp)
            · rcases List.mem_append.mp h with h | h
              · rcases List.mem_append.mp h with h | h
                · exact hg g h
                · rw [(List.mem_replicate.mp h).2]; exact ⟨pad_ok.1, pad_ok.2.1⟩
              · rw [List.mem_singleton.mp h]; exact ⟨hx, hmx⟩
            · rw [← e]; simp; omega
          by_cases hi : ((pre.length : Nat) : Int) < ((pads.length : Nat) : Int)
          · have hv := hp (pads.getD pre.length 0) (by
              rw [List.getD_eq_getElem?_getD, List.getElem?_eq_getElem (by omega)]
              exact List.getElem_mem _)
            generalize pads.getD pre.length 0 = v at hv
            have w1 : IntKind.wrap .i64 v = v := wrap_i64 _ (by omega) (by omega)
            have t1 : Int.tmod v 20 = ((v.toNat % 20 : Nat) : Int) := by rw [Int.tmod_eq_emod_of_nonneg hv.1]; omega
            have c0 : ((v.toNat % 20 : Nat) : Int) ≤ 4294967296 := by omega
            have c1 : (catF gs).length + v.toNat % 20 ≤ 9223372036854775807 := by simp at hl; omega
            simp only [hi, decide_true, cond_true, w1, t1, nn, c0, and_self, Int.toNat_natCast, bytesStr_size, List.length_replicate, c1, ← bytesStr_app]
            exact step _ (by omega)
          · simp only [hi, decide_false, cond_false]
            have := step 0 (by omega)
            simpa using this
      · have hm2 : mayFr x = false := by simpa using hmx
        have e1 : ((1 : Int) != 0) = true := rfl
        simp only [hm2, Bool.false_eq_true, if_false, e1, cond_true]
theorem lawFrameAll (x : denL c_law06_FrameAll.params) (h : Wfs c_law06_FrameAll.params x) : c_law06_FrameAll.F x = some (true, ()) := by
  obtain ⟨l, pads, u⟩ := x
  obtain ⟨h1, h2, _⟩ := h
  have hf : ∀ f ∈ l, FrOk f := fun f hf => frok_of_wf (h1.2 f hf)
  have hp : ∀ x ∈ pads, 0 ≤ x ∧ x ≤ 255 := fun x hx => wf_u8 (h2.2 x hx)
  show law06_FrameAll l pads = _
  rw [law06_FrameAll_eq, b_law06_FrameAll, law06_FrameAll_0_eq, b_law06_FrameAll_0]
  simp only [shown_is, obind_some, Bool.not_true, cond_false]
  by_cases c : ((l.length : Nat) : Int) > 45
  · simp only [c, decide_true, cond_true]
  · simp only [c, decide_false, cond_false]
    rw [law06_FrameAll_1'_eq, b_law06_FrameAll_1']
    exact fall_loop pads hp l [] [] _ (by omega) (by simp; omega) hf (by simp) (by simp [catF]) rfl (by simp)
end Go.Proofs.YtjdjlijjolibkaaDoor.V
/- Tables that are laid: from the condition of a row to what the machine asks for. -/
namespace Go.Proofs.YtjdjlijjolibkaaDoor.V
open Go.RowKit Go.ChangeShapes
section
variable {H : Type} {enc : TypeId × Value → H} {P : Program} {w : World} {sp : Nat → Bool} {held : Bool} {fuel : Nat}
theorem tab_cells {k : IntKind} {N : Nat} {e t : TypeId} {cs : List Value} {l : List Int} {p : List MemPlace} (hu : P.underlying t = some (.array N e)) (he : P.underlying e = some (.int k)) (hc : P.cellsOf e = 1) (ht : P.cellsOf t = l.length) (hN : N = l.length)
    (hd : DataW.trod enc P w 0 sp held fuel t cs = some (.agg (l.map fun n => .lit (.int k n)), p)) : cs = l.map (Value.int k) := by
  obtain ⟨xs, m, rfl, hx, hlen, hn, hel⟩ := DataW.trod_array hu hd
  simp only [Prod.mk.injEq, DataW.agg.injEq] at hx
  have hm := hx.1
  rw [ht] at hlen
  refine List.ext_getElem (by rw [hlen, List.length_map]) fun i h1 h2 => ?_
  have hi : i < l.length := by rw [List.length_map] at h2; exact h2
  have hix : i < xs.length := by omega
  have h3 := hel i (by omega)
  rw [hc, Nat.mul_one, List.getElem?_eq_getElem hix] at h3
  obtain ⟨n, e1, e2, _⟩ := DataW.trod_int he h3
  have e3 : (cs.drop i).take 1 = [cs[i]] := by
    rw [List.drop_eq_getElem_cons h1, List.take_succ_cons, List.take_zero]
  rw [e3] at e1
  have e4 : (l.map fun n => (DataW.lit (.int k n) : DataW H))[i]? = (xs.map (·.1))[i]? := by rw [hm]
  rw [List.getElem?_map, List.getElem?_map, List.getElem?_eq_getElem hi, List.getElem?_eq_getElem hix, e2] at e4
  simp only [Option.map_some, Option.some.injEq, DataW.lit.injEq, Lit.int.injEq, true_and] at e4
  simp only [List.cons.injEq, and_true] at e1
  rw [e1, List.getElem_map, ← e4]
theorem tab_in {k : IntKind} {N : Nat} {e t g : TypeId} {n : String} {cs : Array Value} {l : List Int} {p : List MemPlace} (hg : P.globalNamed n = some g) (hv : w.var? P n = some cs) (hu : P.underlying t = some (.array N e)) (he : P.underlying e = some (.int k)) (hc : P.cellsOf e = 1) (ht : P.cellsOf t = l.length) (hN : N = l.length)
    (hd : DataW.trod enc P w 0 sp held fuel t cs.toList = some (.agg (l.map fun n => .lit (.int k n)), p)) {r : List (Nat × (Σ t : Ty, List t.den))} (hr : TabsIn w r) : TabsIn w ((g, ⟨.int k, l⟩) :: r) ∧ g < w.heap.size := by
  have hcs := tab_cells hu he hc ht hN hd
  simp only [World.var?, hg, Option.bind_some] at hv
  cases hh : w.heap[g]? with
  | none => rw [hh] at hv; cases hv
  | some o =>
    rw [hh] at hv
    cases o with
    | cells arr e' fz =>
      simp only [Option.some.injEq] at hv
      subst hv
      refine ⟨⟨⟨arr, e', fz, hh, fun i hi => ⟨[.int k (l.getD i 0)], ?_, ?_⟩⟩, hr⟩, lt_of_heap hh⟩
      · simp only [Rep]
        have : l.getD i 0 = l[i] := by simp [List.getD, hi]
        rw [this]
      · intro j hj
        simp at hj
        subst hj
        show arr[i * 1 + 0]? = _
        rw [Nat.mul_one, Nat.add_zero, ← Array.getElem?_toList, hcs, List.getElem?_map, List.getElem?_eq_getElem hi]
        simp [List.getD, hi]
    | _ => cases hv
end
end Go.Proofs.YtjdjlijjolibkaaDoor.V
/- The law FrameAll: for every input that can be read the call returns true and leaves its arguments alone: the row, and the tied card. No conditions but that the listed tables are laid (which the card ties to the program's text). -/
namespace Go.Proofs.YtjdjlijjolibkaaDoor.V.RowFrameAll
open Go.ChangeShapes Go.WideShapes Go.ChangeAt Go.RowKit Go.Proofs
set_option linter.unusedVariables false
set_option maxRecDepth 100000
theorem own : ownKnob Tryd.prog.godebug = none := by kernel_rfl
theorem laidOut : laidOutB Tryd.prog = true := by kernel_rfl
theorem door_met (os : Os) (args : Array Value) : laidMetH Tryd.prog [("math/bits.deBruijn32tab", Rows.laid_math_bits_deBruijn32tab), ("math/bits.deBruijn64tab", Rows.laid_math_bits_deBruijn64tab)] ((World.doorLaid Tryd.prog 400 os).forCall (fun _ _ => 0) ⟨#[], args, []⟩).memory :=
  laidMetH_of_parts3 (fuel := 8) (laidMet_of_run' 8 (by kernel_rfl) (by kernel_rfl)) (by kernel_rfl) (by kernel_rfl)
theorem inv_of {W : World} (h : laidMetH Tryd.prog [("math/bits.deBruijn32tab", Rows.laid_math_bits_deBruijn32tab), ("math/bits.deBruijn64tab", Rows.laid_math_bits_deBruijn64tab)] W) : Inv W := by
  rw [MakeChecks.laidMetH_plain _ _ _ (by kernel_rfl)] at h
  obtain ⟨ps, ⟨g0, t0, cs0, f0, p0, q0, hg0, ht0, hv0, hd0, ⟨g1, t1, cs1, f1, p1, q1, hg1, ht1, hv1, hd1, _, _⟩, _⟩, _, _⟩ := h
  obtain ⟨gg0, tt0⟩ : Tryd.prog.globalNamed "math/bits.deBruijn32tab" = some 0 ∧ (Tryd.prog.globals[0]?).map (·.type) = some 246 := ⟨by kernel_rfl, by kernel_rfl⟩
  obtain rfl := Option.some.inj (gg0.symm.trans hg0)
  obtain rfl := Option.some.inj (tt0.symm.trans ht0)
  obtain ⟨gg1, tt1⟩ : Tryd.prog.globalNamed "math/bits.deBruijn64tab" = some 1 ∧ (Tryd.prog.globals[1]?).map (·.type) = some 247 := ⟨by kernel_rfl, by kernel_rfl⟩
  obtain rfl := Option.some.inj (gg1.symm.trans hg1)
  obtain rfl := Option.some.inj (tt1.symm.trans ht1)
  have i1 := tab_in (k := .u8) (l := [0, 1, 56, 2, 57, 49, 28, 3, 61, 58, 42, 50, 38, 29, 17, 4, 62, 47, 59, 36, 45, 43, 51, 22, 53, 39, 33, 30, 24, 18, 12, 5, 63, 55, 48, 27, 60, 41, 37, 16, 46, 35, 44, 21, 52, 32, 23, 11, 54, 26, 40, 15, 34, 20, 31, 10, 25, 14, 19, 9, 13, 8, 7, 6]) hg1 hv1 Tryd.underlying247 (by kernel_rfl) (by kernel_rfl) (by kernel_rfl) (by kernel_rfl) hd1 (r := []) trivial
  have i0 := tab_in (k := .u8) (l := [0, 1, 28, 2, 29, 14, 24, 3, 30, 22, 20, 15, 25, 17, 4, 8, 31, 27, 13, 23, 21, 19, 16, 7, 26, 12, 18, 6, 11, 5, 10, 9]) hg0 hv0 Tryd.underlying246 (by kernel_rfl) (by kernel_rfl) (by kernel_rfl) (by kernel_rfl) hd0 i1.1
  exact ⟨i1.2, i0.1⟩
theorem lifted (os : Os) (started : os.Started) (H : Type) (enc : TypeId × Value → H) :
    ReturnsInHanded {} Tryd.checked os 14 .any (fun w args => (Rows.frameAllSpec.pre enc Tryd.prog Tryd.f14 [] false w args ∧ laidMetH Tryd.prog [("math/bits.deBruijn32tab", Rows.laid_math_bits_deBruijn32tab), ("math/bits.deBruijn64tab", Rows.laid_math_bits_deBruijn64tab)] w) ∧ sizedMet enc Tryd.prog Tryd.f14 (OpenSpec.ofChange Rows.frameAllSpec) false w args) (Rows.frameAllSpec.post enc Tryd.prog Tryd.f14 false true false false) := by
  refine returnsInHanded_of_change_and (C := Tryd.checked) (X := fun w _ => laidMetH Tryd.prog [("math/bits.deBruijn32tab", Rows.laid_math_bits_deBruijn32tab), ("math/bits.deBruijn64tab", Rows.laid_math_bits_deBruijn64tab)] w) (fun _ _ _ hh h => h.of_heap hh) own started (by kernel_rfl) Tryd.func14
    (ChangeSpec.witness_shaped (enc := enc) (C := Tryd.checked) (os := os) (X := fun w _ => laidMetH Tryd.prog [("math/bits.deBruijn32tab", Rows.laid_math_bits_deBruijn32tab), ("math/bits.deBruijn64tab", Rows.laid_math_bits_deBruijn64tab)] w) false (World.doorLaid Tryd.prog 400 os) (c_law06_FrameAll.params.map zeroV).toArray 8 rfl (World.shaped_of_RefB (by kernel_rfl) (by kernel_rfl)) (by kernel_rfl) (by kernel_rfl) (by kernel_rfl) (door_met os _)) ?_
  intro W base args ds gs before hval hW hcnd hsz hL _
  have hI := inv_of hL
  have hW' := hW
  obtain ⟨p, q, hA, hV, rfl, hfz, hnd⟩ := hW
  obtain ⟨x, hx, hwf⟩ := args_rep (n := 20) (ts := c_law06_FrameAll.params) (by kernel_rfl) hA (fun j T v h1 h2 => hval j T v (by simpa using h1) (by simpa using h2))
  have hlen : ds.length = 2 := (trodAll_length hA).trans (by kernel_rfl)
  obtain ⟨d1, d2, rfl⟩ : ∃ d1 d2, ds = [d1, d2] := by match ds, hlen with | [d1, d2], _ => exact ⟨d1, d2, rfl⟩
  obtain ⟨rfl, rfl⟩ := trodVars_none hV
  refine (law_calls (K := 14) c_law06_FrameAll_ok hI hx (lawFrameAll x hwf)).mono fun e W' ⟨he, bel⟩ => ?_
  subst he
  exact ⟨_, rfl, _, _, _, [], _, [], hW', trodAll_mk1 (shut_bool Tryd.underlying4 _), trodAll_below laidOut bel (by kernel_rfl) hA, rfl, bel.frame _, fun h => by cases h⟩
theorem proved : Rows.FrameAllSaid :=
  OpenClaim.holds_of_wide 14 Tryd.f14 rfl rfl rfl rfl rfl rfl rfl ⟨rfl, rfl, rfl, rfl, rfl⟩ rfl rfl rfl rfl rfl (by kernel_rfl) Tryd.func14 (by kernel_rfl)
    (of_decide_eq_true (by kernel_rfl)) (by unfold Func.isWrapper; first | (rw [if_pos (by decide +kernel)]; kernel_rfl) | (rw [if_neg (by decide +kernel)]; exact ⟨rfl, rfl⟩))
    (fun os started H enc _ => lifted os started H enc)
theorem card : Rows.FrameAllCardSaid :=
  Claim7.holds_tied_plain_at .later [] [.data, .data] true (true, "1021a36958bef67feb8e8930050b74075fa45ed83853cf8c22c3fa63b7773168") true
    proved (fun _ h => by cases h) (by kernel_rfl) (fun _ h => by cases h) frameAll_row_tie rfl ⟨rfl, rfl⟩ (by kernel_rfl) rfl
    (fun f fn hf hfn => by
      obtain rfl : f = 14 := Option.some.inj ((show Tryd.prog.funcNamed "domino/dominolaw06.FrameAll" = some 14 by kernel_rfl).symm.trans hf) |>.symm
      obtain rfl : fn = Tryd.f14 := (Option.some.inj (Tryd.func14.symm.trans hfn)).symm
      exact ⟨by kernel_rfl, fun j t ht => by
        have all : ∀ t ∈ [74, 45], Tryd.prog.wantsStandIn t = false := by
          intro t h
          simp only [List.mem_cons, List.not_mem_nil, or_false] at h
          rcases h with rfl | rfl <;> kernel_rfl
        have hp : Tryd.f14.params = #[74, 45] := rfl
        rw [hp] at ht
        exact all t (by
          have := List.mem_of_getElem? (l := [74, 45]) (i := j) (a := t) (by simpa using ht)
          exact this)⟩)
    (by kernel_rfl)
end Go.Proofs.YtjdjlijjolibkaaDoor.V.RowFrameAll
namespace Go.Proofs.YtjdjlijjolibkaaDoor
/-- The statement, under a short name, for the claim. -/
theorem frameAll_card : Rows.FrameAllCardSaid := V.RowFrameAll.card
end Go.Proofs.YtjdjlijjolibkaaDoor
