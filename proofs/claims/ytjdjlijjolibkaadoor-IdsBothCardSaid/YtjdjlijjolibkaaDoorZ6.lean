/- The law IdsBoth, part 6 of 6: what is proved: for every input that can be read the call of IdsBoth returns true and leaves its arguments alone. No conditions but the listed tables of the card. -/
import Derived.OpenShut
import Derived.LaidHandle
import Derived.LaidMore
import Derived.Stop.Joined
import Derived.Test.YtjdjlijjolibkaaDoorRows
import Derived.Test.YtjdjlijjolibkaaDoorCards
import Derived.Test.YtjdjlijjolibkaaDoorTie
import Derived.SevenTiedAt
import Derived.Test.YtjdjlijjolibkaaDoorZ5
namespace Go.Proofs.YtjdjlijjolibkaaDoor.V
open Go.RowKit Go.Proofs.Tryd
set_option maxRecDepth 100000
set_option linter.unusedVariables false
noncomputable def m_law18_IdsBoth : Mach prog Inv gInv := mach bas [(16, f16)] ⟨ok16, trivial⟩ [(47, c_law18_shown), (48, c_ids_New), (49, c_ids_Cid), (50, c_ids_Fill), (51, c_ids_Take), (52, c_ids_Next), (54, c_ids_On), (55, c_ids_Is)] ⟨⟨c_law18_shown_ok, FnOk.callable ok47⟩, ⟨c_ids_New_ok, FnOk.callable ok48⟩, ⟨c_ids_Cid_ok, FnOk.callable ok49⟩, ⟨c_ids_Fill_ok, FnOk.callable ok50⟩, ⟨c_ids_Take_ok, FnOk.callable ok51⟩, ⟨c_ids_Next_ok, FnOk.callable ok52⟩, ⟨c_ids_On_ok, FnOk.callable ok54⟩, ⟨c_ids_Is_ok, FnOk.callable ok55⟩, trivial⟩ [] trivial [] trivial
/-! ### domino/dominolaw18.IdsBoth -/
@[reducible] def r_law18_IdsBoth : List Ty := [.bool]
def ks_law18_IdsBoth : List Nat := [16]
abbrev H_law18_IdsBoth (base : Base) (S0 : Nat → Prop) := base.n = 0 ∧ FinOk (finR r_law18_IdsBoth) base S0 (Post r_law18_IdsBoth S0)
abbrev J_law18_IdsBoth (base : Base) (S0 : Nat → Prop) (cs0 : List Go.Frame) (p : CPat) (J : denC p → Option (denL r_law18_IdsBoth)) := JSound m_law18_IdsBoth base S0 cs0 (Post r_law18_IdsBoth S0) p J
abbrev O_law18_IdsBoth (base : Base) (S0 : Nat → Prop) (cs0 : List Go.Frame) (X : Cfg → Option (Option (denL r_law18_IdsBoth))) := OSound m_law18_IdsBoth base S0 cs0 (Post r_law18_IdsBoth S0) X
@[reducible] noncomputable def p_law18_IdsBoth_1 : CPat := ⟨⟨16, [1, 1, 1, 1, 0, 1, 0], none, [.any, .rows .bool false, .any, .any, .any, .ptr 0 0, .ptr 1 0, .int .i64], 100⟩, [], [.dat 89 T_ids_State, .dat 89 T_ids_State], 0⟩
@[reducible] noncomputable def u_law18_IdsBoth_1 (k : (List Bool) → Int → D_ids_State → D_ids_State → Option (Bool × Unit)) : denC p_law18_IdsBoth_1 → Option (Bool × Unit) := fun x => k x.1.2.1 x.1.2.2.2.2.2.2.2.1 x.2.2.1 x.2.2.2.1
@[reducible] noncomputable def p_law18_IdsBoth_83 : CPat := ⟨⟨16, [1, 1, 1, 1, 0, 1, 0, 0, 1, 0, 0, 1, 1, 1], none, [.any, .rows .bool false, .any, .any, .any, .ptr 0 0, .ptr 1 0, .int .i64, .any, .any, .any, .any, .any, .any, .any, .any, .any, .any, .any, .int .i64], 88⟩, [], [.dat 89 T_ids_State, .dat 89 T_ids_State], 0⟩
@[reducible] noncomputable def u_law18_IdsBoth_83 (k : (List Bool) → Int → Int → D_ids_State → D_ids_State → Option (Bool × Unit)) : denC p_law18_IdsBoth_83 → Option (Bool × Unit) := fun x => k x.1.2.1 x.1.2.2.2.2.2.2.2.1 x.1.2.2.2.2.2.2.2.2.2.2.2.2.2.2.2.2.2.2.2.1 x.2.2.1 x.2.2.2.1
noncomputable def b_law18_IdsBoth_83 (k1 : (List Bool) → Int → D_ids_State → D_ids_State → Option (Bool × Unit)) (l734 : (List Bool)) (i735 : Int) (i736 : Int) (d737 : D_ids_State) (d738 : D_ids_State) : Option (Bool × Unit) :=
  let b739 : Bool := (i736 != (0 : Int))
  bif b739 then
    some (false, ())
  else
    obind (ids_Cid d738) fun y740 =>
    obind (ids_Is d737 y740.1) fun y741 =>
    let b742 : Bool := (!y741.1)
    bif b742 then
      some (false, ())
    else
      obind (ids_Cid d737) fun y743 =>
      obind (ids_Is d738 y743.1) fun y744 =>
      let b745 : Bool := (!y744.1)
      bif b745 then
        some (false, ())
      else
        let n746 : Int := (Go.IntKind.wrap Go.IntKind.i64 (i735 + (1 : Int)))
        k1 l734 n746 d737 d738
theorem ex_law18_IdsBoth_83 : ∃ f, f = @b_law18_IdsBoth_83 := ⟨_, rfl⟩
noncomputable def law18_IdsBoth_83 := Classical.choose ex_law18_IdsBoth_83
theorem law18_IdsBoth_83_eq : @law18_IdsBoth_83 = @b_law18_IdsBoth_83 := Classical.choose_spec ex_law18_IdsBoth_83
theorem s_law18_IdsBoth_83 {base S0 cs0} (hfin : H_law18_IdsBoth base S0) (k1) (h1 : J_law18_IdsBoth base S0 cs0 p_law18_IdsBoth_1 (u_law18_IdsBoth_1 k1)) : J_law18_IdsBoth base S0 cs0 p_law18_IdsBoth_83 (u_law18_IdsBoth_83 (law18_IdsBoth_83 k1)) :=
  JSound.join hfin.2 (OSound.cut (OSound.nowhere) (Nat.le_of_eq hfin.1) h1) ks_law18_IdsBoth 100000 (by rw [law18_IdsBoth_83_eq]; intro x; kernel_rfl)
noncomputable def x_law18_IdsBoth_83 (k1 : (List Bool) → Int → D_ids_State → D_ids_State → Option (Bool × Unit)) : Cfg → Option (Option (Bool × Unit)) := cut p_law18_IdsBoth_83 (u_law18_IdsBoth_83 (law18_IdsBoth_83 k1)) (cut p_law18_IdsBoth_1 (u_law18_IdsBoth_1 k1) (nowhere))
theorem o_law18_IdsBoth_83 {base S0 cs0} (hfin : H_law18_IdsBoth base S0) (k1) (h1 : J_law18_IdsBoth base S0 cs0 p_law18_IdsBoth_1 (u_law18_IdsBoth_1 k1)) : O_law18_IdsBoth base S0 cs0 (x_law18_IdsBoth_83 k1) := OSound.cut (OSound.cut (OSound.nowhere) (Nat.le_of_eq hfin.1) h1) (Nat.le_of_eq hfin.1) (s_law18_IdsBoth_83 hfin k1 h1)
@[reducible] noncomputable def p_law18_IdsBoth_82 : CPat := ⟨⟨16, [1, 1, 1, 1, 0, 1, 0, 0, 1, 0, 0, 0, 1, 0, 0, 1, 1], none, [.any, .rows .bool false, .any, .any, .any, .ptr 0 0, .ptr 1 0, .int .i64, .intC .i64 (19)], 99⟩, [], [.dat 89 T_ids_State, .dat 89 T_ids_State], 0⟩
@[reducible] noncomputable def u_law18_IdsBoth_82 (k : (List Bool) → Int → D_ids_State → D_ids_State → Option (Bool × Unit)) : denC p_law18_IdsBoth_82 → Option (Bool × Unit) := fun x => k x.1.2.1 x.1.2.2.2.2.2.2.2.1 x.2.2.1 x.2.2.2.1
noncomputable def b_law18_IdsBoth_82 (k1 : (List Bool) → Int → D_ids_State → D_ids_State → Option (Bool × Unit)) (l720 : (List Bool)) (i721 : Int) (d722 : D_ids_State) (d723 : D_ids_State) : Option (Bool × Unit) :=
  bif (decide (((0 : Int) ≤ i721) ∧ (i721 < (((List.length l720) : Nat) : Int)))) then
    let x724 : Bool := (List.getD l720 (Int.toNat i721) false)
    bif x724 then
      obind (ids_Take d722) fun y725 =>
      law18_IdsBoth_83 k1 l720 i721 y725.2.1 y725.1 d723
    else
      obind (ids_Take d723) fun y726 =>
      law18_IdsBoth_83 k1 l720 i721 y726.2.1 d722 y726.1
  else none
theorem ex_law18_IdsBoth_82 : ∃ f, f = @b_law18_IdsBoth_82 := ⟨_, rfl⟩
noncomputable def law18_IdsBoth_82 := Classical.choose ex_law18_IdsBoth_82
theorem law18_IdsBoth_82_eq : @law18_IdsBoth_82 = @b_law18_IdsBoth_82 := Classical.choose_spec ex_law18_IdsBoth_82
theorem s_law18_IdsBoth_82 {base S0 cs0} (hfin : H_law18_IdsBoth base S0) (k1) (h1 : J_law18_IdsBoth base S0 cs0 p_law18_IdsBoth_1 (u_law18_IdsBoth_1 k1)) : J_law18_IdsBoth base S0 cs0 p_law18_IdsBoth_82 (u_law18_IdsBoth_82 (law18_IdsBoth_82 k1)) :=
  JSound.join hfin.2 (o_law18_IdsBoth_83 hfin k1 h1) ks_law18_IdsBoth 100000 (by rw [law18_IdsBoth_82_eq]; intro x; kernel_rfl)
noncomputable def x_law18_IdsBoth_82 (k1 : (List Bool) → Int → D_ids_State → D_ids_State → Option (Bool × Unit)) : Cfg → Option (Option (Bool × Unit)) := cut p_law18_IdsBoth_82 (u_law18_IdsBoth_82 (law18_IdsBoth_82 k1)) (x_law18_IdsBoth_83 k1)
theorem o_law18_IdsBoth_82 {base S0 cs0} (hfin : H_law18_IdsBoth base S0) (k1) (h1 : J_law18_IdsBoth base S0 cs0 p_law18_IdsBoth_1 (u_law18_IdsBoth_1 k1)) : O_law18_IdsBoth base S0 cs0 (x_law18_IdsBoth_82 k1) := OSound.cut (o_law18_IdsBoth_83 hfin k1 h1) (Nat.le_of_eq hfin.1) (s_law18_IdsBoth_82 hfin k1 h1)
@[reducible] noncomputable def p_law18_IdsBoth_81 : CPat := ⟨⟨16, [1, 1, 1, 1, 0, 1, 0, 0, 1, 0, 0, 0, 1, 0, 0, 1, 0, 0, 1, 1, 1, 1, 1], none, [.any, .rows .bool false, .any, .any, .any, .ptr 0 0, .ptr 1 0, .int .i64, .intC .i64 (19), .any, .any, .any, .any, .ptr 2 0, .bool], 93⟩, [], [.dat 89 T_ids_State, .dat 89 T_ids_State, .dat 34 T_frame_Frame], 0⟩
@[reducible] noncomputable def u_law18_IdsBoth_81 (k : (List Bool) → Int → Bool → D_ids_State → D_ids_State → D_frame_Frame → Option (Bool × Unit)) : denC p_law18_IdsBoth_81 → Option (Bool × Unit) := fun x => k x.1.2.1 x.1.2.2.2.2.2.2.2.1 x.1.2.2.2.2.2.2.2.2.2.2.2.2.2.2.1 x.2.2.1 x.2.2.2.1 x.2.2.2.2.1
noncomputable def b_law18_IdsBoth_81 (k1 : (List Bool) → Int → D_ids_State → D_ids_State → Option (Bool × Unit)) (l712 : (List Bool)) (i713 : Int) (b714 : Bool) (d715 : D_ids_State) (d716 : D_ids_State) (d717 : D_frame_Frame) : Option (Bool × Unit) :=
  bif b714 then
    obind (ids_On d715 d717) fun y718 =>
    let b719 : Bool := (y718.2.1 != (0 : Int))
    bif b719 then
      some (false, ())
    else
      law18_IdsBoth_82 k1 l712 i713 y718.1 d716
  else
    law18_IdsBoth_82 k1 l712 i713 d715 d716
theorem ex_law18_IdsBoth_81 : ∃ f, f = @b_law18_IdsBoth_81 := ⟨_, rfl⟩
noncomputable def law18_IdsBoth_81 := Classical.choose ex_law18_IdsBoth_81
theorem law18_IdsBoth_81_eq : @law18_IdsBoth_81 = @b_law18_IdsBoth_81 := Classical.choose_spec ex_law18_IdsBoth_81
theorem s_law18_IdsBoth_81 {base S0 cs0} (hfin : H_law18_IdsBoth base S0) (k1) (h1 : J_law18_IdsBoth base S0 cs0 p_law18_IdsBoth_1 (u_law18_IdsBoth_1 k1)) : J_law18_IdsBoth base S0 cs0 p_law18_IdsBoth_81 (u_law18_IdsBoth_81 (law18_IdsBoth_81 k1)) :=
  JSound.join hfin.2 (o_law18_IdsBoth_82 hfin k1 h1) ks_law18_IdsBoth 100000 (by rw [law18_IdsBoth_81_eq]; intro x; kernel_rfl)
noncomputable def x_law18_IdsBoth_81 (k1 : (List Bool) → Int → D_ids_State → D_ids_State → Option (Bool × Unit)) : Cfg → Option (Option (Bool × Unit)) := cut p_law18_IdsBoth_81 (u_law18_IdsBoth_81 (law18_IdsBoth_81 k1)) (x_law18_IdsBoth_82 k1)
theorem o_law18_IdsBoth_81 {base S0 cs0} (hfin : H_law18_IdsBoth base S0) (k1) (h1 : J_law18_IdsBoth base S0 cs0 p_law18_IdsBoth_1 (u_law18_IdsBoth_1 k1)) : O_law18_IdsBoth base S0 cs0 (x_law18_IdsBoth_81 k1) := OSound.cut (o_law18_IdsBoth_82 hfin k1 h1) (Nat.le_of_eq hfin.1) (s_law18_IdsBoth_81 hfin k1 h1)
@[reducible] noncomputable def p_law18_IdsBoth_80 : CPat := ⟨⟨16, [1, 1, 1, 1, 0, 1, 0, 0, 1, 0, 0, 0, 1, 0, 0, 1, 1], none, [.any, .rows .bool false, .any, .any, .any, .ptr 0 0, .ptr 1 0, .int .i64, .intC .i64 (18)], 99⟩, [], [.dat 89 T_ids_State, .dat 89 T_ids_State], 0⟩
@[reducible] noncomputable def u_law18_IdsBoth_80 (k : (List Bool) → Int → D_ids_State → D_ids_State → Option (Bool × Unit)) : denC p_law18_IdsBoth_80 → Option (Bool × Unit) := fun x => k x.1.2.1 x.1.2.2.2.2.2.2.2.1 x.2.2.1 x.2.2.2.1
noncomputable def b_law18_IdsBoth_80 (k1 : (List Bool) → Int → D_ids_State → D_ids_State → Option (Bool × Unit)) (l702 : (List Bool)) (i703 : Int) (d704 : D_ids_State) (d705 : D_ids_State) : Option (Bool × Unit) :=
  obind (ids_Next d704 (1000 : Int)) fun y706 =>
  let s707 : ByteArray := (ByteArray.mk (List.toArray ([] : List UInt8)))
  obind (ids_Next d705 (1000 : Int)) fun y708 =>
  let s709 : ByteArray := (ByteArray.mk (List.toArray ([] : List UInt8)))
  bif y706.2.2.1 then
    obind (ids_On y708.1 y706.2.1) fun y710 =>
    let b711 : Bool := (y710.2.1 != (0 : Int))
    bif b711 then
      some (false, ())
    else
      law18_IdsBoth_81 k1 l702 i703 y708.2.2.1 y706.1 y710.1 y708.2.1
  else
    law18_IdsBoth_81 k1 l702 i703 y708.2.2.1 y706.1 y708.1 y708.2.1
theorem ex_law18_IdsBoth_80 : ∃ f, f = @b_law18_IdsBoth_80 := ⟨_, rfl⟩
noncomputable def law18_IdsBoth_80 := Classical.choose ex_law18_IdsBoth_80
theorem law18_IdsBoth_80_eq : @law18_IdsBoth_80 = @b_law18_IdsBoth_80 := Classical.choose_spec ex_law18_IdsBoth_80
theorem s_law18_IdsBoth_80 {base S0 cs0} (hfin : H_law18_IdsBoth base S0) (k1) (h1 : J_law18_IdsBoth base S0 cs0 p_law18_IdsBoth_1 (u_law18_IdsBoth_1 k1)) : J_law18_IdsBoth base S0 cs0 p_law18_IdsBoth_80 (u_law18_IdsBoth_80 (law18_IdsBoth_80 k1)) :=
  JSound.join hfin.2 (o_law18_IdsBoth_81 hfin k1 h1) ks_law18_IdsBoth 100000 (by rw [law18_IdsBoth_80_eq]; intro x; kernel_rfl)
noncomputable def x_law18_IdsBoth_80 (k1 : (List Bool) → Int → D_ids_State → D_ids_State → Option (Bool × Unit)) : Cfg → Option (Option (Bool × Unit)) := cut p_law18_IdsBoth_80 (u_law18_IdsBoth_80 (law18_IdsBoth_80 k1)) (x_law18_IdsBoth_81 k1)
theorem o_law18_IdsBoth_80 {base S0 cs0} (hfin : H_law18_IdsBoth base S0) (k1) (h1 : J_law18_IdsBoth base S0 cs0 p_law18_IdsBoth_1 (u_law18_IdsBoth_1 k1)) : O_law18_IdsBoth base S0 cs0 (x_law18_IdsBoth_80 k1) := OSound.cut (o_law18_IdsBoth_81 hfin k1 h1) (Nat.le_of_eq hfin.1) (s_law18_IdsBoth_80 hfin k1 h1)
@[reducible] noncomputable def p_law18_IdsBoth_79 : CPat := ⟨⟨16, [1, 1, 1, 1, 0, 1, 0, 0, 1, 0, 0, 0, 1, 0, 0, 1, 0, 0, 1, 1, 1, 1, 1], none, [.any, .rows .bool false, .any, .any, .any, .ptr 0 0, .ptr 1 0, .int .i64, .intC .i64 (18), .any, .any, .any, .any, .ptr 2 0, .bool], 93⟩, [], [.dat 89 T_ids_State, .dat 89 T_ids_State, .dat 34 T_frame_Frame], 0⟩
@[reducible] noncomputable def u_law18_IdsBoth_79 (k : (List Bool) → Int → Bool → D_ids_State → D_ids_State → D_frame_Frame → Option (Bool × Unit)) : denC p_law18_IdsBoth_79 → Option (Bool × Unit) := fun x => k x.1.2.1 x.1.2.2.2.2.2.2.2.1 x.1.2.2.2.2.2.2.2.2.2.2.2.2.2.2.1 x.2.2.1 x.2.2.2.1 x.2.2.2.2.1
noncomputable def b_law18_IdsBoth_79 (k1 : (List Bool) → Int → D_ids_State → D_ids_State → Option (Bool × Unit)) (l694 : (List Bool)) (i695 : Int) (b696 : Bool) (d697 : D_ids_State) (d698 : D_ids_State) (d699 : D_frame_Frame) : Option (Bool × Unit) :=
  bif b696 then
    obind (ids_On d697 d699) fun y700 =>
    let b701 : Bool := (y700.2.1 != (0 : Int))
    bif b701 then
      some (false, ())
    else
      law18_IdsBoth_80 k1 l694 i695 y700.1 d698
  else
    law18_IdsBoth_80 k1 l694 i695 d697 d698
theorem ex_law18_IdsBoth_79 : ∃ f, f = @b_law18_IdsBoth_79 := ⟨_, rfl⟩
noncomputable def law18_IdsBoth_79 := Classical.choose ex_law18_IdsBoth_79
theorem law18_IdsBoth_79_eq : @law18_IdsBoth_79 = @b_law18_IdsBoth_79 := Classical.choose_spec ex_law18_IdsBoth_79
theorem s_law18_IdsBoth_79 {base S0 cs0} (hfin : H_law18_IdsBoth base S0) (k1) (h1 : J_law18_IdsBoth base S0 cs0 p_law18_IdsBoth_1 (u_law18_IdsBoth_1 k1)) : J_law18_IdsBoth base S0 cs0 p_law18_IdsBoth_79 (u_law18_IdsBoth_79 (law18_IdsBoth_79 k1)) :=
  JSound.join hfin.2 (o_law18_IdsBoth_80 hfin k1 h1) ks_law18_IdsBoth 100000 (by rw [law18_IdsBoth_79_eq]; intro x; kernel_rfl)
noncomputable def x_law18_IdsBoth_79 (k1 : (List Bool) → Int → D_ids_State → D_ids_State → Option (Bool × Unit)) : Cfg → Option (Option (Bool × Unit)) := cut p_law18_IdsBoth_79 (u_law18_IdsBoth_79 (law18_IdsBoth_79 k1)) (x_law18_IdsBoth_80 k1)
theorem o_law18_IdsBoth_79 {base S0 cs0} (hfin : H_law18_IdsBoth base S0) (k1) (h1 : J_law18_IdsBoth base S0 cs0 p_law18_IdsBoth_1 (u_law18_IdsBoth_1 k1)) : O_law18_IdsBoth base S0 cs0 (x_law18_IdsBoth_79 k1) := OSound.cut (o_law18_IdsBoth_80 hfin k1 h1) (Nat.le_of_eq hfin.1) (s_law18_IdsBoth_79 hfin k1 h1)
@[reducible] noncomputable def p_law18_IdsBoth_78 : CPat := ⟨⟨16, [1, 1, 1, 1, 0, 1, 0, 0, 1, 0, 0, 0, 1, 0, 0, 1, 1], none, [.any, .rows .bool false, .any, .any, .any, .ptr 0 0, .ptr 1 0, .int .i64, .intC .i64 (17)], 99⟩, [], [.dat 89 T_ids_State, .dat 89 T_ids_State], 0⟩
@[reducible] noncomputable def u_law18_IdsBoth_78 (k : (List Bool) → Int → D_ids_State → D_ids_State → Option (Bool × Unit)) : denC p_law18_IdsBoth_78 → Option (Bool × Unit) := fun x => k x.1.2.1 x.1.2.2.2.2.2.2.2.1 x.2.2.1 x.2.2.2.1
noncomputable def b_law18_IdsBoth_78 (k1 : (List Bool) → Int → D_ids_State → D_ids_State → Option (Bool × Unit)) (l684 : (List Bool)) (i685 : Int) (d686 : D_ids_State) (d687 : D_ids_State) : Option (Bool × Unit) :=
  obind (ids_Next d686 (1000 : Int)) fun y688 =>
  let s689 : ByteArray := (ByteArray.mk (List.toArray ([] : List UInt8)))
  obind (ids_Next d687 (1000 : Int)) fun y690 =>
  let s691 : ByteArray := (ByteArray.mk (List.toArray ([] : List UInt8)))
  bif y688.2.2.1 then
    obind (ids_On y690.1 y688.2.1) fun y692 =>
    let b693 : Bool := (y692.2.1 != (0 : Int))
    bif b693 then
      some (false, ())
    else
      law18_IdsBoth_79 k1 l684 i685 y690.2.2.1 y688.1 y692.1 y690.2.1
  else
    law18_IdsBoth_79 k1 l684 i685 y690.2.2.1 y688.1 y690.1 y690.2.1
theorem ex_law18_IdsBoth_78 : ∃ f, f = @b_law18_IdsBoth_78 := ⟨_, rfl⟩
noncomputable def law18_IdsBoth_78 := Classical.choose ex_law18_IdsBoth_78
theorem law18_IdsBoth_78_eq : @law18_IdsBoth_78 = @b_law18_IdsBoth_78 := Classical.choose_spec ex_law18_IdsBoth_78
theorem s_law18_IdsBoth_78 {base S0 cs0} (hfin : H_law18_IdsBoth base S0) (k1) (h1 : J_law18_IdsBoth base S0 cs0 p_law18_IdsBoth_1 (u_law18_IdsBoth_1 k1)) : J_law18_IdsBoth base S0 cs0 p_law18_IdsBoth_78 (u_law18_IdsBoth_78 (law18_IdsBoth_78 k1)) :=
  JSound.join hfin.2 (o_law18_IdsBoth_79 hfin k1 h1) ks_law18_IdsBoth 100000 (by rw [law18_IdsBoth_78_eq]; intro x; kernel_rfl)
noncomputable def x_law18_IdsBoth_78 (k1 : (List Bool) → Int → D_ids_State → D_ids_State → Option (Bool × Unit)) : Cfg → Option (Option (Bool × Unit)) := cut p_law18_IdsBoth_78 (u_law18_IdsBoth_78 (law18_IdsBoth_78 k1)) (x_law18_IdsBoth_79 k1)
theorem o_law18_IdsBoth_78 {base S0 cs0} (hfin : H_law18_IdsBoth base S0) (k1) (h1 : J_law18_IdsBoth base S0 cs0 p_law18_IdsBoth_1 (u_law18_IdsBoth_1 k1)) : O_law18_IdsBoth base S0 cs0 (x_law18_IdsBoth_78 k1) := OSound.cut (o_law18_IdsBoth_79 hfin k1 h1) (Nat.le_of_eq hfin.1) (s_law18_IdsBoth_78 hfin k1 h1)
@[reducible] noncomputable def p_law18_IdsBoth_77 : CPat := ⟨⟨16, [1, 1, 1, 1, 0, 1, 0, 0, 1, 0, 0, 0, 1, 0, 0, 1, 0, 0, 1, 1, 1, 1, 1], none, [.any, .rows .bool false, .any, .any, .any, .ptr 0 0, .ptr 1 0, .int .i64, .intC .i64 (17), .any, .any, .any, .any, .ptr 2 0, .bool], 93⟩, [], [.dat 89 T_ids_State, .dat 89 T_ids_State, .dat 34 T_frame_Frame], 0⟩
@[reducible] noncomputable def u_law18_IdsBoth_77 (k : (List Bool) → Int → Bool → D_ids_State → D_ids_State → D_frame_Frame → Option (Bool × Unit)) : denC p_law18_IdsBoth_77 → Option (Bool × Unit) := fun x => k x.1.2.1 x.1.2.2.2.2.2.2.2.1 x.1.2.2.2.2.2.2.2.2.2.2.2.2.2.2.1 x.2.2.1 x.2.2.2.1 x.2.2.2.2.1
noncomputable def b_law18_IdsBoth_77 (k1 : (List Bool) → Int → D_ids_State → D_ids_State → Option (Bool × Unit)) (l676 : (List Bool)) (i677 : Int) (b678 : Bool) (d679 : D_ids_State) (d680 : D_ids_State) (d681 : D_frame_Frame) : Option (Bool × Unit) :=
  bif b678 then
    obind (ids_On d679 d681) fun y682 =>
    let b683 : Bool := (y682.2.1 != (0 : Int))
    bif b683 then
      some (false, ())
    else
      law18_IdsBoth_78 k1 l676 i677 y682.1 d680
  else
    law18_IdsBoth_78 k1 l676 i677 d679 d680
theorem ex_law18_IdsBoth_77 : ∃ f, f = @b_law18_IdsBoth_77 := ⟨_, rfl⟩
noncomputable def law18_IdsBoth_77 := Classical.choose ex_law18_IdsBoth_77
theorem law18_IdsBoth_77_eq : @law18_IdsBoth_77 = @b_law18_IdsBoth_77 := Classical.choose_spec ex_law18_IdsBoth_77
theorem s_law18_IdsBoth_77 {base S0 cs0} (hfin : H_law18_IdsBoth base S0) (k1) (h1 : J_law18_IdsBoth base S0 cs0 p_law18_IdsBoth_1 (u_law18_IdsBoth_1 k1)) : J_law18_IdsBoth base S0 cs0 p_law18_IdsBoth_77 (u_law18_IdsBoth_77 (law18_IdsBoth_77 k1)) :=
  JSound.join hfin.2 (o_law18_IdsBoth_78 hfin k1 h1) ks_law18_IdsBoth 100000 (by rw [law18_IdsBoth_77_eq]; intro x; kernel_rfl)
noncomputable def x_law18_IdsBoth_77 (k1 : (List Bool) → Int → D_ids_State → D_ids_State → Option (Bool × Unit)) : Cfg → Option (Option (Bool × Unit)) := cut p_law18_IdsBoth_77 (u_law18_IdsBoth_77 (law18_IdsBoth_77 k1)) (x_law18_IdsBoth_78 k1)
theorem o_law18_IdsBoth_77 {base S0 cs0} (hfin : H_law18_IdsBoth base S0) (k1) (h1 : J_law18_IdsBoth base S0 cs0 p_law18_IdsBoth_1 (u_law18_IdsBoth_1 k1)) : O_law18_IdsBoth base S0 cs0 (x_law18_IdsBoth_77 k1) := OSound.cut (o_law18_IdsBoth_78 hfin k1 h1) (Nat.le_of_eq hfin.1) (s_law18_IdsBoth_77 hfin k1 h1)
@[reducible] noncomputable def p_law18_IdsBoth_76 : CPat := ⟨⟨16, [1, 1, 1, 1, 0, 1, 0, 0, 1, 0, 0, 0, 1, 0, 0, 1, 1], none, [.any, .rows .bool false, .any, .any, .any, .ptr 0 0, .ptr 1 0, .int .i64, .intC .i64 (16)], 99⟩, [], [.dat 89 T_ids_State, .dat 89 T_ids_State], 0⟩
@[reducible] noncomputable def u_law18_IdsBoth_76 (k : (List Bool) → Int → D_ids_State → D_ids_State → Option (Bool × Unit)) : denC p_law18_IdsBoth_76 → Option (Bool × Unit) := fun x => k x.1.2.1 x.1.2.2.2.2.2.2.2.1 x.2.2.1 x.2.2.2.1
noncomputable def b_law18_IdsBoth_76 (k1 : (List Bool) → Int → D_ids_State → D_ids_State → Option (Bool × Unit)) (l666 : (List Bool)) (i667 : Int) (d668 : D_ids_State) (d669 : D_ids_State) : Option (Bool × Unit) :=
  obind (ids_Next d668 (1000 : Int)) fun y670 =>
  let s671 : ByteArray := (ByteArray.mk (List.toArray ([] : List UInt8)))
  obind (ids_Next d669 (1000 : Int)) fun y672 =>
  let s673 : ByteArray := (ByteArray.mk (List.toArray ([] : List UInt8)))
  bif y670.2.2.1 then
    obind (ids_On y672.1 y670.2.1) fun y674 =>
    let b675 : Bool := (y674.2.1 != (0 : Int))
    bif b675 then
      some (false, ())
    else
      law18_IdsBoth_77 k1 l666 i667 y672.2.2.1 y670.1 y674.1 y672.2.1
  else
    law18_IdsBoth_77 k1 l666 i667 y672.2.2.1 y670.1 y672.1 y672.2.1
theorem ex_law18_IdsBoth_76 : ∃ f, f = @b_law18_IdsBoth_76 := ⟨_, rfl⟩
noncomputable def law18_IdsBoth_76 := Classical.choose ex_law18_IdsBoth_76
theorem law18_IdsBoth_76_eq : @law18_IdsBoth_76 = @b_law18_IdsBoth_76 := Classical.choose_spec ex_law18_IdsBoth_76
theorem s_law18_IdsBoth_76 {base S0 cs0} (hfin : H_law18_IdsBoth base S0) (k1) (h1 : J_law18_IdsBoth base S0 cs0 p_law18_IdsBoth_1 (u_law18_IdsBoth_1 k1)) : J_law18_IdsBoth base S0 cs0 p_law18_IdsBoth_76 (u_law18_IdsBoth_76 (law18_IdsBoth_76 k1)) :=
  JSound.join hfin.2 (o_law18_IdsBoth_77 hfin k1 h1) ks_law18_IdsBoth 100000 (by rw [law18_IdsBoth_76_eq]; intro x; kernel_rfl)
noncomputable def x_law18_IdsBoth_76 (k1 : (List Bool) → Int → D_ids_State → D_ids_State → Option (Bool × Unit)) : Cfg → Option (Option (Bool × Unit)) := cut p_law18_IdsBoth_76 (u_law18_IdsBoth_76 (law18_IdsBoth_76 k1)) (x_law18_IdsBoth_77 k1)
theorem o_law18_IdsBoth_76 {base S0 cs0} (hfin : H_law18_IdsBoth base S0) (k1) (h1 : J_law18_IdsBoth base S0 cs0 p_law18_IdsBoth_1 (u_law18_IdsBoth_1 k1)) : O_law18_IdsBoth base S0 cs0 (x_law18_IdsBoth_76 k1) := OSound.cut (o_law18_IdsBoth_77 hfin k1 h1) (Nat.le_of_eq hfin.1) (s_law18_IdsBoth_76 hfin k1 h1)
@[reducible] noncomputable def p_law18_IdsBoth_75 : CPat := ⟨⟨16, [1, 1, 1, 1, 0, 1, 0, 0, 1, 0, 0, 0, 1, 0, 0, 1, 0, 0, 1, 1, 1, 1, 1], none, [.any, .rows .bool false, .any, .any, .any, .ptr 0 0, .ptr 1 0, .int .i64, .intC .i64 (16), .any, .any, .any, .any, .ptr 2 0, .bool], 93⟩, [], [.dat 89 T_ids_State, .dat 89 T_ids_State, .dat 34 T_frame_Frame], 0⟩
@[reducible] noncomputable def u_law18_IdsBoth_75 (k : (List Bool) → Int → Bool → D_ids_State → D_ids_State → D_frame_Frame → Option (Bool × Unit)) : denC p_law18_IdsBoth_75 → Option (Bool × Unit) := fun x => k x.1.2.1 x.1.2.2.2.2.2.2.2.1 x.1.2.2.2.2.2.2.2.2.2.2.2.2.2.2.1 x.2.2.1 x.2.2.2.1 x.2.2.2.2.1
noncomputable def b_law18_IdsBoth_75 (k1 : (List Bool) → Int → D_ids_State → D_ids_State → Option (Bool × Unit)) (l658 : (List Bool)) (i659 : Int) (b660 : Bool) (d661 : D_ids_State) (d662 : D_ids_State) (d663 : D_frame_Frame) : Option (Bool × Unit) :=
  bif b660 then
    obind (ids_On d661 d663) fun y664 =>
    let b665 : Bool := (y664.2.1 != (0 : Int))
    bif b665 then
      some (false, ())
    else
      law18_IdsBoth_76 k1 l658 i659 y664.1 d662
  else
    law18_IdsBoth_76 k1 l658 i659 d661 d662
theorem ex_law18_IdsBoth_75 : ∃ f, f = @b_law18_IdsBoth_75 := ⟨_, rfl⟩
noncomputable def law18_IdsBoth_75 := Classical.choose ex_law18_IdsBoth_75
theorem law18_IdsBoth_75_eq : @law18_IdsBoth_75 = @b_law18_IdsBoth_75 := Classical.choose_spec ex_law18_IdsBoth_75
theorem s_law18_IdsBoth_75 {base S0 cs0} (hfin : H_law18_IdsBoth base S0) (k1) (h1 : J_law18_IdsBoth base S0 cs0 p_law18_IdsBoth_1 (u_law18_IdsBoth_1 k1)) : J_law18_IdsBoth base S0 cs0 p_law18_IdsBoth_75 (u_law18_IdsBoth_75 (law18_IdsBoth_75 k1)) :=
  JSound.join hfin.2 (o_law18_IdsBoth_76 hfin k1 h1) ks_law18_IdsBoth 100000 (by rw [law18_IdsBoth_75_eq]; intro x; kernel_rfl)
noncomputable def x_law18_IdsBoth_75 (k1 : (List Bool) → Int → D_ids_State → D_ids_State → Option (Bool × Unit)) : Cfg → Option (Option (Bool × Unit)) := cut p_law18_IdsBoth_75 (u_law18_IdsBoth_75 (law18_IdsBoth_75 k1)) (x_law18_IdsBoth_76 k1)
theorem o_law18_IdsBoth_75 {base S0 cs0} (hfin : H_law18_IdsBoth base S0) (k1) (h1 : J_law18_IdsBoth base S0 cs0 p_law18_IdsBoth_1 (u_law18_IdsBoth_1 k1)) : O_law18_IdsBoth base S0 cs0 (x_law18_IdsBoth_75 k1) := OSound.cut (o_law18_IdsBoth_76 hfin k1 h1) (Nat.le_of_eq hfin.1) (s_law18_IdsBoth_75 hfin k1 h1)
@[reducible] noncomputable def p_law18_IdsBoth_74 : CPat := ⟨⟨16, [1, 1, 1, 1, 0, 1, 0, 0, 1, 0, 0, 0, 1, 0, 0, 1, 1], none, [.any, .rows .bool false, .any, .any, .any, .ptr 0 0, .ptr 1 0, .int .i64, .intC .i64 (15)], 99⟩, [], [.dat 89 T_ids_State, .dat 89 T_ids_State], 0⟩
@[reducible] noncomputable def u_law18_IdsBoth_74 (k : (List Bool) → Int → D_ids_State → D_ids_State → Option (Bool × Unit)) : denC p_law18_IdsBoth_74 → Option (Bool × Unit) := fun x => k x.1.2.1 x.1.2.2.2.2.2.2.2.1 x.2.2.1 x.2.2.2.1
noncomputable def b_law18_IdsBoth_74 (k1 : (List Bool) → Int → D_ids_State → D_ids_State → Option (Bool × Unit)) (l648 : (List Bool)) (i649 : Int) (d650 : D_ids_State) (d651 : D_ids_State) : Option (Bool × Unit) :=
  obind (ids_Next d650 (1000 : Int)) fun y652 =>
  let s653 : ByteArray := (ByteArray.mk (List.toArray ([] : List UInt8)))
  obind (ids_Next d651 (1000 : Int)) fun y654 =>
  let s655 : ByteArray := (ByteArray.mk (List.toArray ([] : List UInt8)))
  bif y652.2.2.1 then
    obind (ids_On y654.1 y652.2.1) fun y656 =>
    let b657 : Bool := (y656.2.1 != (0 : Int))
    bif b657 then
      some (false, ())
    else
      law18_IdsBoth_75 k1 l648 i649 y654.2.2.1 y652.1 y656.1 y654.2.1
  else
    law18_IdsBoth_75 k1 l648 i649 y654.2.2.1 y652.1 y654.1 y654.2.1
theorem ex_law18_IdsBoth_74 : ∃ f, f = @b_law18_IdsBoth_74 := ⟨_, rfl⟩
noncomputable def law18_IdsBoth_74 := Classical.choose ex_law18_IdsBoth_74
theorem law18_IdsBoth_74_eq : @law18_IdsBoth_74 = @b_law18_IdsBoth_74 := Classical.choose_spec ex_law18_IdsBoth_74
theorem s_law18_IdsBoth_74 {base S0 cs0} (hfin : H_law18_IdsBoth base S0) (k1) (h1 : J_law18_IdsBoth base S0 cs0 p_law18_IdsBoth_1 (u_law18_IdsBoth_1 k1)) : J_law18_IdsBoth base S0 cs0 p_law18_IdsBoth_74 (u_law18_IdsBoth_74 (law18_IdsBoth_74 k1)) :=
  JSound.join hfin.2 (o_law18_IdsBoth_75 hfin k1 h1) ks_law18_IdsBoth 100000 (by rw [law18_IdsBoth_74_eq]; intro x; kernel_rfl)
noncomputable def x_law18_IdsBoth_74 (k1 : (List Bool) → Int → D_ids_State → D_ids_State → Option (Bool × Unit)) : Cfg → Option (Option (Bool × Unit)) := cut p_law18_IdsBoth_74 (u_law18_IdsBoth_74 (law18_IdsBoth_74 k1)) (x_law18_IdsBoth_75 k1)
theorem o_law18_IdsBoth_74 {base S0 cs0} (hfin : H_law18_IdsBoth base S0) (k1) (h1 : J_law18_IdsBoth base S0 cs0 p_law18_IdsBoth_1 (u_law18_IdsBoth_1 k1)) : O_law18_IdsBoth base S0 cs0 (x_law18_IdsBoth_74 k1) := OSound.cut (o_law18_IdsBoth_75 hfin k1 h1) (Nat.le_of_eq hfin.1) (s_law18_IdsBoth_74 hfin k1 h1)
@[reducible] noncomputable def p_law18_IdsBoth_73 : CPat := ⟨⟨16, [1, 1, 1, 1, 0, 1, 0, 0, 1, 0, 0, 0, 1, 0, 0, 1, 0, 0, 1, 1, 1, 1, 1], none, [.any, .rows .bool false, .any, .any, .any, .ptr 0 0, .ptr 1 0, .int .i64, .intC .i64 (15), .any, .any, .any, .any, .ptr 2 0, .bool], 93⟩, [], [.dat 89 T_ids_State, .dat 89 T_ids_State, .dat 34 T_frame_Frame], 0⟩
@[reducible] noncomputable def u_law18_IdsBoth_73 (k : (List Bool) → Int → Bool → D_ids_State → D_ids_State → D_frame_Frame → Option (Bool × Unit)) : denC p_law18_IdsBoth_73 → Option (Bool × Unit) := fun x => k x.1.2.1 x.1.2.2.2.2.2.2.2.1 x.1.2.2.2.2.2.2.2.2.2.2.2.2.2.2.1 x.2.2.1 x.2.2.2.1 x.2.2.2.2.1
noncomputable def b_law18_IdsBoth_73 (k1 : (List Bool) → Int → D_ids_State → D_ids_State → Option (Bool × Unit)) (l640 : (List Bool)) (i641 : Int) (b642 : Bool) (d643 : D_ids_State) (d644 : D_ids_State) (d645 : D_frame_Frame) : Option (Bool × Unit) :=
  bif b642 then
    obind (ids_On d643 d645) fun y646 =>
    let b647 : Bool := (y646.2.1 != (0 : Int))
    bif b647 then
      some (false, ())
    else
      law18_IdsBoth_74 k1 l640 i641 y646.1 d644
  else
    law18_IdsBoth_74 k1 l640 i641 d643 d644
theorem ex_law18_IdsBoth_73 : ∃ f, f = @b_law18_IdsBoth_73 := ⟨_, rfl⟩
noncomputable def law18_IdsBoth_73 := Classical.choose ex_law18_IdsBoth_73
theorem law18_IdsBoth_73_eq : @law18_IdsBoth_73 = @b_law18_IdsBoth_73 := Classical.choose_spec ex_law18_IdsBoth_73
theorem s_law18_IdsBoth_73 {base S0 cs0} (hfin : H_law18_IdsBoth base S0) (k1) (h1 : J_law18_IdsBoth base S0 cs0 p_law18_IdsBoth_1 (u_law18_IdsBoth_1 k1)) : J_law18_IdsBoth base S0 cs0 p_law18_IdsBoth_73 (u_law18_IdsBoth_73 (law18_IdsBoth_73 k1)) :=
  JSound.join hfin.2 (o_law18_IdsBoth_74 hfin k1 h1) ks_law18_IdsBoth 100000 (by rw [law18_IdsBoth_73_eq]; intro x; kernel_rfl)
noncomputable def x_law18_IdsBoth_73 (k1 : (List Bool) → Int → D_ids_State → D_ids_State → Option (Bool × Unit)) : Cfg → Option (Option (Bool × Unit)) := cut p_law18_IdsBoth_73 (u_law18_IdsBoth_73 (law18_IdsBoth_73 k1)) (x_law18_IdsBoth_74 k1)
theorem o_law18_IdsBoth_73 {base S0 cs0} (hfin : H_law18_IdsBoth base S0) (k1) (h1 : J_law18_IdsBoth base S0 cs0 p_law18_IdsBoth_1 (u_law18_IdsBoth_1 k1)) : O_law18_IdsBoth base S0 cs0 (x_law18_IdsBoth_73 k1) := OSound.cut (o_law18_IdsBoth_74 hfin k1 h1) (Nat.le_of_eq hfin.1) (s_law18_IdsBoth_73 hfin k1 h1)
@[reducible] noncomputable def p_law18_IdsBoth_72 : CPat := ⟨⟨16, [1, 1, 1, 1, 0, 1, 0, 0, 1, 0, 0, 0, 1, 0, 0, 1, 1], none, [.any, .rows .bool false, .any, .any, .any, .ptr 0 0, .ptr 1 0, .int .i64, .intC .i64 (14)], 99⟩, [], [.dat 89 T_ids_State, .dat 89 T_ids_State], 0⟩
@[reducible] noncomputable def u_law18_IdsBoth_72 (k : (List Bool) → Int → D_ids_State → D_ids_State → Option (Bool × Unit)) : denC p_law18_IdsBoth_72 → Option (Bool × Unit) := fun x => k x.1.2.1 x.1.2.2.2.2.2.2.2.1 x.2.2.1 x.2.2.2.1
noncomputable def b_law18_IdsBoth_72 (k1 : (List Bool) → Int → D_ids_State → D_ids_State → Option (Bool × Unit)) (l630 : (List Bool)) (i631 : Int) (d632 : D_ids_State) (d633 : D_ids_State) : Option (Bool × Unit) :=
  obind (ids_Next d632 (1000 : Int)) fun y634 =>
  let s635 : ByteArray := (ByteArray.mk (List.toArray ([] : List UInt8)))
  obind (ids_Next d633 (1000 : Int)) fun y636 =>
  let s637 : ByteArray := (ByteArray.mk (List.toArray ([] : List UInt8)))
  bif y634.2.2.1 then
    obind (ids_On y636.1 y634.2.1) fun y638 =>
    let b639 : Bool := (y638.2.1 != (0 : Int))
    bif b639 then
      some (false, ())
    else
      law18_IdsBoth_73 k1 l630 i631 y636.2.2.1 y634.1 y638.1 y636.2.1
  else
    law18_IdsBoth_73 k1 l630 i631 y636.2.2.1 y634.1 y636.1 y636.2.1
theorem ex_law18_IdsBoth_72 : ∃ f, f = @b_law18_IdsBoth_72 := ⟨_, rfl⟩
noncomputable def law18_IdsBoth_72 := Classical.choose ex_law18_IdsBoth_72
theorem law18_IdsBoth_72_eq : @law18_IdsBoth_72 = @b_law18_IdsBoth_72 := Classical.choose_spec ex_law18_IdsBoth_72
theorem s_law18_IdsBoth_72 {base S0 cs0} (hfin : H_law18_IdsBoth base S0) (k1) (h1 : J_law18_IdsBoth base S0 cs0 p_law18_IdsBoth_1 (u_law18_IdsBoth_1 k1)) : J_law18_IdsBoth base S0 cs0 p_law18_IdsBoth_72 (u_law18_IdsBoth_72 (law18_IdsBoth_72 k1)) :=
  JSound.join hfin.2 (o_law18_IdsBoth_73 hfin k1 h1) ks_law18_IdsBoth 100000 (by rw [law18_IdsBoth_72_eq]; intro x; kernel_rfl)
noncomputable def x_law18_IdsBoth_72 (k1 : (List Bool) → Int → D_ids_State → D_ids_State → Option (Bool × Unit)) : Cfg → Option (Option (Bool × Unit)) := cut p_law18_IdsBoth_72 (u_law18_IdsBoth_72 (law18_IdsBoth_72 k1)) (x_law18_IdsBoth_73 k1)
theorem o_law18_IdsBoth_72 {base S0 cs0} (hfin : H_law18_IdsBoth base S0) (k1) (h1 : J_law18_IdsBoth base S0 cs0 p_law18_IdsBoth_1 (u_law18_IdsBoth_1 k1)) : O_law18_IdsBoth base S0 cs0 (x_law18_IdsBoth_72 k1) := OSound.cut (o_law18_IdsBoth_73 hfin k1 h1) (Nat.le_of_eq hfin.1) (s_law18_IdsBoth_72 hfin k1 h1)
@[reducible] noncomputable def p_law18_IdsBoth_71 : CPat := ⟨⟨16, [1, 1, 1, 1, 0, 1, 0, 0, 1, 0, 0, 0, 1, 0, 0, 1, 0, 0, 1, 1, 1, 1, 1], none, [.any, .rows .bool false, .any, .any, .any, .ptr 0 0, .ptr 1 0, .int .i64, .intC .i64 (14), .any, .any, .any, .any, .ptr 2 0, .bool], 93⟩, [], [.dat 89 T_ids_State, .dat 89 T_ids_State, .dat 34 T_frame_Frame], 0⟩
@[reducible] noncomputable def u_law18_IdsBoth_71 (k : (List Bool) → Int → Bool → D_ids_State → D_ids_State → D_frame_Frame → Option (Bool × Unit)) : denC p_law18_IdsBoth_71 → Option (Bool × Unit) := fun x => k x.1.2.1 x.1.2.2.2.2.2.2.2.1 x.1.2.2.2.2.2.2.2.2.2.2.2.2.2.2.1 x.2.2.1 x.2.2.2.1 x.2.2.2.2.1
noncomputable def b_law18_IdsBoth_71 (k1 : (List Bool) → Int → D_ids_State → D_ids_State → Option (Bool × Unit)) (l622 : (List Bool)) (i623 : Int) (b624 : Bool) (d625 : D_ids_State) (d626 : D_ids_State) (d627 : D_frame_Frame) : Option (Bool × Unit) :=
  bif b624 then
    obind (ids_On d625 d627) fun y628 =>
    let b629 : Bool := (y628.2.1 != (0 : Int))
    bif b629 then
      some (false, ())
    else
      law18_IdsBoth_72 k1 l622 i623 y628.1 d626
  else
    law18_IdsBoth_72 k1 l622 i623 d625 d626
theorem ex_law18_IdsBoth_71 : ∃ f, f = @b_law18_IdsBoth_71 := ⟨_, rfl⟩
noncomputable def law18_IdsBoth_71 := Classical.choose ex_law18_IdsBoth_71
theorem law18_IdsBoth_71_eq : @law18_IdsBoth_71 = @b_law18_IdsBoth_71 := Classical.choose_spec ex_law18_IdsBoth_71
theorem s_law18_IdsBoth_71 {base S0 cs0} (hfin : H_law18_IdsBoth base S0) (k1) (h1 : J_law18_IdsBoth base S0 cs0 p_law18_IdsBoth_1 (u_law18_IdsBoth_1 k1)) : J_law18_IdsBoth base S0 cs0 p_law18_IdsBoth_71 (u_law18_IdsBoth_71 (law18_IdsBoth_71 k1)) :=
  JSound.join hfin.2 (o_law18_IdsBoth_72 hfin k1 h1) ks_law18_IdsBoth 100000 (by rw [law18_IdsBoth_71_eq]; intro x; kernel_rfl)
noncomputable def x_law18_IdsBoth_71 (k1 : (List Bool) → Int → D_ids_State → D_ids_State → Option (Bool × Unit)) : Cfg → Option (Option (Bool × Unit)) := cut p_law18_IdsBoth_71 (u_law18_IdsBoth_71 (law18_IdsBoth_71 k1)) (x_law18_IdsBoth_72 k1)
theorem o_law18_IdsBoth_71 {base S0 cs0} (hfin : H_law18_IdsBoth base S0) (k1) (h1 : J_law18_IdsBoth base S0 cs0 p_law18_IdsBoth_1 (u_law18_IdsBoth_1 k1)) : O_law18_IdsBoth base S0 cs0 (x_law18_IdsBoth_71 k1) := OSound.cut (o_law18_IdsBoth_72 hfin k1 h1) (Nat.le_of_eq hfin.1) (s_law18_IdsBoth_71 hfin k1 h1)
@[reducible] noncomputable def p_law18_IdsBoth_70 : CPat := ⟨⟨16, [1, 1, 1, 1, 0, 1, 0, 0, 1, 0, 0, 0, 1, 0, 0, 1, 1], none, [.any, .rows .bool false, .any, .any, .any, .ptr 0 0, .ptr 1 0, .int .i64, .intC .i64 (13)], 99⟩, [], [.dat 89 T_ids_State, .dat 89 T_ids_State], 0⟩
@[reducible] noncomputable def u_law18_IdsBoth_70 (k : (List Bool) → Int → D_ids_State → D_ids_State → Option (Bool × Unit)) : denC p_law18_IdsBoth_70 → Option (Bool × Unit) := fun x => k x.1.2.1 x.1.2.2.2.2.2.2.2.1 x.2.2.1 x.2.2.2.1
noncomputable def b_law18_IdsBoth_70 (k1 : (List Bool) → Int → D_ids_State → D_ids_State → Option (Bool × Unit)) (l612 : (List Bool)) (i613 : Int) (d614 : D_ids_State) (d615 : D_ids_State) : Option (Bool × Unit) :=
  obind (ids_Next d614 (1000 : Int)) fun y616 =>
  let s617 : ByteArray := (ByteArray.mk (List.toArray ([] : List UInt8)))
  obind (ids_Next d615 (1000 : Int)) fun y618 =>
  let s619 : ByteArray := (ByteArray.mk (List.toArray ([] : List UInt8)))
  bif y616.2.2.1 then
    obind (ids_On y618.1 y616.2.1) fun y620 =>
    let b621 : Bool := (y620.2.1 != (0 : Int))
    bif b621 then
      some (false, ())
    else
      law18_IdsBoth_71 k1 l612 i613 y618.2.2.1 y616.1 y620.1 y618.2.1
  else
    law18_IdsBoth_71 k1 l612 i613 y618.2.2.1 y616.1 y618.1 y618.2.1
theorem ex_law18_IdsBoth_70 : ∃ f, f = @b_law18_IdsBoth_70 := ⟨_, rfl⟩
noncomputable def law18_IdsBoth_70 := Classical.choose ex_law18_IdsBoth_70
theorem law18_IdsBoth_70_eq : @law18_IdsBoth_70 = @b_law18_IdsBoth_70 := Classical.choose_spec ex_law18_IdsBoth_70
theorem s_law18_IdsBoth_70 {base S0 cs0} (hfin : H_law18_IdsBoth base S0) (k1) (h1 : J_law18_IdsBoth base S0 cs0 p_law18_IdsBoth_1 (u_law18_IdsBoth_1 k1)) : J_law18_IdsBoth base S0 cs0 p_law18_IdsBoth_70 (u_law18_IdsBoth_70 (law18_IdsBoth_70 k1)) :=
  JSound.join hfin.2 (o_law18_IdsBoth_71 hfin k1 h1) ks_law18_IdsBoth 100000 (by rw [law18_IdsBoth_70_eq]; intro x; kernel_rfl)
noncomputable def x_law18_IdsBoth_70 (k1 : (List Bool) → Int → D_ids_State → D_ids_State → Option (Bool × Unit)) : Cfg → Option (Option (Bool × Unit)) := cut p_law18_IdsBoth_70 (u_law18_IdsBoth_70 (law18_IdsBoth_70 k1)) (x_law18_IdsBoth_71 k1)
theorem o_law18_IdsBoth_70 {base S0 cs0} (hfin : H_law18_IdsBoth base S0) (k1) (h1 : J_law18_IdsBoth base S0 cs0 p_law18_IdsBoth_1 (u_law18_IdsBoth_1 k1)) : O_law18_IdsBoth base S0 cs0 (x_law18_IdsBoth_70 k1) := OSound.cut (o_law18_IdsBoth_71 hfin k1 h1) (Nat.le_of_eq hfin.1) (s_law18_IdsBoth_70 hfin k1 h1)
@[reducible] noncomputable def p_law18_IdsBoth_69 : CPat := ⟨⟨16, [1, 1, 1, 1, 0, 1, 0, 0, 1, 0, 0, 0, 1, 0, 0, 1, 0, 0, 1, 1, 1, 1, 1], none, [.any, .rows .bool false, .any, .any, .any, .ptr 0 0, .ptr 1 0, .int .i64, .intC .i64 (13), .any, .any, .any, .any, .ptr 2 0, .bool], 93⟩, [], [.dat 89 T_ids_State, .dat 89 T_ids_State, .dat 34 T_frame_Frame], 0⟩
@[reducible] noncomputable def u_law18_IdsBoth_69 (k : (List Bool) → Int → Bool → D_ids_State → D_ids_State → D_frame_Frame → Option (Bool × Unit)) : denC p_law18_IdsBoth_69 → Option (Bool × Unit) := fun x => k x.1.2.1 x.1.2.2.2.2.2.2.2.1 x.1.2.2.2.2.2.2.2.2.2.2.2.2.2.2.1 x.2.2.1 x.2.2.2.1 x.2.2.2.2.1
noncomputable def b_law18_IdsBoth_69 (k1 : (List Bool) → Int → D_ids_State → D_ids_State → Option (Bool × Unit)) (l604 : (List Bool)) (i605 : Int) (b606 : Bool) (d607 : D_ids_State) (d608 : D_ids_State) (d609 : D_frame_Frame) : Option (Bool × Unit) :=
  bif b606 then
    obind (ids_On d607 d609) fun y610 =>
    let b611 : Bool := (y610.2.1 != (0 : Int))
    bif b611 then
      some (false, ())
    else
      law18_IdsBoth_70 k1 l604 i605 y610.1 d608
  else
    law18_IdsBoth_70 k1 l604 i605 d607 d608
theorem ex_law18_IdsBoth_69 : ∃ f, f = @b_law18_IdsBoth_69 := ⟨_, rfl⟩
noncomputable def law18_IdsBoth_69 := Classical.choose ex_law18_IdsBoth_69
theorem law18_IdsBoth_69_eq : @law18_IdsBoth_69 = @b_law18_IdsBoth_69 := Classical.choose_spec ex_law18_IdsBoth_69
theorem s_law18_IdsBoth_69 {base S0 cs0} (hfin : H_law18_IdsBoth base S0) (k1) (h1 : J_law18_IdsBoth base S0 cs0 p_law18_IdsBoth_1 (u_law18_IdsBoth_1 k1)) : J_law18_IdsBoth base S0 cs0 p_law18_IdsBoth_69 (u_law18_IdsBoth_69 (law18_IdsBoth_69 k1)) :=
  JSound.join hfin.2 (o_law18_IdsBoth_70 hfin k1 h1) ks_law18_IdsBoth 100000 (by rw [law18_IdsBoth_69_eq]; intro x; kernel_rfl)
noncomputable def x_law18_IdsBoth_69 (k1 : (List Bool) → Int → D_ids_State → D_ids_State → Option (Bool × Unit)) : Cfg → Option (Option (Bool × Unit)) := cut p_law18_IdsBoth_69 (u_law18_IdsBoth_69 (law18_IdsBoth_69 k1)) (x_law18_IdsBoth_70 k1)
theorem o_law18_IdsBoth_69 {base S0 cs0} (hfin : H_law18_IdsBoth base S0) (k1) (h1 : J_law18_IdsBoth base S0 cs0 p_law18_IdsBoth_1 (u_law18_IdsBoth_1 k1)) : O_law18_IdsBoth base S0 cs0 (x_law18_IdsBoth_69 k1) := OSound.cut (o_law18_IdsBoth_70 hfin k1 h1) (Nat.le_of_eq hfin.1) (s_law18_IdsBoth_69 hfin k1 h1)
@[reducible] noncomputable def p_law18_IdsBoth_68 : CPat := ⟨⟨16, [1, 1, 1, 1, 0, 1, 0, 0, 1, 0, 0, 0, 1, 0, 0, 1, 1], none, [.any, .rows .bool false, .any, .any, .any, .ptr 0 0, .ptr 1 0, .int .i64, .intC .i64 (12)], 99⟩, [], [.dat 89 T_ids_State, .dat 89 T_ids_State], 0⟩
@[reducible] noncomputable def u_law18_IdsBoth_68 (k : (List Bool) → Int → D_ids_State → D_ids_State → Option (Bool × Unit)) : denC p_law18_IdsBoth_68 → Option (Bool × Unit) := fun x => k x.1.2.1 x.1.2.2.2.2.2.2.2.1 x.2.2.1 x.2.2.2.1
noncomputable def b_law18_IdsBoth_68 (k1 : (List Bool) → Int → D_ids_State → D_ids_State → Option (Bool × Unit)) (l594 : (List Bool)) (i595 : Int) (d596 : D_ids_State) (d597 : D_ids_State) : Option (Bool × Unit) :=
  obind (ids_Next d596 (1000 : Int)) fun y598 =>
  let s599 : ByteArray := (ByteArray.mk (List.toArray ([] : List UInt8)))
  obind (ids_Next d597 (1000 : Int)) fun y600 =>
  let s601 : ByteArray := (ByteArray.mk (List.toArray ([] : List UInt8)))
  bif y598.2.2.1 then
    obind (ids_On y600.1 y598.2.1) fun y602 =>
    let b603 : Bool := (y602.2.1 != (0 : Int))
    bif b603 then
      some (false, ())
    else
      law18_IdsBoth_69 k1 l594 i595 y600.2.2.1 y598.1 y602.1 y600.2.1
  else
    law18_IdsBoth_69 k1 l594 i595 y600.2.2.1 y598.1 y600.1 y600.2.1
theorem ex_law18_IdsBoth_68 : ∃ f, f = @b_law18_IdsBoth_68 := ⟨_, rfl⟩
noncomputable def law18_IdsBoth_68 := Classical.choose ex_law18_IdsBoth_68
theorem law18_IdsBoth_68_eq : @law18_IdsBoth_68 = @b_law18_IdsBoth_68 := Classical.choose_spec ex_law18_IdsBoth_68
theorem s_law18_IdsBoth_68 {base S0 cs0} (hfin : H_law18_IdsBoth base S0) (k1) (h1 : J_law18_IdsBoth base S0 cs0 p_law18_IdsBoth_1 (u_law18_IdsBoth_1 k1)) : J_law18_IdsBoth base S0 cs0 p_law18_IdsBoth_68 (u_law18_IdsBoth_68 (law18_IdsBoth_68 k1)) :=
  JSound.join hfin.2 (o_law18_IdsBoth_69 hfin k1 h1) ks_law18_IdsBoth 100000 (by rw [law18_IdsBoth_68_eq]; intro x; kernel_rfl)
noncomputable def x_law18_IdsBoth_68 (k1 : (List Bool) → Int → D_ids_State → D_ids_State → Option (Bool × Unit)) : Cfg → Option (Option (Bool × Unit)) := cut p_law18_IdsBoth_68 (u_law18_IdsBoth_68 (law18_IdsBoth_68 k1)) (x_law18_IdsBoth_69 k1)
theorem o_law18_IdsBoth_68 {base S0 cs0} (hfin : H_law18_IdsBoth base S0) (k1) (h1 : J_law18_IdsBoth base S0 cs0 p_law18_IdsBoth_1 (u_law18_IdsBoth_1 k1)) : O_law18_IdsBoth base S0 cs0 (x_law18_IdsBoth_68 k1) := OSound.cut (o_law18_IdsBoth_69 hfin k1 h1) (Nat.le_of_eq hfin.1) (s_law18_IdsBoth_68 hfin k1 h1)
@[reducible] noncomputable def p_law18_IdsBoth_67 : CPat := ⟨⟨16, [1, 1, 1, 1, 0, 1, 0, 0, 1, 0, 0, 0, 1, 0, 0, 1, 0, 0, 1, 1, 1, 1, 1], none, [.any, .rows .bool false, .any, .any, .any, .ptr 0 0, .ptr 1 0, .int .i64, .intC .i64 (12), .any, .any, .any, .any, .ptr 2 0, .bool], 93⟩, [], [.dat 89 T_ids_State, .dat 89 T_ids_State, .dat 34 T_frame_Frame], 0⟩
@[reducible] noncomputable def u_law18_IdsBoth_67 (k : (List Bool) → Int → Bool → D_ids_State → D_ids_State → D_frame_Frame → Option (Bool × Unit)) : denC p_law18_IdsBoth_67 → Option (Bool × Unit) := fun x => k x.1.2.1 x.1.2.2.2.2.2.2.2.1 x.1.2.2.2.2.2.2.2.2.2.2.2.2.2.2.1 x.2.2.1 x.2.2.2.1 x.2.2.2.2.1
noncomputable def b_law18_IdsBoth_67 (k1 : (List Bool) → Int → D_ids_State → D_ids_State → Option (Bool × Unit)) (l586 : (List Bool)) (i587 : Int) (b588 : Bool) (d589 : D_ids_State) (d590 : D_ids_State) (d591 : D_frame_Frame) : Option (Bool × Unit) :=
  bif b588 then
    obind (ids_On d589 d591) fun y592 =>
    let b593 : Bool := (y592.2.1 != (0 : Int))
    bif b593 then
      some (false, ())
    else
      law18_IdsBoth_68 k1 l586 i587 y592.1 d590
  else
    law18_IdsBoth_68 k1 l586 i587 d589 d590
theorem ex_law18_IdsBoth_67 : ∃ f, f = @b_law18_IdsBoth_67 := ⟨_, rfl⟩
noncomputable def law18_IdsBoth_67 := Classical.choose ex_law18_IdsBoth_67
theorem law18_IdsBoth_67_eq : @law18_IdsBoth_67 = @b_law18_IdsBoth_67 := Classical.choose_spec ex_law18_IdsBoth_67
theorem s_law18_IdsBoth_67 {base S0 cs0} (hfin : H_law18_IdsBoth base S0) (k1) (h1 : J_law18_IdsBoth base S0 cs0 p_law18_IdsBoth_1 (u_law18_IdsBoth_1 k1)) : J_law18_IdsBoth base S0 cs0 p_law18_IdsBoth_67 (u_law18_IdsBoth_67 (law18_IdsBoth_67 k1)) :=
  JSound.join hfin.2 (o_law18_IdsBoth_68 hfin k1 h1) ks_law18_IdsBoth 100000 (by rw [law18_IdsBoth_67_eq]; intro x; kernel_rfl)
noncomputable def x_law18_IdsBoth_67 (k1 : (List Bool) → Int → D_ids_State → D_ids_State → Option (Bool × Unit)) : Cfg → Option (Option (Bool × Unit)) := cut p_law18_IdsBoth_67 (u_law18_IdsBoth_67 (law18_IdsBoth_67 k1)) (x_law18_IdsBoth_68 k1)
theorem o_law18_IdsBoth_67 {base S0 cs0} (hfin : H_law18_IdsBoth base S0) (k1) (h1 : J_law18_IdsBoth base S0 cs0 p_law18_IdsBoth_1 (u_law18_IdsBoth_1 k1)) : O_law18_IdsBoth base S0 cs0 (x_law18_IdsBoth_67 k1) := OSound.cut (o_law18_IdsBoth_68 hfin k1 h1) (Nat.le_of_eq hfin.1) (s_law18_IdsBoth_67 hfin k1 h1)
@[reducible] noncomputable def p_law18_IdsBoth_66 : CPat := ⟨⟨16, [1, 1, 1, 1, 0, 1, 0, 0, 1, 0, 0, 0, 1, 0, 0, 1, 1], none, [.any, .rows .bool false, .any, .any, .any, .ptr 0 0, .ptr 1 0, .int .i64, .intC .i64 (11)], 99⟩, [], [.dat 89 T_ids_State, .dat 89 T_ids_State], 0⟩
@[reducible] noncomputable def u_law18_IdsBoth_66 (k : (List Bool) → Int → D_ids_State → D_ids_State → Option (Bool × Unit)) : denC p_law18_IdsBoth_66 → Option (Bool × Unit) := fun x => k x.1.2.1 x.1.2.2.2.2.2.2.2.1 x.2.2.1 x.2.2.2.1
noncomputable def b_law18_IdsBoth_66 (k1 : (List Bool) → Int → D_ids_State → D_ids_State → Option (Bool × Unit)) (l576 : (List Bool)) (i577 : Int) (d578 : D_ids_State) (d579 : D_ids_State) : Option (Bool × Unit) :=
  obind (ids_Next d578 (1000 : Int)) fun y580 =>
  let s581 : ByteArray := (ByteArray.mk (List.toArray ([] : List UInt8)))
  obind (ids_Next d579 (1000 : Int)) fun y582 =>
  let s583 : ByteArray := (ByteArray.mk (List.toArray ([] : List UInt8)))
  bif y580.2.2.1 then
    obind (ids_On y582.1 y580.2.1) fun y584 =>
    let b585 : Bool := (y584.2.1 != (0 : Int))
    bif b585 then
      some (false, ())
    else
      law18_IdsBoth_67 k1 l576 i577 y582.2.2.1 y580.1 y584.1 y582.2.1
  else
    law18_IdsBoth_67 k1 l576 i577 y582.2.2.1 y580.1 y582.1 y582.2.1
theorem ex_law18_IdsBoth_66 : ∃ f, f = @b_law18_IdsBoth_66 := ⟨_, rfl⟩
noncomputable def law18_IdsBoth_66 := Classical.choose ex_law18_IdsBoth_66
theorem law18_IdsBoth_66_eq : @law18_IdsBoth_66 = @b_law18_IdsBoth_66 := Classical.choose_spec ex_law18_IdsBoth_66
theorem s_law18_IdsBoth_66 {base S0 cs0} (hfin : H_law18_IdsBoth base S0) (k1) (h1 : J_law18_IdsBoth base S0 cs0 p_law18_IdsBoth_1 (u_law18_IdsBoth_1 k1)) : J_law18_IdsBoth base S0 cs0 p_law18_IdsBoth_66 (u_law18_IdsBoth_66 (law18_IdsBoth_66 k1)) :=
  JSound.join hfin.2 (o_law18_IdsBoth_67 hfin k1 h1) ks_law18_IdsBoth 100000 (by rw [law18_IdsBoth_66_eq]; intro x; kernel_rfl)
noncomputable def x_law18_IdsBoth_66 (k1 : (List Bool) → Int → D_ids_State → D_ids_State → Option (Bool × Unit)) : Cfg → Option (Option (Bool × Unit)) := cut p_law18_IdsBoth_66 (u_law18_IdsBoth_66 (law18_IdsBoth_66 k1)) (x_law18_IdsBoth_67 k1)
theorem o_law18_IdsBoth_66 {base S0 cs0} (hfin : H_law18_IdsBoth base S0) (k1) (h1 : J_law18_IdsBoth base S0 cs0 p_law18_IdsBoth_1 (u_law18_IdsBoth_1 k1)) : O_law18_IdsBoth base S0 cs0 (x_law18_IdsBoth_66 k1) := OSound.cut (o_law18_IdsBoth_67 hfin k1 h1) (Nat.le_of_eq hfin.1) (s_law18_IdsBoth_66 hfin k1 h1)
@[reducible] noncomputable def p_law18_IdsBoth_65 : CPat := ⟨⟨16, [1, 1, 1, 1, 0, 1, 0, 0, 1, 0, 0, 0, 1, 0, 0, 1, 0, 0, 1, 1, 1, 1, 1], none, [.any, .rows .bool false, .any, .any, .any, .ptr 0 0, .ptr 1 0, .int .i64, .intC .i64 (11), .any, .any, .any, .any, .ptr 2 0, .bool], 93⟩, [], [.dat 89 T_ids_State, .dat 89 T_ids_State, .dat 34 T_frame_Frame], 0⟩
@[reducible] noncomputable def u_law18_IdsBoth_65 (k : (List Bool) → Int → Bool → D_ids_State → D_ids_State → D_frame_Frame → Option (Bool × Unit)) : denC p_law18_IdsBoth_65 → Option (Bool × Unit) := fun x => k x.1.2.1 x.1.2.2.2.2.2.2.2.1 x.1.2.2.2.2.2.2.2.2.2.2.2.2.2.2.1 x.2.2.1 x.2.2.2.1 x.2.2.2.2.1
noncomputable def b_law18_IdsBoth_65 (k1 : (List Bool) → Int → D_ids_State → D_ids_State → Option (Bool × Unit)) (l568 : (List Bool)) (i569 : Int) (b570 : Bool) (d571 : D_ids_State) (d572 : D_ids_State) (d573 : D_frame_Frame) : Option (Bool × Unit) :=
  bif b570 then
    obind (ids_On d571 d573) fun y574 =>
    let b575 : Bool := (y574.2.1 != (0 : Int))
    bif b575 then
      some (false, ())
    else
      law18_IdsBoth_66 k1 l568 i569 y574.1 d572
  else
    law18_IdsBoth_66 k1 l568 i569 d571 d572
theorem ex_law18_IdsBoth_65 : ∃ f, f = @b_law18_IdsBoth_65 := ⟨_, rfl⟩
noncomputable def law18_IdsBoth_65 := Classical.choose ex_law18_IdsBoth_65
theorem law18_IdsBoth_65_eq : @law18_IdsBoth_65 = @b_law18_IdsBoth_65 := Classical.choose_spec ex_law18_IdsBoth_65
theorem s_law18_IdsBoth_65 {base S0 cs0} (hfin : H_law18_IdsBoth base S0) (k1) (h1 : J_law18_IdsBoth base S0 cs0 p_law18_IdsBoth_1 (u_law18_IdsBoth_1 k1)) : J_law18_IdsBoth base S0 cs0 p_law18_IdsBoth_65 (u_law18_IdsBoth_65 (law18_IdsBoth_65 k1)) :=
  JSound.join hfin.2 (o_law18_IdsBoth_66 hfin k1 h1) ks_law18_IdsBoth 100000 (by rw [law18_IdsBoth_65_eq]; intro x; kernel_rfl)
noncomputable def x_law18_IdsBoth_65 (k1 : (List Bool) → Int → D_ids_State → D_ids_State → Option (Bool × Unit)) : Cfg → Option (Option (Bool × Unit)) := cut p_law18_IdsBoth_65 (u_law18_IdsBoth_65 (law18_IdsBoth_65 k1)) (x_law18_IdsBoth_66 k1)
theorem o_law18_IdsBoth_65 {base S0 cs0} (hfin : H_law18_IdsBoth base S0) (k1) (h1 : J_law18_IdsBoth base S0 cs0 p_law18_IdsBoth_1 (u_law18_IdsBoth_1 k1)) : O_law18_IdsBoth base S0 cs0 (x_law18_IdsBoth_65 k1) := OSound.cut (o_law18_IdsBoth_66 hfin k1 h1) (Nat.le_of_eq hfin.1) (s_law18_IdsBoth_65 hfin k1 h1)
@[reducible] noncomputable def p_law18_IdsBoth_64 : CPat := ⟨⟨16, [1, 1, 1, 1, 0, 1, 0, 0, 1, 0, 0, 0, 1, 0, 0, 1, 1], none, [.any, .rows .bool false, .any, .any, .any, .ptr 0 0, .ptr 1 0, .int .i64, .intC .i64 (10)], 99⟩, [], [.dat 89 T_ids_State, .dat 89 T_ids_State], 0⟩
@[reducible] noncomputable def u_law18_IdsBoth_64 (k : (List Bool) → Int → D_ids_State → D_ids_State → Option (Bool × Unit)) : denC p_law18_IdsBoth_64 → Option (Bool × Unit) := fun x => k x.1.2.1 x.1.2.2.2.2.2.2.2.1 x.2.2.1 x.2.2.2.1
noncomputable def b_law18_IdsBoth_64 (k1 : (List Bool) → Int → D_ids_State → D_ids_State → Option (Bool × Unit)) (l558 : (List Bool)) (i559 : Int) (d560 : D_ids_State) (d561 : D_ids_State) : Option (Bool × Unit) :=
  obind (ids_Next d560 (1000 : Int)) fun y562 =>
  let s563 : ByteArray := (ByteArray.mk (List.toArray ([] : List UInt8)))
  obind (ids_Next d561 (1000 : Int)) fun y564 =>
  let s565 : ByteArray := (ByteArray.mk (List.toArray ([] : List UInt8)))
  bif y562.2.2.1 then
    obind (ids_On y564.1 y562.2.1) fun y566 =>
    let b567 : Bool := (y566.2.1 != (0 : Int))
    bif b567 then
      some (false, ())
    else
      law18_IdsBoth_65 k1 l558 i559 y564.2.2.1 y562.1 y566.1 y564.2.1
  else
    law18_IdsBoth_65 k1 l558 i559 y564.2.2.1 y562.1 y564.1 y564.2.1
theorem ex_law18_IdsBoth_64 : ∃ f, f = @b_law18_IdsBoth_64 := ⟨_, rfl⟩
noncomputable def law18_IdsBoth_64 := Classical.choose ex_law18_IdsBoth_64
theorem law18_IdsBoth_64_eq : @law18_IdsBoth_64 = @b_law18_IdsBoth_64 := Classical.choose_spec ex_law18_IdsBoth_64
theorem s_law18_IdsBoth_64 {base S0 cs0} (hfin : H_law18_IdsBoth base S0) (k1) (h1 : J_law18_IdsBoth base S0 cs0 p_law18_IdsBoth_1 (u_law18_IdsBoth_1 k1)) : J_law18_IdsBoth base S0 cs0 p_law18_IdsBoth_64 (u_law18_IdsBoth_64 (law18_IdsBoth_64 k1)) :=
  JSound.join hfin.2 (o_law18_IdsBoth_65 hfin k1 h1) ks_law18_IdsBoth 100000 (by rw [law18_IdsBoth_64_eq]; intro x; kernel_rfl)
noncomputable def x_law18_IdsBoth_64 (k1 : (List Bool) → Int → D_ids_State → D_ids_State → Option (Bool × Unit)) : Cfg → Option (Option (Bool × Unit)) := cut p_law18_IdsBoth_64 (u_law18_IdsBoth_64 (law18_IdsBoth_64 k1)) (x_law18_IdsBoth_65 k1)
theorem o_law18_IdsBoth_64 {base S0 cs0} (hfin : H_law18_IdsBoth base S0) (k1) (h1 : J_law18_IdsBoth base S0 cs0 p_law18_IdsBoth_1 (u_law18_IdsBoth_1 k1)) : O_law18_IdsBoth base S0 cs0 (x_law18_IdsBoth_64 k1) := OSound.cut (o_law18_IdsBoth_65 hfin k1 h1) (Nat.le_of_eq hfin.1) (s_law18_IdsBoth_64 hfin k1 h1)
@[reducible] noncomputable def p_law18_IdsBoth_63 : CPat := ⟨⟨16, [1, 1, 1, 1, 0, 1, 0, 0, 1, 0, 0, 0, 1, 0, 0, 1, 0, 0, 1, 1, 1, 1, 1], none, [.any, .rows .bool false, .any, .any, .any, .ptr 0 0, .ptr 1 0, .int .i64, .intC .i64 (10), .any, .any, .any, .any, .ptr 2 0, .bool], 93⟩, [], [.dat 89 T_ids_State, .dat 89 T_ids_State, .dat 34 T_frame_Frame], 0⟩
@[reducible] noncomputable def u_law18_IdsBoth_63 (k : (List Bool) → Int → Bool → D_ids_State → D_ids_State → D_frame_Frame → Option (Bool × Unit)) : denC p_law18_IdsBoth_63 → Option (Bool × Unit) := fun x => k x.1.2.1 x.1.2.2.2.2.2.2.2.1 x.1.2.2.2.2.2.2.2.2.2.2.2.2.2.2.1 x.2.2.1 x.2.2.2.1 x.2.2.2.2.1
noncomputable def b_law18_IdsBoth_63 (k1 : (List Bool) → Int → D_ids_State → D_ids_State → Option (Bool × Unit)) (l550 : (List Bool)) (i551 : Int) (b552 : Bool) (d553 : D_ids_State) (d554 : D_ids_State) (d555 : D_frame_Frame) : Option (Bool × Unit) :=
  bif b552 then
    obind (ids_On d553 d555) fun y556 =>
    let b557 : Bool := (y556.2.1 != (0 : Int))
    bif b557 then
      some (false, ())
    else
      law18_IdsBoth_64 k1 l550 i551 y556.1 d554
  else
    law18_IdsBoth_64 k1 l550 i551 d553 d554
theorem ex_law18_IdsBoth_63 : ∃ f, f = @b_law18_IdsBoth_63 := ⟨_, rfl⟩
noncomputable def law18_IdsBoth_63 := Classical.choose ex_law18_IdsBoth_63
theorem law18_IdsBoth_63_eq : @law18_IdsBoth_63 = @b_law18_IdsBoth_63 := Classical.choose_spec ex_law18_IdsBoth_63
theorem s_law18_IdsBoth_63 {base S0 cs0} (hfin : H_law18_IdsBoth base S0) (k1) (h1 : J_law18_IdsBoth base S0 cs0 p_law18_IdsBoth_1 (u_law18_IdsBoth_1 k1)) : J_law18_IdsBoth base S0 cs0 p_law18_IdsBoth_63 (u_law18_IdsBoth_63 (law18_IdsBoth_63 k1)) :=
  JSound.join hfin.2 (o_law18_IdsBoth_64 hfin k1 h1) ks_law18_IdsBoth 100000 (by rw [law18_IdsBoth_63_eq]; intro x; kernel_rfl)
noncomputable def x_law18_IdsBoth_63 (k1 : (List Bool) → Int → D_ids_State → D_ids_State → Option (Bool × Unit)) : Cfg → Option (Option (Bool × Unit)) := cut p_law18_IdsBoth_63 (u_law18_IdsBoth_63 (law18_IdsBoth_63 k1)) (x_law18_IdsBoth_64 k1)
theorem o_law18_IdsBoth_63 {base S0 cs0} (hfin : H_law18_IdsBoth base S0) (k1) (h1 : J_law18_IdsBoth base S0 cs0 p_law18_IdsBoth_1 (u_law18_IdsBoth_1 k1)) : O_law18_IdsBoth base S0 cs0 (x_law18_IdsBoth_63 k1) := OSound.cut (o_law18_IdsBoth_64 hfin k1 h1) (Nat.le_of_eq hfin.1) (s_law18_IdsBoth_63 hfin k1 h1)
@[reducible] noncomputable def p_law18_IdsBoth_62 : CPat := ⟨⟨16, [1, 1, 1, 1, 0, 1, 0, 0, 1, 0, 0, 0, 1, 0, 0, 1, 1], none, [.any, .rows .bool false, .any, .any, .any, .ptr 0 0, .ptr 1 0, .int .i64, .intC .i64 (9)], 99⟩, [], [.dat 89 T_ids_State, .dat 89 T_ids_State], 0⟩
@[reducible] noncomputable def u_law18_IdsBoth_62 (k : (List Bool) → Int → D_ids_State → D_ids_State → Option (Bool × Unit)) : denC p_law18_IdsBoth_62 → Option (Bool × Unit) := fun x => k x.1.2.1 x.1.2.2.2.2.2.2.2.1 x.2.2.1 x.2.2.2.1
noncomputable def b_law18_IdsBoth_62 (k1 : (List Bool) → Int → D_ids_State → D_ids_State → Option (Bool × Unit)) (l540 : (List Bool)) (i541 : Int) (d542 : D_ids_State) (d543 : D_ids_State) : Option (Bool × Unit) :=
  obind (ids_Next d542 (1000 : Int)) fun y544 =>
  let s545 : ByteArray := (ByteArray.mk (List.toArray ([] : List UInt8)))
  obind (ids_Next d543 (1000 : Int)) fun y546 =>
  let s547 : ByteArray := (ByteArray.mk (List.toArray ([] : List UInt8)))
  bif y544.2.2.1 then
    obind (ids_On y546.1 y544.2.1) fun y548 =>
    let b549 : Bool := (y548.2.1 != (0 : Int))
    bif b549 then
      some (false, ())
    else
      law18_IdsBoth_63 k1 l540 i541 y546.2.2.1 y544.1 y548.1 y546.2.1
  else
    law18_IdsBoth_63 k1 l540 i541 y546.2.2.1 y544.1 y546.1 y546.2.1
theorem ex_law18_IdsBoth_62 : ∃ f, f = @b_law18_IdsBoth_62 := ⟨_, rfl⟩
noncomputable def law18_IdsBoth_62 := Classical.choose ex_law18_IdsBoth_62
theorem law18_IdsBoth_62_eq : @law18_IdsBoth_62 = @b_law18_IdsBoth_62 := Classical.choose_spec ex_law18_IdsBoth_62
theorem s_law18_IdsBoth_62 {base S0 cs0} (hfin : H_law18_IdsBoth base S0) (k1) (h1 : J_law18_IdsBoth base S0 cs0 p_law18_IdsBoth_1 (u_law18_IdsBoth_1 k1)) : J_law18_IdsBoth base S0 cs0 p_law18_IdsBoth_62 (u_law18_IdsBoth_62 (law18_IdsBoth_62 k1)) :=
  JSound.join hfin.2 (o_law18_IdsBoth_63 hfin k1 h1) ks_law18_IdsBoth 100000 (by rw [law18_IdsBoth_62_eq]; intro x; kernel_rfl)
noncomputable def x_law18_IdsBoth_62 (k1 : (List Bool) → Int → D_ids_State → D_ids_State → Option (Bool × Unit)) : Cfg → Option (Option (Bool × Unit)) := cut p_law18_IdsBoth_62 (u_law18_IdsBoth_62 (law18_IdsBoth_62 k1)) (x_law18_IdsBoth_63 k1)
theorem o_law18_IdsBoth_62 {base S0 cs0} (hfin : H_law18_IdsBoth base S0) (k1) (h1 : J_law18_IdsBoth base S0 cs0 p_law18_IdsBoth_1 (u_law18_IdsBoth_1 k1)) : O_law18_IdsBoth base S0 cs0 (x_law18_IdsBoth_62 k1) := OSound.cut (o_law18_IdsBoth_63 hfin k1 h1) (Nat.le_of_eq hfin.1) (s_law18_IdsBoth_62 hfin k1 h1)
@[reducible] noncomputable def p_law18_IdsBoth_61 : CPat := ⟨⟨16, [1, 1, 1, 1, 0, 1, 0, 0, 1, 0, 0, 0, 1, 0, 0, 1, 0, 0, 1, 1, 1, 1, 1], none, [.any, .rows .bool false, .any, .any, .any, .ptr 0 0, .ptr 1 0, .int .i64, .intC .i64 (9), .any, .any, .any, .any, .ptr 2 0, .bool], 93⟩, [], [.dat 89 T_ids_State, .dat 89 T_ids_State, .dat 34 T_frame_Frame], 0⟩
@[reducible] noncomputable def u_law18_IdsBoth_61 (k : (List Bool) → Int → Bool → D_ids_State → D_ids_State → D_frame_Frame → Option (Bool × Unit)) : denC p_law18_IdsBoth_61 → Option (Bool × Unit) := fun x => k x.1.2.1 x.1.2.2.2.2.2.2.2.1 x.1.2.2.2.2.2.2.2.2.2.2.2.2.2.2.1 x.2.2.1 x.2.2.2.1 x.2.2.2.2.1
noncomputable def b_law18_IdsBoth_61 (k1 : (List Bool) → Int → D_ids_State → D_ids_State → Option (Bool × Unit)) (l532 : (List Bool)) (i533 : Int) (b534 : Bool) (d535 : D_ids_State) (d536 : D_ids_State) (d537 : D_frame_Frame) : Option (Bool × Unit) :=
  bif b534 then
    obind (ids_On d535 d537) fun y538 =>
    let b539 : Bool := (y538.2.1 != (0 : Int))
    bif b539 then
      some (false, ())
    else
      law18_IdsBoth_62 k1 l532 i533 y538.1 d536
  else
    law18_IdsBoth_62 k1 l532 i533 d535 d536
theorem ex_law18_IdsBoth_61 : ∃ f, f = @b_law18_IdsBoth_61 := ⟨_, rfl⟩
noncomputable def law18_IdsBoth_61 := Classical.choose ex_law18_IdsBoth_61
theorem law18_IdsBoth_61_eq : @law18_IdsBoth_61 = @b_law18_IdsBoth_61 := Classical.choose_spec ex_law18_IdsBoth_61
theorem s_law18_IdsBoth_61 {base S0 cs0} (hfin : H_law18_IdsBoth base S0) (k1) (h1 : J_law18_IdsBoth base S0 cs0 p_law18_IdsBoth_1 (u_law18_IdsBoth_1 k1)) : J_law18_IdsBoth base S0 cs0 p_law18_IdsBoth_61 (u_law18_IdsBoth_61 (law18_IdsBoth_61 k1)) :=
  JSound.join hfin.2 (o_law18_IdsBoth_62 hfin k1 h1) ks_law18_IdsBoth 100000 (by rw [law18_IdsBoth_61_eq]; intro x; kernel_rfl)
noncomputable def x_law18_IdsBoth_61 (k1 : (List Bool) → Int → D_ids_State → D_ids_State → Option (Bool × Unit)) : Cfg → Option (Option (Bool × Unit)) := cut p_law18_IdsBoth_61 (u_law18_IdsBoth_61 (law18_IdsBoth_61 k1)) (x_law18_IdsBoth_62 k1)
theorem o_law18_IdsBoth_61 {base S0 cs0} (hfin : H_law18_IdsBoth base S0) (k1) (h1 : J_law18_IdsBoth base S0 cs0 p_law18_IdsBoth_1 (u_law18_IdsBoth_1 k1)) : O_law18_IdsBoth base S0 cs0 (x_law18_IdsBoth_61 k1) := OSound.cut (o_law18_IdsBoth_62 hfin k1 h1) (Nat.le_of_eq hfin.1) (s_law18_IdsBoth_61 hfin k1 h1)
@[reducible] noncomputable def p_law18_IdsBoth_60 : CPat := ⟨⟨16, [1, 1, 1, 1, 0, 1, 0, 0, 1, 0, 0, 0, 1, 0, 0, 1, 1], none, [.any, .rows .bool false, .any, .any, .any, .ptr 0 0, .ptr 1 0, .int .i64, .intC .i64 (8)], 99⟩, [], [.dat 89 T_ids_State, .dat 89 T_ids_State], 0⟩
@[reducible] noncomputable def u_law18_IdsBoth_60 (k : (List Bool) → Int → D_ids_State → D_ids_State → Option (Bool × Unit)) : denC p_law18_IdsBoth_60 → Option (Bool × Unit) := fun x => k x.1.2.1 x.1.2.2.2.2.2.2.2.1 x.2.2.1 x.2.2.2.1
noncomputable def b_law18_IdsBoth_60 (k1 : (List Bool) → Int → D_ids_State → D_ids_State → Option (Bool × Unit)) (l522 : (List Bool)) (i523 : Int) (d524 : D_ids_State) (d525 : D_ids_State) : Option (Bool × Unit) :=
  obind (ids_Next d524 (1000 : Int)) fun y526 =>
  let s527 : ByteArray := (ByteArray.mk (List.toArray ([] : List UInt8)))
  obind (ids_Next d525 (1000 : Int)) fun y528 =>
  let s529 : ByteArray := (ByteArray.mk (List.toArray ([] : List UInt8)))
  bif y526.2.2.1 then
    obind (ids_On y528.1 y526.2.1) fun y530 =>
    let b531 : Bool := (y530.2.1 != (0 : Int))
    bif b531 then
      some (false, ())
    else
      law18_IdsBoth_61 k1 l522 i523 y528.2.2.1 y526.1 y530.1 y528.2.1
  else
    law18_IdsBoth_61 k1 l522 i523 y528.2.2.1 y526.1 y528.1 y528.2.1
theorem ex_law18_IdsBoth_60 : ∃ f, f = @b_law18_IdsBoth_60 := ⟨_, rfl⟩
noncomputable def law18_IdsBoth_60 := Classical.choose ex_law18_IdsBoth_60
theorem law18_IdsBoth_60_eq : @law18_IdsBoth_60 = @b_law18_IdsBoth_60 := Classical.choose_spec ex_law18_IdsBoth_60
theorem s_law18_IdsBoth_60 {base S0 cs0} (hfin : H_law18_IdsBoth base S0) (k1) (h1 : J_law18_IdsBoth base S0 cs0 p_law18_IdsBoth_1 (u_law18_IdsBoth_1 k1)) : J_law18_IdsBoth base S0 cs0 p_law18_IdsBoth_60 (u_law18_IdsBoth_60 (law18_IdsBoth_60 k1)) :=
  JSound.join hfin.2 (o_law18_IdsBoth_61 hfin k1 h1) ks_law18_IdsBoth 100000 (by rw [law18_IdsBoth_60_eq]; intro x; kernel_rfl)
noncomputable def x_law18_IdsBoth_60 (k1 : (List Bool) → Int → D_ids_State → D_ids_State → Option (Bool × Unit)) : Cfg → Option (Option (Bool × Unit)) := cut p_law18_IdsBoth_60 (u_law18_IdsBoth_60 (law18_IdsBoth_60 k1)) (x_law18_IdsBoth_61 k1)
theorem o_law18_IdsBoth_60 {base S0 cs0} (hfin : H_law18_IdsBoth base S0) (k1) (h1 : J_law18_IdsBoth base S0 cs0 p_law18_IdsBoth_1 (u_law18_IdsBoth_1 k1)) : O_law18_IdsBoth base S0 cs0 (x_law18_IdsBoth_60 k1) := OSound.cut (o_law18_IdsBoth_61 hfin k1 h1) (Nat.le_of_eq hfin.1) (s_law18_IdsBoth_60 hfin k1 h1)
@[reducible] noncomputable def p_law18_IdsBoth_59 : CPat := ⟨⟨16, [1, 1, 1, 1, 0, 1, 0, 0, 1, 0, 0, 0, 1, 0, 0, 1, 0, 0, 1, 1, 1, 1, 1], none, [.any, .rows .bool false, .any, .any, .any, .ptr 0 0, .ptr 1 0, .int .i64, .intC .i64 (8), .any, .any, .any, .any, .ptr 2 0, .bool], 93⟩, [], [.dat 89 T_ids_State, .dat 89 T_ids_State, .dat 34 T_frame_Frame], 0⟩
@[reducible] noncomputable def u_law18_IdsBoth_59 (k : (List Bool) → Int → Bool → D_ids_State → D_ids_State → D_frame_Frame → Option (Bool × Unit)) : denC p_law18_IdsBoth_59 → Option (Bool × Unit) := fun x => k x.1.2.1 x.1.2.2.2.2.2.2.2.1 x.1.2.2.2.2.2.2.2.2.2.2.2.2.2.2.1 x.2.2.1 x.2.2.2.1 x.2.2.2.2.1
noncomputable def b_law18_IdsBoth_59 (k1 : (List Bool) → Int → D_ids_State → D_ids_State → Option (Bool × Unit)) (l514 : (List Bool)) (i515 : Int) (b516 : Bool) (d517 : D_ids_State) (d518 : D_ids_State) (d519 : D_frame_Frame) : Option (Bool × Unit) :=
  bif b516 then
    obind (ids_On d517 d519) fun y520 =>
    let b521 : Bool := (y520.2.1 != (0 : Int))
    bif b521 then
      some (false, ())
    else
      law18_IdsBoth_60 k1 l514 i515 y520.1 d518
  else
    law18_IdsBoth_60 k1 l514 i515 d517 d518
theorem ex_law18_IdsBoth_59 : ∃ f, f = @b_law18_IdsBoth_59 := ⟨_, rfl⟩
noncomputable def law18_IdsBoth_59 := Classical.choose ex_law18_IdsBoth_59
theorem law18_IdsBoth_59_eq : @law18_IdsBoth_59 = @b_law18_IdsBoth_59 := Classical.choose_spec ex_law18_IdsBoth_59
theorem s_law18_IdsBoth_59 {base S0 cs0} (hfin : H_law18_IdsBoth base S0) (k1) (h1 : J_law18_IdsBoth base S0 cs0 p_law18_IdsBoth_1 (u_law18_IdsBoth_1 k1)) : J_law18_IdsBoth base S0 cs0 p_law18_IdsBoth_59 (u_law18_IdsBoth_59 (law18_IdsBoth_59 k1)) :=
  JSound.join hfin.2 (o_law18_IdsBoth_60 hfin k1 h1) ks_law18_IdsBoth 100000 (by rw [law18_IdsBoth_59_eq]; intro x; kernel_rfl)
noncomputable def x_law18_IdsBoth_59 (k1 : (List Bool) → Int → D_ids_State → D_ids_State → Option (Bool × Unit)) : Cfg → Option (Option (Bool × Unit)) := cut p_law18_IdsBoth_59 (u_law18_IdsBoth_59 (law18_IdsBoth_59 k1)) (x_law18_IdsBoth_60 k1)
theorem o_law18_IdsBoth_59 {base S0 cs0} (hfin : H_law18_IdsBoth base S0) (k1) (h1 : J_law18_IdsBoth base S0 cs0 p_law18_IdsBoth_1 (u_law18_IdsBoth_1 k1)) : O_law18_IdsBoth base S0 cs0 (x_law18_IdsBoth_59 k1) := OSound.cut (o_law18_IdsBoth_60 hfin k1 h1) (Nat.le_of_eq hfin.1) (s_law18_IdsBoth_59 hfin k1 h1)
@[reducible] noncomputable def p_law18_IdsBoth_58 : CPat := ⟨⟨16, [1, 1, 1, 1, 0, 1, 0, 0, 1, 0, 0, 0, 1, 0, 0, 1, 1], none, [.any, .rows .bool false, .any, .any, .any, .ptr 0 0, .ptr 1 0, .int .i64, .intC .i64 (7)], 99⟩, [], [.dat 89 T_ids_State, .dat 89 T_ids_State], 0⟩
@[reducible] noncomputable def u_law18_IdsBoth_58 (k : (List Bool) → Int → D_ids_State → D_ids_State → Option (Bool × Unit)) : denC p_law18_IdsBoth_58 → Option (Bool × Unit) := fun x => k x.1.2.1 x.1.2.2.2.2.2.2.2.1 x.2.2.1 x.2.2.2.1
noncomputable def b_law18_IdsBoth_58 (k1 : (List Bool) → Int → D_ids_State → D_ids_State → Option (Bool × Unit)) (l504 : (List Bool)) (i505 : Int) (d506 : D_ids_State) (d507 : D_ids_State) : Option (Bool × Unit) :=
  obind (ids_Next d506 (1000 : Int)) fun y508 =>
  let s509 : ByteArray := (ByteArray.mk (List.toArray ([] : List UInt8)))
  obind (ids_Next d507 (1000 : Int)) fun y510 =>
  let s511 : ByteArray := (ByteArray.mk (List.toArray ([] : List UInt8)))
  bif y508.2.2.1 then
    obind (ids_On y510.1 y508.2.1) fun y512 =>
    let b513 : Bool := (y512.2.1 != (0 : Int))
    bif b513 then
      some (false, ())
    else
      law18_IdsBoth_59 k1 l504 i505 y510.2.2.1 y508.1 y512.1 y510.2.1
  else
    law18_IdsBoth_59 k1 l504 i505 y510.2.2.1 y508.1 y510.1 y510.2.1
theorem ex_law18_IdsBoth_58 : ∃ f, f = @b_law18_IdsBoth_58 := ⟨_, rfl⟩
noncomputable def law18_IdsBoth_58 := Classical.choose ex_law18_IdsBoth_58
theorem law18_IdsBoth_58_eq : @law18_IdsBoth_58 = @b_law18_IdsBoth_58 := Classical.choose_spec ex_law18_IdsBoth_58
theorem s_law18_IdsBoth_58 {base S0 cs0} (hfin : H_law18_IdsBoth base S0) (k1) (h1 : J_law18_IdsBoth base S0 cs0 p_law18_IdsBoth_1 (u_law18_IdsBoth_1 k1)) : J_law18_IdsBoth base S0 cs0 p_law18_IdsBoth_58 (u_law18_IdsBoth_58 (law18_IdsBoth_58 k1)) :=
  JSound.join hfin.2 (o_law18_IdsBoth_59 hfin k1 h1) ks_law18_IdsBoth 100000 (by rw [law18_IdsBoth_58_eq]; intro x; kernel_rfl)
noncomputable def x_law18_IdsBoth_58 (k1 : (List Bool) → Int → D_ids_State → D_ids_State → Option (Bool × Unit)) : Cfg → Option (Option (Bool × Unit)) := cut p_law18_IdsBoth_58 (u_law18_IdsBoth_58 (law18_IdsBoth_58 k1)) (x_law18_IdsBoth_59 k1)
theorem o_law18_IdsBoth_58 {base S0 cs0} (hfin : H_law18_IdsBoth base S0) (k1) (h1 : J_law18_IdsBoth base S0 cs0 p_law18_IdsBoth_1 (u_law18_IdsBoth_1 k1)) : O_law18_IdsBoth base S0 cs0 (x_law18_IdsBoth_58 k1) := OSound.cut (o_law18_IdsBoth_59 hfin k1 h1) (Nat.le_of_eq hfin.1) (s_law18_IdsBoth_58 hfin k1 h1)
@[reducible] noncomputable def p_law18_IdsBoth_57 : CPat := ⟨⟨16, [1, 1, 1, 1, 0, 1, 0, 0, 1, 0, 0, 0, 1, 0, 0, 1, 0, 0, 1, 1, 1, 1, 1], none, [.any, .rows .bool false, .any, .any, .any, .ptr 0 0, .ptr 1 0, .int .i64, .intC .i64 (7), .any, .any, .any, .any, .ptr 2 0, .bool], 93⟩, [], [.dat 89 T_ids_State, .dat 89 T_ids_State, .dat 34 T_frame_Frame], 0⟩
@[reducible] noncomputable def u_law18_IdsBoth_57 (k : (List Bool) → Int → Bool → D_ids_State → D_ids_State → D_frame_Frame → Option (Bool × Unit)) : denC p_law18_IdsBoth_57 → Option (Bool × Unit) := fun x => k x.1.2.1 x.1.2.2.2.2.2.2.2.1 x.1.2.2.2.2.2.2.2.2.2.2.2.2.2.2.1 x.2.2.1 x.2.2.2.1 x.2.2.2.2.1
noncomputable def b_law18_IdsBoth_57 (k1 : (List Bool) → Int → D_ids_State → D_ids_State → Option (Bool × Unit)) (l496 : (List Bool)) (i497 : Int) (b498 : Bool) (d499 : D_ids_State) (d500 : D_ids_State) (d501 : D_frame_Frame) : Option (Bool × Unit) :=
  bif b498 then
    obind (ids_On d499 d501) fun y502 =>
    let b503 : Bool := (y502.2.1 != (0 : Int))
    bif b503 then
      some (false, ())
    else
      law18_IdsBoth_58 k1 l496 i497 y502.1 d500
  else
    law18_IdsBoth_58 k1 l496 i497 d499 d500
theorem ex_law18_IdsBoth_57 : ∃ f, f = @b_law18_IdsBoth_57 := ⟨_, rfl⟩
noncomputable def law18_IdsBoth_57 := Classical.choose ex_law18_IdsBoth_57
theorem law18_IdsBoth_57_eq : @law18_IdsBoth_57 = @b_law18_IdsBoth_57 := Classical.choose_spec ex_law18_IdsBoth_57
theorem s_law18_IdsBoth_57 {base S0 cs0} (hfin : H_law18_IdsBoth base S0) (k1) (h1 : J_law18_IdsBoth base S0 cs0 p_law18_IdsBoth_1 (u_law18_IdsBoth_1 k1)) : J_law18_IdsBoth base S0 cs0 p_law18_IdsBoth_57 (u_law18_IdsBoth_57 (law18_IdsBoth_57 k1)) :=
  JSound.join hfin.2 (o_law18_IdsBoth_58 hfin k1 h1) ks_law18_IdsBoth 100000 (by rw [law18_IdsBoth_57_eq]; intro x; kernel_rfl)
noncomputable def x_law18_IdsBoth_57 (k1 : (List Bool) → Int → D_ids_State → D_ids_State → Option (Bool × Unit)) : Cfg → Option (Option (Bool × Unit)) := cut p_law18_IdsBoth_57 (u_law18_IdsBoth_57 (law18_IdsBoth_57 k1)) (x_law18_IdsBoth_58 k1)
theorem o_law18_IdsBoth_57 {base S0 cs0} (hfin : H_law18_IdsBoth base S0) (k1) (h1 : J_law18_IdsBoth base S0 cs0 p_law18_IdsBoth_1 (u_law18_IdsBoth_1 k1)) : O_law18_IdsBoth base S0 cs0 (x_law18_IdsBoth_57 k1) := OSound.cut (o_law18_IdsBoth_58 hfin k1 h1) (Nat.le_of_eq hfin.1) (s_law18_IdsBoth_57 hfin k1 h1)
@[reducible] noncomputable def p_law18_IdsBoth_56 : CPat := ⟨⟨16, [1, 1, 1, 1, 0, 1, 0, 0, 1, 0, 0, 0, 1, 0, 0, 1, 1], none, [.any, .rows .bool false, .any, .any, .any, .ptr 0 0, .ptr 1 0, .int .i64, .intC .i64 (6)], 99⟩, [], [.dat 89 T_ids_State, .dat 89 T_ids_State], 0⟩
@[reducible] noncomputable def u_law18_IdsBoth_56 (k : (List Bool) → Int → D_ids_State → D_ids_State → Option (Bool × Unit)) : denC p_law18_IdsBoth_56 → Option (Bool × Unit) := fun x => k x.1.2.1 x.1.2.2.2.2.2.2.2.1 x.2.2.1 x.2.2.2.1
noncomputable def b_law18_IdsBoth_56 (k1 : (List Bool) → Int → D_ids_State → D_ids_State → Option (Bool × Unit)) (l486 : (List Bool)) (i487 : Int) (d488 : D_ids_State) (d489 : D_ids_State) : Option (Bool × Unit) :=
  obind (ids_Next d488 (1000 : Int)) fun y490 =>
  let s491 : ByteArray := (ByteArray.mk (List.toArray ([] : List UInt8)))
  obind (ids_Next d489 (1000 : Int)) fun y492 =>
  let s493 : ByteArray := (ByteArray.mk (List.toArray ([] : List UInt8)))
  bif y490.2.2.1 then
    obind (ids_On y492.1 y490.2.1) fun y494 =>
    let b495 : Bool := (y494.2.1 != (0 : Int))
    bif b495 then
      some (false, ())
    else
      law18_IdsBoth_57 k1 l486 i487 y492.2.2.1 y490.1 y494.1 y492.2.1
  else
    law18_IdsBoth_57 k1 l486 i487 y492.2.2.1 y490.1 y492.1 y492.2.1
theorem ex_law18_IdsBoth_56 : ∃ f, f = @b_law18_IdsBoth_56 := ⟨_, rfl⟩
noncomputable def law18_IdsBoth_56 := Classical.choose ex_law18_IdsBoth_56
theorem law18_IdsBoth_56_eq : @law18_IdsBoth_56 = @b_law18_IdsBoth_56 := Classical.choose_spec ex_law18_IdsBoth_56
theorem s_law18_IdsBoth_56 {base S0 cs0} (hfin : H_law18_IdsBoth base S0) (k1) (h1 : J_law18_IdsBoth base S0 cs0 p_law18_IdsBoth_1 (u_law18_IdsBoth_1 k1)) : J_law18_IdsBoth base S0 cs0 p_law18_IdsBoth_56 (u_law18_IdsBoth_56 (law18_IdsBoth_56 k1)) :=
  JSound.join hfin.2 (o_law18_IdsBoth_57 hfin k1 h1) ks_law18_IdsBoth 100000 (by rw [law18_IdsBoth_56_eq]; intro x; kernel_rfl)
noncomputable def x_law18_IdsBoth_56 (k1 : (List Bool) → Int → D_ids_State → D_ids_State → Option (Bool × Unit)) : Cfg → Option (Option (Bool × Unit)) := cut p_law18_IdsBoth_56 (u_law18_IdsBoth_56 (law18_IdsBoth_56 k1)) (x_law18_IdsBoth_57 k1)
theorem o_law18_IdsBoth_56 {base S0 cs0} (hfin : H_law18_IdsBoth base S0) (k1) (h1 : J_law18_IdsBoth base S0 cs0 p_law18_IdsBoth_1 (u_law18_IdsBoth_1 k1)) : O_law18_IdsBoth base S0 cs0 (x_law18_IdsBoth_56 k1) := OSound.cut (o_law18_IdsBoth_57 hfin k1 h1) (Nat.le_of_eq hfin.1) (s_law18_IdsBoth_56 hfin k1 h1)
@[reducible] noncomputable def p_law18_IdsBoth_55 : CPat := ⟨⟨16, [1, 1, 1, 1, 0, 1, 0, 0, 1, 0, 0, 0, 1, 0, 0, 1, 0, 0, 1, 1, 1, 1, 1], none, [.any, .rows .bool false, .any, .any, .any, .ptr 0 0, .ptr 1 0, .int .i64, .intC .i64 (6), .any, .any, .any, .any, .ptr 2 0, .bool], 93⟩, [], [.dat 89 T_ids_State, .dat 89 T_ids_State, .dat 34 T_frame_Frame], 0⟩
@[reducible] noncomputable def u_law18_IdsBoth_55 (k : (List Bool) → Int → Bool → D_ids_State → D_ids_State → D_frame_Frame → Option (Bool × Unit)) : denC p_law18_IdsBoth_55 → Option (Bool × Unit) := fun x => k x.1.2.1 x.1.2.2.2.2.2.2.2.1 x.1.2.2.2.2.2.2.2.2.2.2.2.2.2.2.1 x.2.2.1 x.2.2.2.1 x.2.2.2.2.1
noncomputable def b_law18_IdsBoth_55 (k1 : (List Bool) → Int → D_ids_State → D_ids_State → Option (Bool × Unit)) (l478 : (List Bool)) (i479 : Int) (b480 : Bool) (d481 : D_ids_State) (d482 : D_ids_State) (d483 : D_frame_Frame) : Option (Bool × Unit) :=
  bif b480 then
    obind (ids_On d481 d483) fun y484 =>
    let b485 : Bool := (y484.2.1 != (0 : Int))
    bif b485 then
      some (false, ())
    else
      law18_IdsBoth_56 k1 l478 i479 y484.1 d482
  else
    law18_IdsBoth_56 k1 l478 i479 d481 d482
theorem ex_law18_IdsBoth_55 : ∃ f, f = @b_law18_IdsBoth_55 := ⟨_, rfl⟩
noncomputable def law18_IdsBoth_55 := Classical.choose ex_law18_IdsBoth_55
theorem law18_IdsBoth_55_eq : @law18_IdsBoth_55 = @b_law18_IdsBoth_55 := Classical.choose_spec ex_law18_IdsBoth_55
theorem s_law18_IdsBoth_55 {base S0 cs0} (hfin : H_law18_IdsBoth base S0) (k1) (h1 : J_law18_IdsBoth base S0 cs0 p_law18_IdsBoth_1 (u_law18_IdsBoth_1 k1)) : J_law18_IdsBoth base S0 cs0 p_law18_IdsBoth_55 (u_law18_IdsBoth_55 (law18_IdsBoth_55 k1)) :=
  JSound.join hfin.2 (o_law18_IdsBoth_56 hfin k1 h1) ks_law18_IdsBoth 100000 (by rw [law18_IdsBoth_55_eq]; intro x; kernel_rfl)
noncomputable def x_law18_IdsBoth_55 (k1 : (List Bool) → Int → D_ids_State → D_ids_State → Option (Bool × Unit)) : Cfg → Option (Option (Bool × Unit)) := cut p_law18_IdsBoth_55 (u_law18_IdsBoth_55 (law18_IdsBoth_55 k1)) (x_law18_IdsBoth_56 k1)
theorem o_law18_IdsBoth_55 {base S0 cs0} (hfin : H_law18_IdsBoth base S0) (k1) (h1 : J_law18_IdsBoth base S0 cs0 p_law18_IdsBoth_1 (u_law18_IdsBoth_1 k1)) : O_law18_IdsBoth base S0 cs0 (x_law18_IdsBoth_55 k1) := OSound.cut (o_law18_IdsBoth_56 hfin k1 h1) (Nat.le_of_eq hfin.1) (s_law18_IdsBoth_55 hfin k1 h1)
@[reducible] noncomputable def p_law18_IdsBoth_54 : CPat := ⟨⟨16, [1, 1, 1, 1, 0, 1, 0, 0, 1, 0, 0, 0, 1, 0, 0, 1, 1], none, [.any, .rows .bool false, .any, .any, .any, .ptr 0 0, .ptr 1 0, .int .i64, .intC .i64 (5)], 99⟩, [], [.dat 89 T_ids_State, .dat 89 T_ids_State], 0⟩
@[reducible] noncomputable def u_law18_IdsBoth_54 (k : (List Bool) → Int → D_ids_State → D_ids_State → Option (Bool × Unit)) : denC p_law18_IdsBoth_54 → Option (Bool × Unit) := fun x => k x.1.2.1 x.1.2.2.2.2.2.2.2.1 x.2.2.1 x.2.2.2.1
noncomputable def b_law18_IdsBoth_54 (k1 : (List Bool) → Int → D_ids_State → D_ids_State → Option (Bool × Unit)) (l468 : (List Bool)) (i469 : Int) (d470 : D_ids_State) (d471 : D_ids_State) : Option (Bool × Unit) :=
  obind (ids_Next d470 (1000 : Int)) fun y472 =>
  let s473 : ByteArray := (ByteArray.mk (List.toArray ([] : List UInt8)))
  obind (ids_Next d471 (1000 : Int)) fun y474 =>
  let s475 : ByteArray := (ByteArray.mk (List.toArray ([] : List UInt8)))
  bif y472.2.2.1 then
    obind (ids_On y474.1 y472.2.1) fun y476 =>
    let b477 : Bool := (y476.2.1 != (0 : Int))
    bif b477 then
      some (false, ())
    else
      law18_IdsBoth_55 k1 l468 i469 y474.2.2.1 y472.1 y476.1 y474.2.1
  else
    law18_IdsBoth_55 k1 l468 i469 y474.2.2.1 y472.1 y474.1 y474.2.1
theorem ex_law18_IdsBoth_54 : ∃ f, f = @b_law18_IdsBoth_54 := ⟨_, rfl⟩
noncomputable def law18_IdsBoth_54 := Classical.choose ex_law18_IdsBoth_54
theorem law18_IdsBoth_54_eq : @law18_IdsBoth_54 = @b_law18_IdsBoth_54 := Classical.choose_spec ex_law18_IdsBoth_54
theorem s_law18_IdsBoth_54 {base S0 cs0} (hfin : H_law18_IdsBoth base S0) (k1) (h1 : J_law18_IdsBoth base S0 cs0 p_law18_IdsBoth_1 (u_law18_IdsBoth_1 k1)) : J_law18_IdsBoth base S0 cs0 p_law18_IdsBoth_54 (u_law18_IdsBoth_54 (law18_IdsBoth_54 k1)) :=
  JSound.join hfin.2 (o_law18_IdsBoth_55 hfin k1 h1) ks_law18_IdsBoth 100000 (by rw [law18_IdsBoth_54_eq]; intro x; kernel_rfl)
noncomputable def x_law18_IdsBoth_54 (k1 : (List Bool) → Int → D_ids_State → D_ids_State → Option (Bool × Unit)) : Cfg → Option (Option (Bool × Unit)) := cut p_law18_IdsBoth_54 (u_law18_IdsBoth_54 (law18_IdsBoth_54 k1)) (x_law18_IdsBoth_55 k1)
theorem o_law18_IdsBoth_54 {base S0 cs0} (hfin : H_law18_IdsBoth base S0) (k1) (h1 : J_law18_IdsBoth base S0 cs0 p_law18_IdsBoth_1 (u_law18_IdsBoth_1 k1)) : O_law18_IdsBoth base S0 cs0 (x_law18_IdsBoth_54 k1) := OSound.cut (o_law18_IdsBoth_55 hfin k1 h1) (Nat.le_of_eq hfin.1) (s_law18_IdsBoth_54 hfin k1 h1)
@[reducible] noncomputable def p_law18_IdsBoth_53 : CPat := ⟨⟨16, [1, 1, 1, 1, 0, 1, 0, 0, 1, 0, 0, 0, 1, 0, 0, 1, 0, 0, 1, 1, 1, 1, 1], none, [.any, .rows .bool false, .any, .any, .any, .ptr 0 0, .ptr 1 0, .int .i64, .intC .i64 (5), .any, .any, .any, .any, .ptr 2 0, .bool], 93⟩, [], [.dat 89 T_ids_State, .dat 89 T_ids_State, .dat 34 T_frame_Frame], 0⟩
@[reducible] noncomputable def u_law18_IdsBoth_53 (k : (List Bool) → Int → Bool → D_ids_State → D_ids_State → D_frame_Frame → Option (Bool × Unit)) : denC p_law18_IdsBoth_53 → Option (Bool × Unit) := fun x => k x.1.2.1 x.1.2.2.2.2.2.2.2.1 x.1.2.2.2.2.2.2.2.2.2.2.2.2.2.2.1 x.2.2.1 x.2.2.2.1 x.2.2.2.2.1
noncomputable def b_law18_IdsBoth_53 (k1 : (List Bool) → Int → D_ids_State → D_ids_State → Option (Bool × Unit)) (l460 : (List Bool)) (i461 : Int) (b462 : Bool) (d463 : D_ids_State) (d464 : D_ids_State) (d465 : D_frame_Frame) : Option (Bool × Unit) :=
  bif b462 then
    obind (ids_On d463 d465) fun y466 =>
    let b467 : Bool := (y466.2.1 != (0 : Int))
    bif b467 then
      some (false, ())
    else
      law18_IdsBoth_54 k1 l460 i461 y466.1 d464
  else
    law18_IdsBoth_54 k1 l460 i461 d463 d464
theorem ex_law18_IdsBoth_53 : ∃ f, f = @b_law18_IdsBoth_53 := ⟨_, rfl⟩
noncomputable def law18_IdsBoth_53 := Classical.choose ex_law18_IdsBoth_53
theorem law18_IdsBoth_53_eq : @law18_IdsBoth_53 = @b_law18_IdsBoth_53 := Classical.choose_spec ex_law18_IdsBoth_53
theorem s_law18_IdsBoth_53 {base S0 cs0} (hfin : H_law18_IdsBoth base S0) (k1) (h1 : J_law18_IdsBoth base S0 cs0 p_law18_IdsBoth_1 (u_law18_IdsBoth_1 k1)) : J_law18_IdsBoth base S0 cs0 p_law18_IdsBoth_53 (u_law18_IdsBoth_53 (law18_IdsBoth_53 k1)) :=
  JSound.join hfin.2 (o_law18_IdsBoth_54 hfin k1 h1) ks_law18_IdsBoth 100000 (by rw [law18_IdsBoth_53_eq]; intro x; kernel_rfl)
noncomputable def x_law18_IdsBoth_53 (k1 : (List Bool) → Int → D_ids_State → D_ids_State → Option (Bool × Unit)) : Cfg → Option (Option (Bool × Unit)) := cut p_law18_IdsBoth_53 (u_law18_IdsBoth_53 (law18_IdsBoth_53 k1)) (x_law18_IdsBoth_54 k1)
theorem o_law18_IdsBoth_53 {base S0 cs0} (hfin : H_law18_IdsBoth base S0) (k1) (h1 : J_law18_IdsBoth base S0 cs0 p_law18_IdsBoth_1 (u_law18_IdsBoth_1 k1)) : O_law18_IdsBoth base S0 cs0 (x_law18_IdsBoth_53 k1) := OSound.cut (o_law18_IdsBoth_54 hfin k1 h1) (Nat.le_of_eq hfin.1) (s_law18_IdsBoth_53 hfin k1 h1)
@[reducible] noncomputable def p_law18_IdsBoth_52 : CPat := ⟨⟨16, [1, 1, 1, 1, 0, 1, 0, 0, 1, 0, 0, 0, 1, 0, 0, 1, 1], none, [.any, .rows .bool false, .any, .any, .any, .ptr 0 0, .ptr 1 0, .int .i64, .intC .i64 (4)], 99⟩, [], [.dat 89 T_ids_State, .dat 89 T_ids_State], 0⟩
@[reducible] noncomputable def u_law18_IdsBoth_52 (k : (List Bool) → Int → D_ids_State → D_ids_State → Option (Bool × Unit)) : denC p_law18_IdsBoth_52 → Option (Bool × Unit) := fun x => k x.1.2.1 x.1.2.2.2.2.2.2.2.1 x.2.2.1 x.2.2.2.1
noncomputable def b_law18_IdsBoth_52 (k1 : (List Bool) → Int → D_ids_State → D_ids_State → Option (Bool × Unit)) (l450 : (List Bool)) (i451 : Int) (d452 : D_ids_State) (d453 : D_ids_State) : Option (Bool × Unit) :=
  obind (ids_Next d452 (1000 : Int)) fun y454 =>
  let s455 : ByteArray := (ByteArray.mk (List.toArray ([] : List UInt8)))
  obind (ids_Next d453 (1000 : Int)) fun y456 =>
  let s457 : ByteArray := (ByteArray.mk (List.toArray ([] : List UInt8)))
  bif y454.2.2.1 then
    obind (ids_On y456.1 y454.2.1) fun y458 =>
    let b459 : Bool := (y458.2.1 != (0 : Int))
    bif b459 then
      some (false, ())
    else
      law18_IdsBoth_53 k1 l450 i451 y456.2.2.1 y454.1 y458.1 y456.2.1
  else
    law18_IdsBoth_53 k1 l450 i451 y456.2.2.1 y454.1 y456.1 y456.2.1
theorem ex_law18_IdsBoth_52 : ∃ f, f = @b_law18_IdsBoth_52 := ⟨_, rfl⟩
noncomputable def law18_IdsBoth_52 := Classical.choose ex_law18_IdsBoth_52
theorem law18_IdsBoth_52_eq : @law18_IdsBoth_52 = @b_law18_IdsBoth_52 := Classical.choose_spec ex_law18_IdsBoth_52
theorem s_law18_IdsBoth_52 {base S0 cs0} (hfin : H_law18_IdsBoth base S0) (k1) (h1 : J_law18_IdsBoth base S0 cs0 p_law18_IdsBoth_1 (u_law18_IdsBoth_1 k1)) : J_law18_IdsBoth base S0 cs0 p_law18_IdsBoth_52 (u_law18_IdsBoth_52 (law18_IdsBoth_52 k1)) :=
  JSound.join hfin.2 (o_law18_IdsBoth_53 hfin k1 h1) ks_law18_IdsBoth 100000 (by rw [law18_IdsBoth_52_eq]; intro x; kernel_rfl)
noncomputable def x_law18_IdsBoth_52 (k1 : (List Bool) → Int → D_ids_State → D_ids_State → Option (Bool × Unit)) : Cfg → Option (Option (Bool × Unit)) := cut p_law18_IdsBoth_52 (u_law18_IdsBoth_52 (law18_IdsBoth_52 k1)) (x_law18_IdsBoth_53 k1)
theorem o_law18_IdsBoth_52 {base S0 cs0} (hfin : H_law18_IdsBoth base S0) (k1) (h1 : J_law18_IdsBoth base S0 cs0 p_law18_IdsBoth_1 (u_law18_IdsBoth_1 k1)) : O_law18_IdsBoth base S0 cs0 (x_law18_IdsBoth_52 k1) := OSound.cut (o_law18_IdsBoth_53 hfin k1 h1) (Nat.le_of_eq hfin.1) (s_law18_IdsBoth_52 hfin k1 h1)
@[reducible] noncomputable def p_law18_IdsBoth_51 : CPat := ⟨⟨16, [1, 1, 1, 1, 0, 1, 0, 0, 1, 0, 0, 0, 1, 0, 0, 1, 0, 0, 1, 1, 1, 1, 1], none, [.any, .rows .bool false, .any, .any, .any, .ptr 0 0, .ptr 1 0, .int .i64, .intC .i64 (4), .any, .any, .any, .any, .ptr 2 0, .bool], 93⟩, [], [.dat 89 T_ids_State, .dat 89 T_ids_State, .dat 34 T_frame_Frame], 0⟩
@[reducible] noncomputable def u_law18_IdsBoth_51 (k : (List Bool) → Int → Bool → D_ids_State → D_ids_State → D_frame_Frame → Option (Bool × Unit)) : denC p_law18_IdsBoth_51 → Option (Bool × Unit) := fun x => k x.1.2.1 x.1.2.2.2.2.2.2.2.1 x.1.2.2.2.2.2.2.2.2.2.2.2.2.2.2.1 x.2.2.1 x.2.2.2.1 x.2.2.2.2.1
noncomputable def b_law18_IdsBoth_51 (k1 : (List Bool) → Int → D_ids_State → D_ids_State → Option (Bool × Unit)) (l442 : (List Bool)) (i443 : Int) (b444 : Bool) (d445 : D_ids_State) (d446 : D_ids_State) (d447 : D_frame_Frame) : Option (Bool × Unit) :=
  bif b444 then
    obind (ids_On d445 d447) fun y448 =>
    let b449 : Bool := (y448.2.1 != (0 : Int))
    bif b449 then
      some (false, ())
    else
      law18_IdsBoth_52 k1 l442 i443 y448.1 d446
  else
    law18_IdsBoth_52 k1 l442 i443 d445 d446
theorem ex_law18_IdsBoth_51 : ∃ f, f = @b_law18_IdsBoth_51 := ⟨_, rfl⟩
noncomputable def law18_IdsBoth_51 := Classical.choose ex_law18_IdsBoth_51
theorem law18_IdsBoth_51_eq : @law18_IdsBoth_51 = @b_law18_IdsBoth_51 := Classical.choose_spec ex_law18_IdsBoth_51
theorem s_law18_IdsBoth_51 {base S0 cs0} (hfin : H_law18_IdsBoth base S0) (k1) (h1 : J_law18_IdsBoth base S0 cs0 p_law18_IdsBoth_1 (u_law18_IdsBoth_1 k1)) : J_law18_IdsBoth base S0 cs0 p_law18_IdsBoth_51 (u_law18_IdsBoth_51 (law18_IdsBoth_51 k1)) :=
  JSound.join hfin.2 (o_law18_IdsBoth_52 hfin k1 h1) ks_law18_IdsBoth 100000 (by rw [law18_IdsBoth_51_eq]; intro x; kernel_rfl)
noncomputable def x_law18_IdsBoth_51 (k1 : (List Bool) → Int → D_ids_State → D_ids_State → Option (Bool × Unit)) : Cfg → Option (Option (Bool × Unit)) := cut p_law18_IdsBoth_51 (u_law18_IdsBoth_51 (law18_IdsBoth_51 k1)) (x_law18_IdsBoth_52 k1)
theorem o_law18_IdsBoth_51 {base S0 cs0} (hfin : H_law18_IdsBoth base S0) (k1) (h1 : J_law18_IdsBoth base S0 cs0 p_law18_IdsBoth_1 (u_law18_IdsBoth_1 k1)) : O_law18_IdsBoth base S0 cs0 (x_law18_IdsBoth_51 k1) := OSound.cut (o_law18_IdsBoth_52 hfin k1 h1) (Nat.le_of_eq hfin.1) (s_law18_IdsBoth_51 hfin k1 h1)
@[reducible] noncomputable def p_law18_IdsBoth_50 : CPat := ⟨⟨16, [1, 1, 1, 1, 0, 1, 0, 0, 1, 0, 0, 0, 1, 0, 0, 1, 1], none, [.any, .rows .bool false, .any, .any, .any, .ptr 0 0, .ptr 1 0, .int .i64, .intC .i64 (3)], 99⟩, [], [.dat 89 T_ids_State, .dat 89 T_ids_State], 0⟩
@[reducible] noncomputable def u_law18_IdsBoth_50 (k : (List Bool) → Int → D_ids_State → D_ids_State → Option (Bool × Unit)) : denC p_law18_IdsBoth_50 → Option (Bool × Unit) := fun x => k x.1.2.1 x.1.2.2.2.2.2.2.2.1 x.2.2.1 x.2.2.2.1
noncomputable def b_law18_IdsBoth_50 (k1 : (List Bool) → Int → D_ids_State → D_ids_State → Option (Bool × Unit)) (l432 : (List Bool)) (i433 : Int) (d434 : D_ids_State) (d435 : D_ids_State) : Option (Bool × Unit) :=
  obind (ids_Next d434 (1000 : Int)) fun y436 =>
  let s437 : ByteArray := (ByteArray.mk (List.toArray ([] : List UInt8)))
  obind (ids_Next d435 (1000 : Int)) fun y438 =>
  let s439 : ByteArray := (ByteArray.mk (List.toArray ([] : List UInt8)))
  bif y436.2.2.1 then
    obind (ids_On y438.1 y436.2.1) fun y440 =>
    let b441 : Bool := (y440.2.1 != (0 : Int))
    bif b441 then
      some (false, ())
    else
      law18_IdsBoth_51 k1 l432 i433 y438.2.2.1 y436.1 y440.1 y438.2.1
  else
    law18_IdsBoth_51 k1 l432 i433 y438.2.2.1 y436.1 y438.1 y438.2.1
theorem ex_law18_IdsBoth_50 : ∃ f, f = @b_law18_IdsBoth_50 := ⟨_, rfl⟩
noncomputable def law18_IdsBoth_50 := Classical.choose ex_law18_IdsBoth_50
theorem law18_IdsBoth_50_eq : @law18_IdsBoth_50 = @b_law18_IdsBoth_50 := Classical.choose_spec ex_law18_IdsBoth_50
theorem s_law18_IdsBoth_50 {base S0 cs0} (hfin : H_law18_IdsBoth base S0) (k1) (h1 : J_law18_IdsBoth base S0 cs0 p_law18_IdsBoth_1 (u_law18_IdsBoth_1 k1)) : J_law18_IdsBoth base S0 cs0 p_law18_IdsBoth_50 (u_law18_IdsBoth_50 (law18_IdsBoth_50 k1)) :=
  JSound.join hfin.2 (o_law18_IdsBoth_51 hfin k1 h1) ks_law18_IdsBoth 100000 (by rw [law18_IdsBoth_50_eq]; intro x; kernel_rfl)
noncomputable def x_law18_IdsBoth_50 (k1 : (List Bool) → Int → D_ids_State → D_ids_State → Option (Bool × Unit)) : Cfg → Option (Option (Bool × Unit)) := cut p_law18_IdsBoth_50 (u_law18_IdsBoth_50 (law18_IdsBoth_50 k1)) (x_law18_IdsBoth_51 k1)
theorem o_law18_IdsBoth_50 {base S0 cs0} (hfin : H_law18_IdsBoth base S0) (k1) (h1 : J_law18_IdsBoth base S0 cs0 p_law18_IdsBoth_1 (u_law18_IdsBoth_1 k1)) : O_law18_IdsBoth base S0 cs0 (x_law18_IdsBoth_50 k1) := OSound.cut (o_law18_IdsBoth_51 hfin k1 h1) (Nat.le_of_eq hfin.1) (s_law18_IdsBoth_50 hfin k1 h1)
@[reducible] noncomputable def p_law18_IdsBoth_49 : CPat := ⟨⟨16, [1, 1, 1, 1, 0, 1, 0, 0, 1, 0, 0, 0, 1, 0, 0, 1, 0, 0, 1, 1, 1, 1, 1], none, [.any, .rows .bool false, .any, .any, .any, .ptr 0 0, .ptr 1 0, .int .i64, .intC .i64 (3), .any, .any, .any, .any, .ptr 2 0, .bool], 93⟩, [], [.dat 89 T_ids_State, .dat 89 T_ids_State, .dat 34 T_frame_Frame], 0⟩
@[reducible] noncomputable def u_law18_IdsBoth_49 (k : (List Bool) → Int → Bool → D_ids_State → D_ids_State → D_frame_Frame → Option (Bool × Unit)) : denC p_law18_IdsBoth_49 → Option (Bool × Unit) := fun x => k x.1.2.1 x.1.2.2.2.2.2.2.2.1 x.1.2.2.2.2.2.2.2.2.2.2.2.2.2.2.1 x.2.2.1 x.2.2.2.1 x.2.2.2.2.1
noncomputable def b_law18_IdsBoth_49 (k1 : (List Bool) → Int → D_ids_State → D_ids_State → Option (Bool × Unit)) (l424 : (List Bool)) (i425 : Int) (b426 : Bool) (d427 : D_ids_State) (d428 : D_ids_State) (d429 : D_frame_Frame) : Option (Bool × Unit) :=
  bif b426 then
    obind (ids_On d427 d429) fun y430 =>
    let b431 : Bool := (y430.2.1 != (0 : Int))
    bif b431 then
      some (false, ())
    else
      law18_IdsBoth_50 k1 l424 i425 y430.1 d428
  else
    law18_IdsBoth_50 k1 l424 i425 d427 d428
theorem ex_law18_IdsBoth_49 : ∃ f, f = @b_law18_IdsBoth_49 := ⟨_, rfl⟩
noncomputable def law18_IdsBoth_49 := Classical.choose ex_law18_IdsBoth_49
theorem law18_IdsBoth_49_eq : @law18_IdsBoth_49 = @b_law18_IdsBoth_49 := Classical.choose_spec ex_law18_IdsBoth_49
theorem s_law18_IdsBoth_49 {base S0 cs0} (hfin : H_law18_IdsBoth base S0) (k1) (h1 : J_law18_IdsBoth base S0 cs0 p_law18_IdsBoth_1 (u_law18_IdsBoth_1 k1)) : J_law18_IdsBoth base S0 cs0 p_law18_IdsBoth_49 (u_law18_IdsBoth_49 (law18_IdsBoth_49 k1)) :=
  JSound.join hfin.2 (o_law18_IdsBoth_50 hfin k1 h1) ks_law18_IdsBoth 100000 (by rw [law18_IdsBoth_49_eq]; intro x; kernel_rfl)
noncomputable def x_law18_IdsBoth_49 (k1 : (List Bool) → Int → D_ids_State → D_ids_State → Option (Bool × Unit)) : Cfg → Option (Option (Bool × Unit)) := cut p_law18_IdsBoth_49 (u_law18_IdsBoth_49 (law18_IdsBoth_49 k1)) (x_law18_IdsBoth_50 k1)
theorem o_law18_IdsBoth_49 {base S0 cs0} (hfin : H_law18_IdsBoth base S0) (k1) (h1 : J_law18_IdsBoth base S0 cs0 p_law18_IdsBoth_1 (u_law18_IdsBoth_1 k1)) : O_law18_IdsBoth base S0 cs0 (x_law18_IdsBoth_49 k1) := OSound.cut (o_law18_IdsBoth_50 hfin k1 h1) (Nat.le_of_eq hfin.1) (s_law18_IdsBoth_49 hfin k1 h1)
@[reducible] noncomputable def p_law18_IdsBoth_48 : CPat := ⟨⟨16, [1, 1, 1, 1, 0, 1, 0, 0, 1, 0, 0, 0, 1, 0, 0, 1, 1], none, [.any, .rows .bool false, .any, .any, .any, .ptr 0 0, .ptr 1 0, .int .i64, .intC .i64 (2)], 99⟩, [], [.dat 89 T_ids_State, .dat 89 T_ids_State], 0⟩
@[reducible] noncomputable def u_law18_IdsBoth_48 (k : (List Bool) → Int → D_ids_State → D_ids_State → Option (Bool × Unit)) : denC p_law18_IdsBoth_48 → Option (Bool × Unit) := fun x => k x.1.2.1 x.1.2.2.2.2.2.2.2.1 x.2.2.1 x.2.2.2.1
noncomputable def b_law18_IdsBoth_48 (k1 : (List Bool) → Int → D_ids_State → D_ids_State → Option (Bool × Unit)) (l414 : (List Bool)) (i415 : Int) (d416 : D_ids_State) (d417 : D_ids_State) : Option (Bool × Unit) :=
  obind (ids_Next d416 (1000 : Int)) fun y418 =>
  let s419 : ByteArray := (ByteArray.mk (List.toArray ([] : List UInt8)))
  obind (ids_Next d417 (1000 : Int)) fun y420 =>
  let s421 : ByteArray := (ByteArray.mk (List.toArray ([] : List UInt8)))
  bif y418.2.2.1 then
    obind (ids_On y420.1 y418.2.1) fun y422 =>
    let b423 : Bool := (y422.2.1 != (0 : Int))
    bif b423 then
      some (false, ())
    else
      law18_IdsBoth_49 k1 l414 i415 y420.2.2.1 y418.1 y422.1 y420.2.1
  else
    law18_IdsBoth_49 k1 l414 i415 y420.2.2.1 y418.1 y420.1 y420.2.1
theorem ex_law18_IdsBoth_48 : ∃ f, f = @b_law18_IdsBoth_48 := ⟨_, rfl⟩
noncomputable def law18_IdsBoth_48 := Classical.choose ex_law18_IdsBoth_48
theorem law18_IdsBoth_48_eq : @law18_IdsBoth_48 = @b_law18_IdsBoth_48 := Classical.choose_spec ex_law18_IdsBoth_48
theorem s_law18_IdsBoth_48 {base S0 cs0} (hfin : H_law18_IdsBoth base S0) (k1) (h1 : J_law18_IdsBoth base S0 cs0 p_law18_IdsBoth_1 (u_law18_IdsBoth_1 k1)) : J_law18_IdsBoth base S0 cs0 p_law18_IdsBoth_48 (u_law18_IdsBoth_48 (law18_IdsBoth_48 k1)) :=
  JSound.join hfin.2 (o_law18_IdsBoth_49 hfin k1 h1) ks_law18_IdsBoth 100000 (by rw [law18_IdsBoth_48_eq]; intro x; kernel_rfl)
noncomputable def x_law18_IdsBoth_48 (k1 : (List Bool) → Int → D_ids_State → D_ids_State → Option (Bool × Unit)) : Cfg → Option (Option (Bool × Unit)) := cut p_law18_IdsBoth_48 (u_law18_IdsBoth_48 (law18_IdsBoth_48 k1)) (x_law18_IdsBoth_49 k1)
theorem o_law18_IdsBoth_48 {base S0 cs0} (hfin : H_law18_IdsBoth base S0) (k1) (h1 : J_law18_IdsBoth base S0 cs0 p_law18_IdsBoth_1 (u_law18_IdsBoth_1 k1)) : O_law18_IdsBoth base S0 cs0 (x_law18_IdsBoth_48 k1) := OSound.cut (o_law18_IdsBoth_49 hfin k1 h1) (Nat.le_of_eq hfin.1) (s_law18_IdsBoth_48 hfin k1 h1)
@[reducible] noncomputable def p_law18_IdsBoth_47 : CPat := ⟨⟨16, [1, 1, 1, 1, 0, 1, 0, 0, 1, 0, 0, 0, 1, 0, 0, 1, 0, 0, 1, 1, 1, 1, 1], none, [.any, .rows .bool false, .any, .any, .any, .ptr 0 0, .ptr 1 0, .int .i64, .intC .i64 (2), .any, .any, .any, .any, .ptr 2 0, .bool], 93⟩, [], [.dat 89 T_ids_State, .dat 89 T_ids_State, .dat 34 T_frame_Frame], 0⟩
@[reducible] noncomputable def u_law18_IdsBoth_47 (k : (List Bool) → Int → Bool → D_ids_State → D_ids_State → D_frame_Frame → Option (Bool × Unit)) : denC p_law18_IdsBoth_47 → Option (Bool × Unit) := fun x => k x.1.2.1 x.1.2.2.2.2.2.2.2.1 x.1.2.2.2.2.2.2.2.2.2.2.2.2.2.2.1 x.2.2.1 x.2.2.2.1 x.2.2.2.2.1
noncomputable def b_law18_IdsBoth_47 (k1 : (List Bool) → Int → D_ids_State → D_ids_State → Option (Bool × Unit)) (l406 : (List Bool)) (i407 : Int) (b408 : Bool) (d409 : D_ids_State) (d410 : D_ids_State) (d411 : D_frame_Frame) : Option (Bool × Unit) :=
  bif b408 then
    obind (ids_On d409 d411) fun y412 =>
    let b413 : Bool := (y412.2.1 != (0 : Int))
    bif b413 then
      some (false, ())
    else
      law18_IdsBoth_48 k1 l406 i407 y412.1 d410
  else
    law18_IdsBoth_48 k1 l406 i407 d409 d410
theorem ex_law18_IdsBoth_47 : ∃ f, f = @b_law18_IdsBoth_47 := ⟨_, rfl⟩
noncomputable def law18_IdsBoth_47 := Classical.choose ex_law18_IdsBoth_47
theorem law18_IdsBoth_47_eq : @law18_IdsBoth_47 = @b_law18_IdsBoth_47 := Classical.choose_spec ex_law18_IdsBoth_47
theorem s_law18_IdsBoth_47 {base S0 cs0} (hfin : H_law18_IdsBoth base S0) (k1) (h1 : J_law18_IdsBoth base S0 cs0 p_law18_IdsBoth_1 (u_law18_IdsBoth_1 k1)) : J_law18_IdsBoth base S0 cs0 p_law18_IdsBoth_47 (u_law18_IdsBoth_47 (law18_IdsBoth_47 k1)) :=
  JSound.join hfin.2 (o_law18_IdsBoth_48 hfin k1 h1) ks_law18_IdsBoth 100000 (by rw [law18_IdsBoth_47_eq]; intro x; kernel_rfl)
noncomputable def x_law18_IdsBoth_47 (k1 : (List Bool) → Int → D_ids_State → D_ids_State → Option (Bool × Unit)) : Cfg → Option (Option (Bool × Unit)) := cut p_law18_IdsBoth_47 (u_law18_IdsBoth_47 (law18_IdsBoth_47 k1)) (x_law18_IdsBoth_48 k1)
theorem o_law18_IdsBoth_47 {base S0 cs0} (hfin : H_law18_IdsBoth base S0) (k1) (h1 : J_law18_IdsBoth base S0 cs0 p_law18_IdsBoth_1 (u_law18_IdsBoth_1 k1)) : O_law18_IdsBoth base S0 cs0 (x_law18_IdsBoth_47 k1) := OSound.cut (o_law18_IdsBoth_48 hfin k1 h1) (Nat.le_of_eq hfin.1) (s_law18_IdsBoth_47 hfin k1 h1)
@[reducible] noncomputable def p_law18_IdsBoth_46 : CPat := ⟨⟨16, [1, 1, 1, 1, 0, 1, 0, 0, 1, 0, 0, 0, 1, 0, 0, 1, 1], none, [.any, .rows .bool false, .any, .any, .any, .ptr 0 0, .ptr 1 0, .int .i64, .intC .i64 (1)], 99⟩, [], [.dat 89 T_ids_State, .dat 89 T_ids_State], 0⟩
@[reducible] noncomputable def u_law18_IdsBoth_46 (k : (List Bool) → Int → D_ids_State → D_ids_State → Option (Bool × Unit)) : denC p_law18_IdsBoth_46 → Option (Bool × Unit) := fun x => k x.1.2.1 x.1.2.2.2.2.2.2.2.1 x.2.2.1 x.2.2.2.1
noncomputable def b_law18_IdsBoth_46 (k1 : (List Bool) → Int → D_ids_State → D_ids_State → Option (Bool × Unit)) (l396 : (List Bool)) (i397 : Int) (d398 : D_ids_State) (d399 : D_ids_State) : Option (Bool × Unit) :=
  obind (ids_Next d398 (1000 : Int)) fun y400 =>
  let s401 : ByteArray := (ByteArray.mk (List.toArray ([] : List UInt8)))
  obind (ids_Next d399 (1000 : Int)) fun y402 =>
  let s403 : ByteArray := (ByteArray.mk (List.toArray ([] : List UInt8)))
  bif y400.2.2.1 then
    obind (ids_On y402.1 y400.2.1) fun y404 =>
    let b405 : Bool := (y404.2.1 != (0 : Int))
    bif b405 then
      some (false, ())
    else
      law18_IdsBoth_47 k1 l396 i397 y402.2.2.1 y400.1 y404.1 y402.2.1
  else
    law18_IdsBoth_47 k1 l396 i397 y402.2.2.1 y400.1 y402.1 y402.2.1
theorem ex_law18_IdsBoth_46 : ∃ f, f = @b_law18_IdsBoth_46 := ⟨_, rfl⟩
noncomputable def law18_IdsBoth_46 := Classical.choose ex_law18_IdsBoth_46
theorem law18_IdsBoth_46_eq : @law18_IdsBoth_46 = @b_law18_IdsBoth_46 := Classical.choose_spec ex_law18_IdsBoth_46
theorem s_law18_IdsBoth_46 {base S0 cs0} (hfin : H_law18_IdsBoth base S0) (k1) (h1 : J_law18_IdsBoth base S0 cs0 p_law18_IdsBoth_1 (u_law18_IdsBoth_1 k1)) : J_law18_IdsBoth base S0 cs0 p_law18_IdsBoth_46 (u_law18_IdsBoth_46 (law18_IdsBoth_46 k1)) :=
  JSound.join hfin.2 (o_law18_IdsBoth_47 hfin k1 h1) ks_law18_IdsBoth 100000 (by rw [law18_IdsBoth_46_eq]; intro x; kernel_rfl)
noncomputable def x_law18_IdsBoth_46 (k1 : (List Bool) → Int → D_ids_State → D_ids_State → Option (Bool × Unit)) : Cfg → Option (Option (Bool × Unit)) := cut p_law18_IdsBoth_46 (u_law18_IdsBoth_46 (law18_IdsBoth_46 k1)) (x_law18_IdsBoth_47 k1)
theorem o_law18_IdsBoth_46 {base S0 cs0} (hfin : H_law18_IdsBoth base S0) (k1) (h1 : J_law18_IdsBoth base S0 cs0 p_law18_IdsBoth_1 (u_law18_IdsBoth_1 k1)) : O_law18_IdsBoth base S0 cs0 (x_law18_IdsBoth_46 k1) := OSound.cut (o_law18_IdsBoth_47 hfin k1 h1) (Nat.le_of_eq hfin.1) (s_law18_IdsBoth_46 hfin k1 h1)
@[reducible] noncomputable def p_law18_IdsBoth_45 : CPat := ⟨⟨16, [1, 1, 1, 1, 0, 1, 0, 0, 1, 0, 0, 0, 1, 0, 0, 1, 0, 0, 1, 1, 1, 1, 1], none, [.any, .rows .bool false, .any, .any, .any, .ptr 0 0, .ptr 1 0, .int .i64, .intC .i64 (1), .any, .any, .any, .any, .ptr 2 0, .bool], 93⟩, [], [.dat 89 T_ids_State, .dat 89 T_ids_State, .dat 34 T_frame_Frame], 0⟩
@[reducible] noncomputable def u_law18_IdsBoth_45 (k : (List Bool) → Int → Bool → D_ids_State → D_ids_State → D_frame_Frame → Option (Bool × Unit)) : denC p_law18_IdsBoth_45 → Option (Bool × Unit) := fun x => k x.1.2.1 x.1.2.2.2.2.2.2.2.1 x.1.2.2.2.2.2.2.2.2.2.2.2.2.2.2.1 x.2.2.1 x.2.2.2.1 x.2.2.2.2.1
noncomputable def b_law18_IdsBoth_45 (k1 : (List Bool) → Int → D_ids_State → D_ids_State → Option (Bool × Unit)) (l388 : (List Bool)) (i389 : Int) (b390 : Bool) (d391 : D_ids_State) (d392 : D_ids_State) (d393 : D_frame_Frame) : Option (Bool × Unit) :=
  bif b390 then
    obind (ids_On d391 d393) fun y394 =>
    let b395 : Bool := (y394.2.1 != (0 : Int))
    bif b395 then
      some (false, ())
    else
      law18_IdsBoth_46 k1 l388 i389 y394.1 d392
  else
    law18_IdsBoth_46 k1 l388 i389 d391 d392
theorem ex_law18_IdsBoth_45 : ∃ f, f = @b_law18_IdsBoth_45 := ⟨_, rfl⟩
noncomputable def law18_IdsBoth_45 := Classical.choose ex_law18_IdsBoth_45
theorem law18_IdsBoth_45_eq : @law18_IdsBoth_45 = @b_law18_IdsBoth_45 := Classical.choose_spec ex_law18_IdsBoth_45
theorem s_law18_IdsBoth_45 {base S0 cs0} (hfin : H_law18_IdsBoth base S0) (k1) (h1 : J_law18_IdsBoth base S0 cs0 p_law18_IdsBoth_1 (u_law18_IdsBoth_1 k1)) : J_law18_IdsBoth base S0 cs0 p_law18_IdsBoth_45 (u_law18_IdsBoth_45 (law18_IdsBoth_45 k1)) :=
  JSound.join hfin.2 (o_law18_IdsBoth_46 hfin k1 h1) ks_law18_IdsBoth 100000 (by rw [law18_IdsBoth_45_eq]; intro x; kernel_rfl)
noncomputable def x_law18_IdsBoth_45 (k1 : (List Bool) → Int → D_ids_State → D_ids_State → Option (Bool × Unit)) : Cfg → Option (Option (Bool × Unit)) := cut p_law18_IdsBoth_45 (u_law18_IdsBoth_45 (law18_IdsBoth_45 k1)) (x_law18_IdsBoth_46 k1)
theorem o_law18_IdsBoth_45 {base S0 cs0} (hfin : H_law18_IdsBoth base S0) (k1) (h1 : J_law18_IdsBoth base S0 cs0 p_law18_IdsBoth_1 (u_law18_IdsBoth_1 k1)) : O_law18_IdsBoth base S0 cs0 (x_law18_IdsBoth_45 k1) := OSound.cut (o_law18_IdsBoth_46 hfin k1 h1) (Nat.le_of_eq hfin.1) (s_law18_IdsBoth_45 hfin k1 h1)
@[reducible] noncomputable def p_law18_IdsBoth_44 : CPat := ⟨⟨16, [1, 1, 1, 1, 0, 1, 0, 0, 1, 0, 0, 0, 1, 0, 0, 1, 1], none, [.any, .rows .bool false, .any, .any, .any, .ptr 0 0, .ptr 1 0, .int .i64, .intC .i64 (0)], 99⟩, [], [.dat 89 T_ids_State, .dat 89 T_ids_State], 0⟩
@[reducible] noncomputable def u_law18_IdsBoth_44 (k : (List Bool) → Int → D_ids_State → D_ids_State → Option (Bool × Unit)) : denC p_law18_IdsBoth_44 → Option (Bool × Unit) := fun x => k x.1.2.1 x.1.2.2.2.2.2.2.2.1 x.2.2.1 x.2.2.2.1
noncomputable def b_law18_IdsBoth_44 (k1 : (List Bool) → Int → D_ids_State → D_ids_State → Option (Bool × Unit)) (l378 : (List Bool)) (i379 : Int) (d380 : D_ids_State) (d381 : D_ids_State) : Option (Bool × Unit) :=
  obind (ids_Next d380 (1000 : Int)) fun y382 =>
  let s383 : ByteArray := (ByteArray.mk (List.toArray ([] : List UInt8)))
  obind (ids_Next d381 (1000 : Int)) fun y384 =>
  let s385 : ByteArray := (ByteArray.mk (List.toArray ([] : List UInt8)))
  bif y382.2.2.1 then
    obind (ids_On y384.1 y382.2.1) fun y386 =>
    let b387 : Bool := (y386.2.1 != (0 : Int))
    bif b387 then
      some (false, ())
    else
      law18_IdsBoth_45 k1 l378 i379 y384.2.2.1 y382.1 y386.1 y384.2.1
  else
    law18_IdsBoth_45 k1 l378 i379 y384.2.2.1 y382.1 y384.1 y384.2.1
theorem ex_law18_IdsBoth_44 : ∃ f, f = @b_law18_IdsBoth_44 := ⟨_, rfl⟩
noncomputable def law18_IdsBoth_44 := Classical.choose ex_law18_IdsBoth_44
theorem law18_IdsBoth_44_eq : @law18_IdsBoth_44 = @b_law18_IdsBoth_44 := Classical.choose_spec ex_law18_IdsBoth_44
theorem s_law18_IdsBoth_44 {base S0 cs0} (hfin : H_law18_IdsBoth base S0) (k1) (h1 : J_law18_IdsBoth base S0 cs0 p_law18_IdsBoth_1 (u_law18_IdsBoth_1 k1)) : J_law18_IdsBoth base S0 cs0 p_law18_IdsBoth_44 (u_law18_IdsBoth_44 (law18_IdsBoth_44 k1)) :=
  JSound.join hfin.2 (o_law18_IdsBoth_45 hfin k1 h1) ks_law18_IdsBoth 100000 (by rw [law18_IdsBoth_44_eq]; intro x; kernel_rfl)
noncomputable def x_law18_IdsBoth_44 (k1 : (List Bool) → Int → D_ids_State → D_ids_State → Option (Bool × Unit)) : Cfg → Option (Option (Bool × Unit)) := cut p_law18_IdsBoth_44 (u_law18_IdsBoth_44 (law18_IdsBoth_44 k1)) (x_law18_IdsBoth_45 k1)
theorem o_law18_IdsBoth_44 {base S0 cs0} (hfin : H_law18_IdsBoth base S0) (k1) (h1 : J_law18_IdsBoth base S0 cs0 p_law18_IdsBoth_1 (u_law18_IdsBoth_1 k1)) : O_law18_IdsBoth base S0 cs0 (x_law18_IdsBoth_44 k1) := OSound.cut (o_law18_IdsBoth_45 hfin k1 h1) (Nat.le_of_eq hfin.1) (s_law18_IdsBoth_44 hfin k1 h1)
@[reducible] noncomputable def p_law18_IdsBoth_43 : CPat := ⟨⟨16, [1, 1, 1, 1, 0, 1, 0, 0, 1, 0, 0, 0, 1, 0, 0, 1, 0, 0, 1, 1, 1, 1, 1], none, [.any, .rows .bool false, .any, .any, .any, .ptr 0 0, .ptr 1 0, .int .i64, .intC .i64 (0), .any, .any, .any, .any, .ptr 2 0, .bool], 93⟩, [], [.dat 89 T_ids_State, .dat 89 T_ids_State, .dat 34 T_frame_Frame], 0⟩
@[reducible] noncomputable def u_law18_IdsBoth_43 (k : (List Bool) → Int → Bool → D_ids_State → D_ids_State → D_frame_Frame → Option (Bool × Unit)) : denC p_law18_IdsBoth_43 → Option (Bool × Unit) := fun x => k x.1.2.1 x.1.2.2.2.2.2.2.2.1 x.1.2.2.2.2.2.2.2.2.2.2.2.2.2.2.1 x.2.2.1 x.2.2.2.1 x.2.2.2.2.1
noncomputable def b_law18_IdsBoth_43 (k1 : (List Bool) → Int → D_ids_State → D_ids_State → Option (Bool × Unit)) (l370 : (List Bool)) (i371 : Int) (b372 : Bool) (d373 : D_ids_State) (d374 : D_ids_State) (d375 : D_frame_Frame) : Option (Bool × Unit) :=
  bif b372 then
    obind (ids_On d373 d375) fun y376 =>
    let b377 : Bool := (y376.2.1 != (0 : Int))
    bif b377 then
      some (false, ())
    else
      law18_IdsBoth_44 k1 l370 i371 y376.1 d374
  else
    law18_IdsBoth_44 k1 l370 i371 d373 d374
theorem ex_law18_IdsBoth_43 : ∃ f, f = @b_law18_IdsBoth_43 := ⟨_, rfl⟩
noncomputable def law18_IdsBoth_43 := Classical.choose ex_law18_IdsBoth_43
theorem law18_IdsBoth_43_eq : @law18_IdsBoth_43 = @b_law18_IdsBoth_43 := Classical.choose_spec ex_law18_IdsBoth_43
theorem s_law18_IdsBoth_43 {base S0 cs0} (hfin : H_law18_IdsBoth base S0) (k1) (h1 : J_law18_IdsBoth base S0 cs0 p_law18_IdsBoth_1 (u_law18_IdsBoth_1 k1)) : J_law18_IdsBoth base S0 cs0 p_law18_IdsBoth_43 (u_law18_IdsBoth_43 (law18_IdsBoth_43 k1)) :=
  JSound.join hfin.2 (o_law18_IdsBoth_44 hfin k1 h1) ks_law18_IdsBoth 100000 (by rw [law18_IdsBoth_43_eq]; intro x; kernel_rfl)
noncomputable def x_law18_IdsBoth_43 (k1 : (List Bool) → Int → D_ids_State → D_ids_State → Option (Bool × Unit)) : Cfg → Option (Option (Bool × Unit)) := cut p_law18_IdsBoth_43 (u_law18_IdsBoth_43 (law18_IdsBoth_43 k1)) (x_law18_IdsBoth_44 k1)
theorem o_law18_IdsBoth_43 {base S0 cs0} (hfin : H_law18_IdsBoth base S0) (k1) (h1 : J_law18_IdsBoth base S0 cs0 p_law18_IdsBoth_1 (u_law18_IdsBoth_1 k1)) : O_law18_IdsBoth base S0 cs0 (x_law18_IdsBoth_43 k1) := OSound.cut (o_law18_IdsBoth_44 hfin k1 h1) (Nat.le_of_eq hfin.1) (s_law18_IdsBoth_43 hfin k1 h1)
noncomputable def t_law18_IdsBoth_1 (k1 : (List Bool) → Int → D_ids_State → D_ids_State → Option (Bool × Unit)) (l358 : (List Bool)) (i359 : Int) (d360 : D_ids_State) (d361 : D_ids_State) : Option (Bool × Unit) :=
  let n362 : Int := (((List.length l358) : Nat) : Int)
  let b363 : Bool := (decide (i359 < n362))
  bif b363 then
    obind (ids_Next d360 (1000 : Int)) fun y364 =>
    let s365 : ByteArray := (ByteArray.mk (List.toArray ([] : List UInt8)))
    obind (ids_Next d361 (1000 : Int)) fun y366 =>
    let s367 : ByteArray := (ByteArray.mk (List.toArray ([] : List UInt8)))
    bif y364.2.2.1 then
      obind (ids_On y366.1 y364.2.1) fun y368 =>
      let b369 : Bool := (y368.2.1 != (0 : Int))
      bif b369 then
        some (false, ())
      else
        law18_IdsBoth_43 k1 l358 i359 y366.2.2.1 y364.1 y368.1 y366.2.1
    else
      law18_IdsBoth_43 k1 l358 i359 y366.2.2.1 y364.1 y366.1 y366.2.1
  else
    some (true, ())
noncomputable def law18_IdsBoth_1 : Nat → (List Bool) → Int → D_ids_State → D_ids_State → Option (Bool × Unit)
  | 0 => fun _ _ _ _ => none
  | m + 1 => t_law18_IdsBoth_1 (law18_IdsBoth_1 m)
noncomputable def b_law18_IdsBoth_1' (l358 : (List Bool)) (i359 : Int) (d360 : D_ids_State) (d361 : D_ids_State) : Option (Bool × Unit) := law18_IdsBoth_1 (Int.toNat ((((List.length l358) : Nat) : Int) - i359) + 2) l358 i359 d360 d361
theorem ex_law18_IdsBoth_1' : ∃ f, f = @b_law18_IdsBoth_1' := ⟨_, rfl⟩
noncomputable def law18_IdsBoth_1' := Classical.choose ex_law18_IdsBoth_1'
theorem law18_IdsBoth_1'_eq : @law18_IdsBoth_1' = @b_law18_IdsBoth_1' := Classical.choose_spec ex_law18_IdsBoth_1'
theorem s_law18_IdsBoth_1 {base S0 cs0} (hfin : H_law18_IdsBoth base S0) : ∀ m, J_law18_IdsBoth base S0 cs0 p_law18_IdsBoth_1 (u_law18_IdsBoth_1 (law18_IdsBoth_1 m)) :=
  JSound.loop' hfin.2 ks_law18_IdsBoth 100000 u_law18_IdsBoth_1 (fun k1 => x_law18_IdsBoth_43 k1) (fun k1 h1 => o_law18_IdsBoth_43 hfin k1 h1) (law18_IdsBoth_1) (by intro x; rfl) (by intro m x; kernel_rfl)
theorem s_law18_IdsBoth_1' {base S0 cs0} (hfin : H_law18_IdsBoth base S0) : J_law18_IdsBoth base S0 cs0 p_law18_IdsBoth_1 (u_law18_IdsBoth_1 (law18_IdsBoth_1')) := by
  rw [law18_IdsBoth_1'_eq]; exact fun x r hx => s_law18_IdsBoth_1 hfin _ x r hx
noncomputable def x_law18_IdsBoth_1 : Cfg → Option (Option (Bool × Unit)) := cut p_law18_IdsBoth_1 (u_law18_IdsBoth_1 (law18_IdsBoth_1')) (nowhere)
theorem o_law18_IdsBoth_1 {base S0 cs0} (hfin : H_law18_IdsBoth base S0) : O_law18_IdsBoth base S0 cs0 (x_law18_IdsBoth_1) := OSound.cut (OSound.nowhere) (Nat.le_of_eq hfin.1) (s_law18_IdsBoth_1' hfin)
@[reducible] noncomputable def p_law18_IdsBoth_0 : CPat := ⟨⟨16, [1, 0, 1, 0], none, [], 108⟩, [], [], 0⟩
@[reducible] noncomputable def u_law18_IdsBoth_0 (k : Option (Bool × Unit)) : denC p_law18_IdsBoth_0 → Option (Bool × Unit) := fun x => k
noncomputable def b_law18_IdsBoth_0 : Option (Bool × Unit) :=
  obind law18_shown fun y7 =>
  some y7
theorem ex_law18_IdsBoth_0 : ∃ f, f = @b_law18_IdsBoth_0 := ⟨_, rfl⟩
noncomputable def law18_IdsBoth_0 := Classical.choose ex_law18_IdsBoth_0
theorem law18_IdsBoth_0_eq : @law18_IdsBoth_0 = @b_law18_IdsBoth_0 := Classical.choose_spec ex_law18_IdsBoth_0
theorem s_law18_IdsBoth_0 {base S0 cs0} (hfin : H_law18_IdsBoth base S0) : J_law18_IdsBoth base S0 cs0 p_law18_IdsBoth_0 (u_law18_IdsBoth_0 (law18_IdsBoth_0)) :=
  JSound.join hfin.2 (o_law18_IdsBoth_1 hfin) ks_law18_IdsBoth 100000 (by rw [law18_IdsBoth_0_eq]; intro x; kernel_rfl)
noncomputable def x_law18_IdsBoth_0 : Cfg → Option (Option (Bool × Unit)) := cut p_law18_IdsBoth_0 (u_law18_IdsBoth_0 (law18_IdsBoth_0)) (x_law18_IdsBoth_1)
theorem o_law18_IdsBoth_0 {base S0 cs0} (hfin : H_law18_IdsBoth base S0) : O_law18_IdsBoth base S0 cs0 (x_law18_IdsBoth_0) := OSound.cut (o_law18_IdsBoth_1 hfin) (Nat.le_of_eq hfin.1) (s_law18_IdsBoth_0 hfin)
noncomputable def b_law18_IdsBoth (a0 : Int) (a1 : (List Bool)) : Option (Bool × Unit) :=
  let n2 : Int := (((List.length a1) : Nat) : Int)
  let b3 : Bool := (decide (n2 > (20 : Int)))
  bif b3 then
    law18_IdsBoth_0
  else
    obind law18_shown fun y4 =>
    let b5 : Bool := (!y4.1)
    bif b5 then
      law18_IdsBoth_0
    else
      obind (ids_New a0 (0 : Int)) fun y8 =>
      obind (ids_Fill y8.1 (4 : Int)) fun y9 =>
      obind (ids_New a0 (1 : Int)) fun y10 =>
      obind (ids_Fill y10.1 (4 : Int)) fun y11 =>
      law18_IdsBoth_1' a1 (0 : Int) y9.1 y11.1
theorem ex_law18_IdsBoth : ∃ f, f = @b_law18_IdsBoth := ⟨_, rfl⟩
noncomputable def law18_IdsBoth := Classical.choose ex_law18_IdsBoth
theorem law18_IdsBoth_eq : @law18_IdsBoth = @b_law18_IdsBoth := Classical.choose_spec ex_law18_IdsBoth
noncomputable def cb_law18_IdsBoth : Con := ⟨[(.int .u64), (.slice .bool)], r_law18_IdsBoth, fun x => b_law18_IdsBoth x.1 x.2.1⟩
noncomputable def c_law18_IdsBoth : Con := ⟨[(.int .u64), (.slice .bool)], r_law18_IdsBoth, fun x => law18_IdsBoth x.1 x.2.1⟩
theorem cb_law18_IdsBoth_ok : cb_law18_IdsBoth.Sound prog Inv gInv 16 :=
  con_run (M := m_law18_IdsBoth) inv_g (f := f16) rfl ks_law18_IdsBoth 100000 (X := x_law18_IdsBoth_0) (fun base S0 cs0 hn hf => have hfin : H_law18_IdsBoth base S0 := ⟨hn, hf⟩; o_law18_IdsBoth_0 hfin) (by intro x; kernel_rfl)
theorem c_law18_IdsBoth_ok : c_law18_IdsBoth.Sound prog Inv gInv 16 := by
  have e : c_law18_IdsBoth = cb_law18_IdsBoth := by unfold c_law18_IdsBoth cb_law18_IdsBoth; rw [law18_IdsBoth_eq]
  rw [e]; exact cb_law18_IdsBoth_ok
end Go.Proofs.YtjdjlijjolibkaaDoor.V
/- The law IdsBoth in plain Lean: two sides that tell one another all that has to be told can take ones again and again. -/
namespace Go.Proofs.YtjdjlijjolibkaaDoor.V
open Go.RowKit
section
variable {seed : Int}
def cA (seed : Int) (s : StT Nat) : D_ids_State := conG (phi seed 1) seed 0 s
def cB (seed : Int) (s : StT Nat) : D_ids_State := conG (phi seed 0) seed 1 s
def frT (seed side : Int) (n : Option (StT Nat × FrT Nat)) : D_frame_Frame := match n with
  | some z => frId (mapF (phi seed side) (phi seed side) z.2)
  | none => noFr
theorem nextA (s : StT Nat) (h : okS s = true) : ids_Next (cA seed s) 1000 = some (cA seed (aftT s (nextT s)), frT seed 0 (nextT s), (nextT s).isSome, ()) := by
  unfold cA
  rw [next_con rfl s (okS_is h) 1000 (by omega)]
  show some (match nextT s with | some x => _ | none => _) = _
  cases nextT s <;> rfl
theorem nextB (s : StT Nat) (h : okS s = true) : ids_Next (cB seed s) 1000 = some (cB seed (aftT s (nextT s)), frT seed 1 (nextT s), (nextT s).isSome, ()) := by
  unfold cB
  rw [next_con rfl s (okS_is h) 1000 (by omega)]
  show some (match nextT s with | some x => _ | none => _) = _
  cases nextT s <;> rfl
theorem on_con (hseed : InU seed) (side other : Int) (ho : other = 0 ∨ other = 1) (s t : StT Nat) (hs : s.2.1 = side) (f : FrT Nat) (h : deliver s f = some t) :
    ids_On (conG (phi seed other) seed side s) (frId (mapF (phi seed other) (phi seed other) f)) = some (conG (phi seed other) seed side t, 0, ()) := by
  unfold deliver at h
  split at h
  case isFalse => cases h
  rename_i hok
  obtain ⟨k, q, p, c, u⟩ := f
  simp only at h
  split at h
  · rename_i hk
    subst hk
    have := new_con (g := phi seed other) (seed := seed) (side := side) s (okS_is hok) q p c u (apart_phi seed other ho _ _ _ _)
    rw [h] at this
    exact this
  · split at h
    · rename_i hk
      obtain ⟨rfl, hq⟩ := hk
      have := ret_con (g := phi seed other) (side := side) hseed s hs (okS_is hok) q hq (phi seed other c) (phi seed other u) p
      rw [h] at this
      exact this
    · cases h
theorem rnd_facts (hseed : InU seed) (x y : Two) (h : rnd x = some y) : ∃ (d1 e1 : D_ids_State) (f g : D_frame_Frame) (is was : Bool), ids_Next (cA seed x.1) 1000 = some (d1, f, is, ()) ∧ ids_Next (cB seed x.2) 1000 = some (e1, g, was, ()) ∧
    (is = true → ids_On e1 f = some (cB seed y.2, 0, ())) ∧ (is = false → cB seed y.2 = e1) ∧ (was = true → ids_On d1 g = some (cA seed y.1, 0, ())) ∧ (was = false → cA seed y.1 = d1) := by
  unfold rnd at h
  split at h
  case isFalse => cases h
  rename_i hc
  simp only [Bool.and_eq_true, decide_eq_true_eq] at hc
  obtain ⟨⟨⟨hA, hB⟩, _⟩, hs1, hs2⟩ := hc
  refine ⟨_, _, _, _, _, _, nextA x.1 hA, nextB x.2 hB, ?_⟩
  generalize aftT x.1 (nextT x.1) = a1 at *
  generalize aftT x.2 (nextT x.2) = b1 at *
  generalize nextT x.1 = na at *
  generalize nextT x.2 = nb at *
  split at h
  case h_2 => cases h
  rename_i b2 hb2
  split at h
  case h_2 => cases h
  rename_i a2 ha2
  cases h
  refine ⟨fun hi => ?_, fun hi => ?_, fun hi => ?_, fun hi => ?_⟩
  · cases na with
    | none => cases hi
    | some z => exact on_con hseed 1 0 (.inl rfl) b1 b2 hs2 z.2 hb2
  · cases na with
    | none => cases hb2; rfl
    | some z => cases hi
  · cases nb with
    | none => cases hi
    | some z => exact on_con hseed 0 1 (.inr rfl) a1 a2 hs1 z.2 ha2
  · cases nb with
    | none => cases ha2; rfl
    | some z => cases hi
theorem gate1 (m : Nat) (l : List Bool) (i : Int) (d e d1 e1 d2 e2 : D_ids_State) (f g : D_frame_Frame) (is was : Bool) (hi : i < ((l.length : Nat) : Int)) (h1 : ids_Next d 1000 = some (d1, f, is, ())) (h2 : ids_Next e 1000 = some (e1, g, was, ()))
    (h3 : is = true → ids_On e1 f = some (e2, 0, ())) (h4 : is = false → e2 = e1) (h5 : was = true → ids_On d1 g = some (d2, 0, ())) (h6 : was = false → d2 = d1) : law18_IdsBoth_1 (m + 1) l i d e = law18_IdsBoth_44 (law18_IdsBoth_1 m) l i d2 e2 := by
  simp only [law18_IdsBoth_1, t_law18_IdsBoth_1, hi, decide_true, cond_true]
  have c0 : ((0 : Int) != 0) = false := rfl
  cases is <;> cases was
  · rw [h4 rfl, h6 rfl]
    simp only [h1, h2, obind_some, cond_false, law18_IdsBoth_43_eq, b_law18_IdsBoth_43]
  · rw [h4 rfl]
    simp only [h1, h2, h5 rfl, obind_some, cond_false, cond_true, law18_IdsBoth_43_eq, b_law18_IdsBoth_43, c0]
  · rw [h6 rfl]
    simp only [h1, h2, h3 rfl, obind_some, cond_false, cond_true, law18_IdsBoth_43_eq, b_law18_IdsBoth_43, c0]
  · simp only [h1, h2, h3 rfl, h5 rfl, obind_some, cond_false, cond_true, law18_IdsBoth_43_eq, b_law18_IdsBoth_43, c0]
theorem gate44 (k1 : List Bool → Int → D_ids_State → D_ids_State → Option (Bool × Unit)) (l : List Bool) (i : Int) (d e d1 e1 d2 e2 : D_ids_State) (f g : D_frame_Frame) (is was : Bool) (h1 : ids_Next d 1000 = some (d1, f, is, ())) (h2 : ids_Next e 1000 = some (e1, g, was, ()))
    (h3 : is = true → ids_On e1 f = some (e2, 0, ())) (h4 : is = false → e2 = e1) (h5 : was = true → ids_On d1 g = some (d2, 0, ())) (h6 : was = false → d2 = d1) : law18_IdsBoth_44 k1 l i d e = law18_IdsBoth_46 k1 l i d2 e2 := by
  rw [law18_IdsBoth_44_eq, b_law18_IdsBoth_44]
  have c0 : ((0 : Int) != 0) = false := rfl
  cases is <;> cases was
  · rw [h4 rfl, h6 rfl]
    simp only [h1, h2, obind_some, cond_false, law18_IdsBoth_45_eq, b_law18_IdsBoth_45]
  · rw [h4 rfl]
    simp only [h1, h2, h5 rfl, obind_some, cond_false, cond_true, law18_IdsBoth_45_eq, b_law18_IdsBoth_45, c0]
  · rw [h6 rfl]
    simp only [h1, h2, h3 rfl, obind_some, cond_false, cond_true, law18_IdsBoth_45_eq, b_law18_IdsBoth_45, c0]
  · simp only [h1, h2, h3 rfl, h5 rfl, obind_some, cond_false, cond_true, law18_IdsBoth_45_eq, b_law18_IdsBoth_45, c0]
theorem gate46 (k1 : List Bool → Int → D_ids_State → D_ids_State → Option (Bool × Unit)) (l : List Bool) (i : Int) (d e d1 e1 d2 e2 : D_ids_State) (f g : D_frame_Frame) (is was : Bool) (h1 : ids_Next d 1000 = some (d1, f, is, ())) (h2 : ids_Next e 1000 = some (e1, g, was, ()))
    (h3 : is = true → ids_On e1 f = some (e2, 0, ())) (h4 : is = false → e2 = e1) (h5 : was = true → ids_On d1 g = some (d2, 0, ())) (h6 : was = false → d2 = d1) : law18_IdsBoth_46 k1 l i d e = law18_IdsBoth_48 k1 l i d2 e2 := by
  rw [law18_IdsBoth_46_eq, b_law18_IdsBoth_46]
  have c0 : ((0 : Int) != 0) = false := rfl
  cases is <;> cases was
  · rw [h4 rfl, h6 rfl]
    simp only [h1, h2, obind_some, cond_false, law18_IdsBoth_47_eq, b_law18_IdsBoth_47]
  · rw [h4 rfl]
    simp only [h1, h2, h5 rfl, obind_some, cond_false, cond_true, law18_IdsBoth_47_eq, b_law18_IdsBoth_47, c0]
  · rw [h6 rfl]
    simp only [h1, h2, h3 rfl, obind_some, cond_false, cond_true, law18_IdsBoth_47_eq, b_law18_IdsBoth_47, c0]
  · simp only [h1, h2, h3 rfl, h5 rfl, obind_some, cond_false, cond_true, law18_IdsBoth_47_eq, b_law18_IdsBoth_47, c0]
theorem gate48 (k1 : List Bool → Int → D_ids_State → D_ids_State → Option (Bool × Unit)) (l : List Bool) (i : Int) (d e d1 e1 d2 e2 : D_ids_State) (f g : D_frame_Frame) (is was : Bool) (h1 : ids_Next d 1000 = some (d1, f, is, ())) (h2 : ids_Next e 1000 = some (e1, g, was, ()))
    (h3 : is = true → ids_On e1 f = some (e2, 0, ())) (h4 : is = false → e2 = e1) (h5 : was = true → ids_On d1 g = some (d2, 0, ())) (h6 : was = false → d2 = d1) : law18_IdsBoth_48 k1 l i d e = law18_IdsBoth_50 k1 l i d2 e2 := by
  rw [law18_IdsBoth_48_eq, b_law18_IdsBoth_48]
  have c0 : ((0 : Int) != 0) = false := rfl
  cases is <;> cases was
  · rw [h4 rfl, h6 rfl]
    simp only [h1, h2, obind_some, cond_false, law18_IdsBoth_49_eq, b_law18_IdsBoth_49]
  · rw [h4 rfl]
    simp only [h1, h2, h5 rfl, obind_some, cond_false, cond_true, law18_IdsBoth_49_eq, b_law18_IdsBoth_49, c0]
  · rw [h6 rfl]
    simp only [h1, h2, h3 rfl, obind_some, cond_false, cond_true, law18_IdsBoth_49_eq, b_law18_IdsBoth_49, c0]
  · simp only [h1, h2, h3 rfl, h5 rfl, obind_some, cond_false, cond_true, law18_IdsBoth_49_eq, b_law18_IdsBoth_49, c0]
theorem gate50 (k1 : List Bool → Int → D_ids_State → D_ids_State → Option (Bool × Unit)) (l : List Bool) (i : Int) (d e d1 e1 d2 e2 : D_ids_State) (f g : D_frame_Frame) (is was : Bool) (h1 : ids_Next d 1000 = some (d1, f, is, ())) (h2 : ids_Next e 1000 = some (e1, g, was, ()))
    (h3 : is = true → ids_On e1 f = some (e2, 0, ())) (h4 : is = false → e2 = e1) (h5 : was = true → ids_On d1 g = some (d2, 0, ())) (h6 : was = false → d2 = d1) : law18_IdsBoth_50 k1 l i d e = law18_IdsBoth_52 k1 l i d2 e2 := by
  rw [law18_IdsBoth_50_eq, b_law18_IdsBoth_50]
  have c0 : ((0 : Int) != 0) = false := rfl
  cases is <;> cases was
  · rw [h4 rfl, h6 rfl]
    simp only [h1, h2, obind_some, cond_false, law18_IdsBoth_51_eq, b_law18_IdsBoth_51]
  · rw [h4 rfl]
    simp only [h1, h2, h5 rfl, obind_some, cond_false, cond_true, law18_IdsBoth_51_eq, b_law18_IdsBoth_51, c0]
  · rw [h6 rfl]
    simp only [h1, h2, h3 rfl, obind_some, cond_false, cond_true, law18_IdsBoth_51_eq, b_law18_IdsBoth_51, c0]
  · simp only [h1, h2, h3 rfl, h5 rfl, obind_some, cond_false, cond_true, law18_IdsBoth_51_eq, b_law18_IdsBoth_51, c0]
theorem gate52 (k1 : List Bool → Int → D_ids_State → D_ids_State → Option (Bool × Unit)) (l : List Bool) (i : Int) (d e d1 e1 d2 e2 : D_ids_State) (f g : D_frame_Frame) (is was : Bool) (h1 : ids_Next d 1000 = some (d1, f, is, ())) (h2 : ids_Next e 1000 = some (e1, g, was, ()))
    (h3 : is = true → ids_On e1 f = some (e2, 0, ())) (h4 : is = false → e2 = e1) (h5 : was = true → ids_On d1 g = some (d2, 0, ())) (h6 : was = false → d2 = d1) : law18_IdsBoth_52 k1 l i d e = law18_IdsBoth_54 k1 l i d2 e2 := by
  rw [law18_IdsBoth_52_eq, b_law18_IdsBoth_52]
  have c0 : ((0 : Int) != 0) = false := rfl
  cases is <;> cases was
  · rw [h4 rfl, h6 rfl]
    simp only [h1, h2, obind_some, cond_false, law18_IdsBoth_53_eq, b_law18_IdsBoth_53]
  · rw [h4 rfl]
    simp only [h1, h2, h5 rfl, obind_some, cond_false, cond_true, law18_IdsBoth_53_eq, b_law18_IdsBoth_53, c0]
  · rw [h6 rfl]
    simp only [h1, h2, h3 rfl, obind_some, cond_false, cond_true, law18_IdsBoth_53_eq, b_law18_IdsBoth_53, c0]
  · simp only [h1, h2, h3 rfl, h5 rfl, obind_some, cond_false, cond_true, law18_IdsBoth_53_eq, b_law18_IdsBoth_53, c0]
theorem gate54 (k1 : List Bool → Int → D_ids_State → D_ids_State → Option (Bool × Unit)) (l : List Bool) (i : Int) (d e d1 e1 d2 e2 : D_ids_State) (f g : D_frame_Frame) (is was : Bool) (h1 : ids_Next d 1000 = some (d1, f, is, ())) (h2 : ids_Next e 1000 = some (e1, g, was, ()))
    (h3 : is = true → ids_On e1 f = some (e2, 0, ())) (h4 : is = false → e2 = e1) (h5 : was = true → ids_On d1 g = some (d2, 0, ())) (h6 : was = false → d2 = d1) : law18_IdsBoth_54 k1 l i d e = law18_IdsBoth_56 k1 l i d2 e2 := by
  rw [law18_IdsBoth_54_eq, b_law18_IdsBoth_54]
  have c0 : ((0 : Int) != 0) = false := rfl
  cases is <;> cases was
  · rw [h4 rfl, h6 rfl]
    simp only [h1, h2, obind_some, cond_false, law18_IdsBoth_55_eq, b_law18_IdsBoth_55]
  · rw [h4 rfl]
    simp only [h1, h2, h5 rfl, obind_some, cond_false, cond_true, law18_IdsBoth_55_eq, b_law18_IdsBoth_55, c0]
  · rw [h6 rfl]
    simp only [h1, h2, h3 rfl, obind_some, cond_false, cond_true, law18_IdsBoth_55_eq, b_law18_IdsBoth_55, c0]
  · simp only [h1, h2, h3 rfl, h5 rfl, obind_some, cond_false, cond_true, law18_IdsBoth_55_eq, b_law18_IdsBoth_55, c0]
theorem gate56 (k1 : List Bool → Int → D_ids_State → D_ids_State → Option (Bool × Unit)) (l : List Bool) (i : Int) (d e d1 e1 d2 e2 : D_ids_State) (f g : D_frame_Frame) (is was : Bool) (h1 : ids_Next d 1000 = some (d1, f, is, ())) (h2 : ids_Next e 1000 = some (e1, g, was, ()))
    (h3 : is = true → ids_On e1 f = some (e2, 0, ())) (h4 : is = false → e2 = e1) (h5 : was = true → ids_On d1 g = some (d2, 0, ())) (h6 : was = false → d2 = d1) : law18_IdsBoth_56 k1 l i d e = law18_IdsBoth_58 k1 l i d2 e2 := by
  rw [law18_IdsBoth_56_eq, b_law18_IdsBoth_56]
  have c0 : ((0 : Int) != 0) = false := rfl
  cases is <;> cases was
  · rw [h4 rfl, h6 rfl]
    simp only [h1, h2, obind_some, cond_false, law18_IdsBoth_57_eq, b_law18_IdsBoth_57]
  · rw [h4 rfl]
    simp only [h1, h2, h5 rfl, obind_some, cond_false, cond_true, law18_IdsBoth_57_eq, b_law18_IdsBoth_57, c0]
  · rw [h6 rfl]
    simp only [h1, h2, h3 rfl, obind_some, cond_false, cond_true, law18_IdsBoth_57_eq, b_law18_IdsBoth_57, c0]
  · simp only [h1, h2, h3 rfl, h5 rfl, obind_some, cond_false, cond_true, law18_IdsBoth_57_eq, b_law18_IdsBoth_57, c0]
theorem gate58 (k1 : List Bool → Int → D_ids_State → D_ids_State → Option (Bool × Unit)) (l : List Bool) (i : Int) (d e d1 e1 d2 e2 : D_ids_State) (f g : D_frame_Frame) (is was : Bool) (h1 : ids_Next d 1000 = some (d1, f, is, ())) (h2 : ids_Next e 1000 = some (e1, g, was, ()))
    (h3 : is = true → ids_On e1 f = some (e2, 0, ())) (h4 : is = false → e2 = e1) (h5 : was = true → ids_On d1 g = some (d2, 0, ())) (h6 : was = false → d2 = d1) : law18_IdsBoth_58 k1 l i d e = law18_IdsBoth_60 k1 l i d2 e2 := by
  rw [law18_IdsBoth_58_eq, b_law18_IdsBoth_58]
  have c0 : ((0 : Int) != 0) = false := rfl
  cases is <;> cases was
  · rw [h4 rfl, h6 rfl]
    simp only [h1, h2, obind_some, cond_false, law18_IdsBoth_59_eq, b_law18_IdsBoth_59]
  · rw [h4 rfl]
    simp only [h1, h2, h5 rfl, obind_some, cond_false, cond_true, law18_IdsBoth_59_eq, b_law18_IdsBoth_59, c0]
  · rw [h6 rfl]
    simp only [h1, h2, h3 rfl, obind_some, cond_false, cond_true, law18_IdsBoth_59_eq, b_law18_IdsBoth_59, c0]
  · simp only [h1, h2, h3 rfl, h5 rfl, obind_some, cond_false, cond_true, law18_IdsBoth_59_eq, b_law18_IdsBoth_59, c0]
theorem gate60 (k1 : List Bool → Int → D_ids_State → D_ids_State → Option (Bool × Unit)) (l : List Bool) (i : Int) (d e d1 e1 d2 e2 : D_ids_State) (f g : D_frame_Frame) (is was : Bool) (h1 : ids_Next d 1000 = some (d1, f, is, ())) (h2 : ids_Next e 1000 = some (e1, g, was, ()))
    (h3 : is = true → ids_On e1 f = some (e2, 0, ())) (h4 : is = false → e2 = e1) (h5 : was = true → ids_On d1 g = some (d2, 0, ())) (h6 : was = false → d2 = d1) : law18_IdsBoth_60 k1 l i d e = law18_IdsBoth_62 k1 l i d2 e2 := by
  rw [law18_IdsBoth_60_eq, b_law18_IdsBoth_60]
  have c0 : ((0 : Int) != 0) = false := rfl
  cases is <;> cases was
  · rw [h4 rfl, h6 rfl]
    simp only [h1, h2, obind_some, cond_false, law18_IdsBoth_61_eq, b_law18_IdsBoth_61]
  · rw [h4 rfl]
    simp only [h1, h2, h5 rfl, obind_some, cond_false, cond_true, law18_IdsBoth_61_eq, b_law18_IdsBoth_61, c0]
  · rw [h6 rfl]
    simp only [h1, h2, h3 rfl, obind_some, cond_false, cond_true, law18_IdsBoth_61_eq, b_law18_IdsBoth_61, c0]
  · simp only [h1, h2, h3 rfl, h5 rfl, obind_some, cond_false, cond_true, law18_IdsBoth_61_eq, b_law18_IdsBoth_61, c0]
theorem gate62 (k1 : List Bool → Int → D_ids_State → D_ids_State → Option (Bool × Unit)) (l : List Bool) (i : Int) (d e d1 e1 d2 e2 : D_ids_State) (f g : D_frame_Frame) (is was : Bool) (h1 : ids_Next d 1000 = some (d1, f, is, ())) (h2 : ids_Next e 1000 = some (e1, g, was, ()))
    (h3 : is = true → ids_On e1 f = some (e2, 0, ())) (h4 : is = false → e2 = e1) (h5 : was = true → ids_On d1 g = some (d2, 0, ())) (h6 : was = false → d2 = d1) : law18_IdsBoth_62 k1 l i d e = law18_IdsBoth_64 k1 l i d2 e2 := by
  rw [law18_IdsBoth_62_eq, b_law18_IdsBoth_62]
  have c0 : ((0 : Int) != 0) = false := rfl
  cases is <;> cases was
  · rw [h4 rfl, h6 rfl]
    simp only [h1, h2, obind_some, cond_false, law18_IdsBoth_63_eq, b_law18_IdsBoth_63]
  · rw [h4 rfl]
    simp only [h1, h2, h5 rfl, obind_some, cond_false, cond_true, law18_IdsBoth_63_eq, b_law18_IdsBoth_63, c0]
  · rw [h6 rfl]
    simp only [h1, h2, h3 rfl, obind_some, cond_false, cond_true, law18_IdsBoth_63_eq, b_law18_IdsBoth_63, c0]
  · simp only [h1, h2, h3 rfl, h5 rfl, obind_some, cond_false, cond_true, law18_IdsBoth_63_eq, b_law18_IdsBoth_63, c0]
theorem gate64 (k1 : List Bool → Int → D_ids_State → D_ids_State → Option (Bool × Unit)) (l : List Bool) (i : Int) (d e d1 e1 d2 e2 : D_ids_State) (f g : D_frame_Frame) (is was : Bool) (h1 : ids_Next d 1000 = some (d1, f, is, ())) (h2 : ids_Next e 1000 = some (e1, g, was, ()))
    (h3 : is = true → ids_On e1 f = some (e2, 0, ())) (h4 : is = false → e2 = e1) (h5 : was = true → ids_On d1 g = some (d2, 0, ())) (h6 : was = false → d2 = d1) : law18_IdsBoth_64 k1 l i d e = law18_IdsBoth_66 k1 l i d2 e2 := by
  rw [law18_IdsBoth_64_eq, b_law18_IdsBoth_64]
  have c0 : ((0 : Int) != 0) = false := rfl
  cases is <;> cases was
  · rw [h4 rfl, h6 rfl]
    simp only [h1, h2, obind_some, cond_false, law18_IdsBoth_65_eq, b_law18_IdsBoth_65]
  · rw [h4 rfl]
    simp only [h1, h2, h5 rfl, obind_some, cond_false, cond_true, law18_IdsBoth_65_eq, b_law18_IdsBoth_65, c0]
  · rw [h6 rfl]
    simp only [h1, h2, h3 rfl, obind_some, cond_false, cond_true, law18_IdsBoth_65_eq, b_law18_IdsBoth_65, c0]
  · simp only [h1, h2, h3 rfl, h5 rfl, obind_some, cond_false, cond_true, law18_IdsBoth_65_eq, b_law18_IdsBoth_65, c0]
theorem gate66 (k1 : List Bool → Int → D_ids_State → D_ids_State → Option (Bool × Unit)) (l : List Bool) (i : Int) (d e d1 e1 d2 e2 : D_ids_State) (f g : D_frame_Frame) (is was : Bool) (h1 : ids_Next d 1000 = some (d1, f, is, ())) (h2 : ids_Next e 1000 = some (e1, g, was, ()))
    (h3 : is = true → ids_On e1 f = some (e2, 0, ())) (h4 : is = false → e2 = e1) (h5 : was = true → ids_On d1 g = some (d2, 0, ())) (h6 : was = false → d2 = d1) : law18_IdsBoth_66 k1 l i d e = law18_IdsBoth_68 k1 l i d2 e2 := by
  rw [law18_IdsBoth_66_eq, b_law18_IdsBoth_66]
  have c0 : ((0 : Int) != 0) = false := rfl
  cases is <;> cases was
  · rw [h4 rfl, h6 rfl]
    simp only [h1, h2, obind_some, cond_false, law18_IdsBoth_67_eq, b_law18_IdsBoth_67]
  · rw [h4 rfl]
    simp only [h1, h2, h5 rfl, obind_some, cond_false, cond_true, law18_IdsBoth_67_eq, b_law18_IdsBoth_67, c0]
  · rw [h6 rfl]
    simp only [h1, h2, h3 rfl, obind_some, cond_false, cond_true, law18_IdsBoth_67_eq, b_law18_IdsBoth_67, c0]
  · simp only [h1, h2, h3 rfl, h5 rfl, obind_some, cond_false, cond_true, law18_IdsBoth_67_eq, b_law18_IdsBoth_67, c0]
theorem gate68 (k1 : List Bool → Int → D_ids_State → D_ids_State → Option (Bool × Unit)) (l : List Bool) (i : Int) (d e d1 e1 d2 e2 : D_ids_State) (f g : D_frame_Frame) (is was : Bool) (h1 : ids_Next d 1000 = some (d1, f, is, ())) (h2 : ids_Next e 1000 = some (e1, g, was, ()))
    (h3 : is = true → ids_On e1 f = some (e2, 0, ())) (h4 : is = false → e2 = e1) (h5 : was = true → ids_On d1 g = some (d2, 0, ())) (h6 : was = false → d2 = d1) : law18_IdsBoth_68 k1 l i d e = law18_IdsBoth_70 k1 l i d2 e2 := by
  rw [law18_IdsBoth_68_eq, b_law18_IdsBoth_68]
  have c0 : ((0 : Int) != 0) = false := rfl
  cases is <;> cases was
  · rw [h4 rfl, h6 rfl]
    simp only [h1, h2, obind_some, cond_false, law18_IdsBoth_69_eq, b_law18_IdsBoth_69]
  · rw [h4 rfl]
    simp only [h1, h2, h5 rfl, obind_some, cond_false, cond_true, law18_IdsBoth_69_eq, b_law18_IdsBoth_69, c0]
  · rw [h6 rfl]
    simp only [h1, h2, h3 rfl, obind_some, cond_false, cond_true, law18_IdsBoth_69_eq, b_law18_IdsBoth_69, c0]
  · simp only [h1, h2, h3 rfl, h5 rfl, obind_some, cond_false, cond_true, law18_IdsBoth_69_eq, b_law18_IdsBoth_69, c0]
theorem gate70 (k1 : List Bool → Int → D_ids_State → D_ids_State → Option (Bool × Unit)) (l : List Bool) (i : Int) (d e d1 e1 d2 e2 : D_ids_State) (f g : D_frame_Frame) (is was : Bool) (h1 : ids_Next d 1000 = some (d1, f, is, ())) (h2 : ids_Next e 1000 = some (e1, g, was, ()))
    (h3 : is = true → ids_On e1 f = some (e2, 0, ())) (h4 : is = false → e2 = e1) (h5 : was = true → ids_On d1 g = some (d2, 0, ())) (h6 : was = false → d2 = d1) : law18_IdsBoth_70 k1 l i d e = law18_IdsBoth_72 k1 l i d2 e2 := by
  rw [law18_IdsBoth_70_eq, b_law18_IdsBoth_70]
  have c0 : ((0 : Int) != 0) = false := rfl
  cases is <;> cases was
  · rw [h4 rfl, h6 rfl]
    simp only [h1, h2, obind_some, cond_false, law18_IdsBoth_71_eq, b_law18_IdsBoth_71]
  · rw [h4 rfl]
    simp only [h1, h2, h5 rfl, obind_some, cond_false, cond_true, law18_IdsBoth_71_eq, b_law18_IdsBoth_71, c0]
  · rw [h6 rfl]
    simp only [h1, h2, h3 rfl, obind_some, cond_false, cond_true, law18_IdsBoth_71_eq, b_law18_IdsBoth_71, c0]
  · simp only [h1, h2, h3 rfl, h5 rfl, obind_some, cond_false, cond_true, law18_IdsBoth_71_eq, b_law18_IdsBoth_71, c0]
theorem gate72 (k1 : List Bool → Int → D_ids_State → D_ids_State → Option (Bool × Unit)) (l : List Bool) (i : Int) (d e d1 e1 d2 e2 : D_ids_State) (f g : D_frame_Frame) (is was : Bool) (h1 : ids_Next d 1000 = some (d1, f, is, ())) (h2 : ids_Next e 1000 = some (e1, g, was, ()))
    (h3 : is = true → ids_On e1 f = some (e2, 0, ())) (h4 : is = false → e2 = e1) (h5 : was = true → ids_On d1 g = some (d2, 0, ())) (h6 : was = false → d2 = d1) : law18_IdsBoth_72 k1 l i d e = law18_IdsBoth_74 k1 l i d2 e2 := by
  rw [law18_IdsBoth_72_eq, b_law18_IdsBoth_72]
  have c0 : ((0 : Int) != 0) = false := rfl
  cases is <;> cases was
  · rw [h4 rfl, h6 rfl]
    simp only [h1, h2, obind_some, cond_false, law18_IdsBoth_73_eq, b_law18_IdsBoth_73]
  · rw [h4 rfl]
    simp only [h1, h2, h5 rfl, obind_some, cond_false, cond_true, law18_IdsBoth_73_eq, b_law18_IdsBoth_73, c0]
  · rw [h6 rfl]
    simp only [h1, h2, h3 rfl, obind_some, cond_false, cond_true, law18_IdsBoth_73_eq, b_law18_IdsBoth_73, c0]
  · simp only [h1, h2, h3 rfl, h5 rfl, obind_some, cond_false, cond_true, law18_IdsBoth_73_eq, b_law18_IdsBoth_73, c0]
theorem gate74 (k1 : List Bool → Int → D_ids_State → D_ids_State → Option (Bool × Unit)) (l : List Bool) (i : Int) (d e d1 e1 d2 e2 : D_ids_State) (f g : D_frame_Frame) (is was : Bool) (h1 : ids_Next d 1000 = some (d1, f, is, ())) (h2 : ids_Next e 1000 = some (e1, g, was, ()))
    (h3 : is = true → ids_On e1 f = some (e2, 0, ())) (h4 : is = false → e2 = e1) (h5 : was = true → ids_On d1 g = some (d2, 0, ())) (h6 : was = false → d2 = d1) : law18_IdsBoth_74 k1 l i d e = law18_IdsBoth_76 k1 l i d2 e2 := by
  rw [law18_IdsBoth_74_eq, b_law18_IdsBoth_74]
  have c0 : ((0 : Int) != 0) = false := rfl
  cases is <;> cases was
  · rw [h4 rfl, h6 rfl]
    simp only [h1, h2, obind_some, cond_false, law18_IdsBoth_75_eq, b_law18_IdsBoth_75]
  · rw [h4 rfl]
    simp only [h1, h2, h5 rfl, obind_some, cond_false, cond_true, law18_IdsBoth_75_eq, b_law18_IdsBoth_75, c0]
  · rw [h6 rfl]
    simp only [h1, h2, h3 rfl, obind_some, cond_false, cond_true, law18_IdsBoth_75_eq, b_law18_IdsBoth_75, c0]
  · simp only [h1, h2, h3 rfl, h5 rfl, obind_some, cond_false, cond_true, law18_IdsBoth_75_eq, b_law18_IdsBoth_75, c0]
theorem gate76 (k1 : List Bool → Int → D_ids_State → D_ids_State → Option (Bool × Unit)) (l : List Bool) (i : Int) (d e d1 e1 d2 e2 : D_ids_State) (f g : D_frame_Frame) (is was : Bool) (h1 : ids_Next d 1000 = some (d1, f, is, ())) (h2 : ids_Next e 1000 = some (e1, g, was, ()))
    (h3 : is = true → ids_On e1 f = some (e2, 0, ())) (h4 : is = false → e2 = e1) (h5 : was = true → ids_On d1 g = some (d2, 0, ())) (h6 : was = false → d2 = d1) : law18_IdsBoth_76 k1 l i d e = law18_IdsBoth_78 k1 l i d2 e2 := by
  rw [law18_IdsBoth_76_eq, b_law18_IdsBoth_76]
  have c0 : ((0 : Int) != 0) = false := rfl
  cases is <;> cases was
  · rw [h4 rfl, h6 rfl]
    simp only [h1, h2, obind_some, cond_false, law18_IdsBoth_77_eq, b_law18_IdsBoth_77]
  · rw [h4 rfl]
    simp only [h1, h2, h5 rfl, obind_some, cond_false, cond_true, law18_IdsBoth_77_eq, b_law18_IdsBoth_77, c0]
  · rw [h6 rfl]
    simp only [h1, h2, h3 rfl, obind_some, cond_false, cond_true, law18_IdsBoth_77_eq, b_law18_IdsBoth_77, c0]
  · simp only [h1, h2, h3 rfl, h5 rfl, obind_some, cond_false, cond_true, law18_IdsBoth_77_eq, b_law18_IdsBoth_77, c0]
theorem gate78 (k1 : List Bool → Int → D_ids_State → D_ids_State → Option (Bool × Unit)) (l : List Bool) (i : Int) (d e d1 e1 d2 e2 : D_ids_State) (f g : D_frame_Frame) (is was : Bool) (h1 : ids_Next d 1000 = some (d1, f, is, ())) (h2 : ids_Next e 1000 = some (e1, g, was, ()))
    (h3 : is = true → ids_On e1 f = some (e2, 0, ())) (h4 : is = false → e2 = e1) (h5 : was = true → ids_On d1 g = some (d2, 0, ())) (h6 : was = false → d2 = d1) : law18_IdsBoth_78 k1 l i d e = law18_IdsBoth_80 k1 l i d2 e2 := by
  rw [law18_IdsBoth_78_eq, b_law18_IdsBoth_78]
  have c0 : ((0 : Int) != 0) = false := rfl
  cases is <;> cases was
  · rw [h4 rfl, h6 rfl]
    simp only [h1, h2, obind_some, cond_false, law18_IdsBoth_79_eq, b_law18_IdsBoth_79]
  · rw [h4 rfl]
    simp only [h1, h2, h5 rfl, obind_some, cond_false, cond_true, law18_IdsBoth_79_eq, b_law18_IdsBoth_79, c0]
  · rw [h6 rfl]
    simp only [h1, h2, h3 rfl, obind_some, cond_false, cond_true, law18_IdsBoth_79_eq, b_law18_IdsBoth_79, c0]
  · simp only [h1, h2, h3 rfl, h5 rfl, obind_some, cond_false, cond_true, law18_IdsBoth_79_eq, b_law18_IdsBoth_79, c0]
theorem gate80 (k1 : List Bool → Int → D_ids_State → D_ids_State → Option (Bool × Unit)) (l : List Bool) (i : Int) (d e d1 e1 d2 e2 : D_ids_State) (f g : D_frame_Frame) (is was : Bool) (h1 : ids_Next d 1000 = some (d1, f, is, ())) (h2 : ids_Next e 1000 = some (e1, g, was, ()))
    (h3 : is = true → ids_On e1 f = some (e2, 0, ())) (h4 : is = false → e2 = e1) (h5 : was = true → ids_On d1 g = some (d2, 0, ())) (h6 : was = false → d2 = d1) : law18_IdsBoth_80 k1 l i d e = law18_IdsBoth_82 k1 l i d2 e2 := by
  rw [law18_IdsBoth_80_eq, b_law18_IdsBoth_80]
  have c0 : ((0 : Int) != 0) = false := rfl
  cases is <;> cases was
  · rw [h4 rfl, h6 rfl]
    simp only [h1, h2, obind_some, cond_false, law18_IdsBoth_81_eq, b_law18_IdsBoth_81]
  · rw [h4 rfl]
    simp only [h1, h2, h5 rfl, obind_some, cond_false, cond_true, law18_IdsBoth_81_eq, b_law18_IdsBoth_81, c0]
  · rw [h6 rfl]
    simp only [h1, h2, h3 rfl, obind_some, cond_false, cond_true, law18_IdsBoth_81_eq, b_law18_IdsBoth_81, c0]
  · simp only [h1, h2, h3 rfl, h5 rfl, obind_some, cond_false, cond_true, law18_IdsBoth_81_eq, b_law18_IdsBoth_81, c0]
theorem rnds_succ {n : Nat} {x z : Two} (h : rnds (n + 1) x = some z) : ∃ y, rnd x = some y ∧ rnds n y = some z := by
  rw [rnds] at h
  cases hr : rnd x with
  | none => rw [hr] at h; cases h
  | some y => rw [hr] at h; exact ⟨y, rfl, h⟩
theorem twenty (hseed : InU seed) (m : Nat) (l : List Bool) (i : Int) (hi : i < ((l.length : Nat) : Int)) (x z : Two) (h : rnds 20 x = some z) : law18_IdsBoth_1 (m + 1) l i (cA seed x.1) (cB seed x.2) = law18_IdsBoth_82 (law18_IdsBoth_1 m) l i (cA seed z.1) (cB seed z.2) := by
  obtain ⟨x1, r1, h⟩ := rnds_succ h
  obtain ⟨d1, e1, f, g, is, was, a1, a2, a3, a4, a5, a6⟩ := rnd_facts hseed _ _ r1
  rw [gate1 m l i _ _ d1 e1 _ _ f g is was hi a1 a2 a3 a4 a5 a6]
  obtain ⟨x2, r2, h⟩ := rnds_succ h
  obtain ⟨d1, e1, f, g, is, was, a1, a2, a3, a4, a5, a6⟩ := rnd_facts hseed _ _ r2
  rw [gate44 _ l i _ _ d1 e1 _ _ f g is was a1 a2 a3 a4 a5 a6]
  obtain ⟨x3, r3, h⟩ := rnds_succ h
  obtain ⟨d1, e1, f, g, is, was, a1, a2, a3, a4, a5, a6⟩ := rnd_facts hseed _ _ r3
  rw [gate46 _ l i _ _ d1 e1 _ _ f g is was a1 a2 a3 a4 a5 a6]
  obtain ⟨x4, r4, h⟩ := rnds_succ h
  obtain ⟨d1, e1, f, g, is, was, a1, a2, a3, a4, a5, a6⟩ := rnd_facts hseed _ _ r4
  rw [gate48 _ l i _ _ d1 e1 _ _ f g is was a1 a2 a3 a4 a5 a6]
  obtain ⟨x5, r5, h⟩ := rnds_succ h
  obtain ⟨d1, e1, f, g, is, was, a1, a2, a3, a4, a5, a6⟩ := rnd_facts hseed _ _ r5
  rw [gate50 _ l i _ _ d1 e1 _ _ f g is was a1 a2 a3 a4 a5 a6]
  obtain ⟨x6, r6, h⟩ := rnds_succ h
  obtain ⟨d1, e1, f, g, is, was, a1, a2, a3, a4, a5, a6⟩ := rnd_facts hseed _ _ r6
  rw [gate52 _ l i _ _ d1 e1 _ _ f g is was a1 a2 a3 a4 a5 a6]
  obtain ⟨x7, r7, h⟩ := rnds_succ h
  obtain ⟨d1, e1, f, g, is, was, a1, a2, a3, a4, a5, a6⟩ := rnd_facts hseed _ _ r7
  rw [gate54 _ l i _ _ d1 e1 _ _ f g is was a1 a2 a3 a4 a5 a6]
  obtain ⟨x8, r8, h⟩ := rnds_succ h
  obtain ⟨d1, e1, f, g, is, was, a1, a2, a3, a4, a5, a6⟩ := rnd_facts hseed _ _ r8
  rw [gate56 _ l i _ _ d1 e1 _ _ f g is was a1 a2 a3 a4 a5 a6]
  obtain ⟨x9, r9, h⟩ := rnds_succ h
  obtain ⟨d1, e1, f, g, is, was, a1, a2, a3, a4, a5, a6⟩ := rnd_facts hseed _ _ r9
  rw [gate58 _ l i _ _ d1 e1 _ _ f g is was a1 a2 a3 a4 a5 a6]
  obtain ⟨x10, r10, h⟩ := rnds_succ h
  obtain ⟨d1, e1, f, g, is, was, a1, a2, a3, a4, a5, a6⟩ := rnd_facts hseed _ _ r10
  rw [gate60 _ l i _ _ d1 e1 _ _ f g is was a1 a2 a3 a4 a5 a6]
  obtain ⟨x11, r11, h⟩ := rnds_succ h
  obtain ⟨d1, e1, f, g, is, was, a1, a2, a3, a4, a5, a6⟩ := rnd_facts hseed _ _ r11
  rw [gate62 _ l i _ _ d1 e1 _ _ f g is was a1 a2 a3 a4 a5 a6]
  obtain ⟨x12, r12, h⟩ := rnds_succ h
  obtain ⟨d1, e1, f, g, is, was, a1, a2, a3, a4, a5, a6⟩ := rnd_facts hseed _ _ r12
  rw [gate64 _ l i _ _ d1 e1 _ _ f g is was a1 a2 a3 a4 a5 a6]
  obtain ⟨x13, r13, h⟩ := rnds_succ h
  obtain ⟨d1, e1, f, g, is, was, a1, a2, a3, a4, a5, a6⟩ := rnd_facts hseed _ _ r13
  rw [gate66 _ l i _ _ d1 e1 _ _ f g is was a1 a2 a3 a4 a5 a6]
  obtain ⟨x14, r14, h⟩ := rnds_succ h
  obtain ⟨d1, e1, f, g, is, was, a1, a2, a3, a4, a5, a6⟩ := rnd_facts hseed _ _ r14
  rw [gate68 _ l i _ _ d1 e1 _ _ f g is was a1 a2 a3 a4 a5 a6]
  obtain ⟨x15, r15, h⟩ := rnds_succ h
  obtain ⟨d1, e1, f, g, is, was, a1, a2, a3, a4, a5, a6⟩ := rnd_facts hseed _ _ r15
  rw [gate70 _ l i _ _ d1 e1 _ _ f g is was a1 a2 a3 a4 a5 a6]
  obtain ⟨x16, r16, h⟩ := rnds_succ h
  obtain ⟨d1, e1, f, g, is, was, a1, a2, a3, a4, a5, a6⟩ := rnd_facts hseed _ _ r16
  rw [gate72 _ l i _ _ d1 e1 _ _ f g is was a1 a2 a3 a4 a5 a6]
  obtain ⟨x17, r17, h⟩ := rnds_succ h
  obtain ⟨d1, e1, f, g, is, was, a1, a2, a3, a4, a5, a6⟩ := rnd_facts hseed _ _ r17
  rw [gate74 _ l i _ _ d1 e1 _ _ f g is was a1 a2 a3 a4 a5 a6]
  obtain ⟨x18, r18, h⟩ := rnds_succ h
  obtain ⟨d1, e1, f, g, is, was, a1, a2, a3, a4, a5, a6⟩ := rnd_facts hseed _ _ r18
  rw [gate76 _ l i _ _ d1 e1 _ _ f g is was a1 a2 a3 a4 a5 a6]
  obtain ⟨x19, r19, h⟩ := rnds_succ h
  obtain ⟨d1, e1, f, g, is, was, a1, a2, a3, a4, a5, a6⟩ := rnd_facts hseed _ _ r19
  rw [gate78 _ l i _ _ d1 e1 _ _ f g is was a1 a2 a3 a4 a5 a6]
  obtain ⟨x20, r20, h⟩ := rnds_succ h
  obtain ⟨d1, e1, f, g, is, was, a1, a2, a3, a4, a5, a6⟩ := rnd_facts hseed _ _ r20
  rw [gate80 _ l i _ _ d1 e1 _ _ f g is was a1 a2 a3 a4 a5 a6]
  cases h
  rfl
theorem gate82 (k1 : List Bool → Int → D_ids_State → D_ids_State → Option (Bool × Unit)) (pre suf : List Bool) (t : Bool) (d e d2 e2 : D_ids_State) (ca cb : ByteArray) (h1 : t = true → ids_Take d = some (d2, 0, ()) ∧ e2 = e) (h2 : t = false → ids_Take e = some (e2, 0, ()) ∧ d2 = d)
    (h3 : ids_Cid e2 = some (cb, ())) (h4 : ids_Is d2 cb = some (true, ())) (h5 : ids_Cid d2 = some (ca, ())) (h6 : ids_Is e2 ca = some (true, ())) (hl : (pre ++ t :: suf).length ≤ 100) :
    law18_IdsBoth_82 k1 (pre ++ t :: suf) ((pre.length : Nat) : Int) d e = k1 (pre ++ t :: suf) (((pre ++ [t]).length : Nat) : Int) d2 e2 := by
  rw [law18_IdsBoth_82_eq, b_law18_IdsBoth_82]
  have c0 : ((0 : Int) != 0) = false := rfl
  have hm := mid_next pre t t suf (by omega)
  cases t with
  | true =>
    obtain ⟨g1, rfl⟩ := h1 rfl
    simp only [mid_lt, nn, and_true, decide_true, cond_true, toNat_len, getD_mid, g1, obind_some, law18_IdsBoth_83_eq, b_law18_IdsBoth_83, c0, cond_false, h3, h4, h5, h6, Bool.not_true, hm]
  | false =>
    obtain ⟨g1, rfl⟩ := h2 rfl
    simp only [mid_lt, nn, and_true, decide_true, cond_true, toNat_len, getD_mid, g1, obind_some, law18_IdsBoth_83_eq, b_law18_IdsBoth_83, c0, cond_false, h3, h4, h5, h6, Bool.not_true, hm]
theorem rnds_all (ka kb : Nat) (h : ka + kb ≤ 20) (n : Nat) (y : Two) (hy : rnds n y = some (qq ka kb)) (hn : n ≤ 20) : rnds 20 y = some (qq ka kb) := by
  have hid : rnd (qq ka kb) = some (qq ka kb) := by
    have := idle_all ⟨ka + kb, by omega⟩ ⟨ka, by omega⟩ (by simp)
    simp only [Nat.add_sub_cancel_left] at this
    exact this
  have := rnds_add (20 - n) n y (qq ka kb) hy
  rw [show n + (20 - n) = 20 by omega] at this
  rw [this]
  exact rnds_idle _ hid _
theorem case_is (ka kb : Nat) (h : ka + kb < 20) (t : Bool) : ∃ y : Two, (t = true → ids_Take (cA seed (qq ka kb).1) = some (cA seed y.1, 0, ()) ∧ cB seed y.2 = cB seed (qq ka kb).2) ∧ (t = false → ids_Take (cB seed (qq ka kb).2) = some (cB seed y.2, 0, ()) ∧ cA seed y.1 = cA seed (qq ka kb).1) ∧
    ids_Cid (cB seed y.2) = some (phi seed 0 (cidP y.2), ()) ∧ ids_Is (cA seed y.1) (phi seed 0 (cidP y.2)) = some (true, ()) ∧ ids_Cid (cA seed y.1) = some (phi seed 1 (cidP y.1), ()) ∧ ids_Is (cB seed y.2) (phi seed 1 (cidP y.1)) = some (true, ()) ∧
    ∃ ka' kb', ka' + kb' = ka + kb + 1 ∧ rnds 20 y = some (qq ka' kb') := by
  have hc : caseOk ka kb t = true := by
    have := case_all ⟨ka + kb, by omega⟩ ⟨ka, by omega⟩ (by simp)
    simp only [Nat.add_sub_cancel_left] at this
    cases t
    · exact this.2
    · exact this.1
  unfold caseOk at hc
  rw [Bool.and_eq_true, Bool.and_eq_true] at hc
  obtain ⟨⟨okA, okB⟩, hc⟩ := hc
  have tA := take_con (g := phi seed 1) (seed := seed) (side := 0) (qq ka kb).1 (okS_is okA)
  have tB := take_con (g := phi seed 0) (seed := seed) (side := 1) (qq ka kb).2 (okS_is okB)
  obtain ⟨y, h1, h2, h3⟩ : ∃ y : Two, takeT t (qq ka kb) = some y ∧ viewOk y = true ∧ rnds 2 y = some (if t then qq (ka + 1) kb else qq ka (kb + 1)) := by
    generalize takeT t (qq ka kb) = o at hc ⊢
    cases o with
    | none => cases hc
    | some y =>
      rw [Bool.and_eq_true] at hc
      exact ⟨y, rfl, hc.1, of_decide_eq_true hc.2⟩
  clear hc
  unfold viewOk at h2
  rw [Bool.and_eq_true, Bool.and_eq_true, Bool.and_eq_true] at h2
  obtain ⟨⟨⟨oA, oB⟩, v1⟩, v2⟩ := h2
  generalize qq ka kb = q at *
  refine ⟨y, ?_, ?_, cid_con rfl y.2 (okS_is oB), ?_, cid_con rfl y.1 (okS_is oA), ?_, ?_⟩
  · rintro rfl
    unfold takeT at h1
    rw [if_pos rfl] at h1
    obtain ⟨a, ha, rfl⟩ := Option.map_eq_some_iff.mp h1
    rw [ha] at tA
    exact ⟨tA, rfl⟩
  · rintro rfl
    unfold takeT at h1
    rw [if_neg (by simp)] at h1
    obtain ⟨b, hb, rfl⟩ := Option.map_eq_some_iff.mp h1
    rw [hb] at tB
    exact ⟨tB, rfl⟩
  · have := is_con (g := phi seed 1) (seed := seed) (side := 0) (.inl rfl) y.1 (okS_is oA) (cidP y.2)
    rw [v1] at this
    exact this
  · have := is_con (g := phi seed 0) (seed := seed) (side := 1) (.inr rfl) y.2 (okS_is oB) (cidP y.1)
    rw [v2] at this
    exact this
  · cases t with
    | true => exact ⟨ka + 1, kb, by omega, rnds_all _ _ (by omega) 2 y h3 (by omega)⟩
    | false => exact ⟨ka, kb + 1, by omega, rnds_all _ _ (by omega) 2 y h3 (by omega)⟩
theorem both_loop (hseed : InU seed) : ∀ (suf pre : List Bool) (m : Nat) (x : Two) (ka kb : Nat), suf.length < m → (pre ++ suf).length ≤ 20 → ka + kb = pre.length → rnds 20 x = some (qq ka kb) →
    law18_IdsBoth_1 m (pre ++ suf) ((pre.length : Nat) : Int) (cA seed x.1) (cB seed x.2) = some (true, ()) := by
  intro suf
  induction suf with
  | nil =>
    intro pre m x ka kb hm _ _ _
    obtain ⟨m, rfl⟩ : ∃ k, m = k + 1 := ⟨m - 1, by omega⟩
    simp only [law18_IdsBoth_1, t_law18_IdsBoth_1, mid_end, decide_false, cond_false]
  | cons t suf ih =>
    intro pre m x ka kb hm hl hk hx
    obtain ⟨m, rfl⟩ : ∃ k, m = k + 1 := ⟨m - 1, by omega⟩
    have hlt : ka + kb < 20 := by simp at hl; omega
    rw [twenty hseed m _ _ (by simp; omega) x _ hx]
    obtain ⟨y, t1, t2, c1, c2, c3, c4, ka', kb', hk', hy⟩ := case_is ka kb hlt t
    rw [gate82 _ pre suf t _ _ (cA seed y.1) (cB seed y.2) _ _ t1 t2 c1 c2 c3 c4 (by omega)]
    have hp : pre ++ t :: suf = (pre ++ [t]) ++ suf := by simp
    rw [hp]
    exact ih (pre ++ [t]) m y ka' kb' (by simp at hm; omega) (by rw [← hp]; exact hl) (by simp; omega) hy
end
theorem both_law (seed : Int) (takes : List Bool) (hseed : 0 ≤ seed ∧ seed ≤ 18446744073709551615) : law18_IdsBoth seed takes = some (true, ()) := by
  have hS : InU seed := by unfold InU; omega
  have h0 : law18_IdsBoth_0 = some (true, ()) := by
    rw [law18_IdsBoth_0_eq, b_law18_IdsBoth_0, shown18_is]
    rfl
  rw [law18_IdsBoth_eq, b_law18_IdsBoth]
  by_cases hlen : takes.length ≤ 20
  · have c : decide (((takes.length : Nat) : Int) > 20) = false := by simp; omega
    have e1 : ids_New seed 0 = some (conG (phi seed 1) seed 0 (new0 0), ()) := new0_is seed
    have e3 : ids_New seed 1 = some (conG (phi seed 0) seed 1 (new0 1), ()) := new1_is seed
    have e2 : ids_Fill (conG (phi seed 1) seed 0 (new0 0)) 4 = some (cA seed startS.1, ()) := fill_con (side := 0) hS (new0 0) rfl (okS_is (by decide +kernel)) 4
    have e4 : ids_Fill (conG (phi seed 0) seed 1 (new0 1)) 4 = some (cB seed startS.2, ()) := fill_con (side := 1) hS (new0 1) rfl (okS_is (by decide +kernel)) 4
    have hst := rnds_all 0 0 (by omega) 3 startS start_is (by omega)
    have hb := both_loop hS takes [] (Int.toNat (((takes.length : Nat) : Int) - 0) + 2) startS 0 0 (by omega) (by simpa using hlen) rfl hst
    simp only [c, cond_false, shown18_is, obind_some, Bool.not_true, e1, e2, e3, e4]
    rw [law18_IdsBoth_1'_eq, b_law18_IdsBoth_1']
    simpa using hb
  · have c : decide (((takes.length : Nat) : Int) > 20) = true := by simp; omega
    simp only [c, cond_true, h0]
theorem lawIdsBoth (x : denL c_law18_IdsBoth.params) (h : Wfs c_law18_IdsBoth.params x) : c_law18_IdsBoth.F x = some (true, ()) := by
  obtain ⟨seed, takes, u⟩ := x
  exact both_law seed takes (wf_u64 h.1)
end Go.Proofs.YtjdjlijjolibkaaDoor.V
/- Tables that are laid: from the condition of a row to what the machine asks for. -/
namespace Go.Proofs.YtjdjlijjolibkaaDoor.V
open Go.RowKit Go.ChangeShapes
section
variable {H : Type} {enc : TypeId × Value → H} {P : Program} {w : World} {sp : Nat → Bool} {held : Bool} {fuel : Nat}
theorem tab_cells {k : IntKind} {N : Nat} {e t : TypeId} {cs : List Value} {l : List Int} {p : List MemPlace} (hu : P.underlying t = some (.array N e)) (he : P.underlying e = some (.int k)) (hc : P.cellsOf e = 1) (ht : P.cellsOf t = l.length) (hN : N = l.length)
    (hd : DataW.trod enc P w 0 sp held fuel t cs = some (.agg (l.map fun n => .lit (.int k n)), p)) : cs = l.map (Value.int k) := by
  obtain ⟨xs, m, rfl, hx, hlen, hn, hel⟩ := DataW.trod_array hu hd
  simp only [Prod.mk.injEq, DataW.agg.injEq] at hx
  have hm := hx.1
  rw [ht] at hlen
  refine List.ext_getElem (by rw [hlen, List.length_map]) fun i h1 h2 => ?_
  have hi : i < l.length := by rw [List.length_map] at h2; exact h2
  have hix : i < xs.length := by omega
  have h3 := hel i (by omega)
  rw [hc, Nat.mul_one, List.getElem?_eq_getElem hix] at h3
  obtain ⟨n, e1, e2, _⟩ := DataW.trod_int he h3
  have e3 : (cs.drop i).take 1 = [cs[i]] := by
    rw [List.drop_eq_getElem_cons h1, List.take_succ_cons, List.take_zero]
  rw [e3] at e1
  have e4 : (l.map fun n => (DataW.lit (.int k n) : DataW H))[i]? = (xs.map (·.1))[i]? := by rw [hm]
  rw [List.getElem?_map, List.getElem?_map, List.getElem?_eq_getElem hi, List.getElem?_eq_getElem hix, e2] at e4
  simp only [Option.map_some, Option.some.injEq, DataW.lit.injEq, Lit.int.injEq, true_and] at e4
  simp only [List.cons.injEq, and_true] at e1
  rw [e1, List.getElem_map, ← e4]
theorem tab_in {k : IntKind} {N : Nat} {e t g : TypeId} {n : String} {cs : Array Value} {l : List Int} {p : List MemPlace} (hg : P.globalNamed n = some g) (hv : w.var? P n = some cs) (hu : P.underlying t = some (.array N e)) (he : P.underlying e = some (.int k)) (hc : P.cellsOf e = 1) (ht : P.cellsOf t = l.length) (hN : N = l.length)
    (hd : DataW.trod enc P w 0 sp held fuel t cs.toList = some (.agg (l.map fun n => .lit (.int k n)), p)) {r : List (Nat × (Σ t : Ty, List t.den))} (hr : TabsIn w r) : TabsIn w ((g, ⟨.int k, l⟩) :: r) ∧ g < w.heap.size := by
  have hcs := tab_cells hu he hc ht hN hd
  simp only [World.var?, hg, Option.bind_some] at hv
  cases hh : w.heap[g]? with
  | none => rw [hh] at hv; cases hv
  | some o =>
    rw [hh] at hv
    cases o with
    | cells arr e' fz =>
      simp only [Option.some.injEq] at hv
      subst hv
      refine ⟨⟨⟨arr, e', fz, hh, fun i hi => ⟨[.int k (l.getD i 0)], ?_, ?_⟩⟩, hr⟩, lt_of_heap hh⟩
      · simp only [Rep]
        have : l.getD i 0 = l[i] := by simp [List.getD, hi]
        rw [this]
      · intro j hj
        simp at hj
        subst hj
        show arr[i * 1 + 0]? = _
        rw [Nat.mul_one, Nat.add_zero, ← Array.getElem?_toList, hcs, List.getElem?_map, List.getElem?_eq_getElem hi]
        simp [List.getD, hi]
    | _ => cases hv
end
end Go.Proofs.YtjdjlijjolibkaaDoor.V
/- The law IdsBoth: for every input that can be read the call returns true and leaves its arguments alone: the row, and the tied card. No conditions but that the listed tables are laid (which the card ties to the program's text). -/
namespace Go.Proofs.YtjdjlijjolibkaaDoor.V.RowIdsBoth
open Go.ChangeShapes Go.WideShapes Go.ChangeAt Go.RowKit Go.Proofs
set_option linter.unusedVariables false
set_option maxRecDepth 100000
theorem own : ownKnob Tryd.prog.godebug = none := by kernel_rfl
theorem laidOut : laidOutB Tryd.prog = true := by kernel_rfl
theorem door_met (os : Os) (args : Array Value) : laidMetH Tryd.prog [("math/bits.deBruijn32tab", Rows.laid_math_bits_deBruijn32tab), ("math/bits.deBruijn64tab", Rows.laid_math_bits_deBruijn64tab)] ((World.doorLaid Tryd.prog 400 os).forCall (fun _ _ => 0) ⟨#[], args, []⟩).memory :=
  laidMetH_of_parts3 (fuel := 8) (laidMet_of_run' 8 (by kernel_rfl) (by kernel_rfl)) (by kernel_rfl) (by kernel_rfl)
theorem inv_of {W : World} (h : laidMetH Tryd.prog [("math/bits.deBruijn32tab", Rows.laid_math_bits_deBruijn32tab), ("math/bits.deBruijn64tab", Rows.laid_math_bits_deBruijn64tab)] W) : Inv W := by
  rw [MakeChecks.laidMetH_plain _ _ _ (by kernel_rfl)] at h
  obtain ⟨ps, ⟨g0, t0, cs0, f0, p0, q0, hg0, ht0, hv0, hd0, ⟨g1, t1, cs1, f1, p1, q1, hg1, ht1, hv1, hd1, _, _⟩, _⟩, _, _⟩ := h
  obtain ⟨gg0, tt0⟩ : Tryd.prog.globalNamed "math/bits.deBruijn32tab" = some 0 ∧ (Tryd.prog.globals[0]?).map (·.type) = some 246 := ⟨by kernel_rfl, by kernel_rfl⟩
  obtain rfl := Option.some.inj (gg0.symm.trans hg0)
  obtain rfl := Option.some.inj (tt0.symm.trans ht0)
  obtain ⟨gg1, tt1⟩ : Tryd.prog.globalNamed "math/bits.deBruijn64tab" = some 1 ∧ (Tryd.prog.globals[1]?).map (·.type) = some 247 := ⟨by kernel_rfl, by kernel_rfl⟩
  obtain rfl := Option.some.inj (gg1.symm.trans hg1)
  obtain rfl := Option.some.inj (tt1.symm.trans ht1)
  have i1 := tab_in (k := .u8) (l := [0, 1, 56, 2, 57, 49, 28, 3, 61, 58, 42, 50, 38, 29, 17, 4, 62, 47, 59, 36, 45, 43, 51, 22, 53, 39, 33, 30, 24, 18, 12, 5, 63, 55, 48, 27, 60, 41, 37, 16, 46, 35, 44, 21, 52, 32, 23, 11, 54, 26, 40, 15, 34, 20, 31, 10, 25, 14, 19, 9, 13, 8, 7, 6]) hg1 hv1 Tryd.underlying247 (by kernel_rfl) (by kernel_rfl) (by kernel_rfl) (by kernel_rfl) hd1 (r := []) trivial
  have i0 := tab_in (k := .u8) (l := [0, 1, 28, 2, 29, 14, 24, 3, 30, 22, 20, 15, 25, 17, 4, 8, 31, 27, 13, 23, 21, 19, 16, 7, 26, 12, 18, 6, 11, 5, 10, 9]) hg0 hv0 Tryd.underlying246 (by kernel_rfl) (by kernel_rfl) (by kernel_rfl) (by kernel_rfl) hd0 i1.1
  exact ⟨i1.2, i0.1⟩
theorem lifted (os : Os) (started : os.Started) (H : Type) (enc : TypeId × Value → H) :
    ReturnsInHanded {} Tryd.checked os 16 .any (fun w args => (Rows.idsBothSpec.pre enc Tryd.prog Tryd.f16 [] false w args ∧ laidMetH Tryd.prog [("math/bits.deBruijn32tab", Rows.laid_math_bits_deBruijn32tab), ("math/bits.deBruijn64tab", Rows.laid_math_bits_deBruijn64tab)] w) ∧ sizedMet enc Tryd.prog Tryd.f16 (OpenSpec.ofChange Rows.idsBothSpec) false w args) (Rows.idsBothSpec.post enc Tryd.prog Tryd.f16 false true false false) := by
  refine returnsInHanded_of_change_and (C := Tryd.checked) (X := fun w _ => laidMetH Tryd.prog [("math/bits.deBruijn32tab", Rows.laid_math_bits_deBruijn32tab), ("math/bits.deBruijn64tab", Rows.laid_math_bits_deBruijn64tab)] w) (fun _ _ _ hh h => h.of_heap hh) own started (by kernel_rfl) Tryd.func16
    (ChangeSpec.witness_shaped (enc := enc) (C := Tryd.checked) (os := os) (X := fun w _ => laidMetH Tryd.prog [("math/bits.deBruijn32tab", Rows.laid_math_bits_deBruijn32tab), ("math/bits.deBruijn64tab", Rows.laid_math_bits_deBruijn64tab)] w) false (World.doorLaid Tryd.prog 400 os) (c_law18_IdsBoth.params.map zeroV).toArray 8 rfl (World.shaped_of_RefB (by kernel_rfl) (by kernel_rfl)) (by kernel_rfl) (by kernel_rfl) (by kernel_rfl) (door_met os _)) ?_
  intro W base args ds gs before hval hW hcnd hsz hL _
  have hI := inv_of hL
  have hW' := hW
  obtain ⟨p, q, hA, hV, rfl, hfz, hnd⟩ := hW
  obtain ⟨x, hx, hwf⟩ := args_rep (n := 20) (ts := c_law18_IdsBoth.params) (by kernel_rfl) hA (fun j T v h1 h2 => hval j T v (by simpa using h1) (by simpa using h2))
  have hlen : ds.length = 2 := (trodAll_length hA).trans (by kernel_rfl)
  obtain ⟨d1, d2, rfl⟩ : ∃ d1 d2, ds = [d1, d2] := by match ds, hlen with | [d1, d2], _ => exact ⟨d1, d2, rfl⟩
  obtain ⟨rfl, rfl⟩ := trodVars_none hV
  refine (law_calls (K := 16) c_law18_IdsBoth_ok hI hx (lawIdsBoth x hwf)).mono fun e W' ⟨he, bel⟩ => ?_
  subst he
  exact ⟨_, rfl, _, _, _, [], _, [], hW', trodAll_mk1 (shut_bool Tryd.underlying4 _), trodAll_below laidOut bel (by kernel_rfl) hA, rfl, bel.frame _, fun h => by cases h⟩
theorem proved : Rows.IdsBothSaid :=
  OpenClaim.holds_of_wide 16 Tryd.f16 rfl rfl rfl rfl rfl rfl rfl ⟨rfl, rfl, rfl, rfl, rfl⟩ rfl rfl rfl rfl rfl (by kernel_rfl) Tryd.func16 (by kernel_rfl)
    (of_decide_eq_true (by kernel_rfl)) (by unfold Func.isWrapper; first | (rw [if_pos (by decide +kernel)]; kernel_rfl) | (rw [if_neg (by decide +kernel)]; exact ⟨rfl, rfl⟩))
    (fun os started H enc _ => lifted os started H enc)
theorem card : Rows.IdsBothCardSaid :=
  Claim7.holds_tied_plain_at .later [] [.data, .data] true (true, "1021a36958bef67feb8e8930050b74075fa45ed83853cf8c22c3fa63b7773168") true
    proved (fun _ h => by cases h) (by kernel_rfl) (fun _ h => by cases h) idsBoth_row_tie rfl ⟨rfl, rfl⟩ (by kernel_rfl) rfl
    (fun f fn hf hfn => by
      obtain rfl : f = 16 := Option.some.inj ((show Tryd.prog.funcNamed "domino/dominolaw18.IdsBoth" = some 16 by kernel_rfl).symm.trans hf) |>.symm
      obtain rfl : fn = Tryd.f16 := (Option.some.inj (Tryd.func16.symm.trans hfn)).symm
      exact ⟨by kernel_rfl, fun j t ht => by
        have all : ∀ t ∈ [30, 106], Tryd.prog.wantsStandIn t = false := by
          intro t h
          simp only [List.mem_cons, List.not_mem_nil, or_false] at h
          rcases h with rfl | rfl <;> kernel_rfl
        have hp : Tryd.f16.params = #[30, 106] := rfl
        rw [hp] at ht
        exact all t (by
          have := List.mem_of_getElem? (l := [30, 106]) (i := j) (a := t) (by simpa using ht)
          exact this)⟩)
    (by kernel_rfl)
end Go.Proofs.YtjdjlijjolibkaaDoor.V.RowIdsBoth
namespace Go.Proofs.YtjdjlijjolibkaaDoor
theorem idsBoth_card : Rows.IdsBothCardSaid := V.RowIdsBoth.card
end Go.Proofs.YtjdjlijjolibkaaDoor
