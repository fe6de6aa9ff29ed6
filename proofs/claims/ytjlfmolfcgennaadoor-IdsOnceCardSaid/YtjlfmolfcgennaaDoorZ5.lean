/- The law IdsOnce, part 5 of 6: what is proved: for every input that can be read the call of IdsOnce returns true and leaves its arguments alone. No conditions but the listed tables of the card. -/
import Derived.Shelf.Spec.SlicesInsertGrow
import Derived.Test.YtjlfmolfcgennaaDoorZ4
namespace Go.Proofs.YtjlfmolfcgennaaDoor.V
open Go.RowKit Go.Proofs.Tryd
set_option maxRecDepth 100000
set_option linter.unusedVariables false
noncomputable def m_ids_Take : Mach prog Inv gInv := mach bas [(9, f9), (16, f16), (17, f17), (19, f19), (20, f20), (21, f21), (33, f33), (37, f37), (38, f38)] ⟨ok9, ok16, ok17, ok19, ok20, ok21, ok33, ok37, ok38, trivial⟩ [(50, c_ids_State_fresh_l1)] ⟨⟨c_ids_State_fresh_l1_ok, FnOk.callable ok50⟩, trivial⟩ [(34, c_slices_Clone_ids_Own), (35, c_slices_Clone_ids_Given)] ⟨⟨c_slices_Clone_ids_Own_ok, FnOk.callable ok34⟩, ⟨c_slices_Clone_ids_Given_ok, FnOk.callable ok35⟩, trivial⟩ [] trivial
/-! ### domino/ids.Take -/
@[reducible] def r_ids_Take : List Ty := [T_ids_State, (.int .i64)]
def ks_ids_Take : List Nat := [9, 16, 17, 19, 20, 21, 33, 37, 38]
abbrev H_ids_Take (base : Base) (S0 : Nat → Prop) := base.n = 0 ∧ FinOk (finR r_ids_Take) base S0 (Post r_ids_Take S0)
abbrev J_ids_Take (base : Base) (S0 : Nat → Prop) (cs0 : List Go.Frame) (p : CPat) (J : denC p → Option (denL r_ids_Take)) := JSound m_ids_Take base S0 cs0 (Post r_ids_Take S0) p J
abbrev O_ids_Take (base : Base) (S0 : Nat → Prop) (cs0 : List Go.Frame) (X : Cfg → Option (Option (denL r_ids_Take))) := OSound m_ids_Take base S0 cs0 (Post r_ids_Take S0) X
@[reducible] noncomputable def p_ids_Take_4 : CPat := ⟨⟨19, [1, 1, 1], none, [.any, .any, .any, .any, .bool], 25⟩, [⟨9, [1, 1, 1, 0, 0], (some 1), [.any, .ptr 0 0, .ptr 1 0, .any, .ptr 2 0, .int .i64], 22⟩], [.dat 29 T_ids_State, .dat 29 T_ids_State, .cells 29 [.int .u64, .int .i64, .int .i64, .all 3, .all 4, .int .u64, .int .u64], .row T_ids_Own, .row T_ids_Given], 0⟩
@[reducible] noncomputable def u_ids_Take_4 (k : Bool → Int → D_ids_State → D_ids_State → Int → Int → Int → Int → Int → (List D_ids_Own) → (List D_ids_Given) → Option (D_ids_State × Int × Unit)) : denC p_ids_Take_4 → Option (D_ids_State × Int × Unit) := fun x => k x.1.2.2.2.2.1 x.2.1.1.2.2.2.2.2.1 x.2.2.1 x.2.2.2.1 x.2.2.2.2.1.1 x.2.2.2.2.1.2.1 x.2.2.2.2.1.2.2.1 x.2.2.2.2.1.2.2.2.2.2.1 x.2.2.2.2.1.2.2.2.2.2.2.1 x.2.2.2.2.2.1 x.2.2.2.2.2.2.1
noncomputable def b_ids_Take_4 (b116 : Bool) (i117 : Int) (d118 : D_ids_State) (d119 : D_ids_State) (i120 : Int) (i121 : Int) (i122 : Int) (i123 : Int) (i124 : Int) (l125 : (List D_ids_Own)) (l126 : (List D_ids_Given)) : Option (D_ids_State × Int × Unit) :=
 let b127 : Bool := (!b116)
 bif b127 then
  some (d118, ((181 : Int), ()))
 else
  bif (decide (((0 : Int) ≤ i117) ∧ (i117 < (((List.length l126) : Nat) : Int)))) then
   let i128 : Nat := (Int.toNat i117)
   let b129 : Bool := (List.getD l126 i128 (Ty.dflt T_ids_Given)).2.2.2.2.1
   let b130 : Bool := (!b129)
   bif b130 then
    let l131 : (List D_ids_Given) := (List.set l126 i128 ((List.getD l126 i128 (Ty.dflt T_ids_Given)).1, ((List.getD l126 i128 (Ty.dflt T_ids_Given)).2.1, ((List.getD l126 i128 (Ty.dflt T_ids_Given)).2.2.1, ((List.getD l126 i128 (Ty.dflt T_ids_Given)).2.2.2.1, (true, ((List.getD l126 i128 (Ty.dflt T_ids_Given)).2.2.2.2.2.1, ())))))))
    let l132 : (List D_ids_Given) := (List.set l131 i128 ((List.getD l131 i128 (Ty.dflt T_ids_Given)).1, ((List.getD l131 i128 (Ty.dflt T_ids_Given)).2.1, ((List.getD l131 i128 (Ty.dflt T_ids_Given)).2.2.1, ((List.getD l131 i128 (Ty.dflt T_ids_Given)).2.2.2.1, ((List.getD l131 i128 (Ty.dflt T_ids_Given)).2.2.2.2.1, (true, ())))))))
    some ((i120, (i121, (i122, (l125, (l132, (i123, (i124, ()))))))), ((0 : Int), ()))
   else
    some ((i120, (i121, (i122, (l125, (l126, (i123, (i124, ()))))))), ((0 : Int), ()))
  else none
theorem ex_ids_Take_4 : ∃ f, f = @b_ids_Take_4 := ⟨_, rfl⟩
noncomputable def ids_Take_4 := Classical.choose ex_ids_Take_4
theorem ids_Take_4_eq : @ids_Take_4 = @b_ids_Take_4 := Classical.choose_spec ex_ids_Take_4
theorem s_ids_Take_4 {base S0 cs0} (hfin : H_ids_Take base S0) : J_ids_Take base S0 cs0 p_ids_Take_4 (u_ids_Take_4 (ids_Take_4)) :=
 JSound.join hfin.2 (OSound.nowhere) ks_ids_Take 100000 (by rw [ids_Take_4_eq]; intro x; kernel_rfl)
noncomputable def x_ids_Take_4 : Cfg → Option (Option (D_ids_State × Int × Unit)) := cut p_ids_Take_4 (u_ids_Take_4 (ids_Take_4)) (nowhere)
theorem o_ids_Take_4 {base S0 cs0} (hfin : H_ids_Take base S0) : O_ids_Take base S0 cs0 (x_ids_Take_4) := OSound.cut (OSound.nowhere) (Nat.le_of_eq hfin.1) (s_ids_Take_4 hfin)
@[reducible] noncomputable def p_ids_Take_3 : CPat := ⟨⟨21, [1, 0], (some 3), [.any, .any, .any, .any, .any, .any, .any, .any, .any, .int .i64], 3⟩, [⟨37, [1, 0], (some 4), [], 11⟩, ⟨19, [1, 0], (some 1), [.ptr 0 0], 29⟩, ⟨9, [1, 1, 1, 0, 0], (some 1), [.any, .ptr 1 0, .ptr 2 0, .any, .ptr 0 0, .int .i64], 22⟩], [.cells 29 [.int .u64, .int .i64, .int .i64, .all 3, .all 4, .int .u64, .int .u64], .dat 29 T_ids_State, .dat 29 T_ids_State, .row T_ids_Own, .row T_ids_Given], 0⟩
@[reducible] noncomputable def u_ids_Take_3 (k : Int → Int → Int → Int → Int → Int → Int → D_ids_State → D_ids_State → (List D_ids_Own) → (List D_ids_Given) → Option (D_ids_State × Int × Unit)) : denC p_ids_Take_3 → Option (D_ids_State × Int × Unit) := fun x => k x.1.2.2.2.2.2.2.2.2.2.1 x.2.1.2.2.1.2.2.2.2.2.1 x.2.2.1.1 x.2.2.1.2.1 x.2.2.1.2.2.1 x.2.2.1.2.2.2.2.2.1 x.2.2.1.2.2.2.2.2.2.1 x.2.2.2.1 x.2.2.2.2.1 x.2.2.2.2.2.1 x.2.2.2.2.2.2.1
noncomputable def b_ids_Take_3 (i99 : Int) (i100 : Int) (i101 : Int) (i102 : Int) (i103 : Int) (i104 : Int) (i105 : Int) (d106 : D_ids_State) (d107 : D_ids_State) (l108 : (List D_ids_Own)) (l109 : (List D_ids_Given)) : Option (D_ids_State × Int × Unit) :=
 let b110 : Bool := (decide (i99 ≥ (0 : Int)))
 bif b110 then
  bif (decide (((0 : Int) ≤ i99) ∧ (i99 < (((List.length l109) : Nat) : Int)))) then
   let i111 : Nat := (Int.toNat i99)
   let n112 : Int := (List.getD l109 i111 (Ty.dflt T_ids_Given)).1
   bif (decide (((0 : Int) ≤ i99) ∧ (i99 < (((List.length l109) : Nat) : Int)))) then
    let i113 : Nat := (Int.toNat i99)
    let l114 : (List D_ids_Given) := (List.set l109 i113 ((List.getD l109 i113 (Ty.dflt T_ids_Given)).1, ((List.getD l109 i113 (Ty.dflt T_ids_Given)).2.1, ((List.getD l109 i113 (Ty.dflt T_ids_Given)).2.2.1, (true, ((List.getD l109 i113 (Ty.dflt T_ids_Given)).2.2.2.2.1, ((List.getD l109 i113 (Ty.dflt T_ids_Given)).2.2.2.2.2.1, ())))))))
    ids_Take_4 b110 i100 d106 d107 i101 i102 i103 i104 n112 l108 l114
   else none
  else none
 else
  ids_Take_4 b110 i100 d106 d107 i101 i102 i103 i104 i105 l108 l109
theorem ex_ids_Take_3 : ∃ f, f = @b_ids_Take_3 := ⟨_, rfl⟩
noncomputable def ids_Take_3 := Classical.choose ex_ids_Take_3
theorem ids_Take_3_eq : @ids_Take_3 = @b_ids_Take_3 := Classical.choose_spec ex_ids_Take_3
theorem s_ids_Take_3 {base S0 cs0} (hfin : H_ids_Take base S0) : J_ids_Take base S0 cs0 p_ids_Take_3 (u_ids_Take_3 (ids_Take_3)) :=
 JSound.join hfin.2 (o_ids_Take_4 hfin) ks_ids_Take 100000 (by rw [ids_Take_3_eq]; intro x; kernel_rfl)
noncomputable def x_ids_Take_3 : Cfg → Option (Option (D_ids_State × Int × Unit)) := cut p_ids_Take_3 (u_ids_Take_3 (ids_Take_3)) (x_ids_Take_4)
theorem o_ids_Take_3 {base S0 cs0} (hfin : H_ids_Take base S0) : O_ids_Take base S0 cs0 (x_ids_Take_3) := OSound.cut (o_ids_Take_4 hfin) (Nat.le_of_eq hfin.1) (s_ids_Take_3 hfin)
@[reducible] noncomputable def p_ids_Take_2 : CPat := ⟨⟨38, [1, 0, 1, 0], none, [.all 0, .func 50 [] [], .any, .any, .any, .any, .any, .int .i64, .int .i64], 10⟩, [⟨21, [1, 0], (some 2), [], 13⟩, ⟨37, [1, 0], (some 4), [], 11⟩, ⟨19, [1, 0], (some 1), [.ptr 1 0], 29⟩, ⟨9, [1, 1, 1, 0, 0], (some 1), [.any, .ptr 2 0, .ptr 3 0, .any, .ptr 1 0, .int .i64], 22⟩], [.row T_ids_Given, .cells 29 [.int .u64, .int .i64, .int .i64, .all 4, .all 0, .int .u64, .int .u64], .dat 29 T_ids_State, .dat 29 T_ids_State, .row T_ids_Own], 0⟩
@[reducible] noncomputable def u_ids_Take_2 (k : Int → Int → Int → (List D_ids_Given) → Int → Int → Int → Int → Int → D_ids_State → D_ids_State → (List D_ids_Own) → Option (D_ids_State × Int × Unit)) : denC p_ids_Take_2 → Option (D_ids_State × Int × Unit) := fun x => k x.1.2.2.2.2.2.2.2.1 x.1.2.2.2.2.2.2.2.2.1 x.2.1.2.2.2.1.2.2.2.2.2.1 x.2.2.1 x.2.2.2.1.1 x.2.2.2.1.2.1 x.2.2.2.1.2.2.1 x.2.2.2.1.2.2.2.2.2.1 x.2.2.2.1.2.2.2.2.2.2.1 x.2.2.2.2.1 x.2.2.2.2.2.1 x.2.2.2.2.2.2.1
noncomputable def t_ids_Take_2 (k2 : Int → Int → Int → (List D_ids_Given) → Int → Int → Int → Int → Int → D_ids_State → D_ids_State → (List D_ids_Own) → Option (D_ids_State × Int × Unit)) (i76 : Int) (i77 : Int) (i78 : Int) (l79 : (List D_ids_Given)) (i80 : Int) (i81 : Int) (i82 : Int) (i83 : Int) (i84 : Int) (d85 : D_ids_State) (d86 : D_ids_State) (l87 : (List D_ids_Own)) : Option (D_ids_State × Int × Unit) :=
 let b88 : Bool := (decide (i77 < i76))
 bif b88 then
  bif (decide (((0 : Int) ≤ i77) ∧ (i77 < (((List.length l79) : Nat) : Int)))) then
   let i89 : Nat := (Int.toNat i77)
   let n90 : Int := (List.getD l79 i89 (Ty.dflt T_ids_Given)).1
   let s91 : ByteArray := (List.getD l79 i89 (Ty.dflt T_ids_Given)).2.1
   let s92 : ByteArray := (List.getD l79 i89 (Ty.dflt T_ids_Given)).2.2.1
   let b93 : Bool := (List.getD l79 i89 (Ty.dflt T_ids_Given)).2.2.2.1
   let b94 : Bool := (List.getD l79 i89 (Ty.dflt T_ids_Given)).2.2.2.2.1
   let b95 : Bool := (List.getD l79 i89 (Ty.dflt T_ids_Given)).2.2.2.2.2.1
   obind (ids_State_fresh_l1 (n90, (s91, (s92, (b93, (b94, (b95, ()))))))) fun y96 =>
   bif y96.1 then
    ids_Take_3 i77 i78 i80 i81 i82 i83 i84 d85 d86 l87 l79
   else
    let n97 : Int := (Go.IntKind.wrap Go.IntKind.i64 (i77 + (1 : Int)))
    k2 i76 n97 i78 l79 i80 i81 i82 i83 i84 d85 d86 l87
  else none
 else
  ids_Take_3 (-1 : Int) i78 i80 i81 i82 i83 i84 d85 d86 l87 l79
noncomputable def ids_Take_2 : Nat → Int → Int → Int → (List D_ids_Given) → Int → Int → Int → Int → Int → D_ids_State → D_ids_State → (List D_ids_Own) → Option (D_ids_State × Int × Unit)
 | 0 => fun _ _ _ _ _ _ _ _ _ _ _ _ => none
 | m + 1 => t_ids_Take_2 (ids_Take_2 m)
noncomputable def b_ids_Take_2' (i76 : Int) (i77 : Int) (i78 : Int) (l79 : (List D_ids_Given)) (i80 : Int) (i81 : Int) (i82 : Int) (i83 : Int) (i84 : Int) (d85 : D_ids_State) (d86 : D_ids_State) (l87 : (List D_ids_Own)) : Option (D_ids_State × Int × Unit) := ids_Take_2 (Int.toNat (i76 - i77) + 2) i76 i77 i78 l79 i80 i81 i82 i83 i84 d85 d86 l87
theorem ex_ids_Take_2' : ∃ f, f = @b_ids_Take_2' := ⟨_, rfl⟩
noncomputable def ids_Take_2' := Classical.choose ex_ids_Take_2'
theorem ids_Take_2'_eq : @ids_Take_2' = @b_ids_Take_2' := Classical.choose_spec ex_ids_Take_2'
theorem s_ids_Take_2 {base S0 cs0} (hfin : H_ids_Take base S0) : ∀ m, J_ids_Take base S0 cs0 p_ids_Take_2 (u_ids_Take_2 (ids_Take_2 m)) :=
 JSound.loop' hfin.2 ks_ids_Take 100000 u_ids_Take_2 (fun k2 => cut p_ids_Take_2 (u_ids_Take_2 k2) (x_ids_Take_3)) (fun k2 h2 => OSound.cut (o_ids_Take_3 hfin) (Nat.le_of_eq hfin.1) h2) (ids_Take_2) (by intro x; rfl) (by intro m x; kernel_rfl)
theorem s_ids_Take_2' {base S0 cs0} (hfin : H_ids_Take base S0) : J_ids_Take base S0 cs0 p_ids_Take_2 (u_ids_Take_2 (ids_Take_2')) := by
 rw [ids_Take_2'_eq]; exact fun x r hx => s_ids_Take_2 hfin _ x r hx
noncomputable def x_ids_Take_2 : Cfg → Option (Option (D_ids_State × Int × Unit)) := cut p_ids_Take_2 (u_ids_Take_2 (ids_Take_2')) (x_ids_Take_3)
theorem o_ids_Take_2 {base S0 cs0} (hfin : H_ids_Take base S0) : O_ids_Take base S0 cs0 (x_ids_Take_2) := OSound.cut (o_ids_Take_3 hfin) (Nat.le_of_eq hfin.1) (s_ids_Take_2' hfin)
@[reducible] noncomputable def p_ids_Take_1 : CPat := ⟨⟨21, [1, 0], (some 3), [.any, .any, .any, .any, .any, .any, .any, .any, .any, .int .i64], 3⟩, [⟨16, [1, 0], (some 5), [], 12⟩, ⟨9, [1, 1, 0], (some 1), [.any, .ptr 0 0, .ptr 1 0, .any, .ptr 2 0], 23⟩], [.dat 29 T_ids_State, .dat 29 T_ids_State, .cells 29 [.int .u64, .int .i64, .int .i64, .all 3, .all 4, .int .u64, .int .u64], .row T_ids_Own, .row T_ids_Given], 0⟩
@[reducible] noncomputable def u_ids_Take_1 (k : Int → D_ids_State → D_ids_State → Int → Int → Int → Int → Int → (List D_ids_Own) → (List D_ids_Given) → Option (D_ids_State × Int × Unit)) : denC p_ids_Take_1 → Option (D_ids_State × Int × Unit) := fun x => k x.1.2.2.2.2.2.2.2.2.2.1 x.2.2.1 x.2.2.2.1 x.2.2.2.2.1.1 x.2.2.2.2.1.2.1 x.2.2.2.2.1.2.2.1 x.2.2.2.2.1.2.2.2.2.2.1 x.2.2.2.2.1.2.2.2.2.2.2.1 x.2.2.2.2.2.1 x.2.2.2.2.2.2.1
noncomputable def b_ids_Take_1 (i45 : Int) (d46 : D_ids_State) (d47 : D_ids_State) (i48 : Int) (i49 : Int) (i50 : Int) (i51 : Int) (i52 : Int) (l53 : (List D_ids_Own)) (l54 : (List D_ids_Given)) : Option (D_ids_State × Int × Unit) :=
 let b55 : Bool := (decide (i45 ≥ (0 : Int)))
 let n56 : Int := (((List.length l54) : Nat) : Int)
 ids_Take_2' n56 (0 : Int) i45 l54 i48 i49 i50 i51 i52 d46 d47 l53
theorem ex_ids_Take_1 : ∃ f, f = @b_ids_Take_1 := ⟨_, rfl⟩
noncomputable def ids_Take_1 := Classical.choose ex_ids_Take_1
theorem ids_Take_1_eq : @ids_Take_1 = @b_ids_Take_1 := Classical.choose_spec ex_ids_Take_1
theorem s_ids_Take_1 {base S0 cs0} (hfin : H_ids_Take base S0) : J_ids_Take base S0 cs0 p_ids_Take_1 (u_ids_Take_1 (ids_Take_1)) :=
 JSound.join hfin.2 (o_ids_Take_2 hfin) ks_ids_Take 100000 (by rw [ids_Take_1_eq]; intro x; kernel_rfl)
noncomputable def x_ids_Take_1 : Cfg → Option (Option (D_ids_State × Int × Unit)) := cut p_ids_Take_1 (u_ids_Take_1 (ids_Take_1)) (x_ids_Take_2)
theorem o_ids_Take_1 {base S0 cs0} (hfin : H_ids_Take base S0) : O_ids_Take base S0 cs0 (x_ids_Take_1) := OSound.cut (o_ids_Take_2 hfin) (Nat.le_of_eq hfin.1) (s_ids_Take_1 hfin)
@[reducible] noncomputable def p_ids_Take_0 : CPat := ⟨⟨38, [1, 0, 1, 0], none, [.all 0, .func 33 [] [.ptr 1 0], .any, .any, .any, .any, .any, .int .i64, .int .i64], 10⟩, [⟨21, [1, 0], (some 2), [], 13⟩, ⟨16, [1, 0], (some 5), [], 12⟩, ⟨9, [1, 1, 0], (some 1), [.any, .ptr 2 0, .ptr 3 0, .any, .ptr 4 0], 23⟩], [.row T_ids_Given, .cells 61 [.ptr 4 0], .dat 29 T_ids_State, .dat 29 T_ids_State, .cells 29 [.int .u64, .int .i64, .int .i64, .all 5, .all 0, .int .u64, .int .u64], .row T_ids_Own], 0⟩
@[reducible] noncomputable def u_ids_Take_0 (k : Int → Int → (List D_ids_Given) → D_ids_State → D_ids_State → Int → Int → Int → Int → Int → (List D_ids_Own) → Option (D_ids_State × Int × Unit)) : denC p_ids_Take_0 → Option (D_ids_State × Int × Unit) := fun x => k x.1.2.2.2.2.2.2.2.1 x.1.2.2.2.2.2.2.2.2.1 x.2.2.1 x.2.2.2.2.1 x.2.2.2.2.2.1 x.2.2.2.2.2.2.1.1 x.2.2.2.2.2.2.1.2.1 x.2.2.2.2.2.2.1.2.2.1 x.2.2.2.2.2.2.1.2.2.2.2.2.1 x.2.2.2.2.2.2.1.2.2.2.2.2.2.1 x.2.2.2.2.2.2.2.1
noncomputable def t_ids_Take_0 (k0 : Int → Int → (List D_ids_Given) → D_ids_State → D_ids_State → Int → Int → Int → Int → Int → (List D_ids_Own) → Option (D_ids_State × Int × Unit)) (i22 : Int) (i23 : Int) (l24 : (List D_ids_Given)) (d25 : D_ids_State) (d26 : D_ids_State) (i27 : Int) (i28 : Int) (i29 : Int) (i30 : Int) (i31 : Int) (l32 : (List D_ids_Own)) : Option (D_ids_State × Int × Unit) :=
 let b33 : Bool := (decide (i23 < i22))
 bif b33 then
  bif (decide (((0 : Int) ≤ i23) ∧ (i23 < (((List.length l24) : Nat) : Int)))) then
   let i34 : Nat := (Int.toNat i23)
   let n35 : Int := (List.getD l24 i34 (Ty.dflt T_ids_Given)).1
   let s36 : ByteArray := (List.getD l24 i34 (Ty.dflt T_ids_Given)).2.1
   let s37 : ByteArray := (List.getD l24 i34 (Ty.dflt T_ids_Given)).2.2.1
   let b38 : Bool := (List.getD l24 i34 (Ty.dflt T_ids_Given)).2.2.2.1
   let b39 : Bool := (List.getD l24 i34 (Ty.dflt T_ids_Given)).2.2.2.2.1
   let b40 : Bool := (List.getD l24 i34 (Ty.dflt T_ids_Given)).2.2.2.2.2.1
   let b41 : Bool := (n35 == i31)
   bif b41 then
    ids_Take_1 i23 d25 d26 i27 i28 i29 i30 i31 l32 l24
   else
    let n42 : Int := (Go.IntKind.wrap Go.IntKind.i64 (i23 + (1 : Int)))
    k0 i22 n42 l24 d25 d26 i27 i28 i29 i30 i31 l32
  else none
 else
  ids_Take_1 (-1 : Int) d25 d26 i27 i28 i29 i30 i31 l32 l24
noncomputable def ids_Take_0 : Nat → Int → Int → (List D_ids_Given) → D_ids_State → D_ids_State → Int → Int → Int → Int → Int → (List D_ids_Own) → Option (D_ids_State × Int × Unit)
 | 0 => fun _ _ _ _ _ _ _ _ _ _ _ => none
 | m + 1 => t_ids_Take_0 (ids_Take_0 m)
noncomputable def b_ids_Take_0' (i22 : Int) (i23 : Int) (l24 : (List D_ids_Given)) (d25 : D_ids_State) (d26 : D_ids_State) (i27 : Int) (i28 : Int) (i29 : Int) (i30 : Int) (i31 : Int) (l32 : (List D_ids_Own)) : Option (D_ids_State × Int × Unit) := ids_Take_0 (Int.toNat (i22 - i23) + 2) i22 i23 l24 d25 d26 i27 i28 i29 i30 i31 l32
theorem ex_ids_Take_0' : ∃ f, f = @b_ids_Take_0' := ⟨_, rfl⟩
noncomputable def ids_Take_0' := Classical.choose ex_ids_Take_0'
theorem ids_Take_0'_eq : @ids_Take_0' = @b_ids_Take_0' := Classical.choose_spec ex_ids_Take_0'
theorem s_ids_Take_0 {base S0 cs0} (hfin : H_ids_Take base S0) : ∀ m, J_ids_Take base S0 cs0 p_ids_Take_0 (u_ids_Take_0 (ids_Take_0 m)) :=
 JSound.loop' hfin.2 ks_ids_Take 100000 u_ids_Take_0 (fun k0 => cut p_ids_Take_0 (u_ids_Take_0 k0) (x_ids_Take_1)) (fun k0 h0 => OSound.cut (o_ids_Take_1 hfin) (Nat.le_of_eq hfin.1) h0) (ids_Take_0) (by intro x; rfl) (by intro m x; kernel_rfl)
theorem s_ids_Take_0' {base S0 cs0} (hfin : H_ids_Take base S0) : J_ids_Take base S0 cs0 p_ids_Take_0 (u_ids_Take_0 (ids_Take_0')) := by
 rw [ids_Take_0'_eq]; exact fun x r hx => s_ids_Take_0 hfin _ x r hx
noncomputable def x_ids_Take_0 : Cfg → Option (Option (D_ids_State × Int × Unit)) := cut p_ids_Take_0 (u_ids_Take_0 (ids_Take_0')) (x_ids_Take_1)
theorem o_ids_Take_0 {base S0 cs0} (hfin : H_ids_Take base S0) : O_ids_Take base S0 cs0 (x_ids_Take_0) := OSound.cut (o_ids_Take_1 hfin) (Nat.le_of_eq hfin.1) (s_ids_Take_0' hfin)
noncomputable def b_ids_Take (a0 : D_ids_State) : Option (D_ids_State × Int × Unit) :=
 obind (slices_Clone_ids_Own a0.2.2.2.1) fun y1 =>
 obind (slices_Clone_ids_Given a0.2.2.2.2.1) fun y2 =>
 let n3 : Int := (((List.length y2) : Nat) : Int)
 ids_Take_0' n3 (0 : Int) y2 a0 ((0 : Int), ((0 : Int), ((0 : Int), (([] : List D_ids_Own), (([] : List D_ids_Given), ((0 : Int), ((0 : Int), ()))))))) a0.1 a0.2.1 a0.2.2.1 a0.2.2.2.2.2.1 a0.2.2.2.2.2.2.1 y1
theorem ex_ids_Take : ∃ f, f = @b_ids_Take := ⟨_, rfl⟩
noncomputable def ids_Take := Classical.choose ex_ids_Take
theorem ids_Take_eq : @ids_Take = @b_ids_Take := Classical.choose_spec ex_ids_Take
noncomputable def cb_ids_Take : Con := ⟨[T_ids_State], r_ids_Take, fun x => b_ids_Take x.1⟩
noncomputable def c_ids_Take : Con := ⟨[T_ids_State], r_ids_Take, fun x => ids_Take x.1⟩
theorem cb_ids_Take_ok : cb_ids_Take.Sound prog Inv gInv 9 :=
 con_run (M := m_ids_Take) inv_g (f := f9) rfl ks_ids_Take 100000 (X := x_ids_Take_0) (fun base S0 cs0 hn hf => have hfin : H_ids_Take base S0 := ⟨hn, hf⟩; o_ids_Take_0 hfin) (by intro x; kernel_rfl)
theorem c_ids_Take_ok : c_ids_Take.Sound prog Inv gInv 9 := by
 have e : c_ids_Take = cb_ids_Take := by unfold c_ids_Take cb_ids_Take; rw [ids_Take_eq]
 rw [e]; exact cb_ids_Take_ok
noncomputable def m_ids_Next_l1 : Mach prog Inv gInv := mach bas [(22, f22)] ⟨ok22, trivial⟩ [] trivial [] trivial [] trivial
/-! ### domino/ids.Next$1 -/
@[reducible] def r_ids_Next_l1 : List Ty := [.bool]
def ks_ids_Next_l1 : List Nat := [22]
noncomputable def b_ids_Next_l1 (a0 : D_ids_Given) : Option (Bool × Unit) :=
 some a0.2.2.2.2.2
theorem ex_ids_Next_l1 : ∃ f, f = @b_ids_Next_l1 := ⟨_, rfl⟩
noncomputable def ids_Next_l1 := Classical.choose ex_ids_Next_l1
theorem ids_Next_l1_eq : @ids_Next_l1 = @b_ids_Next_l1 := Classical.choose_spec ex_ids_Next_l1
noncomputable def cb_ids_Next_l1 : Con := ⟨[T_ids_Given], r_ids_Next_l1, fun x => b_ids_Next_l1 x.1⟩
noncomputable def c_ids_Next_l1 : Con := ⟨[T_ids_Given], r_ids_Next_l1, fun x => ids_Next_l1 x.1⟩
theorem cb_ids_Next_l1_ok : cb_ids_Next_l1.Sound prog Inv gInv 22 :=
 con_run (M := m_ids_Next_l1) inv_g (f := f22) rfl ks_ids_Next_l1 100000 (X := nowhere) (fun base S0 cs0 hn hf => OSound.nowhere) (by intro x; kernel_rfl)
theorem c_ids_Next_l1_ok : c_ids_Next_l1.Sound prog Inv gInv 22 := by
 have e : c_ids_Next_l1 = cb_ids_Next_l1 := by unfold c_ids_Next_l1 cb_ids_Next_l1; rw [ids_Next_l1_eq]
 rw [e]; exact cb_ids_Next_l1_ok
noncomputable def m_ids_fits : Mach prog Inv gInv := mach bas [(23, f23)] ⟨ok23, trivial⟩ [(39, c_frame_Put)] ⟨⟨c_frame_Put_ok, FnOk.callable ok39⟩, trivial⟩ [] trivial [] trivial
/-! ### domino/ids.fits -/
@[reducible] def r_ids_fits : List Ty := [.bool]
def ks_ids_fits : List Nat := [23]
noncomputable def b_ids_fits (a0 : D_frame_Frame) (a1 : Int) : Option (Bool × Unit) :=
 obind (frame_Put a0) fun y2 =>
 let b3 : Bool := (y2.2.1 == (0 : Int))
 bif b3 then
  let n4 : Int := (((ByteArray.size y2.1) : Nat) : Int)
  let b5 : Bool := (decide (n4 ≤ a1))
  some (b5, ())
 else
  some (false, ())
theorem ex_ids_fits : ∃ f, f = @b_ids_fits := ⟨_, rfl⟩
noncomputable def ids_fits := Classical.choose ex_ids_fits
theorem ids_fits_eq : @ids_fits = @b_ids_fits := Classical.choose_spec ex_ids_fits
noncomputable def cb_ids_fits : Con := ⟨[T_frame_Frame, (.int .i64)], r_ids_fits, fun x => b_ids_fits x.1 x.2.1⟩
noncomputable def c_ids_fits : Con := ⟨[T_frame_Frame, (.int .i64)], r_ids_fits, fun x => ids_fits x.1 x.2.1⟩
theorem cb_ids_fits_ok : cb_ids_fits.Sound prog Inv gInv 23 :=
 con_run (M := m_ids_fits) inv_g (f := f23) rfl ks_ids_fits 100000 (X := nowhere) (fun base S0 cs0 hn hf => OSound.nowhere) (by intro x; kernel_rfl)
theorem c_ids_fits_ok : c_ids_fits.Sound prog Inv gInv 23 := by
 have e : c_ids_fits = cb_ids_fits := by unfold c_ids_fits cb_ids_fits; rw [ids_fits_eq]
 rw [e]; exact cb_ids_fits_ok
noncomputable def m_ids_Next_l2 : Mach prog Inv gInv := mach bas [(25, f25)] ⟨ok25, trivial⟩ [] trivial [] trivial [] trivial
/-! ### domino/ids.Next$2 -/
@[reducible] def r_ids_Next_l2 : List Ty := [.bool]
def ks_ids_Next_l2 : List Nat := [25]
noncomputable def b_ids_Next_l2 (a0 : D_ids_Own) : Option (Bool × Unit) :=
 some (a0.2.2.2.1, ())
theorem ex_ids_Next_l2 : ∃ f, f = @b_ids_Next_l2 := ⟨_, rfl⟩
noncomputable def ids_Next_l2 := Classical.choose ex_ids_Next_l2
theorem ids_Next_l2_eq : @ids_Next_l2 = @b_ids_Next_l2 := Classical.choose_spec ex_ids_Next_l2
noncomputable def cb_ids_Next_l2 : Con := ⟨[T_ids_Own], r_ids_Next_l2, fun x => b_ids_Next_l2 x.1⟩
noncomputable def c_ids_Next_l2 : Con := ⟨[T_ids_Own], r_ids_Next_l2, fun x => ids_Next_l2 x.1⟩
theorem cb_ids_Next_l2_ok : cb_ids_Next_l2.Sound prog Inv gInv 25 :=
 con_run (M := m_ids_Next_l2) inv_g (f := f25) rfl ks_ids_Next_l2 100000 (X := nowhere) (fun base S0 cs0 hn hf => OSound.nowhere) (by intro x; kernel_rfl)
theorem c_ids_Next_l2_ok : c_ids_Next_l2.Sound prog Inv gInv 25 := by
 have e : c_ids_Next_l2 = cb_ids_Next_l2 := by unfold c_ids_Next_l2 cb_ids_Next_l2; rw [ids_Next_l2_eq]
 rw [e]; exact cb_ids_Next_l2_ok
noncomputable def m_ids_Next : Mach prog Inv gInv := mach bas [(10, f10), (17, f17), (21, f21), (24, f24), (38, f38), (40, f40)] ⟨ok10, ok17, ok21, ok24, ok38, ok40, trivial⟩ [(22, c_ids_Next_l1), (23, c_ids_fits), (25, c_ids_Next_l2)] ⟨⟨c_ids_Next_l1_ok, FnOk.callable ok22⟩, ⟨c_ids_fits_ok, FnOk.callable ok23⟩, ⟨c_ids_Next_l2_ok, FnOk.callable ok25⟩, trivial⟩ [(34, c_slices_Clone_ids_Own), (35, c_slices_Clone_ids_Given)] ⟨⟨c_slices_Clone_ids_Own_ok, FnOk.callable ok34⟩, ⟨c_slices_Clone_ids_Given_ok, FnOk.callable ok35⟩, trivial⟩ [] trivial
/-! ### domino/ids.Next -/
@[reducible] def r_ids_Next : List Ty := [T_ids_State, T_frame_Frame, .bool]
def ks_ids_Next : List Nat := [10, 17, 21, 24, 38, 40]
abbrev H_ids_Next (base : Base) (S0 : Nat → Prop) := base.n = 0 ∧ FinOk (finR r_ids_Next) base S0 (Post r_ids_Next S0)
abbrev J_ids_Next (base : Base) (S0 : Nat → Prop) (cs0 : List Go.Frame) (p : CPat) (J : denC p → Option (denL r_ids_Next)) := JSound m_ids_Next base S0 cs0 (Post r_ids_Next S0) p J
abbrev O_ids_Next (base : Base) (S0 : Nat → Prop) (cs0 : List Go.Frame) (X : Cfg → Option (Option (denL r_ids_Next))) := OSound m_ids_Next base S0 cs0 (Post r_ids_Next S0) X
@[reducible] noncomputable def p_ids_Next_4 : CPat := ⟨⟨24, [1, 0], (some 3), [.any, .any, .any, .any, .any, .any, .any, .any, .any, .int .i64], 3⟩, [⟨10, [1, 1, 1, 0, 0], (some 4), [.any, .int .i64, .ptr 0 0, .any, .ptr 1 0, .ptr 2 0, .any, .ptr 3 0], 81⟩], [.dat 29 T_ids_State, .dat 29 T_ids_State, .dat 36 T_frame_Frame, .cells 29 [.int .u64, .int .i64, .int .i64, .all 4, .all 5, .int .u64, .int .u64], .row T_ids_Own, .row T_ids_Given], 0⟩
@[reducible] noncomputable def u_ids_Next_4 (k : Int → Int → D_ids_State → D_ids_State → D_frame_Frame → Int → Int → Int → Int → Int → (List D_ids_Own) → (List D_ids_Given) → Option (D_ids_State × D_frame_Frame × Bool × Unit)) : denC p_ids_Next_4 → Option (D_ids_State × D_frame_Frame × Bool × Unit) := fun x => k x.1.2.2.2.2.2.2.2.2.2.1 x.2.1.1.2.1 x.2.2.1 x.2.2.2.1 x.2.2.2.2.1 x.2.2.2.2.2.1.1 x.2.2.2.2.2.1.2.1 x.2.2.2.2.2.1.2.2.1 x.2.2.2.2.2.1.2.2.2.2.2.1 x.2.2.2.2.2.1.2.2.2.2.2.2.1 x.2.2.2.2.2.2.1 x.2.2.2.2.2.2.2.1
noncomputable def b_ids_Next_4 (i125 : Int) (i126 : Int) (d127 : D_ids_State) (d128 : D_ids_State) (d129 : D_frame_Frame) (i130 : Int) (i131 : Int) (i132 : Int) (i133 : Int) (i134 : Int) (l135 : (List D_ids_Own)) (l136 : (List D_ids_Given)) : Option (D_ids_State × D_frame_Frame × Bool × Unit) :=
 let b137 : Bool := (decide (i125 ≥ (0 : Int)))
 bif b137 then
  bif (decide (((0 : Int) ≤ i125) ∧ (i125 < (((List.length l135) : Nat) : Int)))) then
   let i138 : Nat := (Int.toNat i125)
   let n139 : Int := (List.getD l135 i138 (Ty.dflt T_ids_Own)).1
   let s140 : ByteArray := (List.getD l135 i138 (Ty.dflt T_ids_Own)).2.1
   let s141 : ByteArray := (List.getD l135 i138 (Ty.dflt T_ids_Own)).2.2.1
   let s142 : ByteArray := (ByteArray.mk (List.toArray ([] : List UInt8)))
   let s143 : ByteArray := (ByteArray.mk (List.toArray ([] : List UInt8)))
   obind (ids_fits ((24 : Int), ((0 : Int), ((0 : Int), ((0 : Int), ((0 : Int), (n139, ((0 : Int), ((0 : Int), (false, (s142, (s140, (s141, (([] : List D_ranges_Range), ()))))))))))))) i126) fun y144 =>
   bif y144.1 then
    let l145 : (List D_ids_Own) := (List.set l135 i138 ((List.getD l135 i138 (Ty.dflt T_ids_Own)).1, ((List.getD l135 i138 (Ty.dflt T_ids_Own)).2.1, ((List.getD l135 i138 (Ty.dflt T_ids_Own)).2.2.1, (false, ((List.getD l135 i138 (Ty.dflt T_ids_Own)).2.2.2.2.1, ()))))))
    some ((i130, (i131, (i132, (l145, (l136, (i133, (i134, ()))))))), (((24 : Int), ((0 : Int), ((0 : Int), ((0 : Int), ((0 : Int), (n139, ((0 : Int), ((0 : Int), (false, (s142, (s140, (s141, (([] : List D_ranges_Range), ()))))))))))))), (true, ())))
   else
    let s148 : ByteArray := (ByteArray.mk (List.toArray ([] : List UInt8)))
    some (d127, (((0 : Int), ((0 : Int), ((0 : Int), ((0 : Int), ((0 : Int), ((0 : Int), ((0 : Int), ((0 : Int), (false, (s148, (s148, (s148, (([] : List D_ranges_Range), ()))))))))))))), (false, ())))
  else none
 else
  let s147 : ByteArray := (ByteArray.mk (List.toArray ([] : List UInt8)))
  some (d127, (((0 : Int), ((0 : Int), ((0 : Int), ((0 : Int), ((0 : Int), ((0 : Int), ((0 : Int), ((0 : Int), (false, (s147, (s147, (s147, (([] : List D_ranges_Range), ()))))))))))))), (false, ())))
theorem ex_ids_Next_4 : ∃ f, f = @b_ids_Next_4 := ⟨_, rfl⟩
noncomputable def ids_Next_4 := Classical.choose ex_ids_Next_4
theorem ids_Next_4_eq : @ids_Next_4 = @b_ids_Next_4 := Classical.choose_spec ex_ids_Next_4
theorem s_ids_Next_4 {base S0 cs0} (hfin : H_ids_Next base S0) : J_ids_Next base S0 cs0 p_ids_Next_4 (u_ids_Next_4 (ids_Next_4)) :=
 JSound.join hfin.2 (OSound.nowhere) ks_ids_Next 100000 (by rw [ids_Next_4_eq]; intro x; kernel_rfl)
noncomputable def x_ids_Next_4 : Cfg → Option (Option (D_ids_State × D_frame_Frame × Bool × Unit)) := cut p_ids_Next_4 (u_ids_Next_4 (ids_Next_4)) (nowhere)
theorem o_ids_Next_4 {base S0 cs0} (hfin : H_ids_Next base S0) : O_ids_Next base S0 cs0 (x_ids_Next_4) := OSound.cut (OSound.nowhere) (Nat.le_of_eq hfin.1) (s_ids_Next_4 hfin)
@[reducible] noncomputable def p_ids_Next_3 : CPat := ⟨⟨40, [1, 0, 1, 0], none, [.all 0, .func 25 [] [], .any, .any, .any, .any, .any, .int .i64, .int .i64], 10⟩, [⟨24, [1, 0], (some 2), [], 13⟩, ⟨10, [1, 1, 1, 0, 0], (some 4), [.any, .int .i64, .ptr 1 0, .any, .ptr 2 0, .ptr 3 0, .any, .ptr 4 0], 81⟩], [.row T_ids_Own, .dat 29 T_ids_State, .dat 29 T_ids_State, .dat 36 T_frame_Frame, .cells 29 [.int .u64, .int .i64, .int .i64, .all 0, .all 5, .int .u64, .int .u64], .row T_ids_Given], 0⟩
@[reducible] noncomputable def u_ids_Next_3 (k : Int → Int → Int → (List D_ids_Own) → D_ids_State → D_ids_State → D_frame_Frame → Int → Int → Int → Int → Int → (List D_ids_Given) → Option (D_ids_State × D_frame_Frame × Bool × Unit)) : denC p_ids_Next_3 → Option (D_ids_State × D_frame_Frame × Bool × Unit) := fun x => k x.1.2.2.2.2.2.2.2.1 x.1.2.2.2.2.2.2.2.2.1 x.2.1.2.1.2.1 x.2.2.1 x.2.2.2.1 x.2.2.2.2.1 x.2.2.2.2.2.1 x.2.2.2.2.2.2.1.1 x.2.2.2.2.2.2.1.2.1 x.2.2.2.2.2.2.1.2.2.1 x.2.2.2.2.2.2.1.2.2.2.2.2.1 x.2.2.2.2.2.2.1.2.2.2.2.2.2.1 x.2.2.2.2.2.2.2.1
noncomputable def t_ids_Next_3 (k3 : Int → Int → Int → (List D_ids_Own) → D_ids_State → D_ids_State → D_frame_Frame → Int → Int → Int → Int → Int → (List D_ids_Given) → Option (D_ids_State × D_frame_Frame × Bool × Unit)) (i102 : Int) (i103 : Int) (i104 : Int) (l105 : (List D_ids_Own)) (d106 : D_ids_State) (d107 : D_ids_State) (d108 : D_frame_Frame) (i109 : Int) (i110 : Int) (i111 : Int) (i112 : Int) (i113 : Int) (l114 : (List D_ids_Given)) : Option (D_ids_State × D_frame_Frame × Bool × Unit) :=
 let b115 : Bool := (decide (i103 < i102))
 bif b115 then
  bif (decide (((0 : Int) ≤ i103) ∧ (i103 < (((List.length l105) : Nat) : Int)))) then
   let i116 : Nat := (Int.toNat i103)
   let n117 : Int := (List.getD l105 i116 (Ty.dflt T_ids_Own)).1
   let s118 : ByteArray := (List.getD l105 i116 (Ty.dflt T_ids_Own)).2.1
   let s119 : ByteArray := (List.getD l105 i116 (Ty.dflt T_ids_Own)).2.2.1
   let b120 : Bool := (List.getD l105 i116 (Ty.dflt T_ids_Own)).2.2.2.1
   let b121 : Bool := (List.getD l105 i116 (Ty.dflt T_ids_Own)).2.2.2.2.1
   obind (ids_Next_l2 (n117, (s118, (s119, (b120, (b121, ())))))) fun y122 =>
   bif y122.1 then
    ids_Next_4 i103 i104 d106 d107 d108 i109 i110 i111 i112 i113 l105 l114
   else
    let n123 : Int := (Go.IntKind.wrap Go.IntKind.i64 (i103 + (1 : Int)))
    k3 i102 n123 i104 l105 d106 d107 d108 i109 i110 i111 i112 i113 l114
  else none
 else
  ids_Next_4 (-1 : Int) i104 d106 d107 d108 i109 i110 i111 i112 i113 l105 l114
noncomputable def ids_Next_3 : Nat → Int → Int → Int → (List D_ids_Own) → D_ids_State → D_ids_State → D_frame_Frame → Int → Int → Int → Int → Int → (List D_ids_Given) → Option (D_ids_State × D_frame_Frame × Bool × Unit)
 | 0 => fun _ _ _ _ _ _ _ _ _ _ _ _ _ => none
 | m + 1 => t_ids_Next_3 (ids_Next_3 m)
noncomputable def b_ids_Next_3' (i102 : Int) (i103 : Int) (i104 : Int) (l105 : (List D_ids_Own)) (d106 : D_ids_State) (d107 : D_ids_State) (d108 : D_frame_Frame) (i109 : Int) (i110 : Int) (i111 : Int) (i112 : Int) (i113 : Int) (l114 : (List D_ids_Given)) : Option (D_ids_State × D_frame_Frame × Bool × Unit) := ids_Next_3 (Int.toNat (i102 - i103) + 2) i102 i103 i104 l105 d106 d107 d108 i109 i110 i111 i112 i113 l114
theorem ex_ids_Next_3' : ∃ f, f = @b_ids_Next_3' := ⟨_, rfl⟩
noncomputable def ids_Next_3' := Classical.choose ex_ids_Next_3'
theorem ids_Next_3'_eq : @ids_Next_3' = @b_ids_Next_3' := Classical.choose_spec ex_ids_Next_3'
theorem s_ids_Next_3 {base S0 cs0} (hfin : H_ids_Next base S0) : ∀ m, J_ids_Next base S0 cs0 p_ids_Next_3 (u_ids_Next_3 (ids_Next_3 m)) :=
 JSound.loop' hfin.2 ks_ids_Next 100000 u_ids_Next_3 (fun k3 => cut p_ids_Next_3 (u_ids_Next_3 k3) (x_ids_Next_4)) (fun k3 h3 => OSound.cut (o_ids_Next_4 hfin) (Nat.le_of_eq hfin.1) h3) (ids_Next_3) (by intro x; rfl) (by intro m x; kernel_rfl)
theorem s_ids_Next_3' {base S0 cs0} (hfin : H_ids_Next base S0) : J_ids_Next base S0 cs0 p_ids_Next_3 (u_ids_Next_3 (ids_Next_3')) := by
 rw [ids_Next_3'_eq]; exact fun x r hx => s_ids_Next_3 hfin _ x r hx
noncomputable def x_ids_Next_3 : Cfg → Option (Option (D_ids_State × D_frame_Frame × Bool × Unit)) := cut p_ids_Next_3 (u_ids_Next_3 (ids_Next_3')) (x_ids_Next_4)
theorem o_ids_Next_3 {base S0 cs0} (hfin : H_ids_Next base S0) : O_ids_Next base S0 cs0 (x_ids_Next_3) := OSound.cut (o_ids_Next_4 hfin) (Nat.le_of_eq hfin.1) (s_ids_Next_3' hfin)
@[reducible] noncomputable def p_ids_Next_2 : CPat := ⟨⟨10, [1, 1, 1], none, [.any, .int .i64, .ptr 0 0, .any, .ptr 1 0, .ptr 2 0, .any, .ptr 3 0], 81⟩, [], [.dat 29 T_ids_State, .dat 29 T_ids_State, .dat 36 T_frame_Frame, .cells 29 [.int .u64, .int .i64, .int .i64, .all 4, .all 5, .int .u64, .int .u64], .row T_ids_Own, .row T_ids_Given], 0⟩
@[reducible] noncomputable def u_ids_Next_2 (k : Int → D_ids_State → D_ids_State → D_frame_Frame → Int → Int → Int → Int → Int → (List D_ids_Own) → (List D_ids_Given) → Option (D_ids_State × D_frame_Frame × Bool × Unit)) : denC p_ids_Next_2 → Option (D_ids_State × D_frame_Frame × Bool × Unit) := fun x => k x.1.2.1 x.2.2.1 x.2.2.2.1 x.2.2.2.2.1 x.2.2.2.2.2.1.1 x.2.2.2.2.2.1.2.1 x.2.2.2.2.2.1.2.2.1 x.2.2.2.2.2.1.2.2.2.2.2.1 x.2.2.2.2.2.1.2.2.2.2.2.2.1 x.2.2.2.2.2.2.1 x.2.2.2.2.2.2.2.1
noncomputable def b_ids_Next_2 (i71 : Int) (d72 : D_ids_State) (d73 : D_ids_State) (d74 : D_frame_Frame) (i75 : Int) (i76 : Int) (i77 : Int) (i78 : Int) (i79 : Int) (l80 : (List D_ids_Own)) (l81 : (List D_ids_Given)) : Option (D_ids_State × D_frame_Frame × Bool × Unit) :=
 let n82 : Int := (((List.length l80) : Nat) : Int)
 ids_Next_3' n82 (0 : Int) i71 l80 d72 d73 d74 i75 i76 i77 i78 i79 l81
theorem ex_ids_Next_2 : ∃ f, f = @b_ids_Next_2 := ⟨_, rfl⟩
noncomputable def ids_Next_2 := Classical.choose ex_ids_Next_2
theorem ids_Next_2_eq : @ids_Next_2 = @b_ids_Next_2 := Classical.choose_spec ex_ids_Next_2
theorem s_ids_Next_2 {base S0 cs0} (hfin : H_ids_Next base S0) : J_ids_Next base S0 cs0 p_ids_Next_2 (u_ids_Next_2 (ids_Next_2)) :=
 JSound.join hfin.2 (o_ids_Next_3 hfin) ks_ids_Next 100000 (by rw [ids_Next_2_eq]; intro x; kernel_rfl)
noncomputable def x_ids_Next_2 : Cfg → Option (Option (D_ids_State × D_frame_Frame × Bool × Unit)) := cut p_ids_Next_2 (u_ids_Next_2 (ids_Next_2)) (x_ids_Next_3)
theorem o_ids_Next_2 {base S0 cs0} (hfin : H_ids_Next base S0) : O_ids_Next base S0 cs0 (x_ids_Next_2) := OSound.cut (o_ids_Next_3 hfin) (Nat.le_of_eq hfin.1) (s_ids_Next_2 hfin)
@[reducible] noncomputable def p_ids_Next_1 : CPat := ⟨⟨21, [1, 0], (some 3), [.any, .any, .any, .any, .any, .any, .any, .any, .any, .int .i64], 3⟩, [⟨10, [1, 1, 0, 0], (some 4), [.any, .int .i64, .ptr 0 0, .any, .ptr 1 0, .ptr 2 0, .any, .ptr 3 0], 81⟩], [.dat 29 T_ids_State, .dat 29 T_ids_State, .dat 36 T_frame_Frame, .cells 29 [.int .u64, .int .i64, .int .i64, .all 4, .all 5, .int .u64, .int .u64], .row T_ids_Own, .row T_ids_Given], 0⟩
@[reducible] noncomputable def u_ids_Next_1 (k : Int → Int → D_ids_State → D_ids_State → D_frame_Frame → Int → Int → Int → Int → Int → (List D_ids_Own) → (List D_ids_Given) → Option (D_ids_State × D_frame_Frame × Bool × Unit)) : denC p_ids_Next_1 → Option (D_ids_State × D_frame_Frame × Bool × Unit) := fun x => k x.1.2.2.2.2.2.2.2.2.2.1 x.2.1.1.2.1 x.2.2.1 x.2.2.2.1 x.2.2.2.2.1 x.2.2.2.2.2.1.1 x.2.2.2.2.2.1.2.1 x.2.2.2.2.2.1.2.2.1 x.2.2.2.2.2.1.2.2.2.2.2.1 x.2.2.2.2.2.1.2.2.2.2.2.2.1 x.2.2.2.2.2.2.1 x.2.2.2.2.2.2.2.1
noncomputable def b_ids_Next_1 (i50 : Int) (i51 : Int) (d52 : D_ids_State) (d53 : D_ids_State) (d54 : D_frame_Frame) (i55 : Int) (i56 : Int) (i57 : Int) (i58 : Int) (i59 : Int) (l60 : (List D_ids_Own)) (l61 : (List D_ids_Given)) : Option (D_ids_State × D_frame_Frame × Bool × Unit) :=
 let b62 : Bool := (decide (i50 ≥ (0 : Int)))
 bif b62 then
  bif (decide (((0 : Int) ≤ i50) ∧ (i50 < (((List.length l61) : Nat) : Int)))) then
   let i63 : Nat := (Int.toNat i50)
   let n64 : Int := (List.getD l61 i63 (Ty.dflt T_ids_Given)).1
   let s65 : ByteArray := (ByteArray.mk (List.toArray ([] : List UInt8)))
   let s66 : ByteArray := (ByteArray.mk (List.toArray ([] : List UInt8)))
   obind (ids_fits ((25 : Int), ((0 : Int), ((0 : Int), ((0 : Int), ((0 : Int), (n64, ((0 : Int), ((0 : Int), (false, (s65, (s65, (s65, (([] : List D_ranges_Range), ()))))))))))))) i51) fun y67 =>
   bif y67.1 then
    bif (decide (((0 : Int) ≤ i50) ∧ (i50 < (((List.length l61) : Nat) : Int)))) then
     let i68 : Nat := (Int.toNat i50)
     let l69 : (List D_ids_Given) := (List.set l61 i68 ((List.getD l61 i68 (Ty.dflt T_ids_Given)).1, ((List.getD l61 i68 (Ty.dflt T_ids_Given)).2.1, ((List.getD l61 i68 (Ty.dflt T_ids_Given)).2.2.1, ((List.getD l61 i68 (Ty.dflt T_ids_Given)).2.2.2.1, ((List.getD l61 i68 (Ty.dflt T_ids_Given)).2.2.2.2.1, (false, ())))))))
     some ((i55, (i56, (i57, (l60, (l69, (i58, (i59, ()))))))), (((25 : Int), ((0 : Int), ((0 : Int), ((0 : Int), ((0 : Int), (n64, ((0 : Int), ((0 : Int), (false, (s65, (s65, (s65, (([] : List D_ranges_Range), ()))))))))))))), (true, ())))
    else none
   else
    ids_Next_2 i51 d52 d53 d54 i55 i56 i57 i58 i59 l60 l61
  else none
 else
  ids_Next_2 i51 d52 d53 d54 i55 i56 i57 i58 i59 l60 l61
theorem ex_ids_Next_1 : ∃ f, f = @b_ids_Next_1 := ⟨_, rfl⟩
noncomputable def ids_Next_1 := Classical.choose ex_ids_Next_1
theorem ids_Next_1_eq : @ids_Next_1 = @b_ids_Next_1 := Classical.choose_spec ex_ids_Next_1
theorem s_ids_Next_1 {base S0 cs0} (hfin : H_ids_Next base S0) : J_ids_Next base S0 cs0 p_ids_Next_1 (u_ids_Next_1 (ids_Next_1)) :=
 JSound.join hfin.2 (o_ids_Next_2 hfin) ks_ids_Next 100000 (by rw [ids_Next_1_eq]; intro x; kernel_rfl)
noncomputable def x_ids_Next_1 : Cfg → Option (Option (D_ids_State × D_frame_Frame × Bool × Unit)) := cut p_ids_Next_1 (u_ids_Next_1 (ids_Next_1)) (x_ids_Next_2)
theorem o_ids_Next_1 {base S0 cs0} (hfin : H_ids_Next base S0) : O_ids_Next base S0 cs0 (x_ids_Next_1) := OSound.cut (o_ids_Next_2 hfin) (Nat.le_of_eq hfin.1) (s_ids_Next_1 hfin)
@[reducible] noncomputable def p_ids_Next_0 : CPat := ⟨⟨38, [1, 0, 1, 0], none, [.all 0, .func 22 [] [], .any, .any, .any, .any, .any, .int .i64, .int .i64], 10⟩, [⟨21, [1, 0], (some 2), [], 13⟩, ⟨10, [1, 1, 0, 0], (some 4), [.any, .int .i64, .ptr 1 0, .any, .ptr 2 0, .ptr 3 0, .any, .ptr 4 0], 81⟩], [.row T_ids_Given, .dat 29 T_ids_State, .dat 29 T_ids_State, .dat 36 T_frame_Frame, .cells 29 [.int .u64, .int .i64, .int .i64, .all 5, .all 0, .int .u64, .int .u64], .row T_ids_Own], 0⟩
@[reducible] noncomputable def u_ids_Next_0 (k : Int → Int → Int → (List D_ids_Given) → D_ids_State → D_ids_State → D_frame_Frame → Int → Int → Int → Int → Int → (List D_ids_Own) → Option (D_ids_State × D_frame_Frame × Bool × Unit)) : denC p_ids_Next_0 → Option (D_ids_State × D_frame_Frame × Bool × Unit) := fun x => k x.1.2.2.2.2.2.2.2.1 x.1.2.2.2.2.2.2.2.2.1 x.2.1.2.1.2.1 x.2.2.1 x.2.2.2.1 x.2.2.2.2.1 x.2.2.2.2.2.1 x.2.2.2.2.2.2.1.1 x.2.2.2.2.2.2.1.2.1 x.2.2.2.2.2.2.1.2.2.1 x.2.2.2.2.2.2.1.2.2.2.2.2.1 x.2.2.2.2.2.2.1.2.2.2.2.2.2.1 x.2.2.2.2.2.2.2.1
noncomputable def t_ids_Next_0 (k0 : Int → Int → Int → (List D_ids_Given) → D_ids_State → D_ids_State → D_frame_Frame → Int → Int → Int → Int → Int → (List D_ids_Own) → Option (D_ids_State × D_frame_Frame × Bool × Unit)) (i26 : Int) (i27 : Int) (i28 : Int) (l29 : (List D_ids_Given)) (d30 : D_ids_State) (d31 : D_ids_State) (d32 : D_frame_Frame) (i33 : Int) (i34 : Int) (i35 : Int) (i36 : Int) (i37 : Int) (l38 : (List D_ids_Own)) : Option (D_ids_State × D_frame_Frame × Bool × Unit) :=
 let b39 : Bool := (decide (i27 < i26))
 bif b39 then
  bif (decide (((0 : Int) ≤ i27) ∧ (i27 < (((List.length l29) : Nat) : Int)))) then
   let i40 : Nat := (Int.toNat i27)
   let n41 : Int := (List.getD l29 i40 (Ty.dflt T_ids_Given)).1
   let s42 : ByteArray := (List.getD l29 i40 (Ty.dflt T_ids_Given)).2.1
   let s43 : ByteArray := (List.getD l29 i40 (Ty.dflt T_ids_Given)).2.2.1
   let b44 : Bool := (List.getD l29 i40 (Ty.dflt T_ids_Given)).2.2.2.1
   let b45 : Bool := (List.getD l29 i40 (Ty.dflt T_ids_Given)).2.2.2.2.1
   let b46 : Bool := (List.getD l29 i40 (Ty.dflt T_ids_Given)).2.2.2.2.2.1
   obind (ids_Next_l1 (n41, (s42, (s43, (b44, (b45, (b46, ()))))))) fun y47 =>
   bif y47.1 then
    ids_Next_1 i27 i28 d30 d31 d32 i33 i34 i35 i36 i37 l38 l29
   else
    let n48 : Int := (Go.IntKind.wrap Go.IntKind.i64 (i27 + (1 : Int)))
    k0 i26 n48 i28 l29 d30 d31 d32 i33 i34 i35 i36 i37 l38
  else none
 else
  ids_Next_1 (-1 : Int) i28 d30 d31 d32 i33 i34 i35 i36 i37 l38 l29
noncomputable def ids_Next_0 : Nat → Int → Int → Int → (List D_ids_Given) → D_ids_State → D_ids_State → D_frame_Frame → Int → Int → Int → Int → Int → (List D_ids_Own) → Option (D_ids_State × D_frame_Frame × Bool × Unit)
 | 0 => fun _ _ _ _ _ _ _ _ _ _ _ _ _ => none
 | m + 1 => t_ids_Next_0 (ids_Next_0 m)
noncomputable def b_ids_Next_0' (i26 : Int) (i27 : Int) (i28 : Int) (l29 : (List D_ids_Given)) (d30 : D_ids_State) (d31 : D_ids_State) (d32 : D_frame_Frame) (i33 : Int) (i34 : Int) (i35 : Int) (i36 : Int) (i37 : Int) (l38 : (List D_ids_Own)) : Option (D_ids_State × D_frame_Frame × Bool × Unit) := ids_Next_0 (Int.toNat (i26 - i27) + 2) i26 i27 i28 l29 d30 d31 d32 i33 i34 i35 i36 i37 l38
theorem ex_ids_Next_0' : ∃ f, f = @b_ids_Next_0' := ⟨_, rfl⟩
noncomputable def ids_Next_0' := Classical.choose ex_ids_Next_0'
theorem ids_Next_0'_eq : @ids_Next_0' = @b_ids_Next_0' := Classical.choose_spec ex_ids_Next_0'
theorem s_ids_Next_0 {base S0 cs0} (hfin : H_ids_Next base S0) : ∀ m, J_ids_Next base S0 cs0 p_ids_Next_0 (u_ids_Next_0 (ids_Next_0 m)) :=
 JSound.loop' hfin.2 ks_ids_Next 100000 u_ids_Next_0 (fun k0 => cut p_ids_Next_0 (u_ids_Next_0 k0) (x_ids_Next_1)) (fun k0 h0 => OSound.cut (o_ids_Next_1 hfin) (Nat.le_of_eq hfin.1) h0) (ids_Next_0) (by intro x; rfl) (by intro m x; kernel_rfl)
theorem s_ids_Next_0' {base S0 cs0} (hfin : H_ids_Next base S0) : J_ids_Next base S0 cs0 p_ids_Next_0 (u_ids_Next_0 (ids_Next_0')) := by
 rw [ids_Next_0'_eq]; exact fun x r hx => s_ids_Next_0 hfin _ x r hx
noncomputable def x_ids_Next_0 : Cfg → Option (Option (D_ids_State × D_frame_Frame × Bool × Unit)) := cut p_ids_Next_0 (u_ids_Next_0 (ids_Next_0')) (x_ids_Next_1)
theorem o_ids_Next_0 {base S0 cs0} (hfin : H_ids_Next base S0) : O_ids_Next base S0 cs0 (x_ids_Next_0) := OSound.cut (o_ids_Next_1 hfin) (Nat.le_of_eq hfin.1) (s_ids_Next_0' hfin)
noncomputable def b_ids_Next (a0 : D_ids_State) (a1 : Int) : Option (D_ids_State × D_frame_Frame × Bool × Unit) :=
 let s2 : ByteArray := (ByteArray.mk (List.toArray ([] : List UInt8)))
 obind (slices_Clone_ids_Own a0.2.2.2.1) fun y3 =>
 obind (slices_Clone_ids_Given a0.2.2.2.2.1) fun y4 =>
 let n5 : Int := (((List.length y4) : Nat) : Int)
 ids_Next_0' n5 (0 : Int) a1 y4 a0 ((0 : Int), ((0 : Int), ((0 : Int), (([] : List D_ids_Own), (([] : List D_ids_Given), ((0 : Int), ((0 : Int), ()))))))) ((0 : Int), ((0 : Int), ((0 : Int), ((0 : Int), ((0 : Int), ((0 : Int), ((0 : Int), ((0 : Int), (false, (s2, (s2, (s2, (([] : List D_ranges_Range), ()))))))))))))) a0.1 a0.2.1 a0.2.2.1 a0.2.2.2.2.2.1 a0.2.2.2.2.2.2.1 y3
theorem ex_ids_Next : ∃ f, f = @b_ids_Next := ⟨_, rfl⟩
noncomputable def ids_Next := Classical.choose ex_ids_Next
theorem ids_Next_eq : @ids_Next = @b_ids_Next := Classical.choose_spec ex_ids_Next
noncomputable def cb_ids_Next : Con := ⟨[T_ids_State, (.int .i64)], r_ids_Next, fun x => b_ids_Next x.1 x.2.1⟩
noncomputable def c_ids_Next : Con := ⟨[T_ids_State, (.int .i64)], r_ids_Next, fun x => ids_Next x.1 x.2.1⟩
theorem cb_ids_Next_ok : cb_ids_Next.Sound prog Inv gInv 10 :=
 con_run (M := m_ids_Next) inv_g (f := f10) rfl ks_ids_Next 100000 (X := x_ids_Next_0) (fun base S0 cs0 hn hf => have hfin : H_ids_Next base S0 := ⟨hn, hf⟩; o_ids_Next_0 hfin) (by intro x; kernel_rfl)
theorem c_ids_Next_ok : c_ids_Next.Sound prog Inv gInv 10 := by
 have e : c_ids_Next = cb_ids_Next := by unfold c_ids_Next cb_ids_Next; rw [ids_Next_eq]
 rw [e]; exact cb_ids_Next_ok
end Go.Proofs.YtjlfmolfcgennaaDoor.V
namespace Go.Proofs.YtjlfmolfcgennaaDoor.V
open Go.RowKit
def ixP {γ : Type} (p : γ → Bool) : Int → List γ → Int
 | _, [] => -1
 | k, x :: l => if p x then k else ixP p (k + 1) l
theorem ixP_is {γ : Type} (p : γ → Bool) : ∀ (l : List γ) (k : Int), ixP p k l = if l.findIdx p < l.length then k + ((l.findIdx p : Nat) : Int) else -1
 | [], _ => rfl
 | x :: l, k => by
  unfold ixP
  cases h : p x with
  | true => simp [List.findIdx_cons, h]
  | false =>
   rw [if_neg (by simp), ixP_is p l (k + 1)]
   simp only [List.findIdx_cons, h, cond_false, List.length_cons, Nat.add_lt_add_iff_right]
   split
   · omega
   · rfl
theorem clone_own (l : List D_ids_Own) (h : l.length ≤ 4294967296) : slices_Clone_ids_Own l = some l := by
 unfold slices_Clone_ids_Own; simp [h]
theorem clone_given (l : List D_ids_Given) (h : l.length ≤ 4294967296) : slices_Clone_ids_Given l = some l := by
 unfold slices_Clone_ids_Given; simp [h]
/-! #### what is drawn -/
def placeId (side seq : Int) : Int := ((side % 18446744073709551616) * 4294967296 + seq) % 18446744073709551616
def drF (seed side : Int) (seq : Int) : D_ids_Own := (seq, idF seed (placeId side seq), drawF seed ((placeId side seq + 1099511627776) % 18446744073709551616), true, false, ())
def InU (n : Int) : Prop := 0 ≤ n ∧ n < 18446744073709551616
theorem first_is (seed side : Int) : ids_First seed side = some (idF seed (placeId side 0), ()) := by
 rw [ids_First_eq, b_ids_First]
 simp only [wrap_u64', id_is, obind_some]
 have e : side % 18446744073709551616 * 4294967296 % 18446744073709551616 = placeId side 0 := by unfold placeId; omega
 rw [e]
theorem drawn_is (s : D_ids_State) (seq : Int) (hs : InU s.1) : ids_State_drawn_h0 s seq = some (drF s.1 s.2.1 seq, ()) := by
 rw [ids_State_drawn_h0_eq, b_ids_State_drawn_h0]
 simp only [wrap_u64', id_is, obind_some]
 have e : (s.2.1 % 18446744073709551616 * 4294967296 % 18446744073709551616 + seq) % 18446744073709551616 = placeId s.2.1 seq := by unfold placeId; omega
 rw [e, draw_is _ _ hs]
 rfl
def newF (seed side other : Int) : D_ids_State := (seed, side, 2, [(0, idF seed (placeId side 0), ⟨#[]⟩, false, false, ())], [(0, idF seed (placeId other 0), ⟨#[]⟩, true, false, false, ())], 0, 0, ())
theorem new0_is (seed : Int) : ids_New seed 0 = some (newF seed 0 1, ()) := by
 rw [ids_New_eq, b_ids_New]
 have w : IntKind.wrap .i64 ((1 : Int) - 0) = 1 := rfl
 simp only [first_is, obind_some, w]
 rfl
theorem new1_is (seed : Int) : ids_New seed 1 = some (newF seed 1 0, ()) := by
 rw [ids_New_eq, b_ids_New]
 have w : IntKind.wrap .i64 ((1 : Int) - 1) = 0 := rfl
 simp only [first_is, obind_some, w]
 rfl
/-! #### Cid, Is -/
def isNow (now : Int) (g : D_ids_Given) : Bool := g.1 == now
theorem cid_loop (d : D_ids_State) : ∀ (suf pre : List D_ids_Given) (m : Nat), suf.length < m → (pre ++ suf).length ≤ 4294967296 →
  ids_Cid_0 m (pre ++ suf) (((pre ++ suf).length : Nat) : Int) ((pre.length : Nat) : Int) d = ids_Cid_1 (ixP (isNow d.2.2.2.2.2.2.1) ((pre.length : Nat) : Int) suf) d := by
 intro suf
 induction suf with
 | nil =>
  intro pre m hm _
  obtain ⟨m, rfl⟩ : ∃ k, m = k + 1 := ⟨m - 1, by omega⟩
  simp only [ids_Cid_0, t_ids_Cid_0, mid_end, decide_false, cond_false, ixP]
 | cons x suf ih =>
  intro pre m hm hl
  obtain ⟨m, rfl⟩ : ∃ k, m = k + 1 := ⟨m - 1, by omega⟩
  simp only [ids_Cid_0, t_ids_Cid_0, mid_lt, nn, and_true, decide_true, cond_true, toNat_len, getD_mid, ixP, isNow]
  by_cases h : x.1 = d.2.2.2.2.2.2.1
  · simp only [beq_of h, cond_true, if_true]
  ·
   simp only [beq_false_of_ne h, cond_false, Bool.false_eq_true, if_false]
   rw [mid_next pre x x suf hl, snoc_app]
   have e : ((pre.length : Nat) : Int) + 1 = (((pre ++ [x]).length : Nat) : Int) := by simp
   rw [e]
   exact ih (pre ++ [x]) m (by simp at hm; omega) (by simpa using hl)
theorem cid_is (s : D_ids_State) (hl : s.2.2.2.2.1.length ≤ 4294967296) : ids_Cid s = some (match s.2.2.2.2.1[nowI s.2.2.2.2.1 s.2.2.2.2.2.2.1]? with | some g => g.2.1 | none => ⟨#[]⟩, ()) := by
 rw [ids_Cid_eq, b_ids_Cid, ids_Cid_0'_eq, b_ids_Cid_0']
 have h := cid_loop s s.2.2.2.2.1 [] (Int.toNat ((s.2.2.2.2.1.length : Int) - 0) + 2) (by simp) hl
 simp only [List.nil_append, List.length_nil] at h
 refine h.trans ?_
 rw [ids_Cid_1_eq, b_ids_Cid_1, ixP_is]
 have e : nowI s.2.2.2.2.1 s.2.2.2.2.2.2.1 = s.2.2.2.2.1.findIdx (isNow s.2.2.2.2.2.2.1) := rfl
 rw [e]
 generalize s.2.2.2.2.1.findIdx (isNow s.2.2.2.2.2.2.1) = i
 by_cases hi : i < s.2.2.2.2.1.length
 ·
  have c1 : ((((0 : Nat) : Int) + (i : Int)) ≥ 0) = True := by simp
  have c2 : ((0 : Int) ≤ ((0 : Nat) : Int) + (i : Int) ∧ (((0 : Nat) : Int) + (i : Int)) < ((s.2.2.2.2.1.length : Nat) : Int)) = True := by simp; omega
  have c3 : Int.toNat (((0 : Nat) : Int) + (i : Int)) = i := by omega
  simp only [if_pos hi, c1, decide_true, Bool.not_true, cond_false, c3, List.getElem?_eq_getElem hi]
  simp [List.getD, hi]
 ·
  have c1 : ((-1 : Int) ≥ 0) = False := by simp
  simp only [if_neg hi, c1, decide_false, Bool.not_false, cond_true]
  rw [List.getElem?_eq_none (by omega)]
def goodO (c : ByteArray) (o : D_ids_Own) : Bool := decide (o.2.1 = c) && !o.2.2.2.2.1
theorem is_loop (c : ByteArray) : ∀ (suf pre : List D_ids_Own) (m : Nat), suf.length < m → (pre ++ suf).length ≤ 4294967296 →
  ids_Is_0 m (pre ++ suf) (((pre ++ suf).length : Nat) : Int) ((pre.length : Nat) : Int) c = some (suf.any (goodO c), ()) := by
 intro suf
 induction suf with
 | nil =>
  intro pre m hm _
  obtain ⟨m, rfl⟩ : ∃ k, m = k + 1 := ⟨m - 1, by omega⟩
  simp only [ids_Is_0, t_ids_Is_0, mid_end, decide_false, cond_false, List.any_nil]
 | cons x suf ih =>
  intro pre m hm hl
  obtain ⟨m, rfl⟩ : ∃ k, m = k + 1 := ⟨m - 1, by omega⟩
  simp only [ids_Is_0, t_ids_Is_0, mid_lt, nn, and_true, decide_true, cond_true, toNat_len, getD_mid, toList_beq, List.any_cons, goodO, ge_iff_le]
  have next : ids_Is_0 m (pre ++ x :: suf) (((pre ++ x :: suf).length : Nat) : Int) (IntKind.wrap .i64 (((pre.length : Nat) : Int) + 1)) c = some (suf.any (goodO c), ()) := by
   rw [mid_next pre x x suf hl, snoc_app]
   exact ih (pre ++ [x]) m (by simp at hm; omega) (by simpa using hl)
  by_cases h : x.2.1 = c
  ·
   cases hg : x.2.2.2.2.1 with
   | false => simp only [h, decide_true, cond_true, Bool.not_false, Bool.and_self, Bool.true_or]
   | true =>
    simp only [h, decide_true, cond_true, Bool.not_true, cond_false, Bool.and_false, Bool.false_or, ids_Is_2_eq, b_ids_Is_2]
    exact next
  ·
   simp only [h, decide_false, cond_false, Bool.false_and, Bool.false_or, ids_Is_2_eq, b_ids_Is_2]
   exact next
theorem is_is (s : D_ids_State) (c : ByteArray) (hl : s.2.2.2.1.length ≤ 4294967296) : ids_Is s c = some (s.2.2.2.1.any (goodO c), ()) := by
 rw [ids_Is_eq, b_ids_Is, ids_Is_0'_eq, b_ids_Is_0']
 exact is_loop c s.2.2.2.1 [] _ (by simp) hl
/-! #### Fill -/
theorem fill_grow (d : D_ids_State) (seed side m prior now : Int) (pool : List D_ids_Given) (hseed : InU seed) (hm : m ≤ 4) : ∀ (k : Nat) (fuel : Nat) (live : Int) (l : List D_ids_Own), k < fuel → (m - live).toNat = k → 0 ≤ live → l.length + k ≤ 1000000 →
  ids_Fill_3 fuel live d seed side m prior now l pool = some ((seed, side, m, l ++ (List.range k).map (fun j => drF seed side ((l.length + j : Nat) : Int)), pool, prior, now, ()), ()) := by
 intro k
 induction k with
 | zero =>
  intro fuel live l hf hk h0 _
  obtain ⟨fuel, rfl⟩ : ∃ k, fuel = k + 1 := ⟨fuel - 1, by omega⟩
  have c : decide (live < m) = false := by simp; omega
  simp only [ids_Fill_3, t_ids_Fill_3, c, cond_false, List.range_zero, List.map_nil, List.append_nil]
 | succ k ih =>
  intro fuel live l hf hk h0 hl
  obtain ⟨fuel, rfl⟩ : ∃ k, fuel = k + 1 := ⟨fuel - 1, by omega⟩
  have c : decide (live < m) = true := by simp; omega
  simp only [ids_Fill_3, t_ids_Fill_3, c, cond_true]
  rw [wrap_u64 _ (by omega) (by omega), drawn_is _ _ hseed]
  simp only [obind_some]
  have c2 : l.length + [drF seed side ((l.length : Nat) : Int)].length ≤ 4294967296 := by simp; omega
  have e : ((drF seed side ((l.length : Nat) : Int)).1, (drF seed side ((l.length : Nat) : Int)).2.1, (drF seed side ((l.length : Nat) : Int)).2.2.1, (drF seed side ((l.length : Nat) : Int)).2.2.2.1, (drF seed side ((l.length : Nat) : Int)).2.2.2.2.1, ()) = drF seed side ((l.length : Nat) : Int) := rfl
  simp only [e, c2, decide_true, cond_true]
  rw [wrap_i64 _ (by omega) (by omega), ih fuel (live + 1) _ (by omega) (by omega) (by omega) (by simp; omega)]
  have key : (List.range k).map (fun j => drF seed side (((l ++ [drF seed side ((l.length : Nat) : Int)]).length + j : Nat) : Int)) = (List.range k).map ((fun j => drF seed side ((l.length + j : Nat) : Int)) ∘ Nat.succ) := by
   apply List.map_congr_left
   intro j _
   simp only [Function.comp, List.length_append, List.length_singleton]
   congr 2
   omega
  rw [List.range_succ_eq_map, List.map_cons, List.map_map, ← key, List.append_assoc, List.singleton_append, Nat.add_zero]
theorem fill_count (d : D_ids_State) (seed side m prior now : Int) (pool : List D_ids_Given) : ∀ (suf pre : List D_ids_Own) (fuel : Nat) (live : Int), suf.length < fuel → (pre ++ suf).length ≤ 1000000 → 0 ≤ live → live ≤ pre.length →
  ids_Fill_0 fuel live (((pre ++ suf).length : Nat) : Int) ((pre.length : Nat) : Int) d seed side m prior now (pre ++ suf) pool = ids_Fill_3' (live + ((liveO suf : Nat) : Int)) d seed side m prior now (pre ++ suf) pool := by
 intro suf
 induction suf with
 | nil =>
  intro pre fuel live hm _ _ _
  obtain ⟨fuel, rfl⟩ : ∃ k, fuel = k + 1 := ⟨fuel - 1, by omega⟩
  simp only [ids_Fill_0, t_ids_Fill_0, mid_end, decide_false, cond_false, liveO, List.filter_nil, List.length_nil, Int.natCast_zero, Int.add_zero]
 | cons x suf ih =>
  intro pre fuel live hm hl h0 h1
  obtain ⟨fuel, rfl⟩ : ∃ k, fuel = k + 1 := ⟨fuel - 1, by omega⟩
  simp only [ids_Fill_0, t_ids_Fill_0, mid_lt, nn, and_true, decide_true, cond_true, toNat_len, getD_mid, ids_Fill_2_eq, b_ids_Fill_2]
  have hpl : pre.length ≤ 1000000 := by simp at hl; omega
  have next : ∀ live' : Int, 0 ≤ live' → live' ≤ pre.length + 1 → ids_Fill_0 fuel live' (((pre ++ x :: suf).length : Nat) : Int) (IntKind.wrap .i64 (((pre.length : Nat) : Int) + 1)) d seed side m prior now (pre ++ x :: suf) pool = ids_Fill_3' (live' + ((liveO suf : Nat) : Int)) d seed side m prior now (pre ++ x :: suf) pool := by
   intro live' g0 g1
   rw [mid_next pre x x suf (by omega), snoc_app]
   exact ih (pre ++ [x]) fuel live' (by simp at hm; omega) (by simpa using hl) g0 (by simp; omega)
  cases hg : x.2.2.2.2.1 with
  | false =>
   have e : liveO (x :: suf) = liveO suf + 1 := by simp [liveO, hg]
   simp only [Bool.not_false, cond_true]
   rw [wrap_i64 (live + 1) (by omega) (by omega), e]
   have := next (live + 1) (by omega) (by omega)
   rw [show live + ((liveO suf + 1 : Nat) : Int) = live + 1 + ((liveO suf : Nat) : Int) by omega]
   exact this
  | true =>
   have e : liveO (x :: suf) = liveO suf := by simp [liveO, hg]
   simp only [Bool.not_true, cond_false]
   rw [e]
   exact next live h0 (by omega)
theorem liveO_le (l : List D_ids_Own) : liveO l ≤ l.length := by unfold liveO; exact List.length_filter_le _ _
theorem fill_is (s : D_ids_State) (many : Int) (hseed : InU s.1) (hl : s.2.2.2.1.length ≤ 100000) (hp : s.2.2.2.2.1.length ≤ 100000) : ids_Fill s many = some (fillId (drF s.1 s.2.1) s many, ()) := by
 obtain ⟨seed, side, most, l, pool, prior, now, u⟩ := s
 simp only at hseed hl hp
 rw [ids_Fill_eq, b_ids_Fill]
 rw [clone_own _ (by simp only; omega), clone_given _ (by simp only; omega)]
 simp only [obind_some]
 have em : (if ((if (4 : Int) < many then (4 : Int) else many) > 2) then (if (4 : Int) < many then (4 : Int) else many) else 2) = max 2 (min many 4) := by
  split <;> split <;> omega
 rw [em, ids_Fill_0'_eq, b_ids_Fill_0']
 have h := fill_count (0, 0, 0, [], [], 0, 0, ()) seed side (max 2 (min many 4)) prior now pool l [] (Int.toNat ((l.length : Int) - 0) + 2) 0 (by simp) (by simp; omega) (by omega) (by simp)
 simp only [List.nil_append, List.length_nil, Int.natCast_zero] at h
 refine h.trans ?_
 rw [ids_Fill_3'_eq, b_ids_Fill_3', Int.zero_add]
 have hlo := liveO_le l
 have h4 : max 2 (min many 4) ≤ 4 := by omega
 have h2 : 2 ≤ max 2 (min many 4) := by omega
 have g := fill_grow (0, 0, 0, [], [], 0, 0, ()) seed side (max 2 (min many 4)) prior now pool hseed h4 ((max 2 (min many 4)).toNat - liveO l) (Int.toNat (max 2 (min many 4) - ((liveO l : Nat) : Int)) + 2) ((liveO l : Nat) : Int) l (by omega) (by omega) (by omega) (by omega)
 exact g
theorem set_modify {γ : Type} (l : List γ) (i : Nat) (f : γ → γ) (d : γ) (h : i < l.length) : l.set i (f (l.getD i d)) = l.modify i f := by
 apply List.ext_getElem?
 intro j
 rw [List.getElem?_modify]
 by_cases e : i = j
 ·
  subst e
  simp [h, List.getD]
 · simp [e]
theorem fresh1_is (g : D_ids_Given) : ids_State_fresh_l1 g = some (isFresh g, ()) := by
 rw [ids_State_fresh_l1_eq, b_ids_State_fresh_l1]
 unfold isFresh
 cases g.2.2.2.1 <;> rfl
theorem take_now (d e : D_ids_State) (a b c p now : Int) (L : List D_ids_Own) : ∀ (suf pre : List D_ids_Given) (m : Nat), suf.length < m → (pre ++ suf).length ≤ 4294967296 →
  ids_Take_0 m (((pre ++ suf).length : Nat) : Int) ((pre.length : Nat) : Int) (pre ++ suf) d e a b c p now L = ids_Take_1 (ixP (isNow now) ((pre.length : Nat) : Int) suf) d e a b c p now L (pre ++ suf) := by
 intro suf
 induction suf with
 | nil =>
  intro pre m hm _
  obtain ⟨m, rfl⟩ : ∃ k, m = k + 1 := ⟨m - 1, by omega⟩
  simp only [ids_Take_0, t_ids_Take_0, mid_end, decide_false, cond_false, ixP]
 | cons x suf ih =>
  intro pre m hm hl
  obtain ⟨m, rfl⟩ : ∃ k, m = k + 1 := ⟨m - 1, by omega⟩
  simp only [ids_Take_0, t_ids_Take_0, mid_lt, nn, and_true, decide_true, cond_true, toNat_len, getD_mid, ixP, isNow]
  by_cases h : x.1 = now
  · simp only [beq_of h, cond_true, if_true]
  ·
   simp only [beq_false_of_ne h, cond_false, Bool.false_eq_true, if_false]
   rw [mid_next pre x x suf hl, snoc_app]
   have e : ((pre.length : Nat) : Int) + 1 = (((pre ++ [x]).length : Nat) : Int) := by simp
   rw [e]
   exact ih (pre ++ [x]) m (by simp at hm; omega) (by simpa using hl)
theorem take_fresh (d e : D_ids_State) (was a b c p now : Int) (L : List D_ids_Own) : ∀ (suf pre : List D_ids_Given) (m : Nat), suf.length < m → (pre ++ suf).length ≤ 4294967296 →
  ids_Take_2 m (((pre ++ suf).length : Nat) : Int) ((pre.length : Nat) : Int) was (pre ++ suf) a b c p now d e L = ids_Take_3 (ixP isFresh ((pre.length : Nat) : Int) suf) was a b c p now d e L (pre ++ suf) := by
 intro suf
 induction suf with
 | nil =>
  intro pre m hm _
  obtain ⟨m, rfl⟩ : ∃ k, m = k + 1 := ⟨m - 1, by omega⟩
  simp only [ids_Take_2, t_ids_Take_2, mid_end, decide_false, cond_false, ixP]
 | cons x suf ih =>
  intro pre m hm hl
  obtain ⟨m, rfl⟩ : ∃ k, m = k + 1 := ⟨m - 1, by omega⟩
  simp only [ids_Take_2, t_ids_Take_2, mid_lt, nn, and_true, decide_true, cond_true, toNat_len, getD_mid, ixP, fresh1_is, obind_some]
  have e1 : isFresh (x.1, x.2.1, x.2.2.1, x.2.2.2.1, x.2.2.2.2.1, x.2.2.2.2.2.1, ()) = isFresh x := rfl
  rw [e1]
  cases h : isFresh x with
  | true => simp only [cond_true, if_true]
  | false =>
   simp only [cond_false, Bool.false_eq_true, if_false]
   rw [mid_next pre x x suf hl, snoc_app]
   have e : ((pre.length : Nat) : Int) + 1 = (((pre ++ [x]).length : Nat) : Int) := by simp
   rw [e]
   exact ih (pre ++ [x]) m (by simp at hm; omega) (by simpa using hl)
theorem ret_end (d e : D_ids_State) (a b c p now : Int) (L : List D_ids_Own) (l : List D_ids_Given) (i : Nat) (h : i < l.length) :
  ids_Take_4 true ((i : Nat) : Int) d e a b c p now L l = some ((a, b, c, L, l.modify i retG, p, now, ()), 0, ()) := by
 rw [ids_Take_4_eq, b_ids_Take_4]
 have c2 : ((0 : Int) ≤ ((i : Nat) : Int) ∧ ((i : Nat) : Int) < ((l.length : Nat) : Int)) = True := by simp; omega
 simp only [Bool.not_true, cond_false, c2, decide_true, cond_true, Int.toNat_natCast]
 rw [← set_modify l i retG (Ty.dflt T_ids_Given) h]
 have hg : (l.set i ((l.getD i (Ty.dflt T_ids_Given)).1, (l.getD i (Ty.dflt T_ids_Given)).2.1, (l.getD i (Ty.dflt T_ids_Given)).2.2.1, (l.getD i (Ty.dflt T_ids_Given)).2.2.2.1, true, (l.getD i (Ty.dflt T_ids_Given)).2.2.2.2.2.1, ())).getD i (Ty.dflt T_ids_Given) =
   ((l.getD i (Ty.dflt T_ids_Given)).1, (l.getD i (Ty.dflt T_ids_Given)).2.1, (l.getD i (Ty.dflt T_ids_Given)).2.2.1, (l.getD i (Ty.dflt T_ids_Given)).2.2.2.1, true, (l.getD i (Ty.dflt T_ids_Given)).2.2.2.2.2.1, ()) := by
  simp [List.getD, h]
 simp only [hg, List.set_set]
 unfold retG
 cases hx : (l.getD i (Ty.dflt T_ids_Given)).2.2.2.2.1 with
 | false => simp only [Bool.not_false, cond_true, Bool.false_eq_true, if_false]
 | true =>
  simp only [Bool.not_true, cond_false, if_true]
  have : l.set i (l.getD i (Ty.dflt T_ids_Given)) = l := by
   apply List.ext_getElem?
   intro j
   by_cases e : i = j
   · subst e; simp [h, List.getD]
   · rw [List.getElem?_set_ne e]
  rw [this]
theorem take_is (s : D_ids_State) (hL : s.2.2.2.1.length ≤ 100000) (hl : s.2.2.2.2.1.length ≤ 100000) (hn : nowI s.2.2.2.2.1 s.2.2.2.2.2.2.1 < s.2.2.2.2.1.length) :
  ids_Take s = some (match takeP s with | some t => (t, 0, ()) | none => (s, 181, ())) := by
 obtain ⟨seed, side, most, L, l, prior, now, u⟩ := s
 simp only at hL hl hn
 rw [ids_Take_eq, b_ids_Take, clone_own _ (by simp only; omega), clone_given _ (by simp only; omega)]
 simp only [obind_some]
 rw [ids_Take_0'_eq, b_ids_Take_0']
 have h := take_now (seed, side, most, L, l, prior, now, u) (0, 0, 0, [], [], 0, 0, ()) seed side most prior now L l [] (Int.toNat ((l.length : Int) - 0) + 2) (by simp) (by simp; omega)
 simp only [List.nil_append, List.length_nil, Int.natCast_zero] at h
 refine h.trans ?_
 rw [ids_Take_1_eq, b_ids_Take_1]
 rw [ids_Take_2'_eq, b_ids_Take_2']
 have h := take_fresh (seed, side, most, L, l, prior, now, u) (0, 0, 0, [], [], 0, 0, ()) (ixP (isNow now) 0 l) seed side most prior now L l [] (Int.toNat ((l.length : Int) - 0) + 2) (by simp) (by simp; omega)
 simp only [List.nil_append, List.length_nil, Int.natCast_zero] at h
 refine h.trans ?_
 have ew : ixP (isNow now) 0 l = ((nowI l now : Nat) : Int) := by
  rw [ixP_is]
  have e : nowI l now = l.findIdx (isNow now) := rfl
  rw [if_pos (by rw [← e]; exact hn), e]
  simp
 rw [ids_Take_3_eq, b_ids_Take_3, ew, ixP_is]
 unfold takeP moveP
 simp only
 by_cases hi : l.findIdx isFresh < l.length
 ·
  have c1 : ((0 : Int) + ((l.findIdx isFresh : Nat) : Int) ≥ 0) = True := by simp
  have c2 : ((0 + ((l.findIdx isFresh : Nat) : Int)) < ((l.length : Nat) : Int)) = True := eq_true (by omega)
  have c4 : ((0 : Int) ≤ 0 + ((l.findIdx isFresh : Nat) : Int)) = True := eq_true (by omega)
  have c3 : Int.toNat ((0 : Int) + ((l.findIdx isFresh : Nat) : Int)) = l.findIdx isFresh := by omega
  simp only [if_pos hi, ge_iff_le, c2, c4, and_self, c3, decide_true, cond_true, List.getElem?_eq_getElem hi]
  have e2 : l.set (l.findIdx isFresh) ((l.getD (l.findIdx isFresh) (Ty.dflt T_ids_Given)).1, (l.getD (l.findIdx isFresh) (Ty.dflt T_ids_Given)).2.1, (l.getD (l.findIdx isFresh) (Ty.dflt T_ids_Given)).2.2.1, true, (l.getD (l.findIdx isFresh) (Ty.dflt T_ids_Given)).2.2.2.2.1, (l.getD (l.findIdx isFresh) (Ty.dflt T_ids_Given)).2.2.2.2.2.1, ()) = l.modify (l.findIdx isFresh) useG := set_modify l _ useG (Ty.dflt T_ids_Given) hi
  rw [e2, ret_end _ _ _ _ _ _ _ _ _ _ (by rw [List.length_modify]; exact hn)]
  have e3 : l.getD (l.findIdx isFresh) (Ty.dflt T_ids_Given) = l[l.findIdx isFresh] := by simp [List.getD, hi]
  rw [e3]
 ·
  have c1 : ((-1 : Int) ≥ 0) = False := by simp
  simp only [if_neg hi, c1, decide_false, cond_false, List.getElem?_eq_none (Nat.not_lt.mp hi)]
  rw [ids_Take_4_eq, b_ids_Take_4]
  simp only [Bool.not_false, cond_true]
/-! #### Next -/
def frId (x : FrT ByteArray) : D_frame_Frame := (x.1, 0, 0, 0, 0, x.2.1, x.2.2.1, 0, false, ⟨#[]⟩, x.2.2.2.1, x.2.2.2.2, [], ())
def noFr : D_frame_Frame := (0, 0, 0, 0, 0, 0, 0, 0, false, ⟨#[]⟩, ⟨#[]⟩, ⟨#[]⟩, [], ())
def fitsF (f : D_frame_Frame) (room : Int) : Bool := mayFr f && decide ((((putL f).length : Nat) : Int) ≤ room)
theorem fits_is (f : D_frame_Frame) (room : Int) (h : FrOk f) : ids_fits f room = some (fitsF f room, ()) := by
 rw [ids_fits_eq, b_ids_fits, put_is f h]
 unfold fitsF
 cases hm : mayFr f with
 | true => simp only [if_true, obind_some, beq_self_eq_true, cond_true, bytesStr_size, Bool.true_and]
 | false => simp only [Bool.false_eq_true, if_false, obind_some, show ((1 : Int) == 0) = false from rfl, cond_false, Bool.false_and]
theorem next_todoG (d e : D_ids_State) (f : D_frame_Frame) (room a b c p now : Int) (L : List D_ids_Own) : ∀ (suf pre : List D_ids_Given) (m : Nat), suf.length < m → (pre ++ suf).length ≤ 4294967296 →
  ids_Next_0 m (((pre ++ suf).length : Nat) : Int) ((pre.length : Nat) : Int) room (pre ++ suf) d e f a b c p now L = ids_Next_1 (ixP todoG ((pre.length : Nat) : Int) suf) room d e f a b c p now L (pre ++ suf) := by
 intro suf
 induction suf with
 | nil =>
  intro pre m hm _
  obtain ⟨m, rfl⟩ : ∃ k, m = k + 1 := ⟨m - 1, by omega⟩
  simp only [ids_Next_0, t_ids_Next_0, mid_end, decide_false, cond_false, ixP]
 | cons x suf ih =>
  intro pre m hm hl
  obtain ⟨m, rfl⟩ : ∃ k, m = k + 1 := ⟨m - 1, by omega⟩
  simp only [ids_Next_0, t_ids_Next_0, mid_lt, nn, and_true, decide_true, cond_true, toNat_len, getD_mid, ixP, ids_Next_l1_eq, b_ids_Next_l1, obind_some]
  have e1 : todoG x = x.2.2.2.2.2.1 := rfl
  rw [e1]
  cases h : x.2.2.2.2.2.1 with
  | true => simp only [cond_true, if_true]
  | false =>
   simp only [cond_false, Bool.false_eq_true, if_false]
   rw [mid_next pre x x suf hl, snoc_app]
   have e : ((pre.length : Nat) : Int) + 1 = (((pre ++ [x]).length : Nat) : Int) := by simp
   rw [e]
   exact ih (pre ++ [x]) m (by simp at hm; omega) (by simpa using hl)
theorem next_todoO (d e : D_ids_State) (f : D_frame_Frame) (room a b c p now : Int) (G : List D_ids_Given) : ∀ (suf pre : List D_ids_Own) (m : Nat), suf.length < m → (pre ++ suf).length ≤ 4294967296 →
  ids_Next_3 m (((pre ++ suf).length : Nat) : Int) ((pre.length : Nat) : Int) room (pre ++ suf) d e f a b c p now G = ids_Next_4 (ixP todoO ((pre.length : Nat) : Int) suf) room d e f a b c p now (pre ++ suf) G := by
 intro suf
 induction suf with
 | nil =>
  intro pre m hm _
  obtain ⟨m, rfl⟩ : ∃ k, m = k + 1 := ⟨m - 1, by omega⟩
  simp only [ids_Next_3, t_ids_Next_3, mid_end, decide_false, cond_false, ixP]
 | cons x suf ih =>
  intro pre m hm hl
  obtain ⟨m, rfl⟩ : ∃ k, m = k + 1 := ⟨m - 1, by omega⟩
  simp only [ids_Next_3, t_ids_Next_3, mid_lt, nn, and_true, decide_true, cond_true, toNat_len, getD_mid, ixP, ids_Next_l2_eq, b_ids_Next_l2, obind_some]
  have e1 : todoO x = x.2.2.2.1 := rfl
  rw [e1]
  cases h : x.2.2.2.1 with
  | true => simp only [cond_true, if_true]
  | false =>
   simp only [cond_false, Bool.false_eq_true, if_false]
   rw [mid_next pre x x suf hl, snoc_app]
   have e : ((pre.length : Nat) : Int) + 1 = (((pre ++ [x]).length : Nat) : Int) := by simp
   rw [e]
   exact ih (pre ++ [x]) m (by simp at hm; omega) (by simpa using hl)
def fitO (room : Int) (o : D_ids_Own) : Bool := fitsF (frId (24, o.1, 0, o.2.1, o.2.2.1)) room
def fitR (room : Int) (q : Int) : Bool := fitsF (frId (25, q, 0, ⟨#[]⟩, ⟨#[]⟩)) room
theorem next_own (d e : D_ids_State) (f : D_frame_Frame) (room a b c p now : Int) (L : List D_ids_Own) (G : List D_ids_Given) (hl : L.length ≤ 100000) (hok : ∀ o ∈ L, FrOk (frId (24, o.1, 0, o.2.1, o.2.2.1))) :
  ids_Next_2 room d e f a b c p now L G = some (match L[L.findIdx todoO]? with
   | some o => if fitO room o then ((a, b, c, L.modify (L.findIdx todoO) toldO, G, p, now, ()), frId (24, o.1, 0, o.2.1, o.2.2.1), true, ()) else (d, noFr, false, ())
   | none => (d, noFr, false, ())) := by
 rw [ids_Next_2_eq, b_ids_Next_2]
 rw [ids_Next_3'_eq, b_ids_Next_3']
 have h := next_todoO d e f room a b c p now G L [] (Int.toNat ((L.length : Int) - 0) + 2) (by simp) (by simp; omega)
 simp only [List.nil_append, List.length_nil, Int.natCast_zero] at h
 refine h.trans ?_
 rw [ids_Next_4_eq, b_ids_Next_4, ixP_is]
 by_cases hi : L.findIdx todoO < L.length
 ·
  have c1 : ((0 : Int) + ((L.findIdx todoO : Nat) : Int) ≥ 0) = True := by simp
  have c2 : ((0 + ((L.findIdx todoO : Nat) : Int)) < ((L.length : Nat) : Int)) = True := eq_true (by omega)
  have c4 : ((0 : Int) ≤ 0 + ((L.findIdx todoO : Nat) : Int)) = True := eq_true (by omega)
  have c3 : Int.toNat ((0 : Int) + ((L.findIdx todoO : Nat) : Int)) = L.findIdx todoO := by omega
  simp only [if_pos hi, ge_iff_le, c2, c4, and_self, c3, decide_true, cond_true, List.getElem?_eq_getElem hi]
  have e2 : L.set (L.findIdx todoO) ((L.getD (L.findIdx todoO) (Ty.dflt T_ids_Own)).1, (L.getD (L.findIdx todoO) (Ty.dflt T_ids_Own)).2.1, (L.getD (L.findIdx todoO) (Ty.dflt T_ids_Own)).2.2.1, false, (L.getD (L.findIdx todoO) (Ty.dflt T_ids_Own)).2.2.2.2.1, ()) = L.modify (L.findIdx todoO) toldO := set_modify L _ toldO (Ty.dflt T_ids_Own) hi
  have e3 : L.getD (L.findIdx todoO) (Ty.dflt T_ids_Own) = L[L.findIdx todoO] := by simp [List.getD, hi]
  rw [e2, e3]
  have hfit := fits_is (frId (24, L[L.findIdx todoO].1, 0, L[L.findIdx todoO].2.1, L[L.findIdx todoO].2.2.1)) room (hok _ (List.getElem_mem hi))
  unfold frId at hfit
  simp only [hfit, obind_some]
  have e4 : fitsF (24, 0, 0, 0, 0, L[L.findIdx todoO].1, 0, 0, false, ⟨#[]⟩, L[L.findIdx todoO].2.1, L[L.findIdx todoO].2.2.1, [], ()) room = fitO room L[L.findIdx todoO] := rfl
  rw [e4]
  cases fitO room L[L.findIdx todoO] with
  | true => rfl
  | false => rfl
 ·
  have c1 : ((-1 : Int) ≥ 0) = False := by simp
  simp only [if_neg hi, c1, decide_false, cond_false, List.getElem?_eq_none (Nat.not_lt.mp hi)]
  rfl
theorem next_is (s : D_ids_State) (room : Int) (hL : s.2.2.2.1.length ≤ 100000) (hl : s.2.2.2.2.1.length ≤ 100000) (hO : ∀ o ∈ s.2.2.2.1, FrOk (frId (24, o.1, 0, o.2.1, o.2.2.1))) (hR : ∀ g ∈ s.2.2.2.2.1, FrOk (frId (25, g.1, 0, ⟨#[]⟩, ⟨#[]⟩))) :
  ids_Next s room = some (match nextP (fitR room) (fitO room) ⟨#[]⟩ s with | some x => (x.1, frId x.2, true, ()) | none => (s, noFr, false, ())) := by
 obtain ⟨seed, side, most, L, l, prior, now, u⟩ := s
 simp only at hL hl hO hR
 rw [ids_Next_eq, b_ids_Next, clone_own _ (by simp only; omega), clone_given _ (by simp only; omega)]
 simp only [obind_some]
 rw [ids_Next_0'_eq, b_ids_Next_0']
 have h := next_todoG (seed, side, most, L, l, prior, now, u) (0, 0, 0, [], [], 0, 0, ()) noFr room seed side most prior now L l [] (Int.toNat ((l.length : Int) - 0) + 2) (by simp) (by simp; omega)
 simp only [List.nil_append, List.length_nil, Int.natCast_zero] at h
 refine h.trans ?_
 rw [ids_Next_1_eq, b_ids_Next_1, ixP_is]
 have hown := next_own (seed, side, most, L, l, prior, now, u) (0, 0, 0, [], [], 0, 0, ()) noFr room seed side most prior now L l (by omega) hO
 unfold nextP
 simp only
 by_cases hi : l.findIdx todoG < l.length
 ·
  have c1 : ((0 : Int) + ((l.findIdx todoG : Nat) : Int) ≥ 0) = True := by simp
  have c2 : ((0 + ((l.findIdx todoG : Nat) : Int)) < ((l.length : Nat) : Int)) = True := eq_true (by omega)
  have c4 : ((0 : Int) ≤ 0 + ((l.findIdx todoG : Nat) : Int)) = True := eq_true (by omega)
  have c3 : Int.toNat ((0 : Int) + ((l.findIdx todoG : Nat) : Int)) = l.findIdx todoG := by omega
  simp only [if_pos hi, ge_iff_le, c2, c4, and_self, c3, decide_true, cond_true, List.getElem?_eq_getElem hi]
  have e2 : l.set (l.findIdx todoG) ((l.getD (l.findIdx todoG) (Ty.dflt T_ids_Given)).1, (l.getD (l.findIdx todoG) (Ty.dflt T_ids_Given)).2.1, (l.getD (l.findIdx todoG) (Ty.dflt T_ids_Given)).2.2.1, (l.getD (l.findIdx todoG) (Ty.dflt T_ids_Given)).2.2.2.1, (l.getD (l.findIdx todoG) (Ty.dflt T_ids_Given)).2.2.2.2.1, false, ()) = l.modify (l.findIdx todoG) toldG := set_modify l _ toldG (Ty.dflt T_ids_Given) hi
  have e3 : l.getD (l.findIdx todoG) (Ty.dflt T_ids_Given) = l[l.findIdx todoG] := by simp [List.getD, hi]
  rw [e2, e3]
  have hfit := fits_is (frId (25, l[l.findIdx todoG].1, 0, ⟨#[]⟩, ⟨#[]⟩)) room (hR _ (List.getElem_mem hi))
  unfold frId at hfit
  simp only [hfit, obind_some]
  have e4 : fitsF (25, 0, 0, 0, 0, l[l.findIdx todoG].1, 0, 0, false, ⟨#[]⟩, ⟨#[]⟩, ⟨#[]⟩, [], ()) room = fitR room l[l.findIdx todoG].1 := rfl
  rw [e4]
  cases fitR room l[l.findIdx todoG].1 with
  | true => rfl
  | false =>
   simp only [cond_false, Bool.false_eq_true, if_false]
   refine hown.trans ?_
   cases L[L.findIdx todoO]? with
   | none => rfl
   | some o =>
    simp only
    split <;> rfl
 ·
  have c1 : ((-1 : Int) ≥ 0) = False := by simp
  simp only [if_neg hi, c1, decide_false, cond_false, List.getElem?_eq_none (Nat.not_lt.mp hi)]
  refine hown.trans ?_
  cases L[L.findIdx todoO]? with
  | none => rfl
  | some o =>
   simp only
   split <;> rfl
end Go.Proofs.YtjlfmolfcgennaaDoor.V
namespace Go.Proofs.YtjlfmolfcgennaaDoor.V
open Go.RowKit Go.Proofs.Tryd
set_option maxRecDepth 100000
set_option linter.unusedVariables false
noncomputable def m_ids_State_take_l1 : Mach prog Inv gInv := mach bas [(42, f42)] ⟨ok42, trivial⟩ [] trivial [] trivial [] trivial
/-! ### (*domino/ids.State).take$1 -/
@[reducible] def r_ids_State_take_l1 : List Ty := [(.int .i64)]
def ks_ids_State_take_l1 : List Nat := [42]
noncomputable def b_ids_State_take_l1 (a0 : D_ids_Given) (a1 : Int) : Option (Int × Unit) :=
 let b2 : Bool := (decide (a0.1 < a1))
 bif b2 then
  some ((-1 : Int), ())
 else
  let b3 : Bool := (decide (a0.1 > a1))
  bif b3 then
   some ((1 : Int), ())
  else
   some ((0 : Int), ())
theorem ex_ids_State_take_l1 : ∃ f, f = @b_ids_State_take_l1 := ⟨_, rfl⟩
noncomputable def ids_State_take_l1 := Classical.choose ex_ids_State_take_l1
theorem ids_State_take_l1_eq : @ids_State_take_l1 = @b_ids_State_take_l1 := Classical.choose_spec ex_ids_State_take_l1
noncomputable def cb_ids_State_take_l1 : Con := ⟨[T_ids_Given, (.int .u64)], r_ids_State_take_l1, fun x => b_ids_State_take_l1 x.1 x.2.1⟩
noncomputable def c_ids_State_take_l1 : Con := ⟨[T_ids_Given, (.int .u64)], r_ids_State_take_l1, fun x => ids_State_take_l1 x.1 x.2.1⟩
theorem cb_ids_State_take_l1_ok : cb_ids_State_take_l1.Sound prog Inv gInv 42 :=
 con_run (M := m_ids_State_take_l1) inv_g (f := f42) rfl ks_ids_State_take_l1 100000 (X := nowhere) (fun base S0 cs0 hn hf => OSound.nowhere) (by intro x; kernel_rfl)
theorem c_ids_State_take_l1_ok : c_ids_State_take_l1.Sound prog Inv gInv 42 := by
 have e : c_ids_State_take_l1 = cb_ids_State_take_l1 := by unfold c_ids_State_take_l1 cb_ids_State_take_l1; rw [ids_State_take_l1_eq]
 rw [e]; exact cb_ids_State_take_l1_ok
noncomputable def m_slices_BinarySearchFunc_uint64_h0 : Mach prog Inv gInv := mach bas [(41, f41)] ⟨ok41, trivial⟩ [(42, c_ids_State_take_l1)] ⟨⟨c_ids_State_take_l1_ok, FnOk.callable ok42⟩, trivial⟩ [] trivial [] trivial
@[reducible] noncomputable def pa_slices_BinarySearchFunc_uint64_h0 : List Pat := [.all 0, .int .u64, .func 42 [] []]
@[reducible] noncomputable def pH_slices_BinarySearchFunc_uint64_h0 : List HPat := [.row T_ids_Given]
/-! ### slices.BinarySearchFunc[[]domino/ids.Given,domino/ids.Given,uint64] -/
abbrev R_slices_BinarySearchFunc_uint64_h0 : Type := Int × Bool × (List D_ids_Given) × Unit
@[reducible] noncomputable def qa_slices_BinarySearchFunc_uint64_h0 : List Pat := [.int .i64, .bool]
@[reducible] noncomputable def qH_slices_BinarySearchFunc_uint64_h0 : List HPat := [.row T_ids_Given]
noncomputable def g_slices_BinarySearchFunc_uint64_h0 : HCon := HCon.mk0 pa_slices_BinarySearchFunc_uint64_h0 pH_slices_BinarySearchFunc_uint64_h0 qa_slices_BinarySearchFunc_uint64_h0 qH_slices_BinarySearchFunc_uint64_h0 R_slices_BinarySearchFunc_uint64_h0 (fun _ => none) (fun r => ((r.1, (r.2.1, ())), (r.2.2.1, ()))) (fun y => (y.1.1, y.1.2.1, y.2.1, ())) (fun _ => rfl)
def ks_slices_BinarySearchFunc_uint64_h0 : List Nat := [41]
abbrev H_slices_BinarySearchFunc_uint64_h0 (base : Base) (S0 : Nat → Prop) := base.n = 1 ∧ FinOk (finH g_slices_BinarySearchFunc_uint64_h0) base S0 (HPost g_slices_BinarySearchFunc_uint64_h0 base S0)
abbrev J_slices_BinarySearchFunc_uint64_h0 (base : Base) (S0 : Nat → Prop) (cs0 : List Go.Frame) (p : CPat) (J : denC p → Option R_slices_BinarySearchFunc_uint64_h0) := JSound m_slices_BinarySearchFunc_uint64_h0 base S0 cs0 (HPost g_slices_BinarySearchFunc_uint64_h0 base S0) p J
abbrev O_slices_BinarySearchFunc_uint64_h0 (base : Base) (S0 : Nat → Prop) (cs0 : List Go.Frame) (X : Cfg → Option (Option R_slices_BinarySearchFunc_uint64_h0)) := OSound m_slices_BinarySearchFunc_uint64_h0 base S0 cs0 (HPost g_slices_BinarySearchFunc_uint64_h0 base S0) X
@[reducible] noncomputable def p_slices_BinarySearchFunc_uint64_h0_0 : CPat := ⟨⟨41, [1, 1, 1, 0, 0], none, [.all 0, .int .u64, .func 42 [] [], .any, .any, .any, .any, .any, .int .i64, .int .i64, .int .i64], 38⟩, [], [.row T_ids_Given], 1⟩
@[reducible] noncomputable def u_slices_BinarySearchFunc_uint64_h0_0 (k : Int → Int → Int → Int → (List D_ids_Given) → Option R_slices_BinarySearchFunc_uint64_h0) : denC p_slices_BinarySearchFunc_uint64_h0_0 → Option R_slices_BinarySearchFunc_uint64_h0 := fun x => k x.1.2.1 x.1.2.2.2.2.2.2.2.2.1 x.1.2.2.2.2.2.2.2.2.2.1 x.1.2.2.2.2.2.2.2.2.2.2.1 x.2.2.1
noncomputable def t_slices_BinarySearchFunc_uint64_h0_0 (k0 : Int → Int → Int → Int → (List D_ids_Given) → Option R_slices_BinarySearchFunc_uint64_h0) (i31 : Int) (i32 : Int) (i33 : Int) (i34 : Int) (l35 : (List D_ids_Given)) : Option R_slices_BinarySearchFunc_uint64_h0 :=
 let b36 : Bool := (decide (i33 < i34))
 bif b36 then
  let n37 : Int := (Go.IntKind.wrap Go.IntKind.i64 (i33 + i34))
  let n38 : Int := (Go.IntKind.wrap Go.IntKind.u64 n37)
  let n39 : Int := (Int.fdiv n38 (2 : Int))
  let n40 : Int := (Go.IntKind.wrap Go.IntKind.i64 n39)
  bif (decide (((0 : Int) ≤ n40) ∧ (n40 < (((List.length l35) : Nat) : Int)))) then
   let i41 : Nat := (Int.toNat n40)
   let n42 : Int := (List.getD l35 i41 (Ty.dflt T_ids_Given)).1
   let s43 : ByteArray := (List.getD l35 i41 (Ty.dflt T_ids_Given)).2.1
   let s44 : ByteArray := (List.getD l35 i41 (Ty.dflt T_ids_Given)).2.2.1
   let b45 : Bool := (List.getD l35 i41 (Ty.dflt T_ids_Given)).2.2.2.1
   let b46 : Bool := (List.getD l35 i41 (Ty.dflt T_ids_Given)).2.2.2.2.1
   let b47 : Bool := (List.getD l35 i41 (Ty.dflt T_ids_Given)).2.2.2.2.2.1
   obind (ids_State_take_l1 (n42, (s43, (s44, (b45, (b46, (b47, ())))))) i31) fun y48 =>
   let b49 : Bool := (decide (y48.1 < (0 : Int)))
   bif b49 then
    let n60 : Int := (Go.IntKind.wrap Go.IntKind.i64 (n40 + (1 : Int)))
    k0 i31 i32 n60 i34 l35
   else
    k0 i31 i32 i33 n40 l35
  else none
 else
  let b50 : Bool := (decide (i33 < i32))
  bif b50 then
   bif (decide (((0 : Int) ≤ i33) ∧ (i33 < (((List.length l35) : Nat) : Int)))) then
    let i51 : Nat := (Int.toNat i33)
    let n52 : Int := (List.getD l35 i51 (Ty.dflt T_ids_Given)).1
    let s53 : ByteArray := (List.getD l35 i51 (Ty.dflt T_ids_Given)).2.1
    let s54 : ByteArray := (List.getD l35 i51 (Ty.dflt T_ids_Given)).2.2.1
    let b55 : Bool := (List.getD l35 i51 (Ty.dflt T_ids_Given)).2.2.2.1
    let b56 : Bool := (List.getD l35 i51 (Ty.dflt T_ids_Given)).2.2.2.2.1
    let b57 : Bool := (List.getD l35 i51 (Ty.dflt T_ids_Given)).2.2.2.2.2.1
    obind (ids_State_take_l1 (n52, (s53, (s54, (b55, (b56, (b57, ())))))) i31) fun y58 =>
    let b59 : Bool := (y58.1 == (0 : Int))
    some (i33, (b59, (l35, ())))
   else none
  else
   some (i33, (false, (l35, ())))
noncomputable def slices_BinarySearchFunc_uint64_h0_0 : Nat → Int → Int → Int → Int → (List D_ids_Given) → Option R_slices_BinarySearchFunc_uint64_h0
 | 0 => fun _ _ _ _ _ => none
 | m + 1 => t_slices_BinarySearchFunc_uint64_h0_0 (slices_BinarySearchFunc_uint64_h0_0 m)
noncomputable def b_slices_BinarySearchFunc_uint64_h0_0' (i31 : Int) (i32 : Int) (i33 : Int) (i34 : Int) (l35 : (List D_ids_Given)) : Option R_slices_BinarySearchFunc_uint64_h0 := slices_BinarySearchFunc_uint64_h0_0 (Int.toNat (i34 - i33) + 2) i31 i32 i33 i34 l35
theorem ex_slices_BinarySearchFunc_uint64_h0_0' : ∃ f, f = @b_slices_BinarySearchFunc_uint64_h0_0' := ⟨_, rfl⟩
noncomputable def slices_BinarySearchFunc_uint64_h0_0' := Classical.choose ex_slices_BinarySearchFunc_uint64_h0_0'
theorem slices_BinarySearchFunc_uint64_h0_0'_eq : @slices_BinarySearchFunc_uint64_h0_0' = @b_slices_BinarySearchFunc_uint64_h0_0' := Classical.choose_spec ex_slices_BinarySearchFunc_uint64_h0_0'
theorem s_slices_BinarySearchFunc_uint64_h0_0 {base S0 cs0} (hfin : H_slices_BinarySearchFunc_uint64_h0 base S0) : ∀ m, J_slices_BinarySearchFunc_uint64_h0 base S0 cs0 p_slices_BinarySearchFunc_uint64_h0_0 (u_slices_BinarySearchFunc_uint64_h0_0 (slices_BinarySearchFunc_uint64_h0_0 m)) :=
 JSound.loop' hfin.2 ks_slices_BinarySearchFunc_uint64_h0 100000 u_slices_BinarySearchFunc_uint64_h0_0 (fun k0 => cut p_slices_BinarySearchFunc_uint64_h0_0 (u_slices_BinarySearchFunc_uint64_h0_0 k0) (nowhere)) (fun k0 h0 => OSound.cut (OSound.nowhere) (Nat.le_of_eq hfin.1) h0) (slices_BinarySearchFunc_uint64_h0_0) (by intro x; rfl) (by intro m x; kernel_rfl)
theorem s_slices_BinarySearchFunc_uint64_h0_0' {base S0 cs0} (hfin : H_slices_BinarySearchFunc_uint64_h0 base S0) : J_slices_BinarySearchFunc_uint64_h0 base S0 cs0 p_slices_BinarySearchFunc_uint64_h0_0 (u_slices_BinarySearchFunc_uint64_h0_0 (slices_BinarySearchFunc_uint64_h0_0')) := by
 rw [slices_BinarySearchFunc_uint64_h0_0'_eq]; exact fun x r hx => s_slices_BinarySearchFunc_uint64_h0_0 hfin _ x r hx
noncomputable def x_slices_BinarySearchFunc_uint64_h0_0 : Cfg → Option (Option R_slices_BinarySearchFunc_uint64_h0) := cut p_slices_BinarySearchFunc_uint64_h0_0 (u_slices_BinarySearchFunc_uint64_h0_0 (slices_BinarySearchFunc_uint64_h0_0')) (nowhere)
theorem o_slices_BinarySearchFunc_uint64_h0_0 {base S0 cs0} (hfin : H_slices_BinarySearchFunc_uint64_h0 base S0) : O_slices_BinarySearchFunc_uint64_h0 base S0 cs0 (x_slices_BinarySearchFunc_uint64_h0_0) := OSound.cut (OSound.nowhere) (Nat.le_of_eq hfin.1) (s_slices_BinarySearchFunc_uint64_h0_0' hfin)
noncomputable def b_slices_BinarySearchFunc_uint64_h0 (i0 : Int) (l1 : (List D_ids_Given)) : Option R_slices_BinarySearchFunc_uint64_h0 :=
 let n2 : Int := (((List.length l1) : Nat) : Int)
 slices_BinarySearchFunc_uint64_h0_0' i0 n2 (0 : Int) n2 l1
theorem ex_slices_BinarySearchFunc_uint64_h0 : ∃ f, f = @b_slices_BinarySearchFunc_uint64_h0 := ⟨_, rfl⟩
noncomputable def slices_BinarySearchFunc_uint64_h0 := Classical.choose ex_slices_BinarySearchFunc_uint64_h0
theorem slices_BinarySearchFunc_uint64_h0_eq : @slices_BinarySearchFunc_uint64_h0 = @b_slices_BinarySearchFunc_uint64_h0 := Classical.choose_spec ex_slices_BinarySearchFunc_uint64_h0
noncomputable def hb_slices_BinarySearchFunc_uint64_h0 : HCon := HCon.mk0 pa_slices_BinarySearchFunc_uint64_h0 pH_slices_BinarySearchFunc_uint64_h0 qa_slices_BinarySearchFunc_uint64_h0 qH_slices_BinarySearchFunc_uint64_h0 R_slices_BinarySearchFunc_uint64_h0 (fun x => b_slices_BinarySearchFunc_uint64_h0 x.1.2.1 x.2.1) (fun r => ((r.1, (r.2.1, ())), (r.2.2.1, ()))) (fun y => (y.1.1, y.1.2.1, y.2.1, ())) (fun _ => rfl)
noncomputable def h_slices_BinarySearchFunc_uint64_h0 : HCon := HCon.mk0 pa_slices_BinarySearchFunc_uint64_h0 pH_slices_BinarySearchFunc_uint64_h0 qa_slices_BinarySearchFunc_uint64_h0 qH_slices_BinarySearchFunc_uint64_h0 R_slices_BinarySearchFunc_uint64_h0 (fun x => slices_BinarySearchFunc_uint64_h0 x.1.2.1 x.2.1) (fun r => ((r.1, (r.2.1, ())), (r.2.2.1, ()))) (fun y => (y.1.1, y.1.2.1, y.2.1, ())) (fun _ => rfl)
theorem hb_slices_BinarySearchFunc_uint64_h0_ok : hb_slices_BinarySearchFunc_uint64_h0.Sound prog Inv gInv 41 :=
 hcon_run (M := m_slices_BinarySearchFunc_uint64_h0) (f := f41) rfl ks_slices_BinarySearchFunc_uint64_h0 100000 (X := x_slices_BinarySearchFunc_uint64_h0_0) (fun base S0 cs0 hn hf => have hfin : H_slices_BinarySearchFunc_uint64_h0 base S0 := ⟨hn, hf⟩; o_slices_BinarySearchFunc_uint64_h0_0 hfin) (by intro x; kernel_rfl)
theorem h_slices_BinarySearchFunc_uint64_h0_ok : h_slices_BinarySearchFunc_uint64_h0.Sound prog Inv gInv 41 := by
 have e : h_slices_BinarySearchFunc_uint64_h0 = hb_slices_BinarySearchFunc_uint64_h0 := by unfold h_slices_BinarySearchFunc_uint64_h0 hb_slices_BinarySearchFunc_uint64_h0; rw [slices_BinarySearchFunc_uint64_h0_eq]
 rw [e]; exact hb_slices_BinarySearchFunc_uint64_h0_ok
end Go.Proofs.YtjlfmolfcgennaaDoor.V
namespace Go.Proofs.YtjlfmolfcgennaaDoor.V
open Go.RowKit
section
variable {P : Program} {base : Base} {S0 : Nat → Prop} {ρ : Loc} {H : Heap} {w w' : World} {S : Nat → Prop}
theorem HRel.remake (hh : HRel base S0 ρ H w S) {b : Nat} {t : Ty} {l' : List t.den} {blk : Nat} {arr arr' : Array Value} {e : TypeId} {fz : Nat × Nat} {m : List t.den} (ho : H.at? b = some (.row t m)) (hr : ρ b = some (blk, arr.size))
  (hb : w.heap[blk]? = some (.cells arr e fz)) (hf : ∀ j, j < t.lim arr.size → w.frozen? ⟨blk, j, none⟩ = false) (hs : arr'.size = arr.size) (hb' : w'.heap[blk]? = some (.cells arr' e fz)) (other : ∀ c, c ≠ blk → w'.heap[c]? = w.heap[c]?)
  (f1 : w'.heap.size = w.heap.size) (f2 : w'.os = w.os) (f3 : w'.tape = w.tape) (f4 : w'.output = w.output) (hok : t.okElem e) {us' : List Value} (hl' : RepL w S t l' us') (hA : At arr' 0 us') :
  ∃ ρ', HRel base S0 ρ' (H.set b none ++ [some (.row t l')]) w' S ∧ Ext base ρ H w S ρ' (H.set b none ++ [some (.row t l')]) w' S ∧ ρ' H.length = some (blk, arr.size) := by
 have hlt := at_lt ho
 have hlen : (H.set b none).length = H.length := by simp
 have hSb : S blk := (hh.own blk).mpr (.inr ⟨b, _, _, ho, rfl, hr⟩)
 have hfrom := hh.from_ b _ blk _ ho hr
 have g : ∀ c o1, c < H.length → Heap.at? (H.set b none ++ [some (.row t l')]) c = some o1 → H.at? c = some o1 ∧ c ≠ b := by
  intro c o1 hc h1
  rw [at_append_old (by rw [hlen]; exact hc)] at h1
  by_cases e : b = c
  · subst e; rw [at_set_same hlt] at h1; cases h1
  · rw [at_set_other e] at h1; exact ⟨h1, fun h => e h.symm⟩
 have new : Heap.at? (H.set b none ++ [some (.row t l')]) H.length = some (.row t l') := by
  have := at_append_new (H := H.set b none) (x := some (.row t l'))
  rwa [hlen] at this
 have cases_ : ∀ {c o1}, Heap.at? (H.set b none ++ [some (.row t l')]) c = some o1 → c < H.length ∨ c = H.length := by
  intro c o1 h1
  have := at_lt h1
  simp at this
  omega
 have hx : Ext base ρ H w S (ρ.put H.length (some (blk, arr.size))) (H.set b none ++ [some (.row t l')]) w' S := by
  refine ⟨⟨by simp, fun c hc => ⟨⟨by have := hc.lt; simp; omega, fun e => hc.2 (g c _ hc.lt e).1⟩, fun o1 h1 => ⟨o1, (g c o1 hc.lt h1).1, Fits.refl _⟩⟩⟩, locext_put _, ⟨by omega, fun c hc hs => other c (fun e => hs (e ▸ hSb))⟩, fun _ _ h => h, ⟨⟨f2, f3, f4, by omega, fun k hk => absurd hk (Nat.not_lt_zero _)⟩, fun k hk => other k (fun e => hfrom.1 (e ▸ hk))⟩⟩
 refine ⟨_, ⟨hh.base_le.ext hx, hh.outer, ?_, ?_, ?_, ?_⟩, hx, Loc.put_same⟩
 ·
  intro k
  rw [hh.own k]
  refine or_congr Iff.rfl ⟨?_, ?_⟩
  ·
   rintro ⟨c, o1, n1, h1, h2, h3⟩
   by_cases e : c = b
   ·
    subst e
    rw [hr] at h3; cases h3
    exact ⟨H.length, _, _, new, rfl, Loc.put_same⟩
   ·
    have hc := at_lt h1
    refine ⟨c, o1, n1, ?_, h2, by rw [Loc.put_other (by omega)]; exact h3⟩
    rw [at_append_old (by rw [hlen]; exact hc), at_set_other (fun h => e h.symm)]; exact h1
  ·
   rintro ⟨c, o1, n1, h1, h2, h3⟩
   rcases cases_ h1 with hc | rfl
   ·
    rw [Loc.put_other (by omega)] at h3
    exact ⟨c, o1, n1, (g c o1 hc h1).1, h2, h3⟩
   ·
    rw [Loc.put_same] at h3; cases h3
    exact ⟨b, _, _, ho, rfl, hr⟩
 ·
  intro c o1 blk1 n1 h1 h3
  rw [f1]
  rcases cases_ h1 with hc | rfl
  ·
   rw [Loc.put_other (by omega)] at h3
   exact hh.from_ c o1 blk1 n1 (g c o1 hc h1).1 h3
  · rw [Loc.put_same] at h3; cases h3; exact hfrom
 ·
  intro c c' o1 o2 blk1 n1 n2 h1 h2 h3 h4
  rcases cases_ h1 with hc | rfl <;> rcases cases_ h2 with hc' | rfl
  ·
   rw [Loc.put_other (by omega)] at h3 h4
   exact hh.inj _ _ _ _ _ _ _ (g _ _ hc h1).1 (g _ _ hc' h2).1 h3 h4
  ·
   rw [Loc.put_other (by omega)] at h3
   rw [Loc.put_same] at h4; cases h4
   exact absurd (hh.inj _ _ _ _ _ _ _ (g _ _ hc h1).1 ho h3 hr) (g _ _ hc h1).2
  ·
   rw [Loc.put_other (by omega)] at h4
   rw [Loc.put_same] at h3; cases h3
   exact absurd (hh.inj _ _ _ _ _ _ _ (g _ _ hc' h2).1 ho h4 hr) (g _ _ hc' h2).2
  · rfl
 ·
  intro c o1 h1
  rcases cases_ h1 with hc | rfl
  ·
   obtain ⟨h1, hne⟩ := g c o1 hc h1
   refine (hh.block c o1 h1).mono hx.hH hx.hr hx.hw hx.hS (Loc.put_other (by omega)) (fun blk1 n1 hb1 => other blk1 (fun e1 => ?_))
   subst e1
   exact hne (hh.inj _ _ _ _ _ _ _ h1 ho hb1 hr)
  ·
   rw [new] at h1; cases h1
   refine .inl ⟨blk, arr', e, fz, by rw [Loc.put_same, hs], hb', fun j hj => ?_, fun i hi => ?_, hok⟩
   ·
    rw [hs] at hj
    have := hf j hj
    simp only [World.frozen?, hb, hb'] at this ⊢
    exact this
   ·
    obtain ⟨vs, p1, p2⟩ := (hl'.mono hx.hw hx.hS).at hA i hi
    exact ⟨vs, p1, by simpa using p2⟩
end
theorem run_copy_k {P : Program} (w : World) (dT sT ty elem : TypeId) (b o dLen dCap : Nat) (a : Addr) (sLen sCap k n : Nat) (cs : List Value)
  (hu : P.underlying dT = some (.slice elem)) (hs : (P.info? elem).map (·.size) = some k) (hn : n = Nat.min sLen dLen) (hl : cs.length = n * k)
  (hsrc : ∀ j v, cs[j]? = some v → w.cell? (a.add j) = some v) (hc : ∀ j, j < cs.length → (w.cell? ⟨b, o + j, none⟩).isSome = true) (hf : ∀ j, j < cs.length → w.frozen? ⟨b, o + j, none⟩ = false) (h1 : ∀ v ∈ cs, v.oneCell' = true) :
  (Builtin.copy_ #[dT, sT] ty #[.slice (some ⟨b, o, none⟩) dLen dCap, .slice (some a) sLen sCap]).run P w = .ok (goInt n) (w.setCells b o cs) := by
 have hld := run_loadCells_list (P := P) w a cs hsrc
 have hst := run_storeCells_cells (P := P) b o cs 0 w (by simpa using hc) (by simpa using hf) h1
 rw [hl] at hld
 cases hq : P.info? elem with
 | none => simp [hq] at hs
 | some i =>
  have hi : i.size = k := by simpa [hq] using hs
  simp [Builtin.copy_, run_underlying hu, Builtin.lenOf, Builtin.firstCells, sizeOf, typeInfo, hq, hi, ← hn, hld, hst]
@[reducible] def insF {t : Ty} (l : List t.den) (i : Int) (v : List t.den) : Option (List t.den × Unit) :=
 bif decide (0 ≤ i ∧ i ≤ l.length ∧ 0 < v.length ∧ l.length + v.length ≤ 4294967296) then some (l.take i.toNat ++ v ++ l.drop i.toNat, ()) else none
@[reducible] def insCon (t : Ty) : HCon := HCon.mk0 [.all 0, .int .i64, .all 1] [.row t, .row t] [.all 2] [.dead, .dead, .row t] (List t.den × Unit)
 (fun x => insF x.2.1 x.1.2.1 x.2.2.1) (fun r => (((), ()), ((), ((), (r.1, ()))))) (fun y => (y.2.2.2.1, ())) (fun _ => rfl)
structure InsWays (P : Program) (K : Nat) (T : TypeId) (e : TypeId) (k : Nat) : Prop where
 fin : ∀ (ad : Option Addr) (n c : Nat) (va : Option Addr) (m vc : Nat) (v' : Value) (w w' : World), 0 < m → n + m ≤ 4294967296 → n ≤ c → (ad = none → n = 0) → (Builtin.append_ #[T, T] T #[.slice ad n c, .slice va m vc]).run P w = .ok v' w' →
  Calls P K #[.slice ad n c, .int .i64 n, .slice va m vc] w fun e w1 => e = .returned v' ∧ w1 = w'
 grow : ∀ (b n c i vb m vc : Nat) (cs vs : List Value) (w : World), i < n → 0 < m → n ≤ c → c < n + m → n + m ≤ 4294967296 → cs.length = n * k → vs.length = m * k →
  (∀ j v, cs[j]? = some v → w.cell? ⟨b, j, none⟩ = some v) → (∀ j v, vs[j]? = some v → w.cell? ⟨vb, j, none⟩ = some v) → (∀ v ∈ cs, v.oneCell' = true) → (∀ v ∈ vs, v.oneCell' = true) →
  Calls P K #[.slice (some ⟨b, 0, none⟩) n c, .int .i64 i, .slice (some ⟨vb, 0, none⟩) m vc] w fun en w1 =>
   ∃ G arr, en = .returned (.slice (some ⟨w.heap.size, 0, none⟩) (n + m) G) ∧ n + m ≤ G ∧ G * k ≤ arr.size ∧ w1.heap = w.heap.push (.cells arr e) ∧ w1.os = w.os ∧ w1.tape = w.tape ∧ w1.output = w.output ∧
    At arr 0 (cs.take (i * k) ++ vs ++ cs.drop (i * k))
 shift : ∀ (b n c i vb m vc : Nat) (cs vs : List Value) (arr arv : Array Value) (el elv : TypeId) (fz fzv : Nat × Nat) (w : World), i < n → 0 < m → n + m ≤ c → n + m ≤ 4294967296 → cs.length = n * k → vs.length = m * k → vb ≠ b →
  w.heap[b]? = some (.cells arr el fz) → w.heap[vb]? = some (.cells arv elv fzv) → c * k ≤ arr.size → (∀ j, j < arr.size + 1 → w.frozen? ⟨b, j, none⟩ = false) → (∀ j, j < arv.size + 1 → w.frozen? ⟨vb, j, none⟩ = false) →
  (∀ j v, cs[j]? = some v → w.cell? ⟨b, j, none⟩ = some v) → (∀ j v, vs[j]? = some v → w.cell? ⟨vb, j, none⟩ = some v) → (∀ v ∈ cs, v.oneCell' = true) → (∀ v ∈ vs, v.oneCell' = true) →
  Calls P K #[.slice (some ⟨b, 0, none⟩) n c, .int .i64 i, .slice (some ⟨vb, 0, none⟩) m vc] w fun en w1 =>
   ∃ arr', en = .returned (.slice (some ⟨b, 0, none⟩) (n + m) c) ∧ arr'.size = arr.size ∧ w1.heap[b]? = some (.cells arr' el fz) ∧ (∀ x, x ≠ b → w1.heap[x]? = w.heap[x]?) ∧ w1.heap.size = w.heap.size ∧ w1.os = w.os ∧ w1.tape = w.tape ∧ w1.output = w.output ∧
    At arr' 0 (cs.take (i * k) ++ vs ++ cs.drop (i * k))
theorem ins_at1 {arr cs vs : List Value} {a q : Nat} (h1 : a ≤ cs.length) (hq : vs.length = q) (hfit : cs.length + q ≤ arr.length) (h : ∀ j v, cs[j]? = some v → j < a → arr[j]? = some v) :
  At (V.sets (V.sets arr (a + q) (cs.drop a)) a vs).toArray 0 (cs.take a ++ vs ++ cs.drop a) := by
 intro j hj
 simp at hj
 rw [List.getElem?_toArray, Nat.zero_add, sets_get, sets_get, V.sets_length, ← List.getElem?_eq_getElem]
 simp only [List.length_drop]
 by_cases c1 : j < a
 ·
  rw [if_neg (by omega), if_neg (by omega), List.append_assoc, List.getElem?_append_left (by simp; omega), List.getElem?_take_of_lt c1]
  have hc : j < cs.length := by omega
  exact (h j _ (List.getElem?_eq_getElem hc) c1).trans (List.getElem?_eq_getElem hc).symm
 ·
  by_cases c2 : j < a + q
  ·
   rw [if_pos (by omega), List.append_assoc, List.getElem?_append_right (by simp; omega), List.getElem?_append_left (by simp; omega)]
   congr 1
   simp
   omega
  ·
   rw [if_neg (by omega), if_pos (by omega), List.getElem?_append_right (by simp; omega)]
   congr 1
   simp
   omega
theorem ins_at2 {arr cs vs : List Value} {a q : Nat} (h1 : a ≤ cs.length) (hq : vs.length = q) (hfit : cs.length + q ≤ arr.length) (h : ∀ j v, cs[j]? = some v → j < a → arr[j]? = some v) :
  At (V.sets (V.sets arr a vs) (a + q) (cs.drop a)).toArray 0 (cs.take a ++ vs ++ cs.drop a) := by
 intro j hj
 simp at hj
 rw [List.getElem?_toArray, Nat.zero_add, sets_get, sets_get, V.sets_length, ← List.getElem?_eq_getElem]
 simp only [List.length_drop]
 by_cases c1 : j < a
 ·
  rw [if_neg (by omega), if_neg (by omega), List.append_assoc, List.getElem?_append_left (by simp; omega), List.getElem?_take_of_lt c1]
  have hc : j < cs.length := by omega
  exact (h j _ (List.getElem?_eq_getElem hc) c1).trans (List.getElem?_eq_getElem hc).symm
 ·
  by_cases c2 : j < a + q
  ·
   rw [if_neg (by omega), if_pos (by omega), List.append_assoc, List.getElem?_append_right (by simp; omega), List.getElem?_append_left (by simp; omega)]
   congr 1
   simp
   omega
  ·
   rw [if_pos (by omega), List.getElem?_append_right (by simp; omega)]
   congr 1
   simp
   omega
theorem ins_shift {P : Program} {K k : Nat} (hk : 0 < k)
  (raw : ∀ (b n c i vb m vc : Nat) (cs vs : List Value) (w : World), i < n → 0 < m → n + m ≤ c → n + m ≤ 4294967296 → cs.length = n * k → vs.length = m * k → vb ≠ b →
   (∀ j v, cs[j]? = some v → w.cell? ⟨b, j, none⟩ = some v) → (∀ j, j < (n + m) * k → (w.cell? ⟨b, j, none⟩).isSome = true) → (∀ j, j < (n + m) * k → w.frozen? ⟨b, j, none⟩ = false) →
   (∀ j v, vs[j]? = some v → w.cell? ⟨vb, j, none⟩ = some v) → (∀ v ∈ cs, v.oneCell' = true) → (∀ v ∈ vs, v.oneCell' = true) →
   ∀ (tA tB : TypeId) (kA kB : Nat), w.shape? vb = some (tA, kA) → w.shape? b = some (tB, kB) → kB ≠ 0 → w.frozen? ⟨vb, 0, none⟩ = false → w.frozen? ⟨vb, kA, none⟩ = false →
   Calls P K #[.slice (some ⟨b, 0, none⟩) n c, .int .i64 i, .slice (some ⟨vb, 0, none⟩) m vc] w fun e w' =>
    e = .returned (.slice (some ⟨b, 0, none⟩) (n + m) c) ∧ w' = (w.drew.setCells b ((i + m) * k) (cs.drop (i * k))).setCells b (i * k) vs)
  (b n c i vb m vc : Nat) (cs vs : List Value) (arr arv : Array Value) (el elv : TypeId) (fz fzv : Nat × Nat) (w : World) (hi : i < n) (hm : 0 < m) (hroom : n + m ≤ c) (hbig : n + m ≤ 4294967296) (hcl : cs.length = n * k) (hvl : vs.length = m * k) (hvb : vb ≠ b)
  (hb : w.heap[b]? = some (.cells arr el fz)) (hbv : w.heap[vb]? = some (.cells arv elv fzv)) (hcap : c * k ≤ arr.size) (hf : ∀ j, j < arr.size + 1 → w.frozen? ⟨b, j, none⟩ = false) (hfv : ∀ j, j < arv.size + 1 → w.frozen? ⟨vb, j, none⟩ = false)
  (hcs : ∀ j v, cs[j]? = some v → w.cell? ⟨b, j, none⟩ = some v) (hvs : ∀ j v, vs[j]? = some v → w.cell? ⟨vb, j, none⟩ = some v) (h1c : ∀ v ∈ cs, v.oneCell' = true) (h1v : ∀ v ∈ vs, v.oneCell' = true) :
  Calls P K #[.slice (some ⟨b, 0, none⟩) n c, .int .i64 i, .slice (some ⟨vb, 0, none⟩) m vc] w fun en w1 =>
   ∃ arr', en = .returned (.slice (some ⟨b, 0, none⟩) (n + m) c) ∧ arr'.size = arr.size ∧ w1.heap[b]? = some (.cells arr' el fz) ∧ (∀ x, x ≠ b → w1.heap[x]? = w.heap[x]?) ∧ w1.heap.size = w.heap.size ∧ w1.os = w.os ∧ w1.tape = w.tape ∧ w1.output = w.output ∧
    At arr' 0 (cs.take (i * k) ++ vs ++ cs.drop (i * k)) := by
 have hnm : (n + m) * k ≤ arr.size := Nat.le_trans (Nat.mul_le_mul_right _ hroom) hcap
 have hpos : 0 < (n + m) * k := Nat.mul_pos (by omega) hk
 have h0 : 0 < n * k := Nat.mul_pos (by omega) hk
 have hik : i * k ≤ n * k := Nat.mul_le_mul_right _ (by omega)
 have e1 : (n + m) * k = n * k + m * k := Nat.add_mul ..
 have e2 : (i + m) * k = i * k + m * k := Nat.add_mul ..
 refine (raw b n c i vb m vc cs vs w hi hm hroom hbig hcl hvl hvb hcs (fun j hj => by rw [cell_at hb, Array.getElem?_eq_getElem (by omega)]; rfl) (fun j hj => hf j (by omega)) hvs h1c h1v elv el arv.size arr.size
  (by simp [World.shape?, hbv]) (by simp [World.shape?, hb]) (by omega) (hfv 0 (by omega)) (hfv _ (by omega))).mono ?_
 rintro en w1 ⟨rfl, rfl⟩
 have hbd : w.drew.heap[b]? = some (.cells arr el fz) := hb
 have g1 := setCells_heap b (cs.drop (i * k)) ((i + m) * k) w.drew hbd
 have g2 := setCells_heap b vs (i * k) _ g1
 obtain ⟨p1, p2, p3, p4⟩ := setCells_frame b (cs.drop (i * k)) ((i + m) * k) w.drew
 obtain ⟨q1, q2, q3, q4⟩ := setCells_frame b vs (i * k) (w.drew.setCells b ((i + m) * k) (cs.drop (i * k)))
 refine ⟨_, rfl, ?_, g2, fun x hx => (setCells_other b x hx _ _ _).trans (setCells_other b x hx _ _ _), q1.trans p1, q2.trans p2, q3.trans p3, q4.trans p4, ?_⟩
 · simp [V.sets_length]
 ·
  rw [e2]
  refine ins_at1 (by omega) hvl (by simp; omega) (fun j v hj _ => ?_)
  have := hcs j v hj
  rw [cell_at hb] at this
  simpa using this
theorem ins_grow {P : Program} {K k : Nat} {e : TypeId} {z : Value} (hz : z.cells.size = k)
  (raw : ∀ (b n c i vb m vc : Nat) (cs vs : List Value) (w : World), i < n → 0 < m → n ≤ c → c < n + m → n + m ≤ 4294967296 → cs.length = n * k → vs.length = m * k →
   (∀ j v, cs[j]? = some v → w.cell? ⟨b, j, none⟩ = some v) → (∀ j v, vs[j]? = some v → w.cell? ⟨vb, j, none⟩ = some v) → (∀ v ∈ cs, v.oneCell' = true) → (∀ v ∈ vs, v.oneCell' = true) →
   Calls P K #[.slice (some ⟨b, 0, none⟩) n c, .int .i64 i, .slice (some ⟨vb, 0, none⟩) m vc] w fun en w' =>
    en = .returned (.slice (some ⟨w.heap.size, 0, none⟩) (n + m) (grownCap w (n + m) c e)) ∧
    w' = (((w.alloc (.cells ((cs.take (i * k)).toArray ++ Builtin.zeroCells z.cells (n + m - i) ++ Builtin.zeroCells z.cells (grownCap w (n + m) c e - (n + m))) e)).drew.setCells w.heap.size (i * k) vs).drew).setCells w.heap.size ((i + m) * k) (cs.drop (i * k)))
  (b n c i vb m vc : Nat) (cs vs : List Value) (w : World) (hi : i < n) (hm : 0 < m) (hnc : n ≤ c) (hroom : c < n + m) (hbig : n + m ≤ 4294967296) (hcl : cs.length = n * k) (hvl : vs.length = m * k)
  (hcs : ∀ j v, cs[j]? = some v → w.cell? ⟨b, j, none⟩ = some v) (hvs : ∀ j v, vs[j]? = some v → w.cell? ⟨vb, j, none⟩ = some v) (h1c : ∀ v ∈ cs, v.oneCell' = true) (h1v : ∀ v ∈ vs, v.oneCell' = true) :
  Calls P K #[.slice (some ⟨b, 0, none⟩) n c, .int .i64 i, .slice (some ⟨vb, 0, none⟩) m vc] w fun en w1 =>
   ∃ G arr, en = .returned (.slice (some ⟨w.heap.size, 0, none⟩) (n + m) G) ∧ n + m ≤ G ∧ G * k ≤ arr.size ∧ w1.heap = w.heap.push (.cells arr e) ∧ w1.os = w.os ∧ w1.tape = w.tape ∧ w1.output = w.output ∧
    At arr 0 (cs.take (i * k) ++ vs ++ cs.drop (i * k)) := by
 have hik : i * k ≤ n * k := Nat.mul_le_mul_right _ (by omega)
 have e1 : (n + m) * k = n * k + m * k := Nat.add_mul ..
 have e2 : (i + m) * k = i * k + m * k := Nat.add_mul ..
 have hge := grownCap_ge w (n + m) c e
 refine (raw b n c i vb m vc cs vs w hi hm hnc hroom hbig hcl hvl hcs hvs h1c h1v).mono ?_
 rintro en w1 ⟨rfl, rfl⟩
 generalize hR : (cs.take (i * k)).toArray ++ Builtin.zeroCells z.cells (n + m - i) ++ Builtin.zeroCells z.cells (grownCap w (n + m) c e - (n + m)) = ROW
 have hsz : ROW.size = grownCap w (n + m) c e * k := by
  rw [← hR]
  simp only [Array.size_append, zeroCells_size, hz, List.size_toArray, List.length_take, hcl, Nat.min_eq_left hik, ← Nat.add_mul]
  congr 1
  omega
 have hfit : (n + m) * k ≤ ROW.size := by rw [hsz]; exact Nat.mul_le_mul_right _ hge
 have hb0 : (w.alloc (.cells ROW e)).drew.heap[w.heap.size]? = some (.cells ROW e (0, 0)) := heap_alloc_new
 have g1 := setCells_heap w.heap.size vs (i * k) _ hb0
 have g1' : ((w.alloc (.cells ROW e)).drew.setCells w.heap.size (i * k) vs).drew.heap[w.heap.size]? = some (.cells (V.sets ROW.toList (i * k) vs).toArray e (0, 0)) := g1
 have g2 := setCells_heap w.heap.size (cs.drop (i * k)) ((i + m) * k) _ g1'
 obtain ⟨p1, p2, p3, p4⟩ := setCells_frame w.heap.size vs (i * k) (w.alloc (.cells ROW e)).drew
 obtain ⟨q1, q2, q3, q4⟩ := setCells_frame w.heap.size (cs.drop (i * k)) ((i + m) * k) ((w.alloc (.cells ROW e)).drew.setCells w.heap.size (i * k) vs).drew
 refine ⟨grownCap w (n + m) c e, (V.sets (V.sets ROW.toList (i * k) vs) ((i + m) * k) (cs.drop (i * k))).toArray, rfl, hge, ?_, ?_, q2.trans p2, q3.trans p3, q4.trans p4, ?_⟩
 · simp [V.sets_length, hsz]
 ·
  apply Array.ext_getElem?
  intro x
  by_cases hx : x = w.heap.size
  ·
   subst hx
   rw [g2]
   simp
  ·
   rw [setCells_other _ x hx]
   show ((w.alloc (.cells ROW e)).drew.setCells w.heap.size (i * k) vs).heap[x]? = _
   rw [setCells_other _ x hx]
   show (w.alloc (.cells ROW e)).heap[x]? = _
   rw [Array.getElem?_push, if_neg hx]
   rcases Nat.lt_or_ge x w.heap.size with h | h
   · exact heap_alloc_old h
   · rw [Array.getElem?_eq_none h, Array.getElem?_eq_none (by rw [World.size_alloc]; omega)]
 ·
  rw [e2]
  refine ins_at2 (by omega) hvl (by simp; omega) (fun j v hj hja => ?_)
  rw [← hR]
  have hjc : j < cs.length := (List.getElem?_eq_some_iff.1 hj).1
  simp only [Array.toList_append, List.append_assoc]
  rw [List.getElem?_append_left (by simp; omega), List.getElem?_take_of_lt hja]
  exact hj
theorem RepL.take {w : World} {S : Nat → Prop} {t : Ty} : ∀ {l : List t.den} {us : List Value}, RepL w S t l us → ∀ i, RepL w S t (l.take i) (us.take (i * t.size))
 | [], _, h, i => by obtain rfl := h; simp [RepL]
 | x :: l, _, h, 0 => by simp [RepL]
 | x :: l, _, h, i + 1 => by
  obtain ⟨v1, v2, rfl, h1, h2⟩ := h
  refine ⟨v1, v2.take (i * t.size), ?_, h1, RepL.take h2 i⟩
  have e : (i + 1) * t.size = v1.length + i * t.size := by rw [h1.length, Nat.add_mul, Nat.one_mul, Nat.add_comm]
  rw [e, List.take_length_add_append]
theorem RepL.drop {w : World} {S : Nat → Prop} {t : Ty} : ∀ {l : List t.den} {us : List Value}, RepL w S t l us → ∀ i, RepL w S t (l.drop i) (us.drop (i * t.size))
 | [], _, h, i => by obtain rfl := h; simp [RepL]
 | x :: l, _, h, 0 => by simpa using h
 | x :: l, _, h, i + 1 => by
  obtain ⟨v1, v2, rfl, h1, h2⟩ := h
  have e : (i + 1) * t.size = v1.length + i * t.size := by rw [h1.length, Nat.add_mul, Nat.one_mul, Nat.add_comm]
  rw [e, List.drop_length_add_append]
  exact RepL.drop h2 i
theorem ins_sound {P : Program} {I : World → Prop} {g K : Nat} {t : Ty} {T e : TypeId} {ity : TypeInfo} {z : Value} (hT : P.underlying T = some (.slice e)) (he : Elem P e t ity z) (hel : elemOk P T = some (e, t)) (hlim : ∀ n, t.lim n = n + 1) (W : InsWays P K T e t.size) : (insCon t).Sound P I g K := by
 intro x y hxy B S0 ρ w S args hI hg hh hargs
 obtain ⟨⟨x0, i, x2, xu⟩, l, v, u⟩ := x
 have hxy' : insF l i v = some y := hxy
 obtain ⟨hcond, hy⟩ := bif_some hxy'
 simp only [Option.some.injEq] at hy
 subst hy
 simp only [decide_eq_true_eq] at hcond
 obtain ⟨hi0, hil, hv0, hbig⟩ := hcond
 obtain ⟨i, rfl⟩ := Int.eq_ofNat_of_zero_le hi0
 have hil : i ≤ l.length := by omega
 simp only [Int.toNat_natCast]
 have hargs' : PRels ρ [some (.row t l), some (.row t v)] w S [.all 0, .val (.int .i64 i), .all 1] args.toList := hargs
 have hh' : HRel ⟨B, 2, ρ, [some (.row t l), some (.row t v)]⟩ S0 ρ [some (.row t l), some (.row t v)] w S := hh
 simp only [PRels] at hargs'
 obtain ⟨v0, us, ea, hv0', v1, us', rfl, hv1, v2, us2, rfl, hv2, rfl⟩ := hargs'
 have ho : Heap.at? [some (AO.row t l), some (AO.row t v)] 0 = some (.row t l) := rfl
 have ho1 : Heap.at? [some (AO.row t l), some (AO.row t v)] 1 = some (.row t v) := rfl
 simp only [PRel] at hv1
 subst hv1
 have hargsE : args = #[v0, .int .i64 i, v2] := by
  apply Array.ext'
  rw [ea]
 refine Calls.mono (R := fun en w' => ∃ v' ρ' S', en = .returned v' ∧ HRel ⟨B, 2, ρ, [some (.row t l), some (.row t v)]⟩ S0 ρ' [none, none, some (.row t (l.take i ++ v ++ l.drop i))] w' S' ∧ PRel ρ' [none, none, some (.row t (l.take i ++ v ++ l.drop i))] w' S' (.all 2) v' ∧ Keeps B w w') ?_ (fun e w' h => ?_)
 ·
  -- the block of what is inserted may be given up
  have drop1 : ∀ {ρ' w' S' l'} {v' : Value}, HRel ⟨B, 2, ρ, [some (.row t l), some (.row t v)]⟩ S0 ρ' [none, some (.row t v), some (.row t l')] w' S' → PRel ρ' [none, some (.row t v), some (.row t l')] w' S' (.all 2) v' → Keeps B w w' →
    ∃ v'' ρ' S', Ending.returned v' = .returned v'' ∧ HRel ⟨B, 2, ρ, [some (.row t l), some (.row t v)]⟩ S0 ρ' [none, none, some (.row t l')] w' S' ∧ PRel ρ' [none, none, some (.row t l')] w' S' (.all 2) v'' ∧ Keeps B w w' := by
   intro ρ' w' S' l' v' q1 q2 q3
   obtain ⟨S1, k1, k2⟩ := q1.kill 1
   exact ⟨v', ρ', S1, rfl, k1, k2.rel q2, q3⟩
  have hvs := hv2
  simp only [PRel] at hvs
  rcases hvs.2 _ ho1 rfl with ⟨vb, vn, vcap, hvr, rfl, hvle, hvcap⟩ | ⟨h0, _⟩
  case inr => simp only [AO.len] at h0; omega
  simp only [AO.len, AO.elemSize] at hvle hvcap hv2
  rcases hh'.block _ _ ho1 with ⟨vb', arv, elv, fzv, q1, q2, q3, q4, q5⟩ | ⟨q1, _⟩
  case inr => rw [hvr] at q1; cases q1
  rw [hvr] at q1
  cases q1
  rw [hargsE]
  have hs0 := hv0'
  simp only [PRel] at hs0
  have hslice : ∃ ad c, v0 = .slice ad l.length c ∧ l.length ≤ c ∧ (ad = none → l.length = 0) := by
   rcases hs0.2 _ ho rfl with ⟨blk, n, cap, hr, rfl, hle, hcap⟩ | ⟨h0, rfl⟩
   · exact ⟨_, cap, rfl, hle, fun h => by cases h⟩
   ·
    simp only [AO.len] at h0
    exact ⟨none, 0, by rw [h0], by omega, fun _ => h0⟩
  obtain ⟨ad, c, rfl, hc, hnil⟩ := hslice
  by_cases hend : i = l.length
  ·
   subst hend
   have happ : (appendP P T T (.all 0) (.all 1) [some (.row t l), some (.row t v)]).applyTo [some (.row t l), some (.row t v)] = some (true, .all 2, [none, some (.row t v), some (.row t (l ++ v))]) := by
    have hsrc : srcP P T t [some (.row t l), some (.row t v)] (.all 1) = some v := by
     simp [srcP, hT, rowsOf, ho1, castL]
    simp [appendP, hel, hsrc, ho, castL, OpR.applyTo, hbig]
   obtain ⟨ρ', w', S', v', hrun, g1, g2, g3⟩ := append_did (ty := T) hh' happ hv0' hv2
   refine (W.fin ad l.length c _ v.length vcap v' w w' hv0 hbig hc hnil hrun).mono ?_
   rintro en w1 ⟨rfl, rfl⟩
   simp only [List.take_length, List.drop_length, List.append_nil]
   exact drop1 g1 g3 g2.below
  ·
   have hlt : i < l.length := by omega
   rcases hs0.2 _ ho rfl with ⟨blk, n, cap, hr, hve, hle, hcap⟩ | ⟨h0, _⟩
   case inr => simp only [AO.len] at h0; omega
   simp only [AO.len, AO.elemSize] at hve hle hcap
   cases hve
   rcases hh'.block _ _ ho with ⟨blk', arr, el, fz, p1, p2, p3, p4, p5⟩ | ⟨p1, _⟩
   case inr => rw [hr] at p1; cases p1
   rw [hr] at p1
   cases p1
   obtain ⟨cs, c1, c2⟩ := repL_of (arr := arr) (o := 0) (l := l) (fun j hj => by simpa using p4 j hj)
   obtain ⟨vs, d1, d2⟩ := repL_of (arr := arv) (o := 0) (l := v) (fun j hj => by simpa using q4 j hj)
   have hcs : ∀ j x, cs[j]? = some x → w.cell? ⟨blk, j, none⟩ = some x := fun j x hj => by
    obtain ⟨hj1, rfl⟩ := List.getElem?_eq_some_iff.1 hj
    rw [cell_at p2]
    simpa using c2 j hj1
   have hvs : ∀ j x, vs[j]? = some x → w.cell? ⟨vb, j, none⟩ = some x := fun j x hj => by
    obtain ⟨hj1, rfl⟩ := List.getElem?_eq_some_iff.1 hj
    rw [cell_at q2]
    simpa using d2 j hj1
   have hnew : RepL w S t (l.take i ++ v ++ l.drop i) (cs.take (i * t.size) ++ vs ++ cs.drop (i * t.size)) := ((c1.take i).append d1).append (c1.drop i)
   have hll : (l.take i ++ v ++ l.drop i).length = l.length + v.length := by simp; omega
   by_cases hroom : l.length + v.length ≤ c
   ·
    have hne : vb ≠ blk := fun e => by
     subst e
     have := hh'.inj _ _ _ _ _ _ _ ho ho1 hr hvr
     cases this
    refine (W.shift blk l.length c i vb v.length vcap cs vs arr arv el elv fz fzv w hlt hv0 hroom hbig c1.length d1.length hne p2 q2 hcap (fun j hj => p3 j (by rw [hlim]; exact hj)) (fun j hj => q3 j (by rw [hlim]; exact hj)) hcs hvs c1.one d1.one).mono ?_
    rintro en w1 ⟨arr', rfl, a1, a2, a3, a4, a5, a6, a7, a8⟩
    obtain ⟨ρ', g1, g2, g3⟩ := hh'.remake (w' := w1) ho hr p2 p3 a1 a2 a3 a4 a5 a6 a7 p5 hnew a8
    refine drop1 g1 ?_ g2.below
    simp only [PRel]
    refine ⟨⟨⟨by simp, fun h => by cases h⟩, rfl⟩, fun o ho' _ => ?_⟩
    cases ho'
    refine .inl ⟨blk, _, c, g3, by simp only [AO.len]; rw [hll], by simp only [AO.len]; rw [hll]; exact hroom, by simpa only [AO.elemSize] using hcap⟩
   ·
    refine (W.grow blk l.length c i vb v.length vcap cs vs w hlt hv0 hle (by omega) hbig c1.length d1.length hcs hvs c1.one d1.one).mono ?_
    rintro en w1 ⟨G, arr', rfl, a1, a2, a3, a4, a5, a6, a7⟩
    obtain ⟨S1, k1, k2⟩ := hh'.kill 0
    have k1' : HRel ⟨B, 2, ρ, [some (.row t l), some (.row t v)]⟩ S0 ρ [none, some (.row t v)] w S1 := k1
    obtain ⟨ρ', S', g1, g2, g3⟩ := new_row (e := e) (arr := arr') k1' (t := t) (0, 0) (fun j _ => by simp) (hnew.mono k2.hw k2.hS) a7 he.ok
    have hheap : w1.heap = (w.alloc (.cells arr' e)).heap := a3
    have hb1 : Below (w.alloc (.cells arr' e)).heap.size (w.alloc (.cells arr' e)) w1 := ⟨a4, a5, a6, by rw [hheap]; exact Nat.le_refl _, fun k _ => by rw [hheap]⟩
    have g1' := g1.later hb1.size hb1.block
    have hx := k2.trans (g2.trans (Ext.later g1.base_le hb1))
    refine drop1 g1' ?_ hx.below
    simp only [PRel]
    refine ⟨⟨⟨by simp, fun h => by cases h⟩, rfl⟩, fun o ho' _ => ?_⟩
    cases ho'
    refine .inl ⟨w.heap.size, _, G, g3, by simp only [AO.len]; rw [hll], by simp only [AO.len]; rw [hll]; exact a1, by simpa only [AO.elemSize] using a2⟩
 ·
  obtain ⟨v', ρ', S', rfl, h1, h2, h3⟩ := h
  exact ⟨fun pv hb => (by cases hb), fun _ => ⟨v', ρ', S', rfl, h1, h2, h3⟩⟩
end Go.Proofs.YtjlfmolfcgennaaDoor.V
namespace Go.Proofs.YtjlfmolfcgennaaDoor.V
open Go.RowKit Go.Proofs.Tryd Go.Lib
set_option maxRecDepth 100000
set_option linter.unusedVariables false
set_option linter.unusedSimpArgs false
set_option maxHeartbeats 4000000 in
theorem fin_slices_Insert_ids_Given_h0 (ad : Option Addr) (n c : Nat) (va : Option Addr) (m vc : Nat) (v' : Value) (w w' : World) (hm : 0 < m) (hb : n + m ≤ 4294967296) (hc : n ≤ c) (hnil : ad = none → n = 0) (hrun : (Builtin.append_ #[27, 27] 27 #[.slice ad n c, .slice va m vc]).run prog w = .ok v' w') :
  Calls prog 43 #[.slice ad n c, .int .i64 n, .slice va m vc] w fun e w1 => e = .returned v' ∧ w1 = w' := by
 have hz1 : ¬ ((m : Int) = 0) := by omega
 have hz2 : ((m : Int) == 0) = false := by simpa using hz1
 go_enter func43, ntmps43
 cases ad with
 | none =>
  have h0 := hnil rfl
  subst h0
  go_wp2_with (at_builtin; refine Lib.wpList_append_run _ rfl _ _ _ _ rfl _ _ rfl rfl _ _ hrun ?_)
  go_ret
  exact ⟨rfl, rfl⟩
 | some a =>
  obtain ⟨ab, ao, asp⟩ := a
  go_wp2_with (at_builtin; refine Lib.wpList_append_run _ rfl _ _ _ _ rfl _ _ rfl rfl _ _ hrun ?_)
  all_goals (go_ret; exact ⟨rfl, rfl⟩)
set_option maxHeartbeats 4000000 in
theorem shift_slices_Insert_ids_Given_h0 (b n c i vb m vc : Nat) (cs vs : List Value) (w : World) (hi : i < n) (hm : 0 < m) (hroom : n + m ≤ c) (hbig : n + m ≤ 4294967296) (hcl : cs.length = n * 6) (hvl : vs.length = m * 6) (hvb : vb ≠ b)
  (hcs : ∀ j v, cs[j]? = some v → w.cell? ⟨b, j, none⟩ = some v) (hsp : ∀ j, j < (n + m) * 6 → (w.cell? ⟨b, j, none⟩).isSome = true) (hfz : ∀ j, j < (n + m) * 6 → w.frozen? ⟨b, j, none⟩ = false)
  (hvs : ∀ j v, vs[j]? = some v → w.cell? ⟨vb, j, none⟩ = some v) (h1c : ∀ v ∈ cs, v.oneCell' = true) (h1v : ∀ v ∈ vs, v.oneCell' = true)
  (tA tB : TypeId) (kA kB : Nat) (hsa : w.shape? vb = some (tA, kA)) (hsb : w.shape? b = some (tB, kB)) (hkB : kB ≠ 0) (hfa : w.frozen? ⟨vb, 0, none⟩ = false) (hfe : w.frozen? ⟨vb, kA, none⟩ = false) :
  Calls prog 43 #[.slice (some ⟨b, 0, none⟩) n c, .int .i64 i, .slice (some ⟨vb, 0, none⟩) m vc] w fun e w' =>
   e = .returned (.slice (some ⟨b, 0, none⟩) (n + m) c) ∧ w' = (w.drew.setCells b ((i + m) * 6) (cs.drop (i * 6))).setCells b (i * 6) vs := by
 have hz1 : ¬ ((m : Int) = 0) := by omega
 have mixed : prog.follows .mixedOrders = true := by kernel_rfl
 have hz2 : ¬ ((i : Int) = (n : Int)) := by omega
 have hsz : (prog.info? 53).map (·.size) = some 6 := by kernel_rfl
 have hov : ∀ lb cb, (callFunc 55 #[.slice (some ⟨vb, 0, none⟩) m vc, .slice (some ⟨b, (i + m) * 6, none⟩) lb cb]).run prog w = .ok (.value (.bool false)) w := fun lb cb => by
  rw [run_callFunc_extern func55 (by kernel_rfl) (by kernel_rfl) (by kernel_rfl) (e := Extern.SlicesOverlaps.overlaps #[27, 27] #[4]) (by kernel_rfl),
   Lib.run_overlaps_apart w 27 4 53 underlying27 6 sizeOf53 ⟨vb, 0, none⟩ ⟨b, (i + m) * 6, none⟩ m vc lb cb hvb tA tB kA kB hsa hsb hkB hfa hfe]
  rfl
 have hdl : (cs.drop (i * 6)).length = (n - i) * 6 := by rw [List.length_drop, hcl]; omega
 have hw1 : IntKind.i64.wrap ((i : Int) + (m : Int)) = (i : Int) + (m : Int) := by rw [IntKind.wrap_i64]; omega
 have hb1 : (0 : Int) ≤ (i : Int) + (m : Int) := by omega
 have hin : i ≤ n := by omega
 have htn : ((i : Int) + (m : Int)).toNat = i + m := by omega
 have hb2 : ¬ (c = i + m) := by omega
 have hb3 : (i : Int) ≤ (n : Int) + (m : Int) := by omega
 have hb4 : ¬ (c = i) := by omega
 have hcp1 : ∀ ty dc sc, (Builtin.copy_ #[27, 27] ty #[.slice (some ⟨b, (i + m) * 6, none⟩) (n + m - (i + m)) dc, .slice (some ⟨b, i * 6, none⟩) (n + m - i) sc]).run prog w.drew = .ok (goInt ((n - i : Nat))) (w.drew.setCells b ((i + m) * 6) (cs.drop (i * 6))) := fun ty dc sc =>
  run_copy_k w.drew _ _ ty 53 b ((i + m) * 6) (n + m - (i + m)) dc ⟨b, i * 6, none⟩ (n + m - i) sc 6 (n - i) (cs.drop (i * 6)) underlying27 hsz (by simp only [Nat.min_def]; split <;> omega) hdl
   (fun j v hj => by rw [Addr.add_lit]; exact hcs (i * 6 + j) v (by rwa [List.getElem?_drop] at hj))
   (fun j hj => by exact hsp _ (by omega)) (fun j hj => by exact hfz _ (by omega)) (fun v hv => h1c v (List.mem_of_mem_drop hv))
 obtain ⟨W1, hW1⟩ : ∃ W1, W1 = w.drew.setCells b ((i + m) * 6) (cs.drop (i * 6)) := ⟨_, rfl⟩
 have hsp1 : ∀ k, k < (n + m) * 6 → (W1.cell? ⟨b, k, none⟩).isSome = true := fun k hk => by
  rw [hW1]
  exact isSome_setCells b (cs.drop (i * 6)) ((i + m) * 6) w.drew (fun j hj => hsp _ (by omega)) _ (hsp k hk)
 have hcp2 : ∀ (W : World), (∀ x, W.cell? x = W1.cell? x) → (∀ x, W.frozen? x = W1.frozen? x) → ∀ ty dc, (Builtin.copy_ #[27, 27] ty #[.slice (some ⟨b, i * 6, none⟩) (n + m - i) dc, .slice (some ⟨vb, 0, none⟩) m vc]).run prog W = .ok (goInt m) (W.setCells b (i * 6) vs) := fun W hWc hWf ty dc =>
  run_copy_k W _ _ ty 53 b (i * 6) (n + m - i) dc ⟨vb, 0, none⟩ m vc 6 m vs underlying27 hsz (by simp only [Nat.min_def]; split <;> omega) hvl
   (fun j v hj => by
    rw [Addr.add_lit, hWc, hW1, World.cell?_setCells_out b _ _ _ _ (fun h _ => absurd h hvb), Nat.zero_add]
    exact hvs j v hj)
   (fun j hj => by rw [hWc]; exact hsp1 _ (by omega)) (fun j hj => by rw [hWf, hW1, World.frozen?_setCells]; exact hfz _ (by omega)) h1v
 rw [← hW1] at hcp1
 go_enter func43, ntmps43
 go_wp2_with (simp only [hov])
 go_region_law_o (refine step_copy_runI rfl _ _ 27 27 rfl _ _ (by simp [Act.eval, Act.put]) (by simp [Act.eval, Act.put]) (hcp1 _ _ _) ?_)
 go_wp2_with (at_builtin; refine wpList_copy_runI _ rfl _ _ 27 27 rfl _ _ rfl rfl (hcp2 _ (fun _ => rfl) (fun _ => rfl) _ _) ?_)
 go_ret
 first | exact ⟨rfl, rfl⟩ | exact ⟨rfl, by rw [hW1]⟩
set_option maxHeartbeats 4000000 in
theorem grow_slices_Insert_ids_Given_h0 {i0 : TypeInfo} {z0 : Value} {t : Ty} (he : Elem prog 53 t i0 z0) (hts : t.size = 6) (b n c i vb m vc : Nat) (cs vs : List Value) (w : World) (hi : i < n) (hm : 0 < m) (hnc : n ≤ c) (hroom : c < n + m) (hbig : n + m ≤ 4294967296) (hcl : cs.length = n * 6) (hvl : vs.length = m * 6)
  (hcs : ∀ j v, cs[j]? = some v → w.cell? ⟨b, j, none⟩ = some v) (hvs : ∀ j v, vs[j]? = some v → w.cell? ⟨vb, j, none⟩ = some v) (h1c : ∀ v ∈ cs, v.oneCell' = true) (h1v : ∀ v ∈ vs, v.oneCell' = true) :
  Calls prog 43 #[.slice (some ⟨b, 0, none⟩) n c, .int .i64 i, .slice (some ⟨vb, 0, none⟩) m vc] w fun e w' =>
   e = .returned (.slice (some ⟨w.heap.size, 0, none⟩) (n + m) (grownCap w (n + m) c 53)) ∧
   w' = (((w.alloc (.cells ((cs.take (i * 6)).toArray ++ Builtin.zeroCells z0.cells (n + m - i) ++ Builtin.zeroCells z0.cells (grownCap w (n + m) c 53 - (n + m))) 53)).drew.setCells w.heap.size (i * 6) vs).drew).setCells w.heap.size ((i + m) * 6) (cs.drop (i * 6)) := by
 have mixed : prog.follows .mixedOrders = true := by kernel_rfl
 have hz1 : ¬ ((m : Int) = 0) := by omega
 have hz2 : ¬ ((i : Int) = (n : Int)) := by omega
 have hz3 : (c : Int) < (n : Int) + (m : Int) := by omega
 have hsz : (prog.info? 53).map (·.size) = some 6 := by kernel_rfl
 have hzs : i0.size = 6 := by rw [he.size]; exact hts
 have hzc : z0.cells.size = 6 := by rw [he.zsize]; exact hts
 have hbw : b < w.heap.size := block_lt_of_cell (hcs 0 _ (List.getElem?_eq_getElem (by omega)))
 have hvw : vb < w.heap.size := block_lt_of_cell (hvs 0 _ (List.getElem?_eq_getElem (by omega)))
 have hkk : (n : Int) + (m : Int) - (i : Int) = ((n + m - i : Nat) : Int) := by omega
 have hik : i + (n + m - i) = n + m := by omega
 have hold : (Builtin.firstCells i0.size i (.slice (some ⟨b, 0, none⟩) i c)).run prog w.drew = .ok (cs.take (i * 6)).toArray w.drew := by
  rw [hzs]
  exact run_firstCells_some w.drew 6 i ⟨b, 0, none⟩ i c (cs.take (i * 6)) (by rw [List.length_take]; omega) (fun j v hj => by
   rw [Addr.add_lit, Nat.zero_add]
   rw [List.getElem?_take] at hj
   split at hj
   · exact hcs j v hj
   · cases hj)
 have h48 : Builtin.nextslicecap (n + m) c * i0.bytes ≤ 281474976710656 := by
  have hn := Room.nextslicecap_le' (need := n + m) (old := c) hroom
  calc Builtin.nextslicecap (n + m) c * i0.bytes ≤ (2 * 4294967296) * 32768 := Nat.mul_le_mul (by omega) he.bytes
   _ ≤ 281474976710656 := by omega
 have h48' : (n + m - i) * i0.bytes ≤ 281474976710656 := by
  calc (n + m - i) * i0.bytes ≤ 4294967296 * 32768 := Nat.mul_le_mul (by omega) he.bytes
   _ ≤ 281474976710656 := by omega
 have hrz : ∀ ty, (Builtin.append_ #[27, 3] ty #[.slice (some ⟨b, 0, none⟩) i c, .int .i64 ((n : Int) + (m : Int) - (i : Int))]).run prog w =
   .ok (.slice (some ⟨w.heap.size, 0, none⟩) (n + m) (grownCap w (n + m) c 53)) (w.drew.alloc (.cells ((cs.take (i * 6)).toArray ++ Builtin.zeroCells z0.cells (n + m - i) ++ Builtin.zeroCells z0.cells (grownCap w (n + m) c 53 - (n + m))) 53)) := fun ty => by
  have h := Lib.run_append_grow_zeros w 27 3 ty 53 i0 z0 .i64 .i64 underlying27 underlying3 he.info he.zero (some ⟨b, 0, none⟩) i c (cs.take (i * 6)) hold (n + m - i) (by omega) (by omega) (by omega) (by omega) h48' (by rw [hik]; exact h48)
  rw [hik] at h
  rw [hkk]
  exact h
 obtain ⟨G, hG⟩ : ∃ G, G = grownCap w (n + m) c 53 := ⟨_, rfl⟩
 obtain ⟨ROW, hROW⟩ : ∃ ROW : Array Value, ROW = (cs.take (i * 6)).toArray ++ Builtin.zeroCells z0.cells (n + m - i) ++ Builtin.zeroCells z0.cells (G - (n + m)) := ⟨_, rfl⟩
 rw [← hG] at hrz ⊢
 rw [← hROW] at hrz ⊢
 have hRl : (n + m) * 6 ≤ ROW.size := by
  rw [hROW]
  simp [Builtin.zeroCells, hzc]
  omega
 obtain ⟨W1, hW1⟩ : ∃ W1, W1 = w.drew.alloc (.cells ROW 53) := ⟨_, rfl⟩
 rw [← hW1] at hrz
 have hN : ∀ j, j < (n + m) * 6 → (W1.cell? ⟨w.heap.size, j, none⟩).isSome = true := fun j hj => by
  rw [hW1, World.cell?_alloc_at (w := w.drew) ROW _ w.heap.size j rfl, Array.getElem?_eq_getElem (by omega)]; rfl
 have hNf : ∀ j, W1.frozen? ⟨w.heap.size, j, none⟩ = false := fun j => by rw [hW1]; exact World.frozen?_alloc_at (w := w.drew) ROW _ w.heap.size j rfl
 have hOb : ∀ j v, w.cell? ⟨b, j, none⟩ = some v → W1.cell? ⟨b, j, none⟩ = some v := fun j v h => by rw [hW1, World.cell?_alloc_past (w := w.drew) _ b j hbw]; exact h
 have hOv : ∀ j v, w.cell? ⟨vb, j, none⟩ = some v → W1.cell? ⟨vb, j, none⟩ = some v := fun j v h => by rw [hW1, World.cell?_alloc_past (w := w.drew) _ vb j hvw]; exact h
 have hcpA : ∀ (W : World), (∀ x, W.cell? x = W1.cell? x) → (∀ x, W.frozen? x = W1.frozen? x) → ∀ ty dc, (Builtin.copy_ #[27, 27] ty #[.slice (some ⟨w.heap.size, i * 6, none⟩) (n + m - i) dc, .slice (some ⟨vb, 0, none⟩) m vc]).run prog W = .ok (goInt m) (W.setCells w.heap.size (i * 6) vs) := fun W hWc hWf ty dc =>
  run_copy_k W _ _ ty 53 w.heap.size (i * 6) (n + m - i) dc ⟨vb, 0, none⟩ m vc 6 m vs underlying27 hsz (by simp only [Nat.min_def]; split <;> omega) hvl
   (fun j v hj => by rw [Addr.add_lit, hWc, Nat.zero_add]; exact hOv _ v (hvs j v hj))
   (fun j hj => by rw [hWc]; exact hN _ (by omega)) (fun j hj => by rw [hWf]; exact hNf _) h1v
 have hGn : n + m ≤ G := by rw [hG]; exact grownCap_ge w _ _ _
 have hG63 : G ≤ 9223372036854775807 := by
  have := grownCap_le_maxLen w (n + m) c 53 (by unfold maxLen; omega)
  rw [← hG] at this
  unfold maxLen at this
  omega
 have hGi : ¬ (G = i) := by omega
 have hGim : ¬ (G = i + m) := by omega
 have hci : ¬ (c = i) := by omega
 have hbN : b ≠ w.heap.size := by omega
 have hdl : (cs.drop (i * 6)).length = (n - i) * 6 := by rw [List.length_drop, hcl]; omega
 have hcpB : ∀ (W : World), (∀ x, W.cell? x = (W1.setCells w.heap.size (i * 6) vs).cell? x) → (∀ x, W.frozen? x = (W1.setCells w.heap.size (i * 6) vs).frozen? x) → ∀ ty dc sc, (Builtin.copy_ #[27, 27] ty #[.slice (some ⟨w.heap.size, (i + m) * 6, none⟩) (n + m - (i + m)) dc, .slice (some ⟨b, i * 6, none⟩) (n - i) sc]).run prog W = .ok (goInt ((n - i : Nat))) (W.setCells w.heap.size ((i + m) * 6) (cs.drop (i * 6))) := fun W hWc hWf ty dc sc =>
  run_copy_k W _ _ ty 53 w.heap.size ((i + m) * 6) (n + m - (i + m)) dc ⟨b, i * 6, none⟩ (n - i) sc 6 (n - i) (cs.drop (i * 6)) underlying27 hsz (by simp only [Nat.min_def]; split <;> omega) hdl
   (fun j v hj => by
    rw [Addr.add_lit, hWc, World.cell?_setCells_out _ _ _ _ _ (fun h _ => absurd h hbN)]
    exact hOb _ v (hcs (i * 6 + j) v (by rwa [List.getElem?_drop] at hj)))
   (fun j hj => by rw [hWc]; exact isSome_setCells _ _ _ _ (fun t ht => hN _ (by omega)) _ (hN _ (by omega)))
   (fun j hj => by rw [hWf, World.frozen?_setCells]; exact hNf _) (fun v hv => h1c v (List.mem_of_mem_drop hv))
 subst hW1
 have hE1 : ∀ x, ((w.alloc (.cells ROW 53)).drew).cell? x = (w.drew.alloc (.cells ROW 53)).cell? x := fun x => rfl
 have hE2 : ∀ x, ((w.alloc (.cells ROW 53)).drew).frozen? x = (w.drew.alloc (.cells ROW 53)).frozen? x := fun x => rfl
 have hF1 : ∀ x, (((w.alloc (.cells ROW 53)).drew.setCells w.heap.size (i * 6) vs).drew).cell? x = ((w.drew.alloc (.cells ROW 53)).setCells w.heap.size (i * 6) vs).cell? x := fun x => rfl
 have hF2 : ∀ x, (((w.alloc (.cells ROW 53)).drew.setCells w.heap.size (i * 6) vs).drew).frozen? x = ((w.drew.alloc (.cells ROW 53)).setCells w.heap.size (i * 6) vs).frozen? x := fun x => rfl
 have hw1 : IntKind.i64.wrap ((i : Int) + (m : Int)) = (i : Int) + (m : Int) := by rw [IntKind.wrap_i64]; omega
 have hb1 : (0 : Int) ≤ (i : Int) + (m : Int) := by omega
 have hin : i ≤ n := by omega
 have htn : ((i : Int) + (m : Int)).toNat = i + m := by omega
 have hb3 : (i : Int) ≤ (n : Int) := by omega
 clear hkk hik hold hROW hG hRl
 go_enter func43, ntmps43
 go_wp2_with (first
  | (at_builtin; refine Lib.wpList_append_run _ rfl _ _ _ _ rfl _ _ rfl rfl _ _ (hrz _) ?_)
  | (at_builtin; refine wpList_copy_runI _ rfl _ _ 27 27 rfl _ _ rfl rfl (hcpA _ hE1 hE2 _ _) ?_)
  | (at_builtin; refine wpList_copy_runI _ rfl _ _ 27 27 rfl _ _ rfl rfl (hcpB _ (fun _ => rfl) (fun _ => rfl) _ _ _) ?_))
 go_region_law_o (refine step_copy_runI rfl _ _ 27 27 rfl (.slice (some ⟨w.heap.size, (i + m) * 6, none⟩) (n + m - (i + m)) (G - (i + m))) (.slice (some ⟨b, i * 6, none⟩) (n - i) (c - i)) (by simp [Act.eval, Act.put]) (by simp [Act.eval, Act.put]) (hcpB _ hF1 hF2 3 (G - (i + m)) (c - i)) ?_)
 go_wp2
 go_ret
 exact ⟨rfl, rfl⟩
/-! ### slices.Insert -/
theorem el_slices_Insert_ids_Given_h0 : elemOk prog 27 = some (53, T_ids_Given) := by kernel_rfl
theorem ways_slices_Insert_ids_Given_h0 {ity : TypeInfo} {z : Value} (he : Elem prog 53 T_ids_Given ity z) : InsWays prog 43 27 53 (Ty.size T_ids_Given) where
 fin := fin_slices_Insert_ids_Given_h0
 grow := ins_grow (z := z) he.zsize (fun b n c i vb m vc cs vs w hi hm hnc hroom hbig hcl hvl hcs hvs h1 h2 => grow_slices_Insert_ids_Given_h0 he rfl b n c i vb m vc cs vs w hi hm hnc hroom hbig hcl hvl hcs hvs h1 h2)
 shift := ins_shift (by decide) (fun b n c i vb m vc cs vs w h1 h2 h3 h4 h5 h6 h7 h8 h9 h10 h11 h12 h13 tA tB kA kB h14 h15 h16 h17 h18 => shift_slices_Insert_ids_Given_h0 b n c i vb m vc cs vs w h1 h2 h3 h4 h5 h6 h7 h8 h9 h10 h11 h12 h13 tA tB kA kB h14 h15 h16 h17 h18)
abbrev R_slices_Insert_ids_Given_h0 : Type := (List D_ids_Given) × Unit
noncomputable def b_slices_Insert_ids_Given_h0 (l0 : (List D_ids_Given)) (i : Int) (l1 : (List D_ids_Given)) : Option R_slices_Insert_ids_Given_h0 := insF (t := T_ids_Given) l0 i l1
theorem ex_slices_Insert_ids_Given_h0 : ∃ f, f = @b_slices_Insert_ids_Given_h0 := ⟨_, rfl⟩
noncomputable def slices_Insert_ids_Given_h0 := Classical.choose ex_slices_Insert_ids_Given_h0
theorem slices_Insert_ids_Given_h0_eq : @slices_Insert_ids_Given_h0 = @b_slices_Insert_ids_Given_h0 := Classical.choose_spec ex_slices_Insert_ids_Given_h0
@[reducible] noncomputable def pa_slices_Insert_ids_Given_h0 : List Pat := [.all 0, .int .i64, .all 1]
@[reducible] noncomputable def pH_slices_Insert_ids_Given_h0 : List HPat := [.row T_ids_Given, .row T_ids_Given]
@[reducible] noncomputable def qa_slices_Insert_ids_Given_h0 : List Pat := [.all 2]
@[reducible] noncomputable def qH_slices_Insert_ids_Given_h0 : List HPat := [.dead, .dead, .row T_ids_Given]
noncomputable def h_slices_Insert_ids_Given_h0 : HCon := HCon.mk0 pa_slices_Insert_ids_Given_h0 pH_slices_Insert_ids_Given_h0 qa_slices_Insert_ids_Given_h0 qH_slices_Insert_ids_Given_h0 R_slices_Insert_ids_Given_h0 (fun x => slices_Insert_ids_Given_h0 x.2.1 x.1.2.1 x.2.2.1) (fun r => (((), ()), ((), ((), (r.1, ()))))) (fun y => (y.2.2.2.1, ())) (fun _ => rfl)
theorem h_slices_Insert_ids_Given_h0_ok : h_slices_Insert_ids_Given_h0.Sound prog Inv gInv 43 := by
 have e : h_slices_Insert_ids_Given_h0 = insCon T_ids_Given := by unfold h_slices_Insert_ids_Given_h0; rw [slices_Insert_ids_Given_h0_eq]; rfl
 rw [e]
 obtain ⟨ht, i, z, he⟩ := elemOk_elem el_slices_Insert_ids_Given_h0
 exact ins_sound (T := 27) ht he el_slices_Insert_ids_Given_h0 (fun _ => rfl) (ways_slices_Insert_ids_Given_h0 he)
end Go.Proofs.YtjlfmolfcgennaaDoor.V
namespace Go.Proofs.YtjlfmolfcgennaaDoor.V
open Go.RowKit Go.Proofs.Tryd
set_option maxRecDepth 100000
set_option linter.unusedVariables false
noncomputable def m_ids_On : Mach prog Inv gInv := mach bas [(13, f13), (16, f16), (17, f17), (19, f19), (20, f20), (21, f21), (29, f29), (33, f33), (37, f37), (38, f38), (41, f41), (43, f43), (56, f56), (68, f68), (75, f75)] ⟨ok13, ok16, ok17, ok19, ok20, ok21, ok29, ok33, ok37, ok38, ok41, ok43, ok56, ok68, ok75, trivial⟩ [(8, c_ids_Fill), (42, c_ids_State_take_l1), (50, c_ids_State_fresh_l1)] ⟨⟨c_ids_Fill_ok, FnOk.callable ok8⟩, ⟨c_ids_State_take_l1_ok, FnOk.callable ok42⟩, ⟨c_ids_State_fresh_l1_ok, FnOk.callable ok50⟩, trivial⟩ [(34, c_slices_Clone_ids_Own), (35, c_slices_Clone_ids_Given)] ⟨⟨c_slices_Clone_ids_Own_ok, FnOk.callable ok34⟩, ⟨c_slices_Clone_ids_Given_ok, FnOk.callable ok35⟩, trivial⟩ [(41, h_slices_BinarySearchFunc_uint64_h0), (43, h_slices_Insert_ids_Given_h0)] ⟨⟨h_slices_BinarySearchFunc_uint64_h0_ok, FnOk.callable ok41⟩, ⟨h_slices_Insert_ids_Given_h0_ok, FnOk.callable ok43⟩, trivial⟩
/-! ### domino/ids.On -/
@[reducible] def r_ids_On : List Ty := [T_ids_State, (.int .i64)]
def ks_ids_On : List Nat := [13, 16, 17, 19, 20, 21, 29, 33, 37, 38, 41, 43, 56, 68, 75]
abbrev H_ids_On (base : Base) (S0 : Nat → Prop) := base.n = 0 ∧ FinOk (finR r_ids_On) base S0 (Post r_ids_On S0)
abbrev J_ids_On (base : Base) (S0 : Nat → Prop) (cs0 : List Go.Frame) (p : CPat) (J : denC p → Option (denL r_ids_On)) := JSound m_ids_On base S0 cs0 (Post r_ids_On S0) p J
abbrev O_ids_On (base : Base) (S0 : Nat → Prop) (cs0 : List Go.Frame) (X : Cfg → Option (Option (denL r_ids_On))) := OSound m_ids_On base S0 cs0 (Post r_ids_On S0) X
@[reducible] noncomputable def p_ids_On_17 : CPat := ⟨⟨13, [1, 1, 0, 1, 0, 1, 0, 0], (some 3), [.any, .any, .ptr 0 0, .any, .ptr 1 0, .any, .ptr 2 0, .any, .any, .any, .any, .any, .any, .any, .any, .any, .bool], 44⟩, [], [.dat 29 T_ids_State, .dat 29 T_ids_State, .cells 29 [.int .u64, .int .i64, .int .i64, .all 3, .all 4, .int .u64, .int .u64], .row T_ids_Own, .row T_ids_Given], 0⟩
@[reducible] noncomputable def u_ids_On_17 (k : Bool → D_ids_State → D_ids_State → Int → Int → Int → Int → Int → (List D_ids_Own) → (List D_ids_Given) → Option (D_ids_State × Int × Unit)) : denC p_ids_On_17 → Option (D_ids_State × Int × Unit) := fun x => k x.1.2.2.2.2.2.2.2.2.2.2.2.2.2.2.2.2.1 x.2.2.1 x.2.2.2.1 x.2.2.2.2.1.1 x.2.2.2.2.1.2.1 x.2.2.2.2.1.2.2.1 x.2.2.2.2.1.2.2.2.2.2.1 x.2.2.2.2.1.2.2.2.2.2.2.1 x.2.2.2.2.2.1 x.2.2.2.2.2.2.1
noncomputable def b_ids_On_17 (b372 : Bool) (d373 : D_ids_State) (d374 : D_ids_State) (i375 : Int) (i376 : Int) (i377 : Int) (i378 : Int) (i379 : Int) (l380 : (List D_ids_Own)) (l381 : (List D_ids_Given)) : Option (D_ids_State × Int × Unit) :=
 let b382 : Bool := (!b372)
 bif b382 then
  some (d373, ((180 : Int), ()))
 else
  some ((i375, (i376, (i377, (l380, (l381, (i378, (i379, ()))))))), ((0 : Int), ()))
theorem ex_ids_On_17 : ∃ f, f = @b_ids_On_17 := ⟨_, rfl⟩
noncomputable def ids_On_17 := Classical.choose ex_ids_On_17
theorem ids_On_17_eq : @ids_On_17 = @b_ids_On_17 := Classical.choose_spec ex_ids_On_17
theorem s_ids_On_17 {base S0 cs0} (hfin : H_ids_On base S0) : J_ids_On base S0 cs0 p_ids_On_17 (u_ids_On_17 (ids_On_17)) :=
 JSound.join hfin.2 (OSound.nowhere) ks_ids_On 100000 (by rw [ids_On_17_eq]; intro x; kernel_rfl)
noncomputable def x_ids_On_17 : Cfg → Option (Option (D_ids_State × Int × Unit)) := cut p_ids_On_17 (u_ids_On_17 (ids_On_17)) (nowhere)
theorem o_ids_On_17 {base S0 cs0} (hfin : H_ids_On base S0) : O_ids_On base S0 cs0 (x_ids_On_17) := OSound.cut (OSound.nowhere) (Nat.le_of_eq hfin.1) (s_ids_On_17 hfin)
@[reducible] noncomputable def p_ids_On_16 : CPat := ⟨⟨29, [1, 1, 1, 1, 1, 1, 1, 0, 1, 1, 1], none, [.ptr 0 0, .any, .any, .any, .any, .any, .any, .any, .any, .int .i64], 145⟩, [⟨13, [1, 1, 0, 1, 0, 1, 0, 0], (some 2), [.any, .any, .ptr 1 0, .any, .ptr 2 0, .any, .ptr 0 0], 54⟩], [.cells 29 [.int .u64, .int .i64, .int .i64, .all 3, .all 4, .int .u64, .int .u64], .dat 29 T_ids_State, .dat 29 T_ids_State, .row T_ids_Own, .row T_ids_Given], 0⟩
@[reducible] noncomputable def u_ids_On_16 (k : Int → Int → Int → Int → Int → Int → D_ids_State → D_ids_State → (List D_ids_Own) → (List D_ids_Given) → Option (D_ids_State × Int × Unit)) : denC p_ids_On_16 → Option (D_ids_State × Int × Unit) := fun x => k x.1.2.2.2.2.2.2.2.2.2.1 x.2.2.1.1 x.2.2.1.2.1 x.2.2.1.2.2.1 x.2.2.1.2.2.2.2.2.1 x.2.2.1.2.2.2.2.2.2.1 x.2.2.2.1 x.2.2.2.2.1 x.2.2.2.2.2.1 x.2.2.2.2.2.2.1
noncomputable def b_ids_On_16 (i359 : Int) (i360 : Int) (i361 : Int) (i362 : Int) (i363 : Int) (i364 : Int) (d365 : D_ids_State) (d366 : D_ids_State) (l367 : (List D_ids_Own)) (l368 : (List D_ids_Given)) : Option (D_ids_State × Int × Unit) :=
 let b369 : Bool := (decide (i359 ≤ (4 : Int)))
 bif b369 then
  let n370 : Int := (((List.length l368) : Nat) : Int)
  let b371 : Bool := (decide (n370 ≤ (200 : Int)))
  ids_On_17 b371 d365 d366 i360 i361 i362 i363 i364 l367 l368
 else
  ids_On_17 false d365 d366 i360 i361 i362 i363 i364 l367 l368
theorem ex_ids_On_16 : ∃ f, f = @b_ids_On_16 := ⟨_, rfl⟩
noncomputable def ids_On_16 := Classical.choose ex_ids_On_16
theorem ids_On_16_eq : @ids_On_16 = @b_ids_On_16 := Classical.choose_spec ex_ids_On_16
theorem s_ids_On_16 {base S0 cs0} (hfin : H_ids_On base S0) : J_ids_On base S0 cs0 p_ids_On_16 (u_ids_On_16 (ids_On_16)) :=
 JSound.join hfin.2 (o_ids_On_17 hfin) ks_ids_On 100000 (by rw [ids_On_16_eq]; intro x; kernel_rfl)
noncomputable def x_ids_On_16 : Cfg → Option (Option (D_ids_State × Int × Unit)) := cut p_ids_On_16 (u_ids_On_16 (ids_On_16)) (x_ids_On_17)
theorem o_ids_On_16 {base S0 cs0} (hfin : H_ids_On base S0) : O_ids_On base S0 cs0 (x_ids_On_16) := OSound.cut (o_ids_On_17 hfin) (Nat.le_of_eq hfin.1) (s_ids_On_16 hfin)
@[reducible] noncomputable def p_ids_On_15 : CPat := ⟨⟨19, [1, 1, 1], none, [.any, .any, .any, .any, .bool], 25⟩, [⟨29, [1, 1, 1, 1, 1, 1, 1, 0, 1, 0], (some 10), [.ptr 0 0, .any, .any, .any, .any, .any, .any, .any, .any, .int .i64, .any, .any, .any, .any, .any, .any, .any, .any, .any, .any, .any, .any, .any, .any, .any, .any, .any, .any, .any, .any, .any, .any, .any, .any, .any, .any, .any, .any, .any, .any, .any, .any, .any, .any, .any, .any, .any, .any, .any, .any, .any, .any, .any, .any, .any, .any, .any, .any, .any, .any, .any, .any, .any, .any, .any, .any, .any, .any, .any, .any, .any, .any, .any, .any, .any, .any, .any, .any, .any, .any, .any, .any, .any, .any, .any, .any, .any, .any, .any, .any, .any, .any, .any, .any, .any, .any, .any, .any, .any, .any, .any, .any, .any, .any, .any, .any, .any, .any, .any, .any, .any, .any, .any, .any, .any, .any, .any, .any, .any, .any, .any, .any, .any, .any, .any, .any, .any, .any, .any, .any, .any, .any, .any, .any, .any, .any, .any, .any, .any, .any, .boolC true], 14⟩, ⟨13, [1, 1, 0, 1, 0, 1, 0, 0], (some 2), [.any, .any, .ptr 1 0, .any, .ptr 2 0, .any, .ptr 0 0], 54⟩], [.cells 29 [.int .u64, .int .i64, .int .i64, .all 3, .all 4, .int .u64, .int .u64], .dat 29 T_ids_State, .dat 29 T_ids_State, .row T_ids_Own, .row T_ids_Given], 0⟩
@[reducible] noncomputable def u_ids_On_15 (k : Bool → Int → Int → Int → Int → Int → Int → D_ids_State → D_ids_State → (List D_ids_Own) → (List D_ids_Given) → Option (D_ids_State × Int × Unit)) : denC p_ids_On_15 → Option (D_ids_State × Int × Unit) := fun x => k x.1.2.2.2.2.1 x.2.1.1.2.2.2.2.2.2.2.2.2.1 x.2.2.1.1 x.2.2.1.2.1 x.2.2.1.2.2.1 x.2.2.1.2.2.2.2.2.1 x.2.2.1.2.2.2.2.2.2.1 x.2.2.2.1 x.2.2.2.2.1 x.2.2.2.2.2.1 x.2.2.2.2.2.2.1
noncomputable def b_ids_On_15 (b344 : Bool) (i345 : Int) (i346 : Int) (i347 : Int) (i348 : Int) (i349 : Int) (i350 : Int) (d351 : D_ids_State) (d352 : D_ids_State) (l353 : (List D_ids_Own)) (l354 : (List D_ids_Given)) : Option (D_ids_State × Int × Unit) :=
 let b355 : Bool := (!b344)
 bif b355 then
  ids_On_17 false d351 d352 i346 i347 i348 i349 i350 l353 l354
 else
  ids_On_16 i345 i346 i347 i348 i349 i350 d351 d352 l353 l354
theorem ex_ids_On_15 : ∃ f, f = @b_ids_On_15 := ⟨_, rfl⟩
noncomputable def ids_On_15 := Classical.choose ex_ids_On_15
theorem ids_On_15_eq : @ids_On_15 = @b_ids_On_15 := Classical.choose_spec ex_ids_On_15
theorem s_ids_On_15 {base S0 cs0} (hfin : H_ids_On base S0) : J_ids_On base S0 cs0 p_ids_On_15 (u_ids_On_15 (ids_On_15)) :=
 JSound.join hfin.2 (o_ids_On_16 hfin) ks_ids_On 100000 (by rw [ids_On_15_eq]; intro x; kernel_rfl)
noncomputable def x_ids_On_15 : Cfg → Option (Option (D_ids_State × Int × Unit)) := cut p_ids_On_15 (u_ids_On_15 (ids_On_15)) (x_ids_On_16)
theorem o_ids_On_15 {base S0 cs0} (hfin : H_ids_On base S0) : O_ids_On base S0 cs0 (x_ids_On_15) := OSound.cut (o_ids_On_16 hfin) (Nat.le_of_eq hfin.1) (s_ids_On_15 hfin)
@[reducible] noncomputable def p_ids_On_14 : CPat := ⟨⟨21, [1, 0], (some 3), [.any, .any, .any, .any, .any, .any, .any, .any, .any, .int .i64], 3⟩, [⟨37, [1, 0], (some 4), [], 11⟩, ⟨19, [1, 0], (some 1), [.ptr 0 0], 29⟩, ⟨29, [1, 1, 1, 1, 1, 1, 1, 0, 1, 0], (some 10), [.ptr 0 0, .any, .any, .any, .any, .any, .any, .any, .any, .int .i64, .any, .any, .any, .any, .any, .any, .any, .any, .any, .any, .any, .any, .any, .any, .any, .any, .any, .any, .any, .any, .any, .any, .any, .any, .any, .any, .any, .any, .any, .any, .any, .any, .any, .any, .any, .any, .any, .any, .any, .any, .any, .any, .any, .any, .any, .any, .any, .any, .any, .any, .any, .any, .any, .any, .any, .any, .any, .any, .any, .any, .any, .any, .any, .any, .any, .any, .any, .any, .any, .any, .any, .any, .any, .any, .any, .any, .any, .any, .any, .any, .any, .any, .any, .any, .any, .any, .any, .any, .any, .any, .any, .any, .any, .any, .any, .any, .any, .any, .any, .any, .any, .any, .any, .any, .any, .any, .any, .any, .any, .any, .any, .any, .any, .any, .any, .any, .any, .any, .any, .any, .any, .any, .any, .any, .any, .any, .any, .any, .any, .any, .boolC true], 14⟩, ⟨13, [1, 1, 0, 1, 0, 1, 0, 0], (some 2), [.any, .any, .ptr 1 0, .any, .ptr 2 0, .any, .ptr 0 0], 54⟩], [.cells 29 [.int .u64, .int .i64, .int .i64, .all 3, .all 4, .int .u64, .int .u64], .dat 29 T_ids_State, .dat 29 T_ids_State, .row T_ids_Own, .row T_ids_Given], 0⟩
@[reducible] noncomputable def u_ids_On_14 (k : Int → Int → Int → Int → Int → Int → Int → D_ids_State → D_ids_State → (List D_ids_Own) → (List D_ids_Given) → Option (D_ids_State × Int × Unit)) : denC p_ids_On_14 → Option (D_ids_State × Int × Unit) := fun x => k x.1.2.2.2.2.2.2.2.2.2.1 x.2.1.2.2.1.2.2.2.2.2.2.2.2.2.1 x.2.2.1.1 x.2.2.1.2.1 x.2.2.1.2.2.1 x.2.2.1.2.2.2.2.2.1 x.2.2.1.2.2.2.2.2.2.1 x.2.2.2.1 x.2.2.2.2.1 x.2.2.2.2.2.1 x.2.2.2.2.2.2.1
noncomputable def b_ids_On_14 (i327 : Int) (i328 : Int) (i329 : Int) (i330 : Int) (i331 : Int) (i332 : Int) (i333 : Int) (d334 : D_ids_State) (d335 : D_ids_State) (l336 : (List D_ids_Own)) (l337 : (List D_ids_Given)) : Option (D_ids_State × Int × Unit) :=
 let b338 : Bool := (decide (i327 ≥ (0 : Int)))
 bif b338 then
  bif (decide (((0 : Int) ≤ i327) ∧ (i327 < (((List.length l337) : Nat) : Int)))) then
   let i339 : Nat := (Int.toNat i327)
   let n340 : Int := (List.getD l337 i339 (Ty.dflt T_ids_Given)).1
   bif (decide (((0 : Int) ≤ i327) ∧ (i327 < (((List.length l337) : Nat) : Int)))) then
    let i341 : Nat := (Int.toNat i327)
    let l342 : (List D_ids_Given) := (List.set l337 i341 ((List.getD l337 i341 (Ty.dflt T_ids_Given)).1, ((List.getD l337 i341 (Ty.dflt T_ids_Given)).2.1, ((List.getD l337 i341 (Ty.dflt T_ids_Given)).2.2.1, (true, ((List.getD l337 i341 (Ty.dflt T_ids_Given)).2.2.2.2.1, ((List.getD l337 i341 (Ty.dflt T_ids_Given)).2.2.2.2.2.1, ())))))))
    ids_On_15 b338 i328 i329 i330 i331 i332 n340 d334 d335 l336 l342
   else none
  else none
 else
  ids_On_15 b338 i328 i329 i330 i331 i332 i333 d334 d335 l336 l337
theorem ex_ids_On_14 : ∃ f, f = @b_ids_On_14 := ⟨_, rfl⟩
noncomputable def ids_On_14 := Classical.choose ex_ids_On_14
theorem ids_On_14_eq : @ids_On_14 = @b_ids_On_14 := Classical.choose_spec ex_ids_On_14
theorem s_ids_On_14 {base S0 cs0} (hfin : H_ids_On base S0) : J_ids_On base S0 cs0 p_ids_On_14 (u_ids_On_14 (ids_On_14)) :=
 JSound.join hfin.2 (o_ids_On_15 hfin) ks_ids_On 100000 (by rw [ids_On_14_eq]; intro x; kernel_rfl)
noncomputable def x_ids_On_14 : Cfg → Option (Option (D_ids_State × Int × Unit)) := cut p_ids_On_14 (u_ids_On_14 (ids_On_14)) (x_ids_On_15)
theorem o_ids_On_14 {base S0 cs0} (hfin : H_ids_On base S0) : O_ids_On base S0 cs0 (x_ids_On_14) := OSound.cut (o_ids_On_15 hfin) (Nat.le_of_eq hfin.1) (s_ids_On_14 hfin)
@[reducible] noncomputable def p_ids_On_13 : CPat := ⟨⟨38, [1, 0, 1, 0], none, [.all 0, .func 50 [] [], .any, .any, .any, .any, .any, .int .i64, .int .i64], 10⟩, [⟨21, [1, 0], (some 2), [], 13⟩, ⟨37, [1, 0], (some 4), [], 11⟩, ⟨19, [1, 0], (some 1), [.ptr 1 0], 29⟩, ⟨29, [1, 1, 1, 1, 1, 1, 1, 0, 1, 0], (some 10), [.ptr 1 0, .any, .any, .any, .any, .any, .any, .any, .any, .int .i64, .any, .any, .any, .any, .any, .any, .any, .any, .any, .any, .any, .any, .any, .any, .any, .any, .any, .any, .any, .any, .any, .any, .any, .any, .any, .any, .any, .any, .any, .any, .any, .any, .any, .any, .any, .any, .any, .any, .any, .any, .any, .any, .any, .any, .any, .any, .any, .any, .any, .any, .any, .any, .any, .any, .any, .any, .any, .any, .any, .any, .any, .any, .any, .any, .any, .any, .any, .any, .any, .any, .any, .any, .any, .any, .any, .any, .any, .any, .any, .any, .any, .any, .any, .any, .any, .any, .any, .any, .any, .any, .any, .any, .any, .any, .any, .any, .any, .any, .any, .any, .any, .any, .any, .any, .any, .any, .any, .any, .any, .any, .any, .any, .any, .any, .any, .any, .any, .any, .any, .any, .any, .any, .any, .any, .any, .any, .any, .any, .any, .any, .boolC true], 14⟩, ⟨13, [1, 1, 0, 1, 0, 1, 0, 0], (some 2), [.any, .any, .ptr 2 0, .any, .ptr 3 0, .any, .ptr 1 0], 54⟩], [.row T_ids_Given, .cells 29 [.int .u64, .int .i64, .int .i64, .all 4, .all 0, .int .u64, .int .u64], .dat 29 T_ids_State, .dat 29 T_ids_State, .row T_ids_Own], 0⟩
@[reducible] noncomputable def u_ids_On_13 (k : Int → Int → Int → (List D_ids_Given) → Int → Int → Int → Int → Int → D_ids_State → D_ids_State → (List D_ids_Own) → Option (D_ids_State × Int × Unit)) : denC p_ids_On_13 → Option (D_ids_State × Int × Unit) := fun x => k x.1.2.2.2.2.2.2.2.1 x.1.2.2.2.2.2.2.2.2.1 x.2.1.2.2.2.1.2.2.2.2.2.2.2.2.2.1 x.2.2.1 x.2.2.2.1.1 x.2.2.2.1.2.1 x.2.2.2.1.2.2.1 x.2.2.2.1.2.2.2.2.2.1 x.2.2.2.1.2.2.2.2.2.2.1 x.2.2.2.2.1 x.2.2.2.2.2.1 x.2.2.2.2.2.2.1
noncomputable def t_ids_On_13 (k13 : Int → Int → Int → (List D_ids_Given) → Int → Int → Int → Int → Int → D_ids_State → D_ids_State → (List D_ids_Own) → Option (D_ids_State × Int × Unit)) (i304 : Int) (i305 : Int) (i306 : Int) (l307 : (List D_ids_Given)) (i308 : Int) (i309 : Int) (i310 : Int) (i311 : Int) (i312 : Int) (d313 : D_ids_State) (d314 : D_ids_State) (l315 : (List D_ids_Own)) : Option (D_ids_State × Int × Unit) :=
 let b316 : Bool := (decide (i305 < i304))
 bif b316 then
  bif (decide (((0 : Int) ≤ i305) ∧ (i305 < (((List.length l307) : Nat) : Int)))) then
   let i317 : Nat := (Int.toNat i305)
   let n318 : Int := (List.getD l307 i317 (Ty.dflt T_ids_Given)).1
   let s319 : ByteArray := (List.getD l307 i317 (Ty.dflt T_ids_Given)).2.1
   let s320 : ByteArray := (List.getD l307 i317 (Ty.dflt T_ids_Given)).2.2.1
   let b321 : Bool := (List.getD l307 i317 (Ty.dflt T_ids_Given)).2.2.2.1
   let b322 : Bool := (List.getD l307 i317 (Ty.dflt T_ids_Given)).2.2.2.2.1
   let b323 : Bool := (List.getD l307 i317 (Ty.dflt T_ids_Given)).2.2.2.2.2.1
   obind (ids_State_fresh_l1 (n318, (s319, (s320, (b321, (b322, (b323, ()))))))) fun y324 =>
   bif y324.1 then
    ids_On_14 i305 i306 i308 i309 i310 i311 i312 d313 d314 l315 l307
   else
    let n325 : Int := (Go.IntKind.wrap Go.IntKind.i64 (i305 + (1 : Int)))
    k13 i304 n325 i306 l307 i308 i309 i310 i311 i312 d313 d314 l315
  else none
 else
  ids_On_14 (-1 : Int) i306 i308 i309 i310 i311 i312 d313 d314 l315 l307
noncomputable def ids_On_13 : Nat → Int → Int → Int → (List D_ids_Given) → Int → Int → Int → Int → Int → D_ids_State → D_ids_State → (List D_ids_Own) → Option (D_ids_State × Int × Unit)
 | 0 => fun _ _ _ _ _ _ _ _ _ _ _ _ => none
 | m + 1 => t_ids_On_13 (ids_On_13 m)
noncomputable def b_ids_On_13' (i304 : Int) (i305 : Int) (i306 : Int) (l307 : (List D_ids_Given)) (i308 : Int) (i309 : Int) (i310 : Int) (i311 : Int) (i312 : Int) (d313 : D_ids_State) (d314 : D_ids_State) (l315 : (List D_ids_Own)) : Option (D_ids_State × Int × Unit) := ids_On_13 (Int.toNat (i304 - i305) + 2) i304 i305 i306 l307 i308 i309 i310 i311 i312 d313 d314 l315
theorem ex_ids_On_13' : ∃ f, f = @b_ids_On_13' := ⟨_, rfl⟩
noncomputable def ids_On_13' := Classical.choose ex_ids_On_13'
theorem ids_On_13'_eq : @ids_On_13' = @b_ids_On_13' := Classical.choose_spec ex_ids_On_13'
theorem s_ids_On_13 {base S0 cs0} (hfin : H_ids_On base S0) : ∀ m, J_ids_On base S0 cs0 p_ids_On_13 (u_ids_On_13 (ids_On_13 m)) :=
 JSound.loop' hfin.2 ks_ids_On 100000 u_ids_On_13 (fun k13 => cut p_ids_On_13 (u_ids_On_13 k13) (x_ids_On_14)) (fun k13 h13 => OSound.cut (o_ids_On_14 hfin) (Nat.le_of_eq hfin.1) h13) (ids_On_13) (by intro x; rfl) (by intro m x; kernel_rfl)
theorem s_ids_On_13' {base S0 cs0} (hfin : H_ids_On base S0) : J_ids_On base S0 cs0 p_ids_On_13 (u_ids_On_13 (ids_On_13')) := by
 rw [ids_On_13'_eq]; exact fun x r hx => s_ids_On_13 hfin _ x r hx
noncomputable def x_ids_On_13 : Cfg → Option (Option (D_ids_State × Int × Unit)) := cut p_ids_On_13 (u_ids_On_13 (ids_On_13')) (x_ids_On_14)
theorem o_ids_On_13 {base S0 cs0} (hfin : H_ids_On base S0) : O_ids_On base S0 cs0 (x_ids_On_13) := OSound.cut (o_ids_On_14 hfin) (Nat.le_of_eq hfin.1) (s_ids_On_13' hfin)
@[reducible] noncomputable def p_ids_On_12 : CPat := ⟨⟨21, [1, 0], (some 3), [.any, .any, .any, .any, .any, .any, .any, .any, .any, .int .i64], 3⟩, [⟨16, [1, 0], (some 5), [], 12⟩, ⟨29, [1, 1, 1, 1, 1, 1, 1, 0, 0], (some 1), [.ptr 0 0, .any, .any, .any, .any, .any, .any, .any, .any, .int .i64], 145⟩, ⟨13, [1, 1, 0, 1, 0, 1, 0, 0], (some 2), [.any, .any, .ptr 1 0, .any, .ptr 2 0, .any, .ptr 0 0], 54⟩], [.cells 29 [.int .u64, .int .i64, .int .i64, .all 3, .all 4, .int .u64, .int .u64], .dat 29 T_ids_State, .dat 29 T_ids_State, .row T_ids_Own, .row T_ids_Given], 0⟩
@[reducible] noncomputable def u_ids_On_12 (k : Int → Int → Int → Int → Int → Int → Int → D_ids_State → D_ids_State → (List D_ids_Own) → (List D_ids_Given) → Option (D_ids_State × Int × Unit)) : denC p_ids_On_12 → Option (D_ids_State × Int × Unit) := fun x => k x.1.2.2.2.2.2.2.2.2.2.1 x.2.1.2.1.2.2.2.2.2.2.2.2.2.1 x.2.2.1.1 x.2.2.1.2.1 x.2.2.1.2.2.1 x.2.2.1.2.2.2.2.2.1 x.2.2.1.2.2.2.2.2.2.1 x.2.2.2.1 x.2.2.2.2.1 x.2.2.2.2.2.1 x.2.2.2.2.2.2.1
noncomputable def b_ids_On_12 (i270 : Int) (i271 : Int) (i272 : Int) (i273 : Int) (i274 : Int) (i275 : Int) (i276 : Int) (d277 : D_ids_State) (d278 : D_ids_State) (l279 : (List D_ids_Own)) (l280 : (List D_ids_Given)) : Option (D_ids_State × Int × Unit) :=
 let b281 : Bool := (decide (i270 ≥ (0 : Int)))
 bif (decide (((0 : Int) ≤ i270) ∧ (i270 < (((List.length l280) : Nat) : Int)))) then
  let i282 : Nat := (Int.toNat i270)
  let b283 : Bool := (List.getD l280 i282 (Ty.dflt T_ids_Given)).2.2.2.2.1
  bif b283 then
   let n284 : Int := (((List.length l280) : Nat) : Int)
   ids_On_13' n284 (0 : Int) i271 l280 i272 i273 i274 i275 i276 d277 d278 l279
  else
   ids_On_16 i271 i272 i273 i274 i275 i276 d277 d278 l279 l280
 else none
theorem ex_ids_On_12 : ∃ f, f = @b_ids_On_12 := ⟨_, rfl⟩
noncomputable def ids_On_12 := Classical.choose ex_ids_On_12
theorem ids_On_12_eq : @ids_On_12 = @b_ids_On_12 := Classical.choose_spec ex_ids_On_12
theorem s_ids_On_12 {base S0 cs0} (hfin : H_ids_On base S0) : J_ids_On base S0 cs0 p_ids_On_12 (u_ids_On_12 (ids_On_12)) :=
 JSound.join hfin.2 (o_ids_On_13 hfin) ks_ids_On 100000 (by rw [ids_On_12_eq]; intro x; kernel_rfl)
noncomputable def x_ids_On_12 : Cfg → Option (Option (D_ids_State × Int × Unit)) := cut p_ids_On_12 (u_ids_On_12 (ids_On_12)) (x_ids_On_13)
theorem o_ids_On_12 {base S0 cs0} (hfin : H_ids_On base S0) : O_ids_On base S0 cs0 (x_ids_On_12) := OSound.cut (o_ids_On_13 hfin) (Nat.le_of_eq hfin.1) (s_ids_On_12 hfin)
@[reducible] noncomputable def p_ids_On_11 : CPat := ⟨⟨38, [1, 0, 1, 0], none, [.all 0, .func 33 [] [.ptr 1 0], .any, .any, .any, .any, .any, .int .i64, .int .i64], 10⟩, [⟨21, [1, 0], (some 2), [], 13⟩, ⟨16, [1, 0], (some 5), [], 12⟩, ⟨29, [1, 1, 1, 1, 1, 1, 1, 0, 0], (some 1), [.ptr 2 0, .any, .any, .any, .any, .any, .any, .any, .any, .int .i64], 145⟩, ⟨13, [1, 1, 0, 1, 0, 1, 0, 0], (some 2), [.any, .any, .ptr 3 0, .any, .ptr 4 0, .any, .ptr 2 0], 54⟩], [.row T_ids_Given, .cells 61 [.ptr 2 0], .cells 29 [.int .u64, .int .i64, .int .i64, .all 5, .all 0, .int .u64, .int .u64], .dat 29 T_ids_State, .dat 29 T_ids_State, .row T_ids_Own], 0⟩
@[reducible] noncomputable def u_ids_On_11 (k : Int → Int → Int → (List D_ids_Given) → Int → Int → Int → Int → Int → D_ids_State → D_ids_State → (List D_ids_Own) → Option (D_ids_State × Int × Unit)) : denC p_ids_On_11 → Option (D_ids_State × Int × Unit) := fun x => k x.1.2.2.2.2.2.2.2.1 x.1.2.2.2.2.2.2.2.2.1 x.2.1.2.2.1.2.2.2.2.2.2.2.2.2.1 x.2.2.1 x.2.2.2.2.1.1 x.2.2.2.2.1.2.1 x.2.2.2.2.1.2.2.1 x.2.2.2.2.1.2.2.2.2.2.1 x.2.2.2.2.1.2.2.2.2.2.2.1 x.2.2.2.2.2.1 x.2.2.2.2.2.2.1 x.2.2.2.2.2.2.2.1
noncomputable def t_ids_On_11 (k11 : Int → Int → Int → (List D_ids_Given) → Int → Int → Int → Int → Int → D_ids_State → D_ids_State → (List D_ids_Own) → Option (D_ids_State × Int × Unit)) (i244 : Int) (i245 : Int) (i246 : Int) (l247 : (List D_ids_Given)) (i248 : Int) (i249 : Int) (i250 : Int) (i251 : Int) (i252 : Int) (d253 : D_ids_State) (d254 : D_ids_State) (l255 : (List D_ids_Own)) : Option (D_ids_State × Int × Unit) :=
 let b256 : Bool := (decide (i245 < i244))
 bif b256 then
  bif (decide (((0 : Int) ≤ i245) ∧ (i245 < (((List.length l247) : Nat) : Int)))) then
   let i257 : Nat := (Int.toNat i245)
   let n258 : Int := (List.getD l247 i257 (Ty.dflt T_ids_Given)).1
   let s259 : ByteArray := (List.getD l247 i257 (Ty.dflt T_ids_Given)).2.1
   let s260 : ByteArray := (List.getD l247 i257 (Ty.dflt T_ids_Given)).2.2.1
   let b261 : Bool := (List.getD l247 i257 (Ty.dflt T_ids_Given)).2.2.2.1
   let b262 : Bool := (List.getD l247 i257 (Ty.dflt T_ids_Given)).2.2.2.2.1
   let b263 : Bool := (List.getD l247 i257 (Ty.dflt T_ids_Given)).2.2.2.2.2.1
   let b264 : Bool := (n258 == i252)
   bif b264 then
    ids_On_12 i245 i246 i248 i249 i250 i251 i252 d253 d254 l255 l247
   else
    let n265 : Int := (Go.IntKind.wrap Go.IntKind.i64 (i245 + (1 : Int)))
    k11 i244 n265 i246 l247 i248 i249 i250 i251 i252 d253 d254 l255
  else none
 else
  ids_On_12 (-1 : Int) i246 i248 i249 i250 i251 i252 d253 d254 l255 l247
noncomputable def ids_On_11 : Nat → Int → Int → Int → (List D_ids_Given) → Int → Int → Int → Int → Int → D_ids_State → D_ids_State → (List D_ids_Own) → Option (D_ids_State × Int × Unit)
 | 0 => fun _ _ _ _ _ _ _ _ _ _ _ _ => none
 | m + 1 => t_ids_On_11 (ids_On_11 m)
noncomputable def b_ids_On_11' (i244 : Int) (i245 : Int) (i246 : Int) (l247 : (List D_ids_Given)) (i248 : Int) (i249 : Int) (i250 : Int) (i251 : Int) (i252 : Int) (d253 : D_ids_State) (d254 : D_ids_State) (l255 : (List D_ids_Own)) : Option (D_ids_State × Int × Unit) := ids_On_11 (Int.toNat (i244 - i245) + 2) i244 i245 i246 l247 i248 i249 i250 i251 i252 d253 d254 l255
theorem ex_ids_On_11' : ∃ f, f = @b_ids_On_11' := ⟨_, rfl⟩
noncomputable def ids_On_11' := Classical.choose ex_ids_On_11'
theorem ids_On_11'_eq : @ids_On_11' = @b_ids_On_11' := Classical.choose_spec ex_ids_On_11'
theorem s_ids_On_11 {base S0 cs0} (hfin : H_ids_On base S0) : ∀ m, J_ids_On base S0 cs0 p_ids_On_11 (u_ids_On_11 (ids_On_11 m)) :=
 JSound.loop' hfin.2 ks_ids_On 100000 u_ids_On_11 (fun k11 => cut p_ids_On_11 (u_ids_On_11 k11) (x_ids_On_12)) (fun k11 h11 => OSound.cut (o_ids_On_12 hfin) (Nat.le_of_eq hfin.1) h11) (ids_On_11) (by intro x; rfl) (by intro m x; kernel_rfl)
theorem s_ids_On_11' {base S0 cs0} (hfin : H_ids_On base S0) : J_ids_On base S0 cs0 p_ids_On_11 (u_ids_On_11 (ids_On_11')) := by
 rw [ids_On_11'_eq]; exact fun x r hx => s_ids_On_11 hfin _ x r hx
noncomputable def x_ids_On_11 : Cfg → Option (Option (D_ids_State × Int × Unit)) := cut p_ids_On_11 (u_ids_On_11 (ids_On_11')) (x_ids_On_12)
theorem o_ids_On_11 {base S0 cs0} (hfin : H_ids_On base S0) : O_ids_On base S0 cs0 (x_ids_On_11) := OSound.cut (o_ids_On_12 hfin) (Nat.le_of_eq hfin.1) (s_ids_On_11' hfin)
@[reducible] noncomputable def p_ids_On_6 : CPat := ⟨⟨29, [1, 1, 1, 1, 1, 1, 0, 1, 0], none, [.ptr 0 0, .any, .any, .any, .any, .any, .any, .any, .any, .int .i64, .any, .any, .any, .any, .any, .any, .any, .any, .any, .any, .any, .any, .any, .any, .any, .any, .any, .any, .any, .any, .any, .any, .any, .any, .any, .any, .any, .any, .any, .any, .any, .any, .any, .any, .any, .any, .any, .any, .any, .any, .any, .any, .any, .any, .any, .any, .any, .any, .any, .any, .any, .any, .any, .any, .any, .any, .any, .any, .any, .any, .any, .any, .any, .any, .any, .any, .any, .any, .any, .any, .any, .any, .any, .any, .any, .any, .any, .any, .any, .any, .any, .int .i64, .int .i64], 62⟩, [⟨13, [1, 1, 0, 1, 0, 1, 0, 0], (some 2), [.any, .any, .ptr 1 0, .any, .ptr 2 0, .any, .ptr 0 0], 54⟩], [.cells 29 [.int .u64, .int .i64, .int .i64, .all 3, .all 4, .int .u64, .int .u64], .dat 29 T_ids_State, .dat 29 T_ids_State, .row T_ids_Own, .row T_ids_Given], 0⟩
@[reducible] noncomputable def u_ids_On_6 (k : Int → Int → Int → Int → Int → Int → Int → Int → D_ids_State → D_ids_State → (List D_ids_Own) → (List D_ids_Given) → Option (D_ids_State × Int × Unit)) : denC p_ids_On_6 → Option (D_ids_State × Int × Unit) := fun x => k x.1.2.2.2.2.2.2.2.2.2.1 x.1.2.2.2.2.2.2.2.2.2.2.2.2.2.2.2.2.2.2.2.2.2.2.2.2.2.2.2.2.2.2.2.2.2.2.2.2.2.2.2.2.2.2.2.2.2.2.2.2.2.2.2.2.2.2.2.2.2.2.2.2.2.2.2.2.2.2.2.2.2.2.2.2.2.2.2.2.2.2.2.2.2.2.2.2.2.2.2.2.2.2.2.1 x.1.2.2.2.2.2.2.2.2.2.2.2.2.2.2.2.2.2.2.2.2.2.2.2.2.2.2.2.2.2.2.2.2.2.2.2.2.2.2.2.2.2.2.2.2.2.2.2.2.2.2.2.2.2.2.2.2.2.2.2.2.2.2.2.2.2.2.2.2.2.2.2.2.2.2.2.2.2.2.2.2.2.2.2.2.2.2.2.2.2.2.2.2.1 x.2.2.1.1 x.2.2.1.2.1 x.2.2.1.2.2.1 x.2.2.1.2.2.2.2.2.1 x.2.2.1.2.2.2.2.2.2.1 x.2.2.2.1 x.2.2.2.2.1 x.2.2.2.2.2.1 x.2.2.2.2.2.2.1
@[reducible] noncomputable def p_ids_On_10 : CPat := ⟨⟨29, [1, 1, 1, 1, 1, 1, 0, 1, 0, 0, 1, 1, 1], none, [.ptr 0 0, .any, .any, .any, .any, .any, .any, .any, .any, .int .i64, .any, .any, .any, .any, .any, .any, .any, .any, .any, .any, .any, .any, .any, .any, .any, .any, .any, .any, .any, .any, .any, .any, .any, .any, .any, .any, .any, .any, .any, .any, .any, .any, .any, .any, .any, .any, .any, .any, .any, .any, .any, .any, .any, .any, .any, .any, .any, .any, .any, .any, .any, .any, .any, .any, .any, .any, .any, .any, .any, .any, .any, .any, .any, .any, .any, .any, .any, .any, .any, .any, .any, .any, .any, .any, .any, .any, .any, .any, .any, .any, .any, .int .i64, .int .i64], 62⟩, [⟨13, [1, 1, 0, 1, 0, 1, 0, 0], (some 2), [.any, .any, .ptr 1 0, .any, .ptr 2 0, .any, .ptr 0 0], 54⟩], [.cells 29 [.int .u64, .int .i64, .int .i64, .all 3, .all 4, .int .u64, .int .u64], .dat 29 T_ids_State, .dat 29 T_ids_State, .row T_ids_Own, .row T_ids_Given], 0⟩
@[reducible] noncomputable def u_ids_On_10 (k : Int → Int → Int → Int → Int → Int → Int → Int → D_ids_State → D_ids_State → (List D_ids_Own) → (List D_ids_Given) → Option (D_ids_State × Int × Unit)) : denC p_ids_On_10 → Option (D_ids_State × Int × Unit) := fun x => k x.1.2.2.2.2.2.2.2.2.2.1 x.1.2.2.2.2.2.2.2.2.2.2.2.2.2.2.2.2.2.2.2.2.2.2.2.2.2.2.2.2.2.2.2.2.2.2.2.2.2.2.2.2.2.2.2.2.2.2.2.2.2.2.2.2.2.2.2.2.2.2.2.2.2.2.2.2.2.2.2.2.2.2.2.2.2.2.2.2.2.2.2.2.2.2.2.2.2.2.2.2.2.2.2.1 x.1.2.2.2.2.2.2.2.2.2.2.2.2.2.2.2.2.2.2.2.2.2.2.2.2.2.2.2.2.2.2.2.2.2.2.2.2.2.2.2.2.2.2.2.2.2.2.2.2.2.2.2.2.2.2.2.2.2.2.2.2.2.2.2.2.2.2.2.2.2.2.2.2.2.2.2.2.2.2.2.2.2.2.2.2.2.2.2.2.2.2.2.2.1 x.2.2.1.1 x.2.2.1.2.1 x.2.2.1.2.2.1 x.2.2.1.2.2.2.2.2.1 x.2.2.1.2.2.2.2.2.2.1 x.2.2.2.1 x.2.2.2.2.1 x.2.2.2.2.2.1 x.2.2.2.2.2.2.1
noncomputable def b_ids_On_10 (k6 : Int → Int → Int → Int → Int → Int → Int → Int → D_ids_State → D_ids_State → (List D_ids_Own) → (List D_ids_Given) → Option (D_ids_State × Int × Unit)) (i212 : Int) (i213 : Int) (i214 : Int) (i215 : Int) (i216 : Int) (i217 : Int) (i218 : Int) (i219 : Int) (d220 : D_ids_State) (d221 : D_ids_State) (l222 : (List D_ids_Own)) (l223 : (List D_ids_Given)) : Option (D_ids_State × Int × Unit) :=
 let n224 : Int := (Go.IntKind.wrap Go.IntKind.i64 (i214 + (1 : Int)))
 k6 i212 i213 n224 i215 i216 i217 i218 i219 d220 d221 l222 l223
theorem ex_ids_On_10 : ∃ f, f = @b_ids_On_10 := ⟨_, rfl⟩
noncomputable def ids_On_10 := Classical.choose ex_ids_On_10
theorem ids_On_10_eq : @ids_On_10 = @b_ids_On_10 := Classical.choose_spec ex_ids_On_10
theorem s_ids_On_10 {base S0 cs0} (hfin : H_ids_On base S0) (k6) (h6 : J_ids_On base S0 cs0 p_ids_On_6 (u_ids_On_6 k6)) : J_ids_On base S0 cs0 p_ids_On_10 (u_ids_On_10 (ids_On_10 k6)) :=
 JSound.join hfin.2 (OSound.cut (o_ids_On_11 hfin) (Nat.le_of_eq hfin.1) h6) ks_ids_On 100000 (by rw [ids_On_10_eq]; intro x; kernel_rfl)
noncomputable def x_ids_On_10 (k6 : Int → Int → Int → Int → Int → Int → Int → Int → D_ids_State → D_ids_State → (List D_ids_Own) → (List D_ids_Given) → Option (D_ids_State × Int × Unit)) : Cfg → Option (Option (D_ids_State × Int × Unit)) := cut p_ids_On_10 (u_ids_On_10 (ids_On_10 k6)) (cut p_ids_On_6 (u_ids_On_6 k6) (x_ids_On_11))
theorem o_ids_On_10 {base S0 cs0} (hfin : H_ids_On base S0) (k6) (h6 : J_ids_On base S0 cs0 p_ids_On_6 (u_ids_On_6 k6)) : O_ids_On base S0 cs0 (x_ids_On_10 k6) := OSound.cut (OSound.cut (o_ids_On_11 hfin) (Nat.le_of_eq hfin.1) h6) (Nat.le_of_eq hfin.1) (s_ids_On_10 hfin k6 h6)
@[reducible] noncomputable def p_ids_On_9 : CPat := ⟨⟨29, [1, 1, 1, 1, 1, 1, 0, 1, 0, 0, 1, 1, 0, 0, 1, 1], none, [.ptr 0 0, .any, .any, .any, .any, .any, .any, .any, .any, .int .i64, .int .i64, .any, .any, .any, .any, .any, .any, .any, .any, .any, .any, .any, .any, .any, .any, .any, .any, .any, .any, .any, .any, .any, .any, .any, .any, .any, .any, .any, .any, .any, .any, .any, .any, .any, .any, .any, .any, .any, .any, .any, .any, .any, .any, .any, .any, .any, .any, .any, .any, .any, .any, .any, .any, .any, .any, .any, .any, .any, .any, .any, .any, .any, .any, .any, .any, .any, .any, .any, .any, .any, .any, .any, .any, .any, .any, .any, .any, .any, .any, .any, .any, .int .i64, .int .i64], 62⟩, [⟨13, [1, 1, 0, 1, 0, 1, 0, 0], (some 2), [.any, .any, .ptr 1 0, .any, .ptr 2 0, .any, .ptr 0 0], 54⟩], [.cells 29 [.int .u64, .int .i64, .int .i64, .all 3, .all 4, .int .u64, .int .u64], .dat 29 T_ids_State, .dat 29 T_ids_State, .row T_ids_Own, .row T_ids_Given], 0⟩
@[reducible] noncomputable def u_ids_On_9 (k : Int → Int → Int → Int → Int → Int → Int → Int → Int → D_ids_State → D_ids_State → (List D_ids_Own) → (List D_ids_Given) → Option (D_ids_State × Int × Unit)) : denC p_ids_On_9 → Option (D_ids_State × Int × Unit) := fun x => k x.1.2.2.2.2.2.2.2.2.2.1 x.1.2.2.2.2.2.2.2.2.2.2.1 x.1.2.2.2.2.2.2.2.2.2.2.2.2.2.2.2.2.2.2.2.2.2.2.2.2.2.2.2.2.2.2.2.2.2.2.2.2.2.2.2.2.2.2.2.2.2.2.2.2.2.2.2.2.2.2.2.2.2.2.2.2.2.2.2.2.2.2.2.2.2.2.2.2.2.2.2.2.2.2.2.2.2.2.2.2.2.2.2.2.2.2.2.1 x.1.2.2.2.2.2.2.2.2.2.2.2.2.2.2.2.2.2.2.2.2.2.2.2.2.2.2.2.2.2.2.2.2.2.2.2.2.2.2.2.2.2.2.2.2.2.2.2.2.2.2.2.2.2.2.2.2.2.2.2.2.2.2.2.2.2.2.2.2.2.2.2.2.2.2.2.2.2.2.2.2.2.2.2.2.2.2.2.2.2.2.2.2.1 x.2.2.1.1 x.2.2.1.2.1 x.2.2.1.2.2.1 x.2.2.1.2.2.2.2.2.1 x.2.2.1.2.2.2.2.2.2.1 x.2.2.2.1 x.2.2.2.2.1 x.2.2.2.2.2.1 x.2.2.2.2.2.2.1
noncomputable def b_ids_On_9 (k6 : Int → Int → Int → Int → Int → Int → Int → Int → D_ids_State → D_ids_State → (List D_ids_Own) → (List D_ids_Given) → Option (D_ids_State × Int × Unit)) (i194 : Int) (i195 : Int) (i196 : Int) (i197 : Int) (i198 : Int) (i199 : Int) (i200 : Int) (i201 : Int) (i202 : Int) (d203 : D_ids_State) (d204 : D_ids_State) (l205 : (List D_ids_Own)) (l206 : (List D_ids_Given)) : Option (D_ids_State × Int × Unit) :=
 bif (decide (((0 : Int) ≤ i195) ∧ (i195 < (((List.length l206) : Nat) : Int)))) then
  let i207 : Nat := (Int.toNat i195)
  let b208 : Bool := (List.getD l206 i207 (Ty.dflt T_ids_Given)).2.2.2.2.1
  let b209 : Bool := (!b208)
  bif b209 then
   let n210 : Int := (Go.IntKind.wrap Go.IntKind.i64 (i194 + (1 : Int)))
   ids_On_10 k6 n210 i196 i197 i198 i199 i200 i201 i202 d203 d204 l205 l206
  else
   ids_On_10 k6 i194 i196 i197 i198 i199 i200 i201 i202 d203 d204 l205 l206
 else none
theorem ex_ids_On_9 : ∃ f, f = @b_ids_On_9 := ⟨_, rfl⟩
noncomputable def ids_On_9 := Classical.choose ex_ids_On_9
theorem ids_On_9_eq : @ids_On_9 = @b_ids_On_9 := Classical.choose_spec ex_ids_On_9
theorem s_ids_On_9 {base S0 cs0} (hfin : H_ids_On base S0) (k6) (h6 : J_ids_On base S0 cs0 p_ids_On_6 (u_ids_On_6 k6)) : J_ids_On base S0 cs0 p_ids_On_9 (u_ids_On_9 (ids_On_9 k6)) :=
 JSound.join hfin.2 (o_ids_On_10 hfin k6 h6) ks_ids_On 100000 (by rw [ids_On_9_eq]; intro x; kernel_rfl)
noncomputable def x_ids_On_9 (k6 : Int → Int → Int → Int → Int → Int → Int → Int → D_ids_State → D_ids_State → (List D_ids_Own) → (List D_ids_Given) → Option (D_ids_State × Int × Unit)) : Cfg → Option (Option (D_ids_State × Int × Unit)) := cut p_ids_On_9 (u_ids_On_9 (ids_On_9 k6)) (x_ids_On_10 k6)
theorem o_ids_On_9 {base S0 cs0} (hfin : H_ids_On base S0) (k6) (h6 : J_ids_On base S0 cs0 p_ids_On_6 (u_ids_On_6 k6)) : O_ids_On base S0 cs0 (x_ids_On_9 k6) := OSound.cut (o_ids_On_10 hfin k6 h6) (Nat.le_of_eq hfin.1) (s_ids_On_9 hfin k6 h6)
noncomputable def t_ids_On_6 (k6 : Int → Int → Int → Int → Int → Int → Int → Int → D_ids_State → D_ids_State → (List D_ids_Own) → (List D_ids_Given) → Option (D_ids_State × Int × Unit)) (i169 : Int) (i170 : Int) (i171 : Int) (i172 : Int) (i173 : Int) (i174 : Int) (i175 : Int) (i176 : Int) (d177 : D_ids_State) (d178 : D_ids_State) (l179 : (List D_ids_Own)) (l180 : (List D_ids_Given)) : Option (D_ids_State × Int × Unit) :=
 let b181 : Bool := (decide (i171 < i170))
 bif b181 then
  bif (decide (((0 : Int) ≤ i171) ∧ (i171 < (((List.length l180) : Nat) : Int)))) then
   let i182 : Nat := (Int.toNat i171)
   let n183 : Int := (List.getD l180 i182 (Ty.dflt T_ids_Given)).1
   let b184 : Bool := (decide (n183 < i175))
   bif b184 then
    bif (decide (((0 : Int) ≤ i171) ∧ (i171 < (((List.length l180) : Nat) : Int)))) then
     let i186 : Nat := (Int.toNat i171)
     let b187 : Bool := (List.getD l180 i186 (Ty.dflt T_ids_Given)).2.2.2.2.1
     let b188 : Bool := (!b187)
     bif b188 then
      let l189 : (List D_ids_Given) := (List.set l180 i186 ((List.getD l180 i186 (Ty.dflt T_ids_Given)).1, ((List.getD l180 i186 (Ty.dflt T_ids_Given)).2.1, ((List.getD l180 i186 (Ty.dflt T_ids_Given)).2.2.1, ((List.getD l180 i186 (Ty.dflt T_ids_Given)).2.2.2.1, (true, ((List.getD l180 i186 (Ty.dflt T_ids_Given)).2.2.2.2.2.1, ())))))))
      let l190 : (List D_ids_Given) := (List.set l189 i186 ((List.getD l189 i186 (Ty.dflt T_ids_Given)).1, ((List.getD l189 i186 (Ty.dflt T_ids_Given)).2.1, ((List.getD l189 i186 (Ty.dflt T_ids_Given)).2.2.1, ((List.getD l189 i186 (Ty.dflt T_ids_Given)).2.2.2.1, ((List.getD l189 i186 (Ty.dflt T_ids_Given)).2.2.2.2.1, (true, ())))))))
      ids_On_9 k6 i169 i171 i170 i171 i172 i173 i174 i175 i176 d177 d178 l179 l190
     else
      ids_On_9 k6 i169 i171 i170 i171 i172 i173 i174 i175 i176 d177 d178 l179 l180
    else none
   else
    ids_On_9 k6 i169 i171 i170 i171 i172 i173 i174 i175 i176 d177 d178 l179 l180
  else none
 else
  let n185 : Int := (((List.length l180) : Nat) : Int)
  ids_On_11' n185 (0 : Int) i169 l180 i172 i173 i174 i175 i176 d177 d178 l179
noncomputable def ids_On_6 : Nat → Int → Int → Int → Int → Int → Int → Int → Int → D_ids_State → D_ids_State → (List D_ids_Own) → (List D_ids_Given) → Option (D_ids_State × Int × Unit)
 | 0 => fun _ _ _ _ _ _ _ _ _ _ _ _ => none
 | m + 1 => t_ids_On_6 (ids_On_6 m)
noncomputable def b_ids_On_6' (i169 : Int) (i170 : Int) (i171 : Int) (i172 : Int) (i173 : Int) (i174 : Int) (i175 : Int) (i176 : Int) (d177 : D_ids_State) (d178 : D_ids_State) (l179 : (List D_ids_Own)) (l180 : (List D_ids_Given)) : Option (D_ids_State × Int × Unit) := ids_On_6 (Int.toNat (i170 - i171) + 2) i169 i170 i171 i172 i173 i174 i175 i176 d177 d178 l179 l180
theorem ex_ids_On_6' : ∃ f, f = @b_ids_On_6' := ⟨_, rfl⟩
noncomputable def ids_On_6' := Classical.choose ex_ids_On_6'
theorem ids_On_6'_eq : @ids_On_6' = @b_ids_On_6' := Classical.choose_spec ex_ids_On_6'
theorem s_ids_On_6 {base S0 cs0} (hfin : H_ids_On base S0) : ∀ m, J_ids_On base S0 cs0 p_ids_On_6 (u_ids_On_6 (ids_On_6 m)) :=
 JSound.loop' hfin.2 ks_ids_On 100000 u_ids_On_6 (fun k6 => x_ids_On_9 k6) (fun k6 h6 => o_ids_On_9 hfin k6 h6) (ids_On_6) (by intro x; rfl) (by intro m x; kernel_rfl)
theorem s_ids_On_6' {base S0 cs0} (hfin : H_ids_On base S0) : J_ids_On base S0 cs0 p_ids_On_6 (u_ids_On_6 (ids_On_6')) := by
 rw [ids_On_6'_eq]; exact fun x r hx => s_ids_On_6 hfin _ x r hx
noncomputable def x_ids_On_6 : Cfg → Option (Option (D_ids_State × Int × Unit)) := cut p_ids_On_6 (u_ids_On_6 (ids_On_6')) (x_ids_On_11)
theorem o_ids_On_6 {base S0 cs0} (hfin : H_ids_On base S0) : O_ids_On base S0 cs0 (x_ids_On_6) := OSound.cut (o_ids_On_11 hfin) (Nat.le_of_eq hfin.1) (s_ids_On_6' hfin)
@[reducible] noncomputable def p_ids_On_5 : CPat := ⟨⟨29, [1, 1, 1, 1], none, [.ptr 0 0, .any, .any, .ptr 1 0], 151⟩, [⟨13, [1, 1, 0, 1, 0, 1, 0, 0], (some 2), [.any, .any, .ptr 2 0, .any, .ptr 3 0, .any, .ptr 0 0], 54⟩], [.cells 29 [.int .u64, .int .i64, .int .i64, .all 4, .all 5, .int .u64, .int .u64], .dat 36 T_frame_Frame, .dat 29 T_ids_State, .dat 29 T_ids_State, .row T_ids_Own, .row T_ids_Given], 0⟩
@[reducible] noncomputable def u_ids_On_5 (k : Int → Int → Int → Int → Int → D_frame_Frame → D_ids_State → D_ids_State → (List D_ids_Own) → (List D_ids_Given) → Option (D_ids_State × Int × Unit)) : denC p_ids_On_5 → Option (D_ids_State × Int × Unit) := fun x => k x.2.2.1.1 x.2.2.1.2.1 x.2.2.1.2.2.1 x.2.2.1.2.2.2.2.2.1 x.2.2.1.2.2.2.2.2.2.1 x.2.2.2.1 x.2.2.2.2.1 x.2.2.2.2.2.1 x.2.2.2.2.2.2.1 x.2.2.2.2.2.2.2.1
noncomputable def b_ids_On_5 (i114 : Int) (i115 : Int) (i116 : Int) (i117 : Int) (i118 : Int) (d119 : D_frame_Frame) (d120 : D_ids_State) (d121 : D_ids_State) (l122 : (List D_ids_Own)) (l123 : (List D_ids_Given)) : Option (D_ids_State × Int × Unit) :=
 let n124 : Int := (if (d119.2.2.2.2.2.2.1 > i117) then d119.2.2.2.2.2.2.1 else i117)
 let n125 : Int := (((List.length l123) : Nat) : Int)
 ids_On_6' (0 : Int) n125 (0 : Int) i114 i115 i116 n124 i118 d120 d121 l122 l123
theorem ex_ids_On_5 : ∃ f, f = @b_ids_On_5 := ⟨_, rfl⟩
noncomputable def ids_On_5 := Classical.choose ex_ids_On_5
theorem ids_On_5_eq : @ids_On_5 = @b_ids_On_5 := Classical.choose_spec ex_ids_On_5
theorem s_ids_On_5 {base S0 cs0} (hfin : H_ids_On base S0) : J_ids_On base S0 cs0 p_ids_On_5 (u_ids_On_5 (ids_On_5)) :=
 JSound.join hfin.2 (o_ids_On_6 hfin) ks_ids_On 100000 (by rw [ids_On_5_eq]; intro x; kernel_rfl)
noncomputable def x_ids_On_5 : Cfg → Option (Option (D_ids_State × Int × Unit)) := cut p_ids_On_5 (u_ids_On_5 (ids_On_5)) (x_ids_On_6)
theorem o_ids_On_5 {base S0 cs0} (hfin : H_ids_On base S0) : O_ids_On base S0 cs0 (x_ids_On_5) := OSound.cut (o_ids_On_6 hfin) (Nat.le_of_eq hfin.1) (s_ids_On_5 hfin)
@[reducible] noncomputable def p_ids_On_0 : CPat := ⟨⟨29, [1, 1, 0, 1, 0], none, [.ptr 0 0, .any, .any, .ptr 1 0, .any, .int .i64, .bool, .any, .any, .any, .any, .any, .any, .any, .any, .any, .any, .any, .any, .any, .any, .any, .any, .any, .any, .any, .all 2, .int .i64, .int .i64], 126⟩, [⟨13, [1, 1, 0, 1, 0, 1, 0, 0], (some 2), [.any, .any, .ptr 3 0, .any, .ptr 4 0, .any, .ptr 0 0], 54⟩], [.cells 29 [.int .u64, .int .i64, .int .i64, .all 5, .all 2, .int .u64, .int .u64], .dat 36 T_frame_Frame, .row T_ids_Given, .dat 29 T_ids_State, .dat 29 T_ids_State, .row T_ids_Own], 0⟩
@[reducible] noncomputable def u_ids_On_0 (k : Int → Bool → Int → Int → Int → Int → Int → Int → Int → D_frame_Frame → (List D_ids_Given) → D_ids_State → D_ids_State → (List D_ids_Own) → Option (D_ids_State × Int × Unit)) : denC p_ids_On_0 → Option (D_ids_State × Int × Unit) := fun x => k x.1.2.2.2.2.2.1 x.1.2.2.2.2.2.2.1 x.1.2.2.2.2.2.2.2.2.2.2.2.2.2.2.2.2.2.2.2.2.2.2.2.2.2.2.2.1 x.1.2.2.2.2.2.2.2.2.2.2.2.2.2.2.2.2.2.2.2.2.2.2.2.2.2.2.2.2.1 x.2.2.1.1 x.2.2.1.2.1 x.2.2.1.2.2.1 x.2.2.1.2.2.2.2.2.1 x.2.2.1.2.2.2.2.2.2.1 x.2.2.2.1 x.2.2.2.2.1 x.2.2.2.2.2.1 x.2.2.2.2.2.2.1 x.2.2.2.2.2.2.2.1
@[reducible] noncomputable def p_ids_On_4 : CPat := ⟨⟨29, [1, 1, 0, 1, 0, 0, 1, 1, 0, 0, 1, 1, 1], none, [.ptr 0 0, .any, .any, .ptr 1 0, .any, .int .i64, .bool, .any, .any, .any, .any, .any, .any, .any, .any, .any, .any, .any, .any, .any, .any, .any, .any, .any, .any, .any, .all 2, .int .i64, .int .i64], 126⟩, [⟨13, [1, 1, 0, 1, 0, 1, 0, 0], (some 2), [.any, .any, .ptr 3 0, .any, .ptr 4 0, .any, .ptr 0 0], 54⟩], [.cells 29 [.int .u64, .int .i64, .int .i64, .all 5, .all 2, .int .u64, .int .u64], .dat 36 T_frame_Frame, .row T_ids_Given, .dat 29 T_ids_State, .dat 29 T_ids_State, .row T_ids_Own], 0⟩
@[reducible] noncomputable def u_ids_On_4 (k : Int → Bool → Int → Int → Int → Int → Int → Int → Int → D_frame_Frame → (List D_ids_Given) → D_ids_State → D_ids_State → (List D_ids_Own) → Option (D_ids_State × Int × Unit)) : denC p_ids_On_4 → Option (D_ids_State × Int × Unit) := fun x => k x.1.2.2.2.2.2.1 x.1.2.2.2.2.2.2.1 x.1.2.2.2.2.2.2.2.2.2.2.2.2.2.2.2.2.2.2.2.2.2.2.2.2.2.2.2.1 x.1.2.2.2.2.2.2.2.2.2.2.2.2.2.2.2.2.2.2.2.2.2.2.2.2.2.2.2.2.1 x.2.2.1.1 x.2.2.1.2.1 x.2.2.1.2.2.1 x.2.2.1.2.2.2.2.2.1 x.2.2.1.2.2.2.2.2.2.1 x.2.2.2.1 x.2.2.2.2.1 x.2.2.2.2.2.1 x.2.2.2.2.2.2.1 x.2.2.2.2.2.2.2.1
noncomputable def b_ids_On_4 (k0 : Int → Bool → Int → Int → Int → Int → Int → Int → Int → D_frame_Frame → (List D_ids_Given) → D_ids_State → D_ids_State → (List D_ids_Own) → Option (D_ids_State × Int × Unit)) (i95 : Int) (b96 : Bool) (i97 : Int) (i98 : Int) (i99 : Int) (i100 : Int) (i101 : Int) (i102 : Int) (i103 : Int) (d104 : D_frame_Frame) (l105 : (List D_ids_Given)) (d106 : D_ids_State) (d107 : D_ids_State) (l108 : (List D_ids_Own)) : Option (D_ids_State × Int × Unit) :=
 let n109 : Int := (Go.IntKind.wrap Go.IntKind.i64 (i98 + (1 : Int)))
 k0 i95 b96 i97 n109 i99 i100 i101 i102 i103 d104 l105 d106 d107 l108
theorem ex_ids_On_4 : ∃ f, f = @b_ids_On_4 := ⟨_, rfl⟩
noncomputable def ids_On_4 := Classical.choose ex_ids_On_4
theorem ids_On_4_eq : @ids_On_4 = @b_ids_On_4 := Classical.choose_spec ex_ids_On_4
theorem s_ids_On_4 {base S0 cs0} (hfin : H_ids_On base S0) (k0) (h0 : J_ids_On base S0 cs0 p_ids_On_0 (u_ids_On_0 k0)) : J_ids_On base S0 cs0 p_ids_On_4 (u_ids_On_4 (ids_On_4 k0)) :=
 JSound.join hfin.2 (OSound.cut (o_ids_On_5 hfin) (Nat.le_of_eq hfin.1) h0) ks_ids_On 100000 (by rw [ids_On_4_eq]; intro x; kernel_rfl)
noncomputable def x_ids_On_4 (k0 : Int → Bool → Int → Int → Int → Int → Int → Int → Int → D_frame_Frame → (List D_ids_Given) → D_ids_State → D_ids_State → (List D_ids_Own) → Option (D_ids_State × Int × Unit)) : Cfg → Option (Option (D_ids_State × Int × Unit)) := cut p_ids_On_4 (u_ids_On_4 (ids_On_4 k0)) (cut p_ids_On_0 (u_ids_On_0 k0) (x_ids_On_5))
theorem o_ids_On_4 {base S0 cs0} (hfin : H_ids_On base S0) (k0) (h0 : J_ids_On base S0 cs0 p_ids_On_0 (u_ids_On_0 k0)) : O_ids_On base S0 cs0 (x_ids_On_4 k0) := OSound.cut (OSound.cut (o_ids_On_5 hfin) (Nat.le_of_eq hfin.1) h0) (Nat.le_of_eq hfin.1) (s_ids_On_4 hfin k0 h0)
@[reducible] noncomputable def p_ids_On_3 : CPat := ⟨⟨29, [1, 1, 0, 1, 0, 0, 1, 1, 0, 0, 1, 1, 0], none, [], 155⟩, [⟨13, [1, 1, 0, 1, 0, 1, 0, 0], (some 2), [.any, .any, .ptr 0 0, .any, .ptr 1 0, .any, .ptr 2 0], 54⟩], [.dat 29 T_ids_State, .dat 29 T_ids_State, .cells 29 [.int .u64, .int .i64, .int .i64, .all 3, .all 4, .int .u64, .int .u64], .row T_ids_Own, .row T_ids_Given], 0⟩
@[reducible] noncomputable def u_ids_On_3 (k : D_ids_State → D_ids_State → Int → Int → Int → Int → Int → (List D_ids_Own) → (List D_ids_Given) → Option (D_ids_State × Int × Unit)) : denC p_ids_On_3 → Option (D_ids_State × Int × Unit) := fun x => k x.2.2.1 x.2.2.2.1 x.2.2.2.2.1.1 x.2.2.2.2.1.2.1 x.2.2.2.2.1.2.2.1 x.2.2.2.2.1.2.2.2.2.2.1 x.2.2.2.2.1.2.2.2.2.2.2.1 x.2.2.2.2.2.1 x.2.2.2.2.2.2.1
noncomputable def b_ids_On_3 (k0 : Int → Bool → Int → Int → Int → Int → Int → Int → Int → D_frame_Frame → (List D_ids_Given) → D_ids_State → D_ids_State → (List D_ids_Own) → Option (D_ids_State × Int × Unit)) (d85 : D_ids_State) (d86 : D_ids_State) (i87 : Int) (i88 : Int) (i89 : Int) (i90 : Int) (i91 : Int) (l92 : (List D_ids_Own)) (l93 : (List D_ids_Given)) : Option (D_ids_State × Int × Unit) :=
 ids_On_17 false d85 d86 i87 i88 i89 i90 i91 l92 l93
theorem ex_ids_On_3 : ∃ f, f = @b_ids_On_3 := ⟨_, rfl⟩
noncomputable def ids_On_3 := Classical.choose ex_ids_On_3
theorem ids_On_3_eq : @ids_On_3 = @b_ids_On_3 := Classical.choose_spec ex_ids_On_3
theorem s_ids_On_3 {base S0 cs0} (hfin : H_ids_On base S0) (k0) (h0 : J_ids_On base S0 cs0 p_ids_On_0 (u_ids_On_0 k0)) : J_ids_On base S0 cs0 p_ids_On_3 (u_ids_On_3 (ids_On_3 k0)) :=
 JSound.join hfin.2 (o_ids_On_4 hfin k0 h0) ks_ids_On 100000 (by rw [ids_On_3_eq]; intro x; kernel_rfl)
noncomputable def x_ids_On_3 (k0 : Int → Bool → Int → Int → Int → Int → Int → Int → Int → D_frame_Frame → (List D_ids_Given) → D_ids_State → D_ids_State → (List D_ids_Own) → Option (D_ids_State × Int × Unit)) : Cfg → Option (Option (D_ids_State × Int × Unit)) := cut p_ids_On_3 (u_ids_On_3 (ids_On_3 k0)) (x_ids_On_4 k0)
theorem o_ids_On_3 {base S0 cs0} (hfin : H_ids_On base S0) (k0) (h0 : J_ids_On base S0 cs0 p_ids_On_0 (u_ids_On_0 k0)) : O_ids_On base S0 cs0 (x_ids_On_3 k0) := OSound.cut (o_ids_On_4 hfin k0 h0) (Nat.le_of_eq hfin.1) (s_ids_On_3 hfin k0 h0)
noncomputable def t_ids_On_0 (k0 : Int → Bool → Int → Int → Int → Int → Int → Int → Int → D_frame_Frame → (List D_ids_Given) → D_ids_State → D_ids_State → (List D_ids_Own) → Option (D_ids_State × Int × Unit)) (i56 : Int) (b57 : Bool) (i58 : Int) (i59 : Int) (i60 : Int) (i61 : Int) (i62 : Int) (i63 : Int) (i64 : Int) (d65 : D_frame_Frame) (l66 : (List D_ids_Given)) (d67 : D_ids_State) (d68 : D_ids_State) (l69 : (List D_ids_Own)) : Option (D_ids_State × Int × Unit) :=
 let b70 : Bool := (decide (i59 < i58))
 bif b70 then
  bif (decide (((0 : Int) ≤ i59) ∧ (i59 < (((List.length l66) : Nat) : Int)))) then
   let i71 : Nat := (Int.toNat i59)
   let n72 : Int := (List.getD l66 i71 (Ty.dflt T_ids_Given)).1
   let s73 : ByteArray := (List.getD l66 i71 (Ty.dflt T_ids_Given)).2.1
   let s74 : ByteArray := (List.getD l66 i71 (Ty.dflt T_ids_Given)).2.2.1
   let b75 : Bool := (List.getD l66 i71 (Ty.dflt T_ids_Given)).2.2.2.1
   let b76 : Bool := (List.getD l66 i71 (Ty.dflt T_ids_Given)).2.2.2.2.1
   let b77 : Bool := (List.getD l66 i71 (Ty.dflt T_ids_Given)).2.2.2.2.2.1
   let s78 : ByteArray := (ByteArray.mk (List.toArray ([] : List UInt8)))
   let b79 : Bool := (n72 == d65.2.2.2.2.2.1)
   let b80 : Bool := ((ByteArray.toList s73) == (ByteArray.toList d65.2.2.2.2.2.2.2.2.2.2.1))
   let b81 : Bool := (!(b79 == b80))
   bif b81 then
    ids_On_3 k0 d67 d68 i60 i61 i62 i63 i64 l69 l66
   else
    let b82 : Bool := (n72 == d65.2.2.2.2.2.1)
    bif b82 then
     let b83 : Bool := (!((ByteArray.toList s74) == (ByteArray.toList d65.2.2.2.2.2.2.2.2.2.2.2.1)))
     bif b83 then
      ids_On_3 k0 d67 d68 i60 i61 i62 i63 i64 l69 l66
     else
      ids_On_4 k0 i56 b57 i58 i59 i60 i61 i62 i63 i64 d65 l66 d67 d68 l69
    else
     ids_On_4 k0 i56 b57 i58 i59 i60 i61 i62 i63 i64 d65 l66 d67 d68 l69
  else none
 else
  let b84 : Bool := (!b57)
  bif b84 then
   let e110 : (Int × (ByteArray × (ByteArray × (Bool × (Bool × (Bool × Unit)))))) := (d65.2.2.2.2.2.1, (d65.2.2.2.2.2.2.2.2.2.2.1, (d65.2.2.2.2.2.2.2.2.2.2.2.1, (false, (false, (false, ()))))))
   obind (slices_Insert_ids_Given_h0 l66 i56 (e110 :: ([] : List D_ids_Given))) fun y111 =>
   ids_On_5 i60 i61 i62 i63 i64 d65 d67 d68 l69 y111.1
  else
   ids_On_5 i60 i61 i62 i63 i64 d65 d67 d68 l69 l66
noncomputable def ids_On_0 : Nat → Int → Bool → Int → Int → Int → Int → Int → Int → Int → D_frame_Frame → (List D_ids_Given) → D_ids_State → D_ids_State → (List D_ids_Own) → Option (D_ids_State × Int × Unit)
 | 0 => fun _ _ _ _ _ _ _ _ _ _ _ _ _ _ => none
 | m + 1 => t_ids_On_0 (ids_On_0 m)
noncomputable def b_ids_On_0' (i56 : Int) (b57 : Bool) (i58 : Int) (i59 : Int) (i60 : Int) (i61 : Int) (i62 : Int) (i63 : Int) (i64 : Int) (d65 : D_frame_Frame) (l66 : (List D_ids_Given)) (d67 : D_ids_State) (d68 : D_ids_State) (l69 : (List D_ids_Own)) : Option (D_ids_State × Int × Unit) := ids_On_0 (Int.toNat (i58 - i59) + 2) i56 b57 i58 i59 i60 i61 i62 i63 i64 d65 l66 d67 d68 l69
theorem ex_ids_On_0' : ∃ f, f = @b_ids_On_0' := ⟨_, rfl⟩
noncomputable def ids_On_0' := Classical.choose ex_ids_On_0'
theorem ids_On_0'_eq : @ids_On_0' = @b_ids_On_0' := Classical.choose_spec ex_ids_On_0'
theorem s_ids_On_0 {base S0 cs0} (hfin : H_ids_On base S0) : ∀ m, J_ids_On base S0 cs0 p_ids_On_0 (u_ids_On_0 (ids_On_0 m)) :=
 JSound.loop' hfin.2 ks_ids_On 100000 u_ids_On_0 (fun k0 => x_ids_On_3 k0) (fun k0 h0 => o_ids_On_3 hfin k0 h0) (ids_On_0) (by intro x; rfl) (by intro m x; kernel_rfl)
theorem s_ids_On_0' {base S0 cs0} (hfin : H_ids_On base S0) : J_ids_On base S0 cs0 p_ids_On_0 (u_ids_On_0 (ids_On_0')) := by
 rw [ids_On_0'_eq]; exact fun x r hx => s_ids_On_0 hfin _ x r hx
noncomputable def x_ids_On_0 : Cfg → Option (Option (D_ids_State × Int × Unit)) := cut p_ids_On_0 (u_ids_On_0 (ids_On_0')) (x_ids_On_5)
theorem o_ids_On_0 {base S0 cs0} (hfin : H_ids_On base S0) : O_ids_On base S0 cs0 (x_ids_On_0) := OSound.cut (o_ids_On_5 hfin) (Nat.le_of_eq hfin.1) (s_ids_On_0' hfin)
noncomputable def b_ids_On (a0 : D_ids_State) (a1 : D_frame_Frame) : Option (D_ids_State × Int × Unit) :=
 obind (slices_Clone_ids_Own a0.2.2.2.1) fun y2 =>
 obind (slices_Clone_ids_Given a0.2.2.2.2.1) fun y3 =>
 let b4 : Bool := (a1.1 == (24 : Int))
 bif b4 then
  obind (slices_BinarySearchFunc_uint64_h0 a1.2.2.2.2.2.1 y3) fun y5 =>
  let n6 : Int := (((List.length y5.2.2.1) : Nat) : Int)
  ids_On_0' y5.1 y5.2.1 n6 (0 : Int) a0.1 a0.2.1 a0.2.2.1 a0.2.2.2.2.2.1 a0.2.2.2.2.2.2.1 a1 y5.2.2.1 a0 ((0 : Int), ((0 : Int), ((0 : Int), (([] : List D_ids_Own), (([] : List D_ids_Given), ((0 : Int), ((0 : Int), ()))))))) y2
 else
  let b383 : Bool := (a1.1 == (25 : Int))
  bif b383 then
   let n384 : Int := (((List.length y2) : Nat) : Int)
   let n385 : Int := (Go.IntKind.wrap Go.IntKind.u64 n384)
   let b386 : Bool := (decide (a1.2.2.2.2.2.1 ≥ n385))
   bif b386 then
    some (a0, ((180 : Int), ()))
   else
    bif (decide (((0 : Int) ≤ a1.2.2.2.2.2.1) ∧ (a1.2.2.2.2.2.1 < (((List.length y2) : Nat) : Int)))) then
     let i387 : Nat := (Int.toNat a1.2.2.2.2.2.1)
     let l388 : (List D_ids_Own) := (List.set y2 i387 ((List.getD y2 i387 (Ty.dflt T_ids_Own)).1, ((List.getD y2 i387 (Ty.dflt T_ids_Own)).2.1, ((List.getD y2 i387 (Ty.dflt T_ids_Own)).2.2.1, ((List.getD y2 i387 (Ty.dflt T_ids_Own)).2.2.2.1, (true, ()))))))
     let l389 : (List D_ids_Own) := (List.set l388 i387 ((List.getD l388 i387 (Ty.dflt T_ids_Own)).1, ((List.getD l388 i387 (Ty.dflt T_ids_Own)).2.1, ((List.getD l388 i387 (Ty.dflt T_ids_Own)).2.2.1, (false, ((List.getD l388 i387 (Ty.dflt T_ids_Own)).2.2.2.2.1, ()))))))
     let n390 : Int := (((List.length l389) : Nat) : Int)
     let b391 : Bool := (decide (n390 < (200 : Int)))
     bif b391 then
      obind (ids_Fill (a0.1, (a0.2.1, (a0.2.2.1, (l389, (y3, a0.2.2.2.2.2))))) a0.2.2.1) fun y392 =>
      some (y392.1, ((0 : Int), ()))
     else
      some ((a0.1, (a0.2.1, (a0.2.2.1, (l389, (y3, a0.2.2.2.2.2))))), ((0 : Int), ()))
    else none
  else
   some ((a0.1, (a0.2.1, (a0.2.2.1, (y2, (y3, a0.2.2.2.2.2))))), ((0 : Int), ()))
theorem ex_ids_On : ∃ f, f = @b_ids_On := ⟨_, rfl⟩
noncomputable def ids_On := Classical.choose ex_ids_On
theorem ids_On_eq : @ids_On = @b_ids_On := Classical.choose_spec ex_ids_On
noncomputable def cb_ids_On : Con := ⟨[T_ids_State, T_frame_Frame], r_ids_On, fun x => b_ids_On x.1 x.2.1⟩
noncomputable def c_ids_On : Con := ⟨[T_ids_State, T_frame_Frame], r_ids_On, fun x => ids_On x.1 x.2.1⟩
theorem cb_ids_On_ok : cb_ids_On.Sound prog Inv gInv 13 :=
 con_run (M := m_ids_On) inv_g (f := f13) rfl ks_ids_On 100000 (X := x_ids_On_0) (fun base S0 cs0 hn hf => have hfin : H_ids_On base S0 := ⟨hn, hf⟩; o_ids_On_0 hfin) (by intro x; kernel_rfl)
theorem c_ids_On_ok : c_ids_On.Sound prog Inv gInv 13 := by
 have e : c_ids_On = cb_ids_On := by unfold c_ids_On cb_ids_On; rw [ids_On_eq]
 rw [e]; exact cb_ids_On_ok
end Go.Proofs.YtjlfmolfcgennaaDoor.V
namespace Go.Proofs.YtjlfmolfcgennaaDoor.V
open Go.RowKit
/-! #### the place of a number -/
def RisesG (l : List D_ids_Given) : Prop := l.Pairwise fun a b => a.1 < b.1
def cutI (q : Int) (l : List D_ids_Given) : Nat := (l.takeWhile fun g => decide (g.1 < q)).length
theorem cutI_le (q : Int) (l : List D_ids_Given) : cutI q l ≤ l.length := (List.takeWhile_sublist _).length_le
theorem cutI_lt (q : Int) : ∀ (l : List D_ids_Given) (j : Nat) (h : j < l.length), j < cutI q l → l[j].1 < q
 | [], _, h, _ => absurd h (by simp)
 | x :: l, 0, _, hj => by
  unfold cutI at hj
  simp only [List.takeWhile_cons] at hj
  split at hj
  · rename_i h; simpa using h
  · simp at hj
 | x :: l, j + 1, h, hj => by
  unfold cutI at hj
  simp only [List.takeWhile_cons] at hj
  split at hj
  ·
   have := cutI_lt q l j (by simpa using h) (by unfold cutI; simpa using hj)
   simpa using this
  · simp at hj
theorem cutI_ge (q : Int) : ∀ (l : List D_ids_Given), RisesG l → ∀ (j : Nat) (h : j < l.length), cutI q l ≤ j → q ≤ l[j].1
 | [], _, _, h, _ => absurd h (by simp)
 | x :: l, hr, j, h, hj => by
  unfold RisesG at hr
  rw [List.pairwise_cons] at hr
  unfold cutI at hj
  simp only [List.takeWhile_cons] at hj
  split at hj
  ·
   cases j with
   | zero => simp at hj
   | succ j =>
    have := cutI_ge q l hr.2 j (by simpa using h) (by unfold cutI; simpa using hj)
    simpa using this
  ·
   rename_i hx
   have hx : q ≤ x.1 := by simpa using hx
   cases j with
   | zero => simpa using hx
   | succ j =>
    have hm : l[j]'(by simpa using h) ∈ l := List.getElem_mem _
    have := hr.1 _ hm
    simp only [List.getElem_cons_succ]
    omega
def foundB (q : Int) (l : List D_ids_Given) : Bool := l.any fun g => decide (g.1 = q)
theorem foundB_is (q : Int) (l : List D_ids_Given) (hr : RisesG l) : foundB q l = (match l[cutI q l]? with | some g => g.1 == q | none => false) := by
 unfold foundB
 by_cases h : cutI q l < l.length
 ·
  rw [List.getElem?_eq_getElem h]
  by_cases e : l[cutI q l].1 = q
  ·
   simp only [beq_of e]
   rw [List.any_eq_true]
   exact ⟨_, List.getElem_mem h, by simpa using e⟩
  ·
   simp only [beq_false_of_ne e]
   rw [List.any_eq_false]
   intro g hg
   obtain ⟨j, hj, rfl⟩ := List.getElem_of_mem hg
   simp only [decide_eq_true_eq]
   intro he
   rcases Nat.lt_or_ge j (cutI q l) with c | c
   · have := cutI_lt q l j hj c; omega
   ·
    rcases Nat.lt_or_ge (cutI q l) j with c2 | c2
    ·
     have h1 := cutI_ge q l hr _ h (Nat.le_refl _)
     have h2 := List.pairwise_iff_getElem.mp hr _ _ h hj c2
     omega
    ·
     have : j = cutI q l := by omega
     subst this
     exact e he
 ·
  rw [List.getElem?_eq_none (by omega)]
  simp only
  rw [List.any_eq_false]
  intro g hg
  obtain ⟨j, hj, rfl⟩ := List.getElem_of_mem hg
  have := cutI_lt q l j hj (by omega)
  simp only [decide_eq_true_eq]
  omega
theorem cmp_is (g : D_ids_Given) (q : Int) : ids_State_take_l1 g q = some (if g.1 < q then -1 else if g.1 > q then 1 else 0, ()) := by
 rw [ids_State_take_l1_eq, b_ids_State_take_l1]
 by_cases h1 : g.1 < q
 · simp [h1]
 · by_cases h2 : g.1 > q <;> simp [h1, h2]
theorem bs_loop (q : Int) (l : List D_ids_Given) (hr : RisesG l) (hn : l.length ≤ 1000000) : ∀ (k fuel lo hi : Nat), hi - lo ≤ k → k < fuel → lo ≤ cutI q l → cutI q l ≤ hi → hi ≤ l.length →
  slices_BinarySearchFunc_uint64_h0_0 fuel q ((l.length : Nat) : Int) ((lo : Nat) : Int) ((hi : Nat) : Int) l = some (((cutI q l : Nat) : Int), foundB q l, l, ()) := by
 intro k
 induction k with
 | zero =>
  intro fuel lo hi hk hf h1 h2 h3
  obtain ⟨fuel, rfl⟩ : ∃ k, fuel = k + 1 := ⟨fuel - 1, by omega⟩
  have e1 : lo = cutI q l := by omega
  have e2 : hi = lo := by omega
  subst e2
  have c : decide (((hi : Nat) : Int) < ((hi : Nat) : Int)) = false := by simp
  simp only [slices_BinarySearchFunc_uint64_h0_0, t_slices_BinarySearchFunc_uint64_h0_0, c, cond_false]
  rw [foundB_is q l hr, ← e1]
  by_cases h : hi < l.length
  ·
   have c1 : (((hi : Nat) : Int) < ((l.length : Nat) : Int)) = True := eq_true (by omega)
   have c4 : ((0 : Int) ≤ ((hi : Nat) : Int)) = True := eq_true (by omega)
   have e3 : l.getD hi (Ty.dflt T_ids_Given) = l[hi] := by simp [List.getD, h]
   simp only [c1, c4, and_self, decide_true, cond_true, Int.toNat_natCast, e3, cmp_is, obind_some, List.getElem?_eq_getElem h]
   by_cases g1 : l[hi].1 < q
   ·
    have : (l[hi].1 == q) = false := by simp; omega
    simp [g1, this]
   ·
    by_cases g2 : l[hi].1 > q
    ·
     have : (l[hi].1 == q) = false := by simp; omega
     simp [g1, g2, this]
    ·
     have : (l[hi].1 == q) = true := by simp; omega
     simp [g1, g2, this]
  ·
   have c1 : (((hi : Nat) : Int) < ((l.length : Nat) : Int)) = False := eq_false (by omega)
   simp only [c1, decide_false, cond_false, List.getElem?_eq_none (Nat.not_lt.mp h)]
 | succ k ih =>
  intro fuel lo hi hk hf h1 h2 h3
  by_cases hlt : lo < hi
  ·
   obtain ⟨fuel, rfl⟩ : ∃ k, fuel = k + 1 := ⟨fuel - 1, by omega⟩
   have c : decide (((lo : Nat) : Int) < ((hi : Nat) : Int)) = true := by simp; omega
   have em : IntKind.wrap .i64 (Int.fdiv (IntKind.wrap .u64 (IntKind.wrap .i64 (((lo : Nat) : Int) + ((hi : Nat) : Int)))) 2) = (((lo + hi) / 2 : Nat) : Int) := by
    rw [wrap_i64 (((lo : Nat) : Int) + ((hi : Nat) : Int)) (by omega) (by omega), wrap_u64 _ (by omega) (by omega), Int.fdiv_eq_ediv_of_nonneg _ (by omega), wrap_i64 _ (by omega) (by omega)]
    omega
   have hm : (lo + hi) / 2 < l.length := by omega
   have c1 : ((((lo + hi) / 2 : Nat) : Int) < ((l.length : Nat) : Int)) = True := eq_true (by omega)
   have c4 : ((0 : Int) ≤ (((lo + hi) / 2 : Nat) : Int)) = True := eq_true (by omega)
   have e3 : l.getD ((lo + hi) / 2) (Ty.dflt T_ids_Given) = l[(lo + hi) / 2] := by simp [List.getD, hm]
   simp only [slices_BinarySearchFunc_uint64_h0_0, t_slices_BinarySearchFunc_uint64_h0_0, c, cond_true, em, c1, c4, and_self, decide_true, Int.toNat_natCast, e3, cmp_is, obind_some]
   by_cases g1 : l[(lo + hi) / 2].1 < q
   ·
    have hc : (lo + hi) / 2 < cutI q l := by
     rcases Nat.lt_or_ge ((lo + hi) / 2) (cutI q l) with h | h
     · exact h
     · have := cutI_ge q l hr _ hm h; omega
    have c5 : decide ((-1 : Int) < 0) = true := rfl
    simp only [if_pos g1, c5, cond_true]
    rw [wrap_i64 _ (by omega) (by omega)]
    have := ih fuel ((lo + hi) / 2 + 1) hi (by omega) (by omega) (by omega) h2 h3
    rw [show (((lo + hi) / 2 : Nat) : Int) + 1 = (((lo + hi) / 2 + 1 : Nat) : Int) by omega]
    exact this
   ·
    have hc : cutI q l ≤ (lo + hi) / 2 := by
     rcases Nat.lt_or_ge ((lo + hi) / 2) (cutI q l) with h | h
     · exact absurd (cutI_lt q l _ hm h) g1
     · exact h
    have c5 : decide ((if l[(lo + hi) / 2].1 > q then (1 : Int) else 0) < 0) = false := by split <;> rfl
    simp only [if_neg g1, c5, cond_false]
    exact ih fuel lo ((lo + hi) / 2) (by omega) (by omega) h1 hc (by omega)
  · exact ih fuel lo hi (by omega) (by omega) h1 h2 h3
theorem bs_is (q : Int) (l : List D_ids_Given) (hr : RisesG l) (hn : l.length ≤ 1000000) : slices_BinarySearchFunc_uint64_h0 q l = some (((cutI q l : Nat) : Int), foundB q l, l, ()) := by
 rw [slices_BinarySearchFunc_uint64_h0_eq, b_slices_BinarySearchFunc_uint64_h0]
 rw [slices_BinarySearchFunc_uint64_h0_0'_eq, b_slices_BinarySearchFunc_uint64_h0_0']
 exact bs_loop q l hr hn l.length _ 0 l.length (by omega) (by simp) (Nat.zero_le _) (cutI_le q l) (Nat.le_refl _)
/-! #### the walk behind -/
theorem on17 (b : Bool) (d e : D_ids_State) (sd side most p now : Int) (L : List D_ids_Own) (l : List D_ids_Given) : ids_On_17 b d e sd side most p now L l = some (if b then ((sd, side, most, L, l, p, now, ()), 0, ()) else (d, 180, ())) := by
 rw [ids_On_17_eq, b_ids_On_17]
 cases b <;> rfl
theorem on16 (live : Nat) (d e : D_ids_State) (sd side most p now : Int) (L : List D_ids_Own) (l : List D_ids_Given) : ids_On_16 ((live : Nat) : Int) sd side most p now d e L l = some (if live ≤ 4 ∧ l.length ≤ 200 then ((sd, side, most, L, l, p, now, ()), 0, ()) else (d, 180, ())) := by
 rw [ids_On_16_eq, b_ids_On_16]
 by_cases h1 : live ≤ 4
 ·
  have c : decide (((live : Nat) : Int) ≤ 4) = true := by simp; omega
  simp only [c, cond_true, on17]
  by_cases h2 : l.length ≤ 200
  ·
   have c : decide (((l.length : Nat) : Int) ≤ 200) = true := by simp; omega
   simp [c, h1, h2]
  ·
   have c : decide (((l.length : Nat) : Int) ≤ 200) = false := by simp; omega
   simp [c, h2]
 ·
  have c : decide (((live : Nat) : Int) ≤ 4) = false := by simp; omega
  simp [c, on17, h1]
theorem on_fresh (d e : D_ids_State) (live sd side most p now : Int) (L : List D_ids_Own) : ∀ (suf pre : List D_ids_Given) (m : Nat), suf.length < m → (pre ++ suf).length ≤ 4294967296 →
  ids_On_13 m (((pre ++ suf).length : Nat) : Int) ((pre.length : Nat) : Int) live (pre ++ suf) sd side most p now d e L = ids_On_14 (ixP isFresh ((pre.length : Nat) : Int) suf) live sd side most p now d e L (pre ++ suf) := by
 intro suf
 induction suf with
 | nil =>
  intro pre m hm _
  obtain ⟨m, rfl⟩ : ∃ k, m = k + 1 := ⟨m - 1, by omega⟩
  simp only [ids_On_13, t_ids_On_13, mid_end, decide_false, cond_false, ixP]
 | cons x suf ih =>
  intro pre m hm hl
  obtain ⟨m, rfl⟩ : ∃ k, m = k + 1 := ⟨m - 1, by omega⟩
  simp only [ids_On_13, t_ids_On_13, mid_lt, nn, and_true, decide_true, cond_true, toNat_len, getD_mid, ixP, fresh1_is, obind_some]
  have e1 : isFresh (x.1, x.2.1, x.2.2.1, x.2.2.2.1, x.2.2.2.2.1, x.2.2.2.2.2.1, ()) = isFresh x := rfl
  rw [e1]
  cases h : isFresh x with
  | true => simp only [cond_true, if_true]
  | false =>
   simp only [cond_false, Bool.false_eq_true, if_false]
   rw [mid_next pre x x suf hl, snoc_app]
   have e : ((pre.length : Nat) : Int) + 1 = (((pre ++ [x]).length : Nat) : Int) := by simp
   rw [e]
   exact ih (pre ++ [x]) m (by simp at hm; omega) (by simpa using hl)
theorem on_now (d e : D_ids_State) (live sd side most p now : Int) (L : List D_ids_Own) : ∀ (suf pre : List D_ids_Given) (m : Nat), suf.length < m → (pre ++ suf).length ≤ 4294967296 →
  ids_On_11 m (((pre ++ suf).length : Nat) : Int) ((pre.length : Nat) : Int) live (pre ++ suf) sd side most p now d e L = ids_On_12 (ixP (isNow now) ((pre.length : Nat) : Int) suf) live sd side most p now d e L (pre ++ suf) := by
 intro suf
 induction suf with
 | nil =>
  intro pre m hm _
  obtain ⟨m, rfl⟩ : ∃ k, m = k + 1 := ⟨m - 1, by omega⟩
  simp only [ids_On_11, t_ids_On_11, mid_end, decide_false, cond_false, ixP]
 | cons x suf ih =>
  intro pre m hm hl
  obtain ⟨m, rfl⟩ : ∃ k, m = k + 1 := ⟨m - 1, by omega⟩
  simp only [ids_On_11, t_ids_On_11, mid_lt, nn, and_true, decide_true, cond_true, toNat_len, getD_mid, ixP, isNow]
  by_cases h : x.1 = now
  · simp only [beq_of h, cond_true, if_true]
  ·
   simp only [beq_false_of_ne h, cond_false, Bool.false_eq_true, if_false]
   rw [mid_next pre x x suf hl, snoc_app]
   have e : ((pre.length : Nat) : Int) + 1 = (((pre ++ [x]).length : Nat) : Int) := by simp
   rw [e]
   exact ih (pre ++ [x]) m (by simp at hm; omega) (by simpa using hl)
theorem on12 (d e : D_ids_State) (live : Nat) (sd side most p now : Int) (L : List D_ids_Own) (l : List D_ids_Given) (hl : l.length ≤ 100001) (hn : nowI l now < l.length) :
  ids_On_11' ((l.length : Nat) : Int) 0 ((live : Nat) : Int) l sd side most p now d e L = some (match stepG l now with
   | some x => if live ≤ 4 ∧ x.1.length ≤ 200 then ((sd, side, most, L, x.1, p, x.2, ()), 0, ()) else (d, 180, ())
   | none => (d, 180, ())) := by
 rw [ids_On_11'_eq, b_ids_On_11']
 have h := on_now d e ((live : Nat) : Int) sd side most p now L l [] (Int.toNat ((l.length : Int) - 0) + 2) (by simp) (by simp; omega)
 simp only [List.nil_append, List.length_nil, Int.natCast_zero] at h
 refine h.trans ?_
 have ew : ixP (isNow now) 0 l = ((nowI l now : Nat) : Int) := by
  rw [ixP_is]
  have e : nowI l now = l.findIdx (isNow now) := rfl
  rw [if_pos (by rw [← e]; exact hn), e]
  simp
 rw [ids_On_12_eq, b_ids_On_12, ew]
 have c2 : (((nowI l now : Nat) : Int) < ((l.length : Nat) : Int)) = True := eq_true (by omega)
 have c4 : ((0 : Int) ≤ ((nowI l now : Nat) : Int)) = True := eq_true (by omega)
 have e3 : l.getD (nowI l now) (Ty.dflt T_ids_Given) = l[nowI l now] := by simp [List.getD, hn]
 simp only [c2, c4, and_self, decide_true, cond_true, Int.toNat_natCast, e3]
 unfold stepG
 rw [List.getElem?_eq_getElem hn]
 cases hg : l[nowI l now].2.2.2.2.1 with
 | false =>
  simp only [hg, cond_false, Bool.false_eq_true, if_false, on16]
 | true =>
  simp only [hg, cond_true, if_true]
  rw [ids_On_13'_eq, b_ids_On_13']
  have h := on_fresh d e ((live : Nat) : Int) sd side most p now L l [] (Int.toNat ((l.length : Int) - 0) + 2) (by simp) (by simp; omega)
  simp only [List.nil_append, List.length_nil, Int.natCast_zero] at h
  refine h.trans ?_
  rw [ids_On_14_eq, b_ids_On_14, ixP_is]
  unfold moveP
  by_cases hi : l.findIdx isFresh < l.length
  ·
   have c1 : ((0 : Int) + ((l.findIdx isFresh : Nat) : Int) ≥ 0) = True := by simp
   have c2 : ((0 + ((l.findIdx isFresh : Nat) : Int)) < ((l.length : Nat) : Int)) = True := eq_true (by omega)
   have c4 : ((0 : Int) ≤ 0 + ((l.findIdx isFresh : Nat) : Int)) = True := eq_true (by omega)
   have c3 : Int.toNat ((0 : Int) + ((l.findIdx isFresh : Nat) : Int)) = l.findIdx isFresh := by omega
   simp only [if_pos hi, ge_iff_le, c2, c4, and_self, c3, decide_true, cond_true, List.getElem?_eq_getElem hi]
   have e2 : l.set (l.findIdx isFresh) ((l.getD (l.findIdx isFresh) (Ty.dflt T_ids_Given)).1, (l.getD (l.findIdx isFresh) (Ty.dflt T_ids_Given)).2.1, (l.getD (l.findIdx isFresh) (Ty.dflt T_ids_Given)).2.2.1, true, (l.getD (l.findIdx isFresh) (Ty.dflt T_ids_Given)).2.2.2.2.1, (l.getD (l.findIdx isFresh) (Ty.dflt T_ids_Given)).2.2.2.2.2.1, ()) = l.modify (l.findIdx isFresh) useG := set_modify l _ useG (Ty.dflt T_ids_Given) hi
   have e4 : l.getD (l.findIdx isFresh) (Ty.dflt T_ids_Given) = l[l.findIdx isFresh] := by simp [List.getD, hi]
   rw [e2, e4, ids_On_15_eq, b_ids_On_15]
   simp only [Bool.not_true, cond_false, on16]
  ·
   have c1 : ((0 : Int) ≤ -1) = False := by simp
   simp only [if_neg hi, ge_iff_le, c1, decide_false, cond_false, List.getElem?_eq_none (Nat.not_lt.mp hi)]
   rw [ids_On_15_eq, b_ids_On_15]
   simp only [Bool.not_false, cond_true, on17]
   rfl
theorem on_marks (d e : D_ids_State) (sd side most p now : Int) (L : List D_ids_Own) : ∀ (suf pre : List D_ids_Given) (m live : Nat), suf.length < m → (pre ++ suf).length ≤ 100001 → live ≤ pre.length →
  ids_On_6 m ((live : Nat) : Int) (((pre ++ suf).length : Nat) : Int) ((pre.length : Nat) : Int) sd side most p now d e L (pre ++ suf) =
   ids_On_11' (((pre ++ suf.map (belowG p)).length : Nat) : Int) 0 ((live + liveG (suf.map (belowG p)) : Nat) : Int) (pre ++ suf.map (belowG p)) sd side most p now d e L := by
 intro suf
 induction suf with
 | nil =>
  intro pre m live hm _ _
  obtain ⟨m, rfl⟩ : ∃ k, m = k + 1 := ⟨m - 1, by omega⟩
  simp only [ids_On_6, t_ids_On_6, mid_end, decide_false, cond_false, List.map_nil, liveG, List.filter_nil, List.length_nil, Nat.add_zero]
 | cons x suf ih =>
  intro pre m live hm hl hlive
  obtain ⟨m, rfl⟩ : ∃ k, m = k + 1 := ⟨m - 1, by omega⟩
  have hpl : pre.length ≤ 100001 := by simp at hl; omega
  have nine : ∀ y : D_ids_Given, y = belowG p x → ids_On_9 (ids_On_6 m) ((live : Nat) : Int) ((pre.length : Nat) : Int) (((pre ++ x :: suf).length : Nat) : Int) ((pre.length : Nat) : Int) sd side most p now d e L (pre ++ y :: suf) =
    ids_On_11' (((pre ++ (x :: suf).map (belowG p)).length : Nat) : Int) 0 ((live + liveG ((x :: suf).map (belowG p)) : Nat) : Int) (pre ++ (x :: suf).map (belowG p)) sd side most p now d e L := by
   intro y hy
   rw [ids_On_9_eq, b_ids_On_9]
   have hlen : (pre ++ x :: suf).length = (pre ++ y :: suf).length := by simp
   have next : ∀ lv : Nat, lv ≤ pre.length + 1 → ids_On_10 (ids_On_6 m) ((lv : Nat) : Int) (((pre ++ x :: suf).length : Nat) : Int) ((pre.length : Nat) : Int) sd side most p now d e L (pre ++ y :: suf) =
     ids_On_11' (((pre ++ (x :: suf).map (belowG p)).length : Nat) : Int) 0 ((lv + liveG (suf.map (belowG p)) : Nat) : Int) (pre ++ (x :: suf).map (belowG p)) sd side most p now d e L := by
    intro lv hlv
    rw [ids_On_10_eq, b_ids_On_10]
    rw [mid_next pre x y suf (by omega), hlen, snoc_app pre y suf, ih (pre ++ [y]) m lv (by simp at hm; omega) (by simp at hl ⊢; omega) (by simp; omega)]
    simp only [List.map_cons, ← hy, List.append_assoc, List.singleton_append]
   simp only [hlen, mid_lt, nn, and_true, decide_true, cond_true, toNat_len, getD_mid]
   rw [← hlen]
   have hx : liveG ((x :: suf).map (belowG p)) = (if y.2.2.2.2.1 then 0 else 1) + liveG (suf.map (belowG p)) := by
    simp only [List.map_cons, ← hy, liveG, List.filter_cons]
    cases y.2.2.2.2.1 <;> simp [Nat.add_comm]
   cases hg : y.2.2.2.2.1 with
   | false =>
    simp only [Bool.not_false, cond_true]
    rw [wrap_i64 _ (by omega) (by omega), show ((live : Nat) : Int) + 1 = ((live + 1 : Nat) : Int) by omega, next (live + 1) (by omega), hx, hg]
    simp only [Bool.false_eq_true, if_false, Nat.add_assoc]
   | true =>
    simp only [Bool.not_true, cond_false]
    rw [next live (by omega), hx, hg]
    simp only [if_true, Nat.zero_add]
  simp only [ids_On_6, t_ids_On_6, mid_lt, nn, and_true, decide_true, cond_true, toNat_len, getD_mid, set_mid]
  by_cases hp : x.1 < p
  ·
   simp only [hp, decide_true, cond_true]
   cases hg : x.2.2.2.2.1 with
   | false =>
    simp only [Bool.not_false, cond_true]
    exact nine _ (by simp [belowG, hp, retG, hg])
   | true =>
    simp only [Bool.not_true, cond_false]
    exact nine x (by simp [belowG, hp, retG, hg])
  ·
   simp only [hp, decide_false, cond_false]
   exact nine x (by simp [belowG, hp])
theorem on5 (d e : D_ids_State) (f : D_frame_Frame) (sd side most p now : Int) (L : List D_ids_Own) (l : List D_ids_Given) (hl : l.length ≤ 100001) (hn : nowI (l.map (belowG (max p f.2.2.2.2.2.2.1))) now < l.length) :
  ids_On_5 sd side most p now f d e L l = some (match stepG (l.map (belowG (max p f.2.2.2.2.2.2.1))) now with
   | some x => if liveG (l.map (belowG (max p f.2.2.2.2.2.2.1))) ≤ 4 ∧ x.1.length ≤ 200 then ((sd, side, most, L, x.1, max p f.2.2.2.2.2.2.1, x.2, ()), 0, ()) else (d, 180, ())
   | none => (d, 180, ())) := by
 rw [ids_On_5_eq, b_ids_On_5]
 have em : (if f.2.2.2.2.2.2.1 > p then f.2.2.2.2.2.2.1 else p) = max p f.2.2.2.2.2.2.1 := by split <;> omega
 simp only [em]
 rw [ids_On_6'_eq, b_ids_On_6']
 have h := on_marks d e sd side most (max p f.2.2.2.2.2.2.1) now L l [] (Int.toNat ((l.length : Int) - 0) + 2) 0 (by simp) (by simpa using hl) (by simp)
 simp only [List.nil_append, List.length_nil, Int.natCast_zero, Nat.zero_add] at h
 refine h.trans ?_
 exact on12 d e _ sd side most _ now L _ (by simpa using hl) (by simpa using hn)
theorem on_clash (d e : D_ids_State) (f : D_frame_Frame) (at_ sd side most p now : Int) (fd : Bool) (L : List D_ids_Own) : ∀ (suf pre : List D_ids_Given) (m : Nat), suf.length < m → (pre ++ suf).length ≤ 100000 →
  ids_On_0 m at_ fd (((pre ++ suf).length : Nat) : Int) ((pre.length : Nat) : Int) sd side most p now f (pre ++ suf) d e L =
   if clash suf f.2.2.2.2.2.1 f.2.2.2.2.2.2.2.2.2.2.1 f.2.2.2.2.2.2.2.2.2.2.2.1 then some (d, 180, ()) else
    (bif !fd then obind (slices_Insert_ids_Given_h0 (pre ++ suf) at_ [(f.2.2.2.2.2.1, f.2.2.2.2.2.2.2.2.2.2.1, f.2.2.2.2.2.2.2.2.2.2.2.1, false, false, false, ())]) fun y => ids_On_5 sd side most p now f d e L y.1 else ids_On_5 sd side most p now f d e L (pre ++ suf)) := by
 intro suf
 induction suf with
 | nil =>
  intro pre m hm _
  obtain ⟨m, rfl⟩ : ∃ k, m = k + 1 := ⟨m - 1, by omega⟩
  simp only [ids_On_0, t_ids_On_0, mid_end, decide_false, cond_false, clash, List.any_nil, Bool.false_eq_true, if_false]
 | cons x suf ih =>
  intro pre m hm hl
  obtain ⟨m, rfl⟩ : ∃ k, m = k + 1 := ⟨m - 1, by omega⟩
  have hl' : (pre ++ x :: suf).length ≤ 4294967296 := by omega
  have next : ids_On_4 (ids_On_0 m) at_ fd (((pre ++ x :: suf).length : Nat) : Int) ((pre.length : Nat) : Int) sd side most p now f (pre ++ x :: suf) d e L =
    if clash suf f.2.2.2.2.2.1 f.2.2.2.2.2.2.2.2.2.2.1 f.2.2.2.2.2.2.2.2.2.2.2.1 then some (d, 180, ()) else
    (bif !fd then obind (slices_Insert_ids_Given_h0 (pre ++ x :: suf) at_ [(f.2.2.2.2.2.1, f.2.2.2.2.2.2.2.2.2.2.1, f.2.2.2.2.2.2.2.2.2.2.2.1, false, false, false, ())]) fun y => ids_On_5 sd side most p now f d e L y.1 else ids_On_5 sd side most p now f d e L (pre ++ x :: suf)) := by
   rw [ids_On_4_eq, b_ids_On_4]
   rw [mid_next pre x x suf hl', snoc_app]
   exact ih (pre ++ [x]) m (by simp at hm; omega) (by simpa using hl)
  have bad : ids_On_3 (ids_On_0 m) d e sd side most p now L (pre ++ x :: suf) = some (d, 180, ()) := by
   rw [ids_On_3_eq, b_ids_On_3, on17]
   rfl
  have ec : clash (x :: suf) f.2.2.2.2.2.1 f.2.2.2.2.2.2.2.2.2.2.1 f.2.2.2.2.2.2.2.2.2.2.2.1 = (((decide (x.1 = f.2.2.2.2.2.1) != decide (x.2.1 = f.2.2.2.2.2.2.2.2.2.2.1)) || (decide (x.1 = f.2.2.2.2.2.1) && !decide (x.2.2.1 = f.2.2.2.2.2.2.2.2.2.2.2.1))) || clash suf f.2.2.2.2.2.1 f.2.2.2.2.2.2.2.2.2.2.1 f.2.2.2.2.2.2.2.2.2.2.2.1) := rfl
  simp only [ids_On_0, t_ids_On_0, mid_lt, nn, and_true, decide_true, cond_true, toNat_len, getD_mid, toList_beq, next, bad, ec]
  have hb : (x.1 == f.2.2.2.2.2.1) = decide (x.1 = f.2.2.2.2.2.1) := by
   by_cases h : x.1 = f.2.2.2.2.2.1 <;> simp [h]
  rw [hb]
  by_cases h1 : x.1 = f.2.2.2.2.2.1 <;> by_cases h2 : x.2.1 = f.2.2.2.2.2.2.2.2.2.2.1 <;> by_cases h3 : x.2.2.1 = f.2.2.2.2.2.2.2.2.2.2.2.1 <;> simp only [h1, h2, h3, decide_true, decide_false, beq_self_eq_true, Bool.not_true, Bool.not_false, cond_true, cond_false, bne_self_eq_false, Bool.false_or, Bool.true_or, Bool.and_false, Bool.and_self, if_true, Bool.false_and, show ((true == false) = false) from rfl, show ((false == true) = false) from rfl, show ((true != false) = true) from rfl, show ((false != true) = true) from rfl]
theorem ins_is (l : List D_ids_Given) (i : Nat) (g : D_ids_Given) (hi : i ≤ l.length) (hl : l.length ≤ 100000) : slices_Insert_ids_Given_h0 l ((i : Nat) : Int) [g] = some (l.take i ++ [g] ++ l.drop i, ()) := by
 rw [slices_Insert_ids_Given_h0_eq, b_slices_Insert_ids_Given_h0]
 unfold insF
 have c : decide ((0 : Int) ≤ ((i : Nat) : Int) ∧ ((i : Nat) : Int) ≤ ((l.length : Nat) : Int) ∧ 0 < [g].length ∧ l.length + [g].length ≤ 4294967296) = true := by
  simp; omega
 rw [c]
 simp
theorem putIn_cut (l : List D_ids_Given) (q : Int) (c t : ByteArray) : putIn l q c t = if foundB q l then l else l.take (cutI q l) ++ [(q, c, t, false, false, false, ())] ++ l.drop (cutI q l) := by
 unfold putIn foundB
 have h := List.takeWhile_append_dropWhile (p := fun g : D_ids_Given => decide (g.1 < q)) (l := l)
 have h1 : l.takeWhile (fun g => decide (g.1 < q)) = l.take (cutI q l) := by
  have e := congrArg (List.take (cutI q l)) h
  unfold cutI at e
  rw [List.take_left] at e
  exact e
 have h2 : l.dropWhile (fun g => decide (g.1 < q)) = l.drop (cutI q l) := by
  have e := congrArg (List.drop (cutI q l)) h
  unfold cutI at e
  rw [List.drop_left] at e
  exact e
 rw [h1, h2]
 split
 · rfl
 · simp
theorem on_new (s : D_ids_State) (f : D_frame_Frame) (hk : f.1 = 24) (hL : s.2.2.2.1.length ≤ 100000) (hl : s.2.2.2.2.1.length ≤ 100000) (hr : RisesG s.2.2.2.2.1)
  (hn : nowI ((putIn s.2.2.2.2.1 f.2.2.2.2.2.1 f.2.2.2.2.2.2.2.2.2.2.1 f.2.2.2.2.2.2.2.2.2.2.2.1).map (belowG (max s.2.2.2.2.2.1 f.2.2.2.2.2.2.1))) s.2.2.2.2.2.2.1 < (putIn s.2.2.2.2.1 f.2.2.2.2.2.1 f.2.2.2.2.2.2.2.2.2.2.1 f.2.2.2.2.2.2.2.2.2.2.2.1).length) :
  ids_On s f = some (match newP s f.2.2.2.2.2.1 f.2.2.2.2.2.2.1 f.2.2.2.2.2.2.2.2.2.2.1 f.2.2.2.2.2.2.2.2.2.2.2.1 with | some t => (t, 0, ()) | none => (s, 180, ())) := by
 obtain ⟨seed, side, most, L, l, prior, now, u⟩ := s
 simp only at hL hl hr hn
 rw [ids_On_eq, b_ids_On, clone_own _ (by simp only; omega), clone_given _ (by simp only; omega)]
 simp only [obind_some, beq_of hk, cond_true]
 rw [bs_is _ _ hr (by omega)]
 simp only [obind_some]
 rw [ids_On_0'_eq, b_ids_On_0']
 have h := on_clash (seed, side, most, L, l, prior, now, u) (0, 0, 0, [], [], 0, 0, ()) f ((cutI f.2.2.2.2.2.1 l : Nat) : Int) seed side most prior now (foundB f.2.2.2.2.2.1 l) L l [] (Int.toNat ((l.length : Int) - 0) + 2) (by simp) (by simpa using hl)
 simp only [List.nil_append, List.length_nil, Int.natCast_zero] at h
 refine h.trans ?_
 unfold newP
 simp only
 cases hc : clash l f.2.2.2.2.2.1 f.2.2.2.2.2.2.2.2.2.2.1 f.2.2.2.2.2.2.2.2.2.2.2.1 with
 | true => simp only [if_true]
 | false =>
  simp only [Bool.false_eq_true, if_false]
  have hput := putIn_cut l f.2.2.2.2.2.1 f.2.2.2.2.2.2.2.2.2.2.1 f.2.2.2.2.2.2.2.2.2.2.2.1
  have hcl := cutI_le f.2.2.2.2.2.1 l
  have fin : ∀ l' : List D_ids_Given, putIn l f.2.2.2.2.2.1 f.2.2.2.2.2.2.2.2.2.2.1 f.2.2.2.2.2.2.2.2.2.2.2.1 = l' → l'.length ≤ 100001 → nowI (l'.map (belowG (max prior f.2.2.2.2.2.2.1))) now < l'.length := by
   rintro l' rfl _
   exact hn
  cases hf : foundB f.2.2.2.2.2.1 l with
  | true =>
   simp only [Bool.not_true, cond_false]
   rw [hf] at hput
   have hput : putIn l f.2.2.2.2.2.1 f.2.2.2.2.2.2.2.2.2.2.1 f.2.2.2.2.2.2.2.2.2.2.2.1 = l := hput
   have hl1 : l.length ≤ 100001 := by omega
   rw [hput, on5 _ _ _ _ _ _ _ _ _ _ hl1 (fin _ hput hl1)]
   cases stepG (l.map (belowG (max prior f.2.2.2.2.2.2.1))) now with
   | none => rfl
   | some x =>
    obtain ⟨x1, x2⟩ := x
    simp only
    split <;> rfl
  | false =>
   simp only [Bool.not_false, cond_true]
   rw [ins_is _ _ _ hcl hl]
   simp only [obind_some]
   rw [hf] at hput
   have hput : putIn l f.2.2.2.2.2.1 f.2.2.2.2.2.2.2.2.2.2.1 f.2.2.2.2.2.2.2.2.2.2.2.1 = l.take (cutI f.2.2.2.2.2.1 l) ++ [(f.2.2.2.2.2.1, f.2.2.2.2.2.2.2.2.2.2.1, f.2.2.2.2.2.2.2.2.2.2.2.1, false, false, false, ())] ++ l.drop (cutI f.2.2.2.2.2.1 l) := hput
   have hl1 : (l.take (cutI f.2.2.2.2.2.1 l) ++ [(f.2.2.2.2.2.1, f.2.2.2.2.2.2.2.2.2.2.1, f.2.2.2.2.2.2.2.2.2.2.2.1, false, false, false, ())] ++ l.drop (cutI f.2.2.2.2.2.1 l)).length ≤ 100001 := by simp; omega
   rw [hput, on5 _ _ _ _ _ _ _ _ _ _ hl1 (fin _ hput hl1)]
   generalize l.take (cutI f.2.2.2.2.2.1 l) ++ [(f.2.2.2.2.2.1, f.2.2.2.2.2.2.2.2.2.2.1, f.2.2.2.2.2.2.2.2.2.2.2.1, false, false, false, ())] ++ l.drop (cutI f.2.2.2.2.2.1 l) = l'
   cases stepG (l'.map (belowG (max prior f.2.2.2.2.2.2.1))) now with
   | none => rfl
   | some x =>
    obtain ⟨x1, x2⟩ := x
    simp only
    split <;> rfl
theorem on_ret (s : D_ids_State) (f : D_frame_Frame) (hk : f.1 = 25) (hq : 0 ≤ f.2.2.2.2.2.1) (hseed : InU s.1) (hL : s.2.2.2.1.length ≤ 100000) (hl : s.2.2.2.2.1.length ≤ 100000) :
  ids_On s f = some (match retP (drF s.1 s.2.1) s f.2.2.2.2.2.1 with | some t => (t, 0, ()) | none => (s, 180, ())) := by
 obtain ⟨seed, side, most, L, l, prior, now, u⟩ := s
 simp only at hL hl hseed
 rw [ids_On_eq, b_ids_On, clone_own _ (by simp only; omega), clone_given _ (by simp only; omega)]
 have k24 : (f.1 == (24 : Int)) = false := by rw [hk]; rfl
 simp only [obind_some, k24, beq_of hk, cond_true, cond_false]
 rw [wrap_u64 _ (by omega) (by omega)]
 unfold retP
 simp only
 by_cases hge : ((L.length : Nat) : Int) ≤ f.2.2.2.2.2.1
 · simp only [ge_iff_le, hge, decide_true, cond_true, if_true]
 ·
  have hlt : f.2.2.2.2.2.1.toNat < L.length := by omega
  have c2 : (f.2.2.2.2.2.1 < ((L.length : Nat) : Int)) = True := eq_true (by omega)
  simp only [ge_iff_le, hge, decide_false, cond_false, if_false, hq, c2, and_self, decide_true, cond_true]
  have hg : (L.set f.2.2.2.2.2.1.toNat ((L.getD f.2.2.2.2.2.1.toNat (Ty.dflt T_ids_Own)).1, (L.getD f.2.2.2.2.2.1.toNat (Ty.dflt T_ids_Own)).2.1, (L.getD f.2.2.2.2.2.1.toNat (Ty.dflt T_ids_Own)).2.2.1, (L.getD f.2.2.2.2.2.1.toNat (Ty.dflt T_ids_Own)).2.2.2.1, true, ())).getD f.2.2.2.2.2.1.toNat (Ty.dflt T_ids_Own) =
    ((L.getD f.2.2.2.2.2.1.toNat (Ty.dflt T_ids_Own)).1, (L.getD f.2.2.2.2.2.1.toNat (Ty.dflt T_ids_Own)).2.1, (L.getD f.2.2.2.2.2.1.toNat (Ty.dflt T_ids_Own)).2.2.1, (L.getD f.2.2.2.2.2.1.toNat (Ty.dflt T_ids_Own)).2.2.2.1, true, ()) := by
   simp [List.getD, hlt]
  simp only [hg, List.set_set]
  have e2 : L.set f.2.2.2.2.2.1.toNat ((L.getD f.2.2.2.2.2.1.toNat (Ty.dflt T_ids_Own)).1, (L.getD f.2.2.2.2.2.1.toNat (Ty.dflt T_ids_Own)).2.1, (L.getD f.2.2.2.2.2.1.toNat (Ty.dflt T_ids_Own)).2.2.1, false, true, ()) = L.modify f.2.2.2.2.2.1.toNat goneO := set_modify L _ goneO (Ty.dflt T_ids_Own) hlt
  rw [e2]
  have hml : (L.modify f.2.2.2.2.2.1.toNat goneO).length = L.length := List.length_modify ..
  by_cases h200 : L.length < 200
  ·
   have c : decide ((((L.modify f.2.2.2.2.2.1.toNat goneO).length : Nat) : Int) < 200) = true := by rw [hml]; simp; omega
   simp only [c, cond_true, if_pos h200]
   rw [fill_is _ _ hseed (by show (L.modify f.2.2.2.2.2.1.toNat goneO).length ≤ 100000; omega) (by simpa using hl)]
   rfl
  ·
   have c : decide ((((L.modify f.2.2.2.2.2.1.toNat goneO).length : Nat) : Int) < 200) = false := by rw [hml]; simp; omega
   simp only [c, cond_false, if_neg h200]
   rfl
/-! #### names -/
def phi (seed side : Int) (c : Nat) : ByteArray :=
 if c = 0 then ⟨#[]⟩ else if 2002 ≤ c then bytesStr (List.replicate (100 + c) 0) else
 if c % 2 = 1 then idF seed (placeId side ((c / 2 : Nat) : Int)) else drawF seed ((placeId side ((c / 2 - 1 : Nat) : Int) + 1099511627776) % 18446744073709551616)
theorem phi_size (seed side : Int) (c : Nat) : (phi seed side c).size = if c = 0 then 0 else if 2002 ≤ c then 100 + c else if c % 2 = 1 then 8 else 16 := by
 unfold phi
 split
 · rfl
 ·
  split
  · rw [bytesStr_size, List.length_replicate]
  ·
   split
   · exact idF_size _ _
   · exact drawF_size _ _
theorem placeId_small (side j : Int) (hs : side = 0 ∨ side = 1) (hj : 0 ≤ j ∧ j < 4294967296) : placeId side j = side * 4294967296 + j := by
 unfold placeId
 rcases hs with rfl | rfl <;> omega
theorem phi_inj (seed side : Int) (hs : side = 0 ∨ side = 1) (a b : Nat) (h : phi seed side a = phi seed side b) : a = b := by
 have hsz := congrArg ByteArray.size h
 rw [phi_size, phi_size] at hsz
 by_cases a0 : a = 0
 ·
  rw [if_pos a0] at hsz
  by_cases b0 : b = 0
  · omega
  ·
   rw [if_neg b0] at hsz
   split at hsz <;> (try split at hsz) <;> omega
 ·
  rw [if_neg a0] at hsz
  by_cases b0 : b = 0
  ·
   rw [if_pos b0] at hsz
   split at hsz <;> (try split at hsz) <;> omega
  ·
   rw [if_neg b0] at hsz
   by_cases a2 : 2002 ≤ a <;> by_cases b2 : 2002 ≤ b
   · rw [if_pos a2, if_pos b2] at hsz; omega
   · rw [if_pos a2, if_neg b2] at hsz; split at hsz <;> omega
   · rw [if_neg a2, if_pos b2] at hsz; split at hsz <;> omega
   ·
    rw [if_neg a2, if_neg b2] at hsz
    unfold phi at h
    rw [if_neg a0, if_neg b0, if_neg a2, if_neg b2] at h
    by_cases a1 : a % 2 = 1 <;> by_cases b1 : b % 2 = 1
    ·
     rw [if_pos a1, if_pos b1] at h
     rw [placeId_small _ _ hs (by omega), placeId_small _ _ hs (by omega)] at h
     have := idF_inj _ _ _ (by rcases hs with rfl | rfl <;> omega) (by rcases hs with rfl | rfl <;> omega) h
     omega
    · rw [if_pos a1, if_neg b1] at hsz; omega
    · rw [if_neg a1, if_pos b1] at hsz; omega
    ·
     rw [if_neg a1, if_neg b1] at h
     rw [placeId_small _ _ hs (by omega), placeId_small _ _ hs (by omega)] at h
     have := drawF_inj _ _ _ (by rcases hs with rfl | rfl <;> omega) (by rcases hs with rfl | rfl <;> omega) h
     rcases hs with rfl | rfl <;> omega
def dr0 (q : Int) : OwnT Nat := (q, 2 * q.toNat + 1, 2 * q.toNat + 2, true, false, ())
theorem dr0_is (seed side : Int) (j : Nat) (hj : j < 1000) : drF seed side ((j : Nat) : Int) = mapO (phi seed side) (dr0 j) := by
 unfold drF dr0 mapO phi
 simp only [Int.toNat_natCast]
 have e1 : (2 * j + 1) / 2 = j := by omega
 have e2 : (2 * j + 2) / 2 - 1 = j := by omega
 have e3 : (2 * j + 1) % 2 = 1 := by omega
 have e4 : ¬ (2 * j + 2) % 2 = 1 := by omega
 rw [if_neg (by omega), if_neg (by omega), if_pos e3, if_neg (by omega), if_neg (by omega), if_neg e4, e1, e2]
/-! #### states -/
def new0 (side : Int) : StT Nat := (0, side, 2, [(0, 1, 0, false, false, ())], [(0, 1, 0, true, false, false, ())], 0, 0, ())
def conG (g : Nat → ByteArray) (seed side : Int) (s : StT Nat) : D_ids_State := mapS (phi seed side) g seed s
def risesB : List (GivT Nat) → Bool
 | [] => true
 | [_] => true
 | a :: b :: l => decide (a.1 < b.1) && risesB (b :: l)
theorem risesB_is : ∀ (l : List (GivT Nat)), risesB l = true → l.Pairwise fun a b => a.1 < b.1
 | [], _ => .nil
 | [_], _ => by simp
 | a :: b :: l, h => by
  simp only [risesB, Bool.and_eq_true, decide_eq_true_eq] at h
  have ih := risesB_is (b :: l) h.2
  rw [List.pairwise_cons] at ih ⊢
  refine ⟨fun x hx => ?_, List.pairwise_cons.mpr ih⟩
  rcases List.mem_cons.mp hx with rfl | hx
  · exact h.1
  · exact Int.lt_trans h.1 (ih.1 x hx)
def okS (s : StT Nat) : Bool :=
 decide (s.2.2.2.1.length ≤ 900) && decide (s.2.2.2.2.1.length ≤ 900) && (s.2.2.2.1.all fun o => decide (0 ≤ o.1 ∧ o.1 < 1000) && (!o.2.2.2.1 || decide (o.2.1 % 2 = 1 ∧ o.2.1 < 2002 ∧ o.2.2.1 % 2 = 0 ∧ 0 < o.2.2.1 ∧ o.2.2.1 < 2002))) &&
 (s.2.2.2.2.1.all fun g => decide (0 ≤ g.1 ∧ g.1 < 1000)) && decide (nowI s.2.2.2.2.1 s.2.2.2.2.2.2.1 < s.2.2.2.2.1.length) && risesB s.2.2.2.2.1
structure OkS (s : StT Nat) : Prop where
 l : s.2.2.2.1.length ≤ 900
 p : s.2.2.2.2.1.length ≤ 900
 own : ∀ o ∈ s.2.2.2.1, (0 ≤ o.1 ∧ o.1 < 1000) ∧ (o.2.2.2.1 = true → o.2.1 % 2 = 1 ∧ o.2.1 < 2002 ∧ o.2.2.1 % 2 = 0 ∧ 0 < o.2.2.1 ∧ o.2.2.1 < 2002)
 giv : ∀ g ∈ s.2.2.2.2.1, 0 ≤ g.1 ∧ g.1 < 1000
 now : nowI s.2.2.2.2.1 s.2.2.2.2.2.2.1 < s.2.2.2.2.1.length
 rise : s.2.2.2.2.1.Pairwise fun a b => a.1 < b.1
theorem okS_is {s : StT Nat} (h : okS s = true) : OkS s := by
 simp only [okS, Bool.and_eq_true, decide_eq_true_eq, List.all_eq_true, Bool.or_eq_true, Bool.not_eq_true'] at h
 obtain ⟨⟨⟨⟨⟨h1, h2⟩, h3⟩, h4⟩, h5⟩, h6⟩ := h
 refine ⟨h1, h2, fun o ho => ⟨(h3 o ho).1, fun ht => ?_⟩, h4, h5, risesB_is _ h6⟩
 rcases (h3 o ho).2 with h | h
 · rw [ht] at h; cases h
 · exact h
theorem frOk_id (x : FrT ByteArray) (h1 : x.1 = 24 ∨ x.1 = 25) (h2 : 0 ≤ x.2.1 ∧ x.2.1 < 18446744073709551616) (h3 : 0 ≤ x.2.2.1 ∧ x.2.2.1 < 18446744073709551616) : FrOk (frId x) := by
 refine ⟨?_, ?_, ?_, ?_, ?_, ?_, ?_, ?_, ?_, ?_⟩ <;> simp only [frId]
 · omega
 · omega
 · omega
 · omega
 · omega
 · exact h2
 · exact h3
 · omega
 · intro r hr; cases hr
 · simp
theorem fits_new (q : Int) (c t : ByteArray) (room : Int) (hq : 0 ≤ q ∧ q < 4611686018427387904) (hc : c.size = 8) (ht : t.size = 16) (hr : 60 ≤ room) : fitsF (frId (24, q, 0, c, t)) room = true := by
 unfold fitsF
 have h1 : kindB (frId (24, q, 0, c, t)).1 = true := rfl
 have h2 : frId (24, q, 0, c, t) = onlyF (frId (24, q, 0, c, t)) := rfl
 have h3 : numsOk (frId (24, q, 0, c, t)) = true := by
  unfold numsOk frId
  simp
  omega
 have h4 : extraF (frId (24, q, 0, c, t)) = true := by
  show (decide ((0 : Int) ≤ q) && (((c.size : Nat) : Int) == 8) && (((t.size : Nat) : Int) == 16)) = true
  rw [hc, ht]
  simp
  omega
 have h5 : (frId (24, q, 0, c, t)).2.2.2.2.2.2.2.2.2.1.size ≤ 1200 := by show (0 : Nat) ≤ 1200; omega
 have h6 : putL (frId (24, q, 0, c, t)) = vbs [24] ++ (vbs [q, 0] ++ [8] ++ (strBytes c ++ strBytes t)) := rfl
 have l1 := vbs_len [(24 : Int)]
 have l2 := vbs_len [q, (0 : Int)]
 have l3 := strBytes_len c
 have l4 := strBytes_len t
 simp only [List.length_cons, List.length_nil] at l1 l2
 simp only [mayFr, h1, h3, h4, Bool.true_and, Bool.and_true, h5, decide_true]
 rw [h6]
 simp only [List.length_append, List.length_cons, List.length_nil, Bool.and_eq_true, decide_eq_true_eq]
 refine ⟨h2, ?_⟩
 omega
theorem fits_ret (q : Int) (room : Int) (hq : 0 ≤ q ∧ q < 4611686018427387904) (hr : 60 ≤ room) : fitR room q = true := by
 unfold fitR fitsF
 have h1 : kindB (frId (25, q, 0, ⟨#[]⟩, ⟨#[]⟩)).1 = true := rfl
 have h2 : frId (25, q, 0, ⟨#[]⟩, ⟨#[]⟩) = onlyF (frId (25, q, 0, ⟨#[]⟩, ⟨#[]⟩)) := rfl
 have h3 : numsOk (frId (25, q, 0, ⟨#[]⟩, ⟨#[]⟩)) = true := by
  unfold numsOk frId
  simp
  omega
 have h4 : extraF (frId (25, q, 0, ⟨#[]⟩, ⟨#[]⟩)) = true := rfl
 have h5 : (frId (25, q, 0, ⟨#[]⟩, ⟨#[]⟩)).2.2.2.2.2.2.2.2.2.1.size ≤ 1200 := by show (0 : Nat) ≤ 1200; omega
 have h6 : putL (frId (25, q, 0, ⟨#[]⟩, ⟨#[]⟩)) = vbs [25] ++ vbs [q] := rfl
 have l1 := vbs_len [(25 : Int)]
 have l2 := vbs_len [q]
 simp only [List.length_cons, List.length_nil] at l1 l2
 simp only [mayFr, h1, h3, h4, Bool.true_and, Bool.and_true, h5, decide_true]
 rw [h6]
 simp only [List.length_append, Bool.and_eq_true, decide_eq_true_eq]
 refine ⟨h2, ?_⟩
 omega
section
variable {g : Nat → ByteArray} {seed side : Int}
theorem fill_con (hseed : InU seed) (s : StT Nat) (hside : s.2.1 = side) (h : OkS s) (many : Int) : ids_Fill (conG g seed side s) many = some (conG g seed side (fillId dr0 s many), ()) := by
 have h1 := h.l
 have h2 := h.p
 rw [fill_is _ _ hseed (by simp [conG, mapS]; omega) (by simp [conG, mapS]; omega)]
 have e : (conG g seed side s).2.1 = side := hside
 have e1 : (conG g seed side s).1 = seed := rfl
 rw [e, e1]
 unfold conG
 rw [fillId_map seed s many (fun j hj => dr0_is seed side j (by omega))]
theorem take_con (s : StT Nat) (h : OkS s) : ids_Take (conG g seed side s) = some (match takeP s with | some t => (conG g seed side t, 0, ()) | none => (conG g seed side s, 181, ())) := by
 have h1 := h.l
 have h2 := h.p
 have hn : nowI (conG g seed side s).2.2.2.2.1 (conG g seed side s).2.2.2.2.2.2.1 < (conG g seed side s).2.2.2.2.1.length := by
  have := h.now
  show nowI (s.2.2.2.2.1.map (mapG g)) s.2.2.2.2.2.2.1 < (s.2.2.2.2.1.map (mapG g)).length
  rw [nowI_map, List.length_map]
  exact this
 rw [take_is _ (by simp [conG, mapS]; omega) (by simp [conG, mapS]; omega) hn]
 have e := takeP_map (f := phi seed side) (h := g) seed s
 unfold conG
 rw [e]
 cases takeP s <;> rfl
theorem next_con (hz : g 0 = ⟨#[]⟩) (s : StT Nat) (h : OkS s) (room : Int) (hr : 60 ≤ room) : ids_Next (conG g seed side s) room =
  some (match nextP (fun _ => true) (fun _ => true) 0 s with | some x => (conG g seed side x.1, frId (mapF (phi seed side) (phi seed side) x.2), true, ()) | none => (conG g seed side s, noFr, false, ())) := by
 have h1 := h.l
 have h2 := h.p
 rw [next_is _ _ (by simp [conG, mapS]; omega) (by simp [conG, mapS]; omega) (fun o ho => ?_) (fun x hx => ?_)]
 ·
  have hz' : g 0 = phi seed side 0 := hz
  have key : nextP (fitR room) (fitO room) ⟨#[]⟩ (conG g seed side s) = (nextP (fun _ => true) (fun _ => true) 0 s).map fun x : StT Nat × FrT Nat => (conG g seed side x.1, mapF (phi seed side) (phi seed side) x.2) := by
   have e0 : (conG g seed side s).2.2.2.1 = s.2.2.2.1.map (mapO (phi seed side)) := rfl
   have e2 : (conG g seed side s).2.2.2.2.1 = s.2.2.2.2.1.map (mapG g) := rfl
   have i1 : (s.2.2.2.1.map (mapO (phi seed side))).findIdx todoO = s.2.2.2.1.findIdx todoO := findIdx_map' _ _ _
   have i2 : (s.2.2.2.2.1.map (mapG g)).findIdx todoG = s.2.2.2.2.1.findIdx todoG := findIdx_map' _ _ _
   have m1 : ∀ i, (s.2.2.2.1.map (mapO (phi seed side))).modify i toldO = (s.2.2.2.1.modify i toldO).map (mapO (phi seed side)) := fun i => modify_map' (mapO (phi seed side)) toldO toldO (fun _ => rfl) _ _
   have m2 : ∀ i, (s.2.2.2.2.1.map (mapG g)).modify i toldG = (s.2.2.2.2.1.modify i toldG).map (mapG g) := fun i => modify_map' (mapG g) toldG toldG (fun _ => rfl) _ _
   unfold nextP
   simp only [e0, e2, i1, i2, List.getElem?_map]
   have own : ∀ o, s.2.2.2.1[s.2.2.2.1.findIdx todoO]? = some o → fitO room (mapO (phi seed side) o) = true := by
    intro o ho
    have hm : o ∈ s.2.2.2.1 := List.mem_of_getElem? ho
    obtain ⟨hlt, he⟩ := List.getElem?_eq_some_iff.1 ho
    have ht : todoO o = true := by
     have := List.findIdx_getElem (p := todoO) (xs := s.2.2.2.1) (w := hlt)
     rw [he] at this
     exact this
    obtain ⟨⟨q0, q1⟩, hc⟩ := h.own o hm
    obtain ⟨c1, c2, c3, c4, c5⟩ := hc ht
    have s1 : (phi seed side o.2.1).size = 8 := by rw [phi_size, if_neg (by omega), if_neg (by omega), if_pos c1]
    have s2 : (phi seed side o.2.2.1).size = 16 := by rw [phi_size, if_neg (by omega), if_neg (by omega), if_neg (by omega)]
    exact fits_new o.1 _ _ room (by omega) s1 s2 hr
   cases hg : s.2.2.2.2.1[s.2.2.2.2.1.findIdx todoG]? with
   | some x =>
    have hm : x ∈ s.2.2.2.2.1 := List.mem_of_getElem? hg
    have hx := h.giv x hm
    simp only [Option.map_some]
    rw [show (mapG g x).1 = x.1 from rfl, fits_ret x.1 room (by omega) hr, if_pos rfl, m2]
    simp only [if_true]
    rfl
   | none =>
    simp only [Option.map_none]
    cases ho : s.2.2.2.1[s.2.2.2.1.findIdx todoO]? with
    | none => rfl
    | some o =>
     simp only [Option.map_some]
     rw [own o ho, if_pos rfl, m1]
     simp only [if_true]
     rfl
  rw [key]
  cases nextP (fun _ => true) (fun _ => true) 0 s <;> rfl
 ·
  obtain ⟨o', ho', rfl⟩ := List.mem_map.mp ho
  have := (h.own o' ho').1
  exact frOk_id _ (.inl rfl) (by simp only [mapO]; omega) (by simp only; omega)
 ·
  obtain ⟨x', hx', rfl⟩ := List.mem_map.mp hx
  have := h.giv x' hx'
  exact frOk_id _ (.inr rfl) (by simp only [mapG]; omega) (by simp only; omega)
theorem nowI_iff {α : Type} (l : List (GivT α)) (now : Int) : nowI l now < l.length ↔ ∃ g ∈ l, g.1 = now := by
 unfold nowI
 rw [List.findIdx_lt_length]
 simp
theorem putIn_mem {α : Type} (l : List (GivT α)) (q : Int) (c t : α) (x : GivT α) (hx : x ∈ l) : x ∈ putIn l q c t := by
 unfold putIn
 split
 · exact hx
 ·
  rw [← List.takeWhile_append_dropWhile (p := fun g => decide (g.1 < q)) (l := l)] at hx
  rcases List.mem_append.mp hx with h | h
  · exact List.mem_append_left _ h
  · exact List.mem_append_right _ (List.mem_cons_of_mem _ h)
theorem belowG_seq {α : Type} (p : Int) (g : GivT α) : (belowG p g).1 = g.1 := by
 unfold belowG retG
 split
 · split <;> rfl
 · rfl
theorem now_put {α : Type} (l : List (GivT α)) (q p now : Int) (c t : α) (h : nowI l now < l.length) : nowI ((putIn l q c t).map (belowG p)) now < (putIn l q c t).length := by
 obtain ⟨g, hg, e⟩ := (nowI_iff l now).mp h
 rw [← List.length_map (belowG p)]
 refine (nowI_iff _ _).mpr ⟨belowG p g, List.mem_map.mpr ⟨g, putIn_mem l q c t g hg, rfl⟩, ?_⟩
 rw [belowG_seq]
 exact e
theorem new_con (s : StT Nat) (h : OkS s) (q p : Int) (c t : Nat) (ha : Apart g s.2.2.2.2.1 q c t) : ids_On (conG g seed side s) (frId (24, q, p, g c, g t)) =
  some (match newP s q p c t with | some u => (conG g seed side u, 0, ()) | none => (conG g seed side s, 180, ())) := by
 have h1 := h.l
 have h2 := h.p
 have hn : nowI (conG g seed side s).2.2.2.2.1 (conG g seed side s).2.2.2.2.2.2.1 < (conG g seed side s).2.2.2.2.1.length := by
  have := h.now
  show nowI (s.2.2.2.2.1.map (mapG g)) s.2.2.2.2.2.2.1 < (s.2.2.2.2.1.map (mapG g)).length
  rw [nowI_map, List.length_map]
  exact this
 have hr : RisesG (conG g seed side s).2.2.2.2.1 := by
  show (s.2.2.2.2.1.map (mapG g)).Pairwise _
  rw [List.pairwise_map]
  exact h.rise
 rw [on_new _ _ rfl (by simp [conG, mapS]; omega) (by simp [conG, mapS]; omega) hr (now_put _ _ _ _ _ _ hn)]
 have e : newP (conG g seed side s) (frId (24, q, p, g c, g t)).2.2.2.2.2.1 (frId (24, q, p, g c, g t)).2.2.2.2.2.2.1 (frId (24, q, p, g c, g t)).2.2.2.2.2.2.2.2.2.2.1 (frId (24, q, p, g c, g t)).2.2.2.2.2.2.2.2.2.2.2.1 = (newP s q p c t).map (conG g seed side) := newP_map (f := phi seed side) (h := g) seed s q p c t ha
 rw [e]
 cases newP s q p c t <;> rfl
theorem ret_con (hseed : InU seed) (s : StT Nat) (hside : s.2.1 = side) (h : OkS s) (q : Int) (hq : 0 ≤ q) (c t : ByteArray) (p : Int) : ids_On (conG g seed side s) (frId (25, q, p, c, t)) =
  some (match retP dr0 s q with | some u => (conG g seed side u, 0, ()) | none => (conG g seed side s, 180, ())) := by
 have h1 := h.l
 have h2 := h.p
 rw [on_ret _ _ rfl hq hseed (by simp [conG, mapS]; omega) (by simp [conG, mapS]; omega)]
 have e : (conG g seed side s).2.1 = side := hside
 have e1 : (conG g seed side s).1 = seed := rfl
 rw [e, e1]
 have er : retP (drF seed side) (conG g seed side s) (frId (25, q, p, c, t)).2.2.2.2.2.1 = (retP dr0 s q).map (conG g seed side) := retP_map (f := phi seed side) (h := g) seed (dr := dr0) (dr' := drF seed side) s q (fun j hj => dr0_is seed side j (by omega))
 rw [er]
 cases retP dr0 s q <;> rfl
def cidP (s : StT Nat) : Nat := match s.2.2.2.2.1[nowI s.2.2.2.2.1 s.2.2.2.2.2.2.1]? with | some g => g.2.1 | none => 0
theorem cid_con (hz : g 0 = ⟨#[]⟩) (s : StT Nat) (h : OkS s) : ids_Cid (conG g seed side s) = some (g (cidP s), ()) := by
 have h2 := h.p
 rw [cid_is _ (by simp [conG, mapS]; omega)]
 show some (match (s.2.2.2.2.1.map (mapG g))[nowI (s.2.2.2.2.1.map (mapG g)) s.2.2.2.2.2.2.1]? with | some g => g.2.1 | none => ⟨#[]⟩, ()) = _
 rw [nowI_map, List.getElem?_map]
 unfold cidP
 cases s.2.2.2.2.1[nowI s.2.2.2.2.1 s.2.2.2.2.2.2.1]? with
 | none => simp [hz]
 | some _ => rfl
theorem is_con (hs : side = 0 ∨ side = 1) (s : StT Nat) (h : OkS s) (c : Nat) : ids_Is (conG g seed side s) (phi seed side c) = some (s.2.2.2.1.any (fun o => decide (o.2.1 = c) && !o.2.2.2.2.1), ()) := by
 have h1 := h.l
 rw [is_is _ _ (by simp [conG, mapS]; omega)]
 show some ((s.2.2.2.1.map (mapO (phi seed side))).any _, ()) = _
 rw [List.any_map]
 congr 3
 funext o
 simp only [Function.comp, goodO]
 congr 1
 exact decide_eq_decide.mpr ⟨fun e => phi_inj seed side hs _ _ e, fun e => congrArg (phi seed side) e⟩
end
theorem apart_phi (seed side : Int) (hs : side = 0 ∨ side = 1) (l : List (GivT Nat)) (q : Int) (c t : Nat) : Apart (phi seed side) l q c t :=
 fun _ _ => ⟨⟨fun e => phi_inj seed side hs _ _ e, fun e => congrArg (phi seed side) e⟩, fun _ => ⟨fun e => phi_inj seed side hs _ _ e, fun e => congrArg (phi seed side) e⟩⟩
end Go.Proofs.YtjlfmolfcgennaaDoor.V
namespace Go.Proofs.YtjlfmolfcgennaaDoor.V
open Go.RowKit Go.Proofs.Tryd
set_option maxRecDepth 100000
set_option linter.unusedVariables false
noncomputable def m_law18_shown : Mach prog Inv gInv := mach bas [(5, f5)] ⟨ok5, trivial⟩ [(6, c_ids_New), (7, c_ids_Cid), (8, c_ids_Fill), (9, c_ids_Take), (10, c_ids_Next), (13, c_ids_On), (14, c_ids_First), (15, c_ids_Is)] ⟨⟨c_ids_New_ok, FnOk.callable ok6⟩, ⟨c_ids_Cid_ok, FnOk.callable ok7⟩, ⟨c_ids_Fill_ok, FnOk.callable ok8⟩, ⟨c_ids_Take_ok, FnOk.callable ok9⟩, ⟨c_ids_Next_ok, FnOk.callable ok10⟩, ⟨c_ids_On_ok, FnOk.callable ok13⟩, ⟨c_ids_First_ok, FnOk.callable ok14⟩, ⟨c_ids_Is_ok, FnOk.callable ok15⟩, trivial⟩ [] trivial [] trivial
/-! ### domino/dominolaw18.shown -/
@[reducible] def r_law18_shown : List Ty := [.bool]
def ks_law18_shown : List Nat := [5]
noncomputable def b_law18_shown : Option (Bool × Unit) :=
 obind (ids_New (7 : Int) (0 : Int)) fun y0 =>
 obind (ids_Fill y0.1 (3 : Int)) fun y1 =>
 obind (ids_New (7 : Int) (1 : Int)) fun y2 =>
 obind (ids_Take y2.1) fun y3 =>
 obind (ids_Next y1.1 (100 : Int)) fun y4 =>
 let s5 : ByteArray := (ByteArray.mk (List.toArray ([] : List UInt8)))
 obind (ids_On y2.1 y4.2.1) fun y6 =>
 obind (ids_Take y6.1) fun y7 =>
 let s8 : ByteArray := (ByteArray.mk (List.toArray ([] : List UInt8)))
 obind (ids_On y6.1 ((25 : Int), ((0 : Int), ((0 : Int), ((0 : Int), ((0 : Int), ((1 : Int), ((0 : Int), ((0 : Int), (false, (s8, (s8, (s8, (([] : List D_ranges_Range), ())))))))))))))) fun y9 =>
 let b10 : Bool := (y3.2.1 == (181 : Int))
 bif b10 then
  bif y4.2.2.1 then
   let b11 : Bool := (y6.2.1 == (0 : Int))
   bif b11 then
    let b12 : Bool := (y7.2.1 == (0 : Int))
    bif b12 then
     let b13 : Bool := (y9.2.1 == (180 : Int))
     bif b13 then
      let b14 : Bool := (y4.2.1.2.2.2.2.2.1 == (1 : Int))
      bif b14 then
       obind (ids_Cid y6.1) fun y15 =>
       obind (ids_First (7 : Int) (0 : Int)) fun y16 =>
       let b17 : Bool := ((ByteArray.toList y15.1) == (ByteArray.toList y16.1))
       bif b17 then
        obind (ids_Cid y7.1) fun y18 =>
        let b19 : Bool := ((ByteArray.toList y18.1) == (ByteArray.toList y4.2.1.2.2.2.2.2.2.2.2.2.2.1))
        bif b19 then
         obind (ids_Is y4.1 y4.2.1.2.2.2.2.2.2.2.2.2.2.1) fun y20 =>
         bif y20.1 then
          let n21 : Int := (((List.length y4.1.2.2.2.1) : Nat) : Int)
          let b22 : Bool := (n21 == (3 : Int))
          some (b22, ())
         else
          some (false, ())
        else
         some (false, ())
       else
        some (false, ())
      else
       some (false, ())
     else
      some (false, ())
    else
     some (false, ())
   else
    some (false, ())
  else
   some (false, ())
 else
  some (false, ())
theorem ex_law18_shown : ∃ f, f = @b_law18_shown := ⟨_, rfl⟩
noncomputable def law18_shown := Classical.choose ex_law18_shown
theorem law18_shown_eq : @law18_shown = @b_law18_shown := Classical.choose_spec ex_law18_shown
noncomputable def cb_law18_shown : Con := ⟨[], r_law18_shown, fun x => b_law18_shown⟩
noncomputable def c_law18_shown : Con := ⟨[], r_law18_shown, fun x => law18_shown⟩
theorem cb_law18_shown_ok : cb_law18_shown.Sound prog Inv gInv 5 :=
 con_run (M := m_law18_shown) inv_g (f := f5) rfl ks_law18_shown 100000 (X := nowhere) (fun base S0 cs0 hn hf => OSound.nowhere) (by intro x; kernel_rfl)
theorem c_law18_shown_ok : c_law18_shown.Sound prog Inv gInv 5 := by
 have e : c_law18_shown = cb_law18_shown := by unfold c_law18_shown cb_law18_shown; rw [law18_shown_eq]
 rw [e]; exact cb_law18_shown_ok
end Go.Proofs.YtjlfmolfcgennaaDoor.V
namespace Go.Proofs.YtjlfmolfcgennaaDoor.V
open Go.RowKit
theorem phi_zero (seed side : Int) : phi seed side 0 = ⟨#[]⟩ := rfl
theorem shown18_is : law18_shown = some (true, ()) := by
 have hs : InU 7 := by unfold InU; omega
 have e1 : ids_New 7 0 = some (conG (phi 7 1) 7 0 (new0 0), ()) := new0_is 7
 have e3 : ids_New 7 1 = some (conG (phi 7 0) 7 1 (new0 1), ()) := new1_is 7
 have e2 : ids_Fill (conG (phi 7 1) 7 0 (new0 0)) 3 = some (conG (phi 7 1) 7 0 (0, 0, 3, [(0, 1, 0, false, false, ()), (1, 3, 4, true, false, ()), (2, 5, 6, true, false, ())], [(0, 1, 0, true, false, false, ())], 0, 0, ()), ()) := by
  rw [fill_con (side := 0) hs (new0 0) rfl (okS_is (by decide +kernel)) 3]
  rfl
 have e4 : ids_Take (conG (phi 7 0) 7 1 (new0 1)) = some (conG (phi 7 0) 7 1 (new0 1), 181, ()) := by
  rw [take_con (new0 1) (okS_is (by decide +kernel))]
  rfl
 have e5 : ids_Next (conG (phi 7 1) 7 0 (0, 0, 3, [(0, 1, 0, false, false, ()), (1, 3, 4, true, false, ()), (2, 5, 6, true, false, ())], [(0, 1, 0, true, false, false, ())], 0, 0, ())) 100 =
   some (conG (phi 7 1) 7 0 (0, 0, 3, [(0, 1, 0, false, false, ()), (1, 3, 4, false, false, ()), (2, 5, 6, true, false, ())], [(0, 1, 0, true, false, false, ())], 0, 0, ()), frId (24, 1, 0, phi 7 0 3, phi 7 0 4), true, ()) := by
  rw [next_con (phi_zero 7 1) _ (okS_is (by decide +kernel)) 100 (by omega)]
  rfl
 have e6 : ids_On (conG (phi 7 0) 7 1 (new0 1)) (frId (24, 1, 0, phi 7 0 3, phi 7 0 4)) = some (conG (phi 7 0) 7 1 (0, 1, 2, [(0, 1, 0, false, false, ())], [(0, 1, 0, true, false, false, ()), (1, 3, 4, false, false, false, ())], 0, 0, ()), 0, ()) := by
  rw [new_con (new0 1) (okS_is (by decide +kernel)) 1 0 3 4 (apart_phi 7 0 (.inl rfl) _ _ _ _)]
  have : newP (new0 1) 1 0 3 4 = some (0, 1, 2, [(0, 1, 0, false, false, ())], [(0, 1, 0, true, false, false, ()), (1, 3, 4, false, false, false, ())], 0, 0, ()) := rfl
  rw [this]
 have e7 : ids_Take (conG (phi 7 0) 7 1 (0, 1, 2, [(0, 1, 0, false, false, ())], [(0, 1, 0, true, false, false, ()), (1, 3, 4, false, false, false, ())], 0, 0, ())) =
   some (conG (phi 7 0) 7 1 (0, 1, 2, [(0, 1, 0, false, false, ())], [(0, 1, 0, true, true, true, ()), (1, 3, 4, true, false, false, ())], 0, 1, ()), 0, ()) := by
  rw [take_con _ (okS_is (by decide +kernel))]
  rfl
 have e8 : ids_On (conG (phi 7 0) 7 1 (0, 1, 2, [(0, 1, 0, false, false, ())], [(0, 1, 0, true, false, false, ()), (1, 3, 4, false, false, false, ())], 0, 0, ())) (frId (25, 1, 0, ⟨#[]⟩, ⟨#[]⟩)) =
   some (conG (phi 7 0) 7 1 (0, 1, 2, [(0, 1, 0, false, false, ())], [(0, 1, 0, true, false, false, ()), (1, 3, 4, false, false, false, ())], 0, 0, ()), 180, ()) := by
  rw [ret_con (side := 1) hs (0, 1, 2, [(0, 1, 0, false, false, ())], [(0, 1, 0, true, false, false, ()), (1, 3, 4, false, false, false, ())], 0, 0, ()) rfl (okS_is (by decide +kernel)) 1 (by omega)]
  rfl
 have e9 : ids_Cid (conG (phi 7 0) 7 1 (0, 1, 2, [(0, 1, 0, false, false, ())], [(0, 1, 0, true, false, false, ()), (1, 3, 4, false, false, false, ())], 0, 0, ())) = some (phi 7 0 1, ()) := by
  rw [cid_con (phi_zero 7 0) _ (okS_is (by decide +kernel))]
  rfl
 have e10 : ids_Cid (conG (phi 7 0) 7 1 (0, 1, 2, [(0, 1, 0, false, false, ())], [(0, 1, 0, true, true, true, ()), (1, 3, 4, true, false, false, ())], 0, 1, ())) = some (phi 7 0 3, ()) := by
  rw [cid_con (phi_zero 7 0) _ (okS_is (by decide +kernel))]
  rfl
 have e11 : ids_Is (conG (phi 7 1) 7 0 (0, 0, 3, [(0, 1, 0, false, false, ()), (1, 3, 4, false, false, ()), (2, 5, 6, true, false, ())], [(0, 1, 0, true, false, false, ())], 0, 0, ())) (phi 7 0 3) = some (true, ()) := by
  rw [is_con (.inl rfl) _ (okS_is (by decide +kernel))]
  rfl
 have e12 : ids_First 7 0 = some (phi 7 0 1, ()) := first_is 7 0
 have l1 : (conG (phi 7 1) 7 0 (0, 0, 3, [(0, 1, 0, false, false, ()), (1, 3, 4, false, false, ()), (2, 5, 6, true, false, ())], [(0, 1, 0, true, false, false, ())], 0, 0, ())).2.2.2.1.length = 3 := rfl
 have f8 : ((25, 0, 0, 0, 0, 1, 0, 0, false, ⟨#[]⟩, ⟨#[]⟩, ⟨#[]⟩, [], ()) : D_frame_Frame) = frId (25, 1, 0, ⟨#[]⟩, ⟨#[]⟩) := rfl
 have c1 : (frId (24, 1, 0, phi 7 0 3, phi 7 0 4)).2.2.2.2.2.1 = 1 := rfl
 have c2 : (frId (24, 1, 0, phi 7 0 3, phi 7 0 4)).2.2.2.2.2.2.2.2.2.2.1 = phi 7 0 3 := rfl
 have f9 : (ByteArray.mk (List.toArray ([] : List UInt8))) = ⟨#[]⟩ := rfl
 rw [law18_shown_eq, b_law18_shown]
 simp only [f8, e1, e2, e3, e4, e5, e6, e7, e8, e9, e10, obind_some, c1, c2, e11, e12, l1, toList_beq, decide_true, beq_self_eq_true, cond_true]
 rfl
section
variable {α : Type}
def ExtG (l l' : List (GivT α)) : Prop := ∀ g ∈ l, ∃ g' ∈ l', g'.1 = g.1 ∧ g'.2.1 = g.2.1 ∧ (g.2.2.2.2.1 = true → g'.2.2.2.2.1 = true)
theorem ExtG.refl (l : List (GivT α)) : ExtG l l := fun g h => ⟨g, h, rfl, rfl, id⟩
theorem ExtG.trans {a b c : List (GivT α)} (h : ExtG a b) (k : ExtG b c) : ExtG a c := fun g hg => by
 obtain ⟨g1, h1, h2, h3, h4⟩ := h g hg
 obtain ⟨g2, k1, k2, k3, k4⟩ := k g1 h1
 exact ⟨g2, k1, k2.trans h2, k3.trans h3, fun e => k4 (h4 e)⟩
def KeepsG (f : GivT α → GivT α) : Prop := ∀ g, (f g).1 = g.1 ∧ (f g).2.1 = g.2.1 ∧ (g.2.2.2.2.1 = true → (f g).2.2.2.2.1 = true)
theorem keeps_use : KeepsG (useG (α := α)) := fun _ => ⟨rfl, rfl, id⟩
theorem keeps_told : KeepsG (toldG (α := α)) := fun _ => ⟨rfl, rfl, id⟩
theorem keeps_ret : KeepsG (retG (α := α)) := fun g => by
 unfold retG
 split
 · exact ⟨rfl, rfl, id⟩
 · exact ⟨rfl, rfl, fun _ => rfl⟩
theorem keeps_below (p : Int) : KeepsG (belowG (α := α) p) := fun g => by
 unfold belowG
 split
 · exact keeps_ret g
 · exact ⟨rfl, rfl, id⟩
def keysG (l : List (GivT α)) : List (Int × α) := l.map fun g => (g.1, g.2.1)
theorem keys_modify {f : GivT α → GivT α} (hf : KeepsG f) : ∀ (l : List (GivT α)) (i : Nat), keysG (l.modify i f) = keysG l
 | [], i => by cases i <;> rfl
 | g :: l, 0 => by
  show (_, _) :: _ = (_, _) :: _
  rw [(hf g).1, (hf g).2.1]
 | g :: l, i + 1 => by
  show (g.1, g.2.1) :: keysG (l.modify i f) = (g.1, g.2.1) :: keysG l
  rw [keys_modify hf l i]
theorem keys_map {f : GivT α → GivT α} (hf : KeepsG f) : ∀ (l : List (GivT α)), keysG (l.map f) = keysG l
 | [] => rfl
 | g :: l => by
  show (_, _) :: keysG (l.map f) = (_, _) :: keysG l
  rw [(hf g).1, (hf g).2.1, keys_map hf l]
theorem ext_modify {f : GivT α → GivT α} (hf : KeepsG f) : ∀ (l : List (GivT α)) (i : Nat), ExtG l (l.modify i f)
 | [], _ => fun g h => by cases h
 | x :: l, 0 => fun g h => by
  rcases List.mem_cons.mp h with rfl | h
  · exact ⟨f g, List.mem_cons_self, hf g⟩
  · exact ⟨g, List.mem_cons_of_mem _ h, rfl, rfl, id⟩
 | x :: l, i + 1 => fun g h => by
  rcases List.mem_cons.mp h with rfl | h
  · exact ⟨g, List.mem_cons_self, rfl, rfl, id⟩
  ·
   obtain ⟨g', h1, h2⟩ := ext_modify hf l i g h
   exact ⟨g', List.mem_cons_of_mem _ h1, h2⟩
theorem ext_map {f : GivT α → GivT α} (hf : KeepsG f) (l : List (GivT α)) : ExtG l (l.map f) := fun g h => ⟨f g, List.mem_map_of_mem h, hf g⟩
theorem ext_put (l : List (GivT α)) (q : Int) (c t : α) : ExtG l (putIn l q c t) := fun g h => ⟨g, putIn_mem l q c t g h, rfl, rfl, id⟩
structure KeysOk (l : List (GivT α)) : Prop where
 rise : (keysG l).Pairwise fun a b => a.1 < b.1
 apart : (keysG l).Pairwise fun a b => a.2 ≠ b.2
theorem KeysOk.of_eq {l l' : List (GivT α)} (h : KeysOk l) (e : keysG l' = keysG l) : KeysOk l' := ⟨e ▸ h.rise, e ▸ h.apart⟩
theorem pair_one {β : Type} {R : β → β → Prop} : ∀ {l : List β}, l.Pairwise R → ∀ {i j : Nat} (hi : i < l.length) (hj : j < l.length), i < j → R l[i] l[j]
 | _, h, i, j, hi, hj, hij => List.pairwise_iff_getElem.mp h i j hi hj hij
theorem KeysOk.seq_one {l : List (GivT α)} (h : KeysOk l) {a b : GivT α} (ha : a ∈ l) (hb : b ∈ l) (e : a.1 = b.1) : a = b := by
 obtain ⟨i, hi, rfl⟩ := List.getElem_of_mem ha
 obtain ⟨j, hj, rfl⟩ := List.getElem_of_mem hb
 have key : ∀ {i j : Nat} (hi : i < l.length) (hj : j < l.length), i < j → l[i].1 < l[j].1 := fun {i j} hi hj hij => by
  have := pair_one h.rise (i := i) (j := j) (by simpa [keysG] using hi) (by simpa [keysG] using hj) hij
  simpa [keysG] using this
 rcases Nat.lt_trichotomy i j with hij | rfl | hij
 · have := key hi hj hij; omega
 · rfl
 · have := key hj hi hij; omega
theorem KeysOk.cid_one {l : List (GivT α)} (h : KeysOk l) {a b : GivT α} (ha : a ∈ l) (hb : b ∈ l) (e : a.2.1 = b.2.1) : a = b := by
 obtain ⟨i, hi, rfl⟩ := List.getElem_of_mem ha
 obtain ⟨j, hj, rfl⟩ := List.getElem_of_mem hb
 have key : ∀ {i j : Nat} (hi : i < l.length) (hj : j < l.length), i < j → l[i].2.1 ≠ l[j].2.1 := fun {i j} hi hj hij => by
  have := pair_one h.apart (i := i) (j := j) (by simpa [keysG] using hi) (by simpa [keysG] using hj) hij
  simpa [keysG] using this
 rcases Nat.lt_trichotomy i j with hij | rfl | hij
 · exact absurd e (key hi hj hij)
 · rfl
 · exact absurd e.symm (key hj hi hij)
def NowOk (l : List (GivT α)) (now : Int) : Prop := ∃ g ∈ l, g.1 = now ∧ g.2.2.2.1 = true ∧ g.2.2.2.2.1 = false
structure Step1 (l : List (GivT α)) (now : Int) (l' : List (GivT α)) (now' : Int) : Prop where
 ext : ExtG l l'
 keys : KeysOk l'
 ok : NowOk l' now'
 left : now' ≠ now → ∃ g ∈ l', g.1 = now ∧ g.2.2.2.2.1 = true
theorem mem_modify_ne {f : GivT α → GivT α} {l : List (GivT α)} {i j : Nat} (hj : j < l.length) (h : i ≠ j) : l[j] ∈ l.modify i f := by
 have hj' : j < (l.modify i f).length := by simpa using hj
 have := List.getElem_mem hj'
 rwa [List.getElem_modify, if_neg h] at this
theorem mem_modify_eq {f : GivT α → GivT α} {l : List (GivT α)} {i : Nat} (hi : i < l.length) : f l[i] ∈ l.modify i f := by
 have hi' : i < (l.modify i f).length := by simpa using hi
 have := List.getElem_mem hi'
 rwa [List.getElem_modify, if_pos rfl] at this
theorem nowI_at {l : List (GivT α)} {now : Int} (h : nowI l now < l.length) : l[nowI l now].1 = now := by
 exact eq_of_beq (List.findIdx_getElem (p := fun g : GivT α => g.1 == now) (xs := l) (w := h))
theorem freshI_at {l : List (GivT α)} (h : l.findIdx isFresh < l.length) : l[l.findIdx isFresh].2.2.2.1 = false ∧ l[l.findIdx isFresh].2.2.2.2.1 = false := by
 have := List.findIdx_getElem (p := isFresh) (xs := l) (w := h)
 revert this
 generalize l[l.findIdx isFresh] = g
 intro this
 simpa [isFresh] using this
theorem moveP_some {l l' : List (GivT α)} {now : Int} (h : moveP l = some (l', now)) : ∃ hi : l.findIdx isFresh < l.length, l' = l.modify (l.findIdx isFresh) useG ∧ now = l[l.findIdx isFresh].1 := by
 unfold moveP at h
 by_cases hi : l.findIdx isFresh < l.length
 ·
  rw [List.getElem?_eq_getElem hi] at h
  simp only [Option.some.injEq, Prod.mk.injEq] at h
  exact ⟨hi, h.1.symm, h.2.symm⟩
 ·
  rw [List.getElem?_eq_none (Nat.not_lt.mp hi)] at h
  cases h
theorem take_step {s t : StT α} (hk : KeysOk s.2.2.2.2.1) (hn : NowOk s.2.2.2.2.1 s.2.2.2.2.2.2.1) (h : takeP s = some t) : Step1 s.2.2.2.2.1 s.2.2.2.2.2.2.1 t.2.2.2.2.1 t.2.2.2.2.2.2.1 ∧ t.2.2.2.1 = s.2.2.2.1 ∧ t.1 = s.1 ∧ t.2.1 = s.2.1 ∧ t.2.2.2.2.1.length = s.2.2.2.2.1.length := by
 unfold takeP at h
 cases hm : moveP s.2.2.2.2.1 with
 | none => rw [hm] at h; cases h
 | some x =>
  obtain ⟨l, now⟩ := x
  rw [hm] at h
  simp only [Option.some.injEq] at h
  subst h
  obtain ⟨hi, rfl, rfl⟩ := moveP_some hm
  obtain ⟨u1, u2⟩ := freshI_at hi
  obtain ⟨g, hg, g1, g2, g3⟩ := hn
  have hI : nowI s.2.2.2.2.1 s.2.2.2.2.2.2.1 < s.2.2.2.2.1.length := (nowI_iff _ _).mpr ⟨g, hg, g1⟩
  have hIn := nowI_at hI
  have hgI : s.2.2.2.2.1[nowI s.2.2.2.2.1 s.2.2.2.2.2.2.1] = g := hk.seq_one (List.getElem_mem hI) hg (hIn.trans g1.symm)
  have hne : nowI s.2.2.2.2.1 s.2.2.2.2.2.2.1 ≠ s.2.2.2.2.1.findIdx isFresh := by
   intro e
   have : s.2.2.2.2.1[s.2.2.2.2.1.findIdx isFresh] = g := by
    rw [← hgI]; congr 1; exact e.symm
   rw [this] at u1
   rw [u1] at g2
   cases g2
  refine ⟨⟨(ext_modify keeps_use _ _).trans (ext_modify keeps_ret _ _), (hk.of_eq (keys_modify keeps_use _ _)).of_eq (keys_modify keeps_ret _ _), ?_, fun _ => ?_⟩, rfl, rfl, rfl, by simp⟩
  ·
   have h1 : s.2.2.2.2.1.findIdx isFresh < (s.2.2.2.2.1.modify (s.2.2.2.2.1.findIdx isFresh) useG).length := by simpa using hi
   have h2 := mem_modify_ne (f := retG) (i := nowI s.2.2.2.2.1 s.2.2.2.2.2.2.1) h1 hne
   rw [List.getElem_modify, if_pos rfl] at h2
   exact ⟨_, h2, rfl, rfl, u2⟩
  ·
   have h1 : nowI s.2.2.2.2.1 s.2.2.2.2.2.2.1 < (s.2.2.2.2.1.modify (s.2.2.2.2.1.findIdx isFresh) useG).length := by simpa using hI
   have h2 := mem_modify_eq (f := retG) h1
   refine ⟨_, h2, ?_, ?_⟩
   ·
    rw [(keeps_ret _).1, List.getElem_modify, if_neg (fun e => hne e.symm)]
    exact hIn
   ·
    unfold retG
    split
    · assumption
    · rfl
theorem put_keys [DecidableEq α] {l : List (GivT α)} {q : Int} {c t : α} (hk : KeysOk l) (hc : clash l q c t = false) : KeysOk (putIn l q c t) := by
 unfold putIn
 split
 · exact hk
 ·
  rename_i hany
  have hnq : ∀ g ∈ l, g.1 ≠ q := fun g hg e => hany (List.any_eq_true.mpr ⟨g, hg, by simp [e]⟩)
  have hnc : ∀ g ∈ l, g.2.1 ≠ c := fun g hg e => by
   unfold clash at hc
   have := List.any_eq_false.mp hc g hg
   simp [hnq g hg, e] at this
  have happ : ∀ R : (Int × α) → (Int × α) → Prop, (keysG l).Pairwise R → (∀ g ∈ l.takeWhile (fun g => decide (g.1 < q)), R (g.1, g.2.1) (q, c)) → (∀ g ∈ l.dropWhile (fun g => decide (g.1 < q)), R (q, c) (g.1, g.2.1)) →
    (keysG (l.takeWhile (fun g => decide (g.1 < q)) ++ (q, c, t, false, false, false, ()) :: l.dropWhile (fun g => decide (g.1 < q)))).Pairwise R := by
   intro R hp h1 h2
   have hsplit : keysG l = keysG (l.takeWhile (fun g => decide (g.1 < q))) ++ keysG (l.dropWhile (fun g => decide (g.1 < q))) := by
    unfold keysG
    rw [← List.map_append, List.takeWhile_append_dropWhile]
   rw [hsplit, List.pairwise_append] at hp
   obtain ⟨p1, p2, p3⟩ := hp
   unfold keysG at p1 p2 p3 ⊢
   rw [List.map_append, List.map_cons, List.pairwise_append]
   refine ⟨p1, List.pairwise_cons.mpr ⟨?_, p2⟩, ?_⟩
   ·
    intro a ha
    obtain ⟨g, hg, rfl⟩ := List.mem_map.mp ha
    exact h2 g hg
   ·
    intro a ha b hb
    rcases List.mem_cons.mp hb with rfl | hb
    ·
     obtain ⟨g, hg, rfl⟩ := List.mem_map.mp ha
     exact h1 g hg
    · exact p3 a ha b hb
  have hr : (l.map (·.1)).Pairwise (· < ·) := by
   have := hk.rise
   unfold keysG at this
   rw [List.pairwise_map] at this ⊢
   exact this
  refine ⟨happ _ hk.rise ?_ ?_, happ _ hk.apart ?_ ?_⟩
  ·
   intro g hg
   have := List.all_eq_true.mp (List.all_takeWhile (p := fun g : GivT α => decide (g.1 < q)) (l := l)) g hg
   simpa using this
  ·
   intro g hg
   have hrl : l.Pairwise fun a b => a.1 < b.1 := by rw [List.pairwise_map] at hr; exact hr
   have key : ∀ (l : List (GivT α)), (l.Pairwise fun a b => a.1 < b.1) → (∀ g ∈ l, g.1 ≠ q) → ∀ g ∈ l.dropWhile (fun g => decide (g.1 < q)), q < g.1 := by
    intro l
    induction l with
    | nil => intro _ _ g hg; cases hg
    | cons x l ih =>
     intro hp hq g hg
     rw [List.dropWhile_cons] at hg
     rw [List.pairwise_cons] at hp
     split at hg
     · exact ih hp.2 (fun g hg => hq g (List.mem_cons_of_mem _ hg)) g hg
     ·
      rename_i hx
      have hx' : q < x.1 := by
       have := hq x List.mem_cons_self
       simp at hx
       omega
      rcases List.mem_cons.mp hg with rfl | hg
      · exact hx'
      · exact Int.lt_trans hx' (hp.1 g hg)
   exact key l hrl hnq g hg
  ·
   intro g hg
   exact hnc g ((List.takeWhile_sublist _).subset hg)
  ·
   intro g hg
   exact fun e => hnc g ((List.dropWhile_sublist _).subset hg) e.symm
theorem putIn_len (l : List (GivT α)) (q : Int) (c t : α) : (putIn l q c t).length ≤ l.length + 1 := by
 unfold putIn
 split
 · omega
 ·
  have key : ∀ (A B : List (GivT α)) (x : GivT α), A ++ B = l → (A ++ x :: B).length ≤ l.length + 1 := by
   rintro A B x rfl
   simp
   omega
  exact key _ _ _ List.takeWhile_append_dropWhile
theorem putIn_seq (l : List (GivT α)) (q : Int) (c t : α) : ∀ g ∈ putIn l q c t, g ∈ l ∨ g.1 = q := by
 unfold putIn
 split
 · exact fun g h => .inl h
 ·
  intro g h
  rcases List.mem_append.mp h with h | h
  · exact .inl ((List.takeWhile_sublist _).subset h)
  ·
   rcases List.mem_cons.mp h with rfl | h
   · exact .inr rfl
   · exact .inl ((List.dropWhile_sublist _).subset h)
theorem new_step [DecidableEq α] {s t : StT α} {q p : Int} {c k : α} (hk : KeysOk s.2.2.2.2.1) (hn : NowOk s.2.2.2.2.1 s.2.2.2.2.2.2.1) (h : newP s q p c k = some t) :
  Step1 s.2.2.2.2.1 s.2.2.2.2.2.2.1 t.2.2.2.2.1 t.2.2.2.2.2.2.1 ∧ t.2.2.2.1 = s.2.2.2.1 ∧ t.1 = s.1 ∧ t.2.1 = s.2.1 ∧ t.2.2.2.2.1.length ≤ s.2.2.2.2.1.length + 1 ∧ keysG t.2.2.2.2.1 = keysG (putIn s.2.2.2.2.1 q c k) := by
 unfold newP at h
 cases hc : clash s.2.2.2.2.1 q c k with
 | true => rw [hc] at h; simp at h
 | false =>
  rw [hc] at h
  simp only [Bool.false_eq_true, if_false] at h
  have hkp := put_keys hk hc
  have hkm : KeysOk ((putIn s.2.2.2.2.1 q c k).map (belowG (max s.2.2.2.2.2.1 p))) := hkp.of_eq (keys_map (keeps_below _) _)
  have hke : keysG ((putIn s.2.2.2.2.1 q c k).map (belowG (max s.2.2.2.2.2.1 p))) = keysG (putIn s.2.2.2.2.1 q c k) := keys_map (keeps_below _) _
  have hext : ExtG s.2.2.2.2.1 ((putIn s.2.2.2.2.1 q c k).map (belowG (max s.2.2.2.2.2.1 p))) := (ext_put _ _ _ _).trans (ext_map (keeps_below _) _)
  obtain ⟨g, hg, g1, g2, g3⟩ := hn
  have hgm : belowG (max s.2.2.2.2.2.1 p) g ∈ (putIn s.2.2.2.2.1 q c k).map (belowG (max s.2.2.2.2.2.1 p)) := List.mem_map_of_mem (putIn_mem _ _ _ _ _ hg)
  have hlen : ((putIn s.2.2.2.2.1 q c k).map (belowG (max s.2.2.2.2.2.1 p))).length ≤ s.2.2.2.2.1.length + 1 := by
   rw [List.length_map]; exact putIn_len _ _ _ _
  generalize hL : (putIn s.2.2.2.2.1 q c k).map (belowG (max s.2.2.2.2.2.1 p)) = L at *
  have hgu : (belowG (max s.2.2.2.2.2.1 p) g).2.2.2.1 = true := by
   unfold belowG retG
   repeat' split
   all_goals exact g2
  have hgs : (belowG (max s.2.2.2.2.2.1 p) g).1 = s.2.2.2.2.2.2.1 := ((keeps_below _ g).1).trans g1
  generalize belowG (max s.2.2.2.2.2.1 p) g = g' at *
  have hI : nowI L s.2.2.2.2.2.2.1 < L.length := (nowI_iff _ _).mpr ⟨g', hgm, hgs⟩
  have hgI : L[nowI L s.2.2.2.2.2.2.1] = g' := hkm.seq_one (List.getElem_mem hI) hgm ((nowI_at hI).trans hgs.symm)
  unfold stepG at h
  rw [List.getElem?_eq_getElem hI, hgI] at h
  simp only at h
  cases hgg : g'.2.2.2.2.1 with
  | false =>
   rw [hgg] at h
   simp only [Bool.false_eq_true, if_false] at h
   split at h
   ·
    simp only [Option.some.injEq] at h
    subst h
    exact ⟨⟨hext, hkm, ⟨g', hgm, hgs, hgu, hgg⟩, fun e => absurd rfl e⟩, rfl, rfl, rfl, hlen, hke⟩
   · cases h
  | true =>
   rw [hgg] at h
   simp only [if_true] at h
   cases hm : moveP L with
   | none => rw [hm] at h; cases h
   | some x =>
    obtain ⟨l, now⟩ := x
    rw [hm] at h
    simp only at h
    split at h
    ·
     simp only [Option.some.injEq] at h
     subst h
     obtain ⟨hi, rfl, rfl⟩ := moveP_some hm
     obtain ⟨u1, u2⟩ := freshI_at hi
     refine ⟨⟨hext.trans (ext_modify keeps_use _ _), hkm.of_eq (keys_modify keeps_use _ _), ⟨_, mem_modify_eq hi, rfl, rfl, u2⟩, fun _ => ?_⟩, rfl, rfl, rfl, by simpa using hlen, (keys_modify keeps_use _ _).trans hke⟩
     obtain ⟨g'', k1, k2, _, k4⟩ := ext_modify (f := useG) keeps_use L (L.findIdx isFresh) g' hgm
     exact ⟨g'', k1, k2.trans hgs, k4 hgg⟩
    · cases h
theorem next_step {fr : Int → Bool} {fo : OwnT α → Bool} {z : α} {s : StT α} {x : StT α × FrT α} (hk : KeysOk s.2.2.2.2.1) (hn : NowOk s.2.2.2.2.1 s.2.2.2.2.2.2.1) (h : nextP fr fo z s = some x) :
  Step1 s.2.2.2.2.1 s.2.2.2.2.2.2.1 x.1.2.2.2.2.1 x.1.2.2.2.2.2.2.1 ∧ (x.1.2.2.2.1 = s.2.2.2.1 ∨ ∃ i, x.1.2.2.2.1 = s.2.2.2.1.modify i toldO) ∧ x.1.1 = s.1 ∧ x.1.2.1 = s.2.1 ∧ keysG x.1.2.2.2.2.1 = keysG s.2.2.2.2.1 := by
 have same : Step1 s.2.2.2.2.1 s.2.2.2.2.2.2.1 s.2.2.2.2.1 s.2.2.2.2.2.2.1 := ⟨ExtG.refl _, hk, hn, fun e => absurd rfl e⟩
 have rest : ∀ x : StT α × FrT α, (match s.2.2.2.1[s.2.2.2.1.findIdx todoO]? with
   | some o => if fo o then some (setL s (s.2.2.2.1.modify (s.2.2.2.1.findIdx todoO) toldO), 24, o.1, 0, o.2.1, o.2.2.1) else none
   | none => (none : Option (StT α × FrT α))) = some x → Step1 s.2.2.2.2.1 s.2.2.2.2.2.2.1 x.1.2.2.2.2.1 x.1.2.2.2.2.2.2.1 ∧ (x.1.2.2.2.1 = s.2.2.2.1 ∨ ∃ i, x.1.2.2.2.1 = s.2.2.2.1.modify i toldO) ∧ x.1.1 = s.1 ∧ x.1.2.1 = s.2.1 ∧ keysG x.1.2.2.2.2.1 = keysG s.2.2.2.2.1 := by
  intro x h
  split at h
  ·
   split at h
   ·
    simp only [Option.some.injEq] at h
    subst h
    exact ⟨same, .inr ⟨_, rfl⟩, rfl, rfl, rfl⟩
   · cases h
  · cases h
 unfold nextP at h
 simp only at h
 split at h
 ·
  split at h
  ·
   simp only [Option.some.injEq] at h
   subst h
   refine ⟨⟨ext_modify keeps_told _ _, hk.of_eq (keys_modify keeps_told _ _), ?_, fun e => absurd rfl e⟩, .inl rfl, rfl, rfl, keys_modify keeps_told _ _⟩
   obtain ⟨g, hg, g1, g2, g3⟩ := hn
   obtain ⟨j, hj, rfl⟩ := List.getElem_of_mem hg
   by_cases e : s.2.2.2.2.1.findIdx todoG = j
   ·
    subst e
    exact ⟨_, mem_modify_eq hj, g1, g2, g3⟩
   · exact ⟨_, mem_modify_ne hj e, g1, g2, g3⟩
  · exact rest x h
 · exact rest x h
end
def Byt (l : List Int) : Prop := ∀ x ∈ l, 0 ≤ x ∧ x ≤ 255
theorem Byt.app {a b : List Int} : Byt (a ++ b) ↔ Byt a ∧ Byt b := by
 simp only [Byt, List.mem_append]
 exact ⟨fun h => ⟨fun x hx => h x (.inl hx), fun x hx => h x (.inr hx)⟩, fun h x hx => hx.elim (h.1 x) (h.2 x)⟩
theorem Byt.cons {a : Int} {b : List Int} : Byt (a :: b) ↔ (0 ≤ a ∧ a ≤ 255) ∧ Byt b := by simp [Byt]
theorem Byt.nil : Byt [] := by simp [Byt]
abbrev eB : ByteArray := ⟨#[]⟩
theorem strBytes_bs {l : List Int} (h : Byt l) : strBytes (bytesStr l) = l := strBytes_bytesStr h
theorem frok_of_wf {f : D_frame_Frame} (h : Wf T_frame_Frame f) : FrOk f := by
 obtain ⟨k, id, off, mx, code, seq, prior, delay, fin, data, cid, tok, set, ⟨⟩⟩ := f
 obtain ⟨h1, h2, h3, h4, h5, h6, h7, h8, _, _, _, _, ⟨h9, h10⟩, _⟩ := h
 have w : ∀ {n : Int}, (Lit.int .u64 n).wf = true → 0 ≤ n ∧ n < 18446744073709551616 := fun h => by have := wf_u64 h; omega
 refine ⟨w h1, w h2, w h3, w h4, w h5, w h6, w h7, w h8, fun r hr => ?_, h9⟩
 obtain ⟨g1, g2, _⟩ := h10 r hr
 exact ⟨w g1, w g2⟩
end Go.Proofs.YtjlfmolfcgennaaDoor.V
namespace Go.Proofs.YtjlfmolfcgennaaDoor.V
open Go.RowKit Go.Proofs.Tryd
set_option maxRecDepth 100000
set_option linter.unusedVariables false
noncomputable def m_ref06_in : Mach prog Inv gInv := mach bas [(27, f27)] ⟨ok27, trivial⟩ [] trivial [] trivial [] trivial
/-! ### domino/dominoref06.in -/
@[reducible] def r_ref06_in : List Ty := [.bool]
def ks_ref06_in : List Nat := [27]
abbrev H_ref06_in (base : Base) (S0 : Nat → Prop) := base.n = 0 ∧ FinOk (finR r_ref06_in) base S0 (Post r_ref06_in S0)
abbrev J_ref06_in (base : Base) (S0 : Nat → Prop) (cs0 : List Go.Frame) (p : CPat) (J : denC p → Option (denL r_ref06_in)) := JSound m_ref06_in base S0 cs0 (Post r_ref06_in S0) p J
abbrev O_ref06_in (base : Base) (S0 : Nat → Prop) (cs0 : List Go.Frame) (X : Cfg → Option (Option (denL r_ref06_in))) := OSound m_ref06_in base S0 cs0 (Post r_ref06_in S0) X
@[reducible] noncomputable def p_ref06_in_0 : CPat := ⟨⟨27, [1, 0, 1, 0], none, [.str, .int .u8, .any, .any, .any, .int .i64], 11⟩, [], [], 0⟩
@[reducible] noncomputable def u_ref06_in_0 (k : ByteArray → Int → Int → Option (Bool × Unit)) : denC p_ref06_in_0 → Option (Bool × Unit) := fun x => k x.1.1 x.1.2.1 x.1.2.2.2.2.2.1
noncomputable def t_ref06_in_0 (k0 : ByteArray → Int → Int → Option (Bool × Unit)) (s8 : ByteArray) (i9 : Int) (i10 : Int) : Option (Bool × Unit) :=
 let n11 : Int := (((ByteArray.size s8) : Nat) : Int)
 let b12 : Bool := (decide (i10 < n11))
 bif b12 then
  bif (decide (((0 : Int) ≤ i10) ∧ (i10 < (((ByteArray.size s8) : Nat) : Int)))) then
   let n13 : Int := (byteAt s8 i10)
   let b14 : Bool := (n13 == i9)
   bif b14 then
    some (true, ())
   else
    let n15 : Int := (Go.IntKind.wrap Go.IntKind.i64 (i10 + (1 : Int)))
    k0 s8 i9 n15
  else none
 else
  some (false, ())
noncomputable def ref06_in_0 : Nat → ByteArray → Int → Int → Option (Bool × Unit)
 | 0 => fun _ _ _ => none
 | m + 1 => t_ref06_in_0 (ref06_in_0 m)
noncomputable def b_ref06_in_0' (s8 : ByteArray) (i9 : Int) (i10 : Int) : Option (Bool × Unit) := ref06_in_0 (Int.toNat ((((ByteArray.size s8) : Nat) : Int) - i10) + 2) s8 i9 i10
theorem ex_ref06_in_0' : ∃ f, f = @b_ref06_in_0' := ⟨_, rfl⟩
noncomputable def ref06_in_0' := Classical.choose ex_ref06_in_0'
theorem ref06_in_0'_eq : @ref06_in_0' = @b_ref06_in_0' := Classical.choose_spec ex_ref06_in_0'
theorem s_ref06_in_0 {base S0 cs0} (hfin : H_ref06_in base S0) : ∀ m, J_ref06_in base S0 cs0 p_ref06_in_0 (u_ref06_in_0 (ref06_in_0 m)) :=
 JSound.loop' hfin.2 ks_ref06_in 100000 u_ref06_in_0 (fun k0 => cut p_ref06_in_0 (u_ref06_in_0 k0) (nowhere)) (fun k0 h0 => OSound.cut (OSound.nowhere) (Nat.le_of_eq hfin.1) h0) (ref06_in_0) (by intro x; rfl) (by intro m x; kernel_rfl)
theorem s_ref06_in_0' {base S0 cs0} (hfin : H_ref06_in base S0) : J_ref06_in base S0 cs0 p_ref06_in_0 (u_ref06_in_0 (ref06_in_0')) := by
 rw [ref06_in_0'_eq]; exact fun x r hx => s_ref06_in_0 hfin _ x r hx
noncomputable def x_ref06_in_0 : Cfg → Option (Option (Bool × Unit)) := cut p_ref06_in_0 (u_ref06_in_0 (ref06_in_0')) (nowhere)
theorem o_ref06_in_0 {base S0 cs0} (hfin : H_ref06_in base S0) : O_ref06_in base S0 cs0 (x_ref06_in_0) := OSound.cut (OSound.nowhere) (Nat.le_of_eq hfin.1) (s_ref06_in_0' hfin)
noncomputable def b_ref06_in (a0 : ByteArray) (a1 : Int) : Option (Bool × Unit) :=
 ref06_in_0' a0 a1 (0 : Int)
theorem ex_ref06_in : ∃ f, f = @b_ref06_in := ⟨_, rfl⟩
noncomputable def ref06_in := Classical.choose ex_ref06_in
theorem ref06_in_eq : @ref06_in = @b_ref06_in := Classical.choose_spec ex_ref06_in
noncomputable def cb_ref06_in : Con := ⟨[.str, (.int .u8)], r_ref06_in, fun x => b_ref06_in x.1 x.2.1⟩
noncomputable def c_ref06_in : Con := ⟨[.str, (.int .u8)], r_ref06_in, fun x => ref06_in x.1 x.2.1⟩
theorem cb_ref06_in_ok : cb_ref06_in.Sound prog Inv gInv 27 :=
 con_run (M := m_ref06_in) inv_g (f := f27) rfl ks_ref06_in 100000 (X := x_ref06_in_0) (fun base S0 cs0 hn hf => have hfin : H_ref06_in base S0 := ⟨hn, hf⟩; o_ref06_in_0 hfin) (by intro x; kernel_rfl)
theorem c_ref06_in_ok : c_ref06_in.Sound prog Inv gInv 27 := by
 have e : c_ref06_in = cb_ref06_in := by unfold c_ref06_in cb_ref06_in; rw [ref06_in_eq]
 rw [e]; exact cb_ref06_in_ok
noncomputable def m_ref06_shape : Mach prog Inv gInv := mach bas [(26, f26)] ⟨ok26, trivial⟩ [] trivial [] trivial [] trivial
/-! ### domino/dominoref06.shape -/
@[reducible] def r_ref06_shape : List Ty := [.str]
def ks_ref06_shape : List Nat := [26]
abbrev H_ref06_shape (base : Base) (S0 : Nat → Prop) := base.n = 0 ∧ FinOk (finR r_ref06_shape) base S0 (Post r_ref06_shape S0)
abbrev J_ref06_shape (base : Base) (S0 : Nat → Prop) (cs0 : List Go.Frame) (p : CPat) (J : denC p → Option (denL r_ref06_shape)) := JSound m_ref06_shape base S0 cs0 (Post r_ref06_shape S0) p J
abbrev O_ref06_shape (base : Base) (S0 : Nat → Prop) (cs0 : List Go.Frame) (X : Cfg → Option (Option (denL r_ref06_shape))) := OSound m_ref06_shape base S0 cs0 (Post r_ref06_shape S0) X
@[reducible] noncomputable def p_ref06_shape_3 : CPat := ⟨⟨26, [1, 0, 1, 0, 1, 1, 1, 1, 1, 1, 1, 1, 1, 1, 1, 1, 1, 1, 1, 1, 1, 1, 1, 1, 1], none, [.any, .any, .any, .int .u64, .any, .any, .any, .any, .any, .any, .any, .any, .any, .any, .any, .any, .any, .any, .any, .any, .any, .any, .any, .any, .any, .any, .any, .any, .any, .any, .any, .any, .bool], 6⟩, [], [], 0⟩
@[reducible] noncomputable def u_ref06_shape_3 (k : Int → Bool → Option (ByteArray × Unit)) : denC p_ref06_shape_3 → Option (ByteArray × Unit) := fun x => k x.1.2.2.2.1 x.1.2.2.2.2.2.2.2.2.2.2.2.2.2.2.2.2.2.2.2.2.2.2.2.2.2.2.2.2.2.2.2.2.1
noncomputable def b_ref06_shape_3 (i38 : Int) (b39 : Bool) : Option (ByteArray × Unit) :=
 bif b39 then
  let s40 : ByteArray := (ByteArray.mk (List.toArray ((116 : UInt8) :: ([] : List UInt8))))
  some (s40, ())
 else
  let b41 : Bool := (i38 == (28 : Int))
  bif b41 then
   let s42 : ByteArray := (ByteArray.mk (List.toArray ((99 : UInt8) :: ((101 : UInt8) :: ((100 : UInt8) :: ([] : List UInt8))))))
   some (s42, ())
  else
   let b43 : Bool := (i38 == (29 : Int))
   bif b43 then
    let s44 : ByteArray := (ByteArray.mk (List.toArray ((99 : UInt8) :: ((100 : UInt8) :: ([] : List UInt8)))))
    some (s44, ())
   else
    let s45 : ByteArray := (ByteArray.mk (List.toArray ([] : List UInt8)))
    some (s45, ())
theorem ex_ref06_shape_3 : ∃ f, f = @b_ref06_shape_3 := ⟨_, rfl⟩
noncomputable def ref06_shape_3 := Classical.choose ex_ref06_shape_3
theorem ref06_shape_3_eq : @ref06_shape_3 = @b_ref06_shape_3 := Classical.choose_spec ex_ref06_shape_3
theorem s_ref06_shape_3 {base S0 cs0} (hfin : H_ref06_shape base S0) : J_ref06_shape base S0 cs0 p_ref06_shape_3 (u_ref06_shape_3 (ref06_shape_3)) :=
 JSound.join hfin.2 (OSound.nowhere) ks_ref06_shape 100000 (by rw [ref06_shape_3_eq]; intro x; kernel_rfl)
noncomputable def x_ref06_shape_3 : Cfg → Option (Option (ByteArray × Unit)) := cut p_ref06_shape_3 (u_ref06_shape_3 (ref06_shape_3)) (nowhere)
theorem o_ref06_shape_3 {base S0 cs0} (hfin : H_ref06_shape base S0) : O_ref06_shape base S0 cs0 (x_ref06_shape_3) := OSound.cut (OSound.nowhere) (Nat.le_of_eq hfin.1) (s_ref06_shape_3 hfin)
@[reducible] noncomputable def p_ref06_shape_2 : CPat := ⟨⟨26, [1, 0, 1, 0, 1, 1, 1, 1, 1, 1, 1, 1, 1, 1, 1, 1, 1, 1, 1], none, [.any, .any, .any, .int .u64, .any, .any, .any, .any, .any, .any, .any, .any, .any, .any, .any, .any, .any, .any, .any, .any, .any, .any, .any, .any, .any, .bool], 13⟩, [], [], 0⟩
@[reducible] noncomputable def u_ref06_shape_2 (k : Int → Bool → Option (ByteArray × Unit)) : denC p_ref06_shape_2 → Option (ByteArray × Unit) := fun x => k x.1.2.2.2.1 x.1.2.2.2.2.2.2.2.2.2.2.2.2.2.2.2.2.2.2.2.2.2.2.2.2.2.1
noncomputable def b_ref06_shape_2 (i29 : Int) (b30 : Bool) : Option (ByteArray × Unit) :=
 bif b30 then
  let s31 : ByteArray := (ByteArray.mk (List.toArray ((105 : UInt8) :: ((109 : UInt8) :: ([] : List UInt8)))))
  some (s31, ())
 else
  let b32 : Bool := (i29 == (24 : Int))
  bif b32 then
   let s33 : ByteArray := (ByteArray.mk (List.toArray ((113 : UInt8) :: ((112 : UInt8) :: ((110 : UInt8) :: ((116 : UInt8) :: ([] : List UInt8)))))))
   some (s33, ())
  else
   let b34 : Bool := (i29 == (25 : Int))
   bif b34 then
    let s35 : ByteArray := (ByteArray.mk (List.toArray ((113 : UInt8) :: ([] : List UInt8))))
    some (s35, ())
   else
    let b36 : Bool := (i29 == (26 : Int))
    bif b36 then
     ref06_shape_3 i29 true
    else
     let b37 : Bool := (i29 == (27 : Int))
     ref06_shape_3 i29 b37
theorem ex_ref06_shape_2 : ∃ f, f = @b_ref06_shape_2 := ⟨_, rfl⟩
noncomputable def ref06_shape_2 := Classical.choose ex_ref06_shape_2
theorem ref06_shape_2_eq : @ref06_shape_2 = @b_ref06_shape_2 := Classical.choose_spec ex_ref06_shape_2
theorem s_ref06_shape_2 {base S0 cs0} (hfin : H_ref06_shape base S0) : J_ref06_shape base S0 cs0 p_ref06_shape_2 (u_ref06_shape_2 (ref06_shape_2)) :=
 JSound.join hfin.2 (o_ref06_shape_3 hfin) ks_ref06_shape 100000 (by rw [ref06_shape_2_eq]; intro x; kernel_rfl)
noncomputable def x_ref06_shape_2 : Cfg → Option (Option (ByteArray × Unit)) := cut p_ref06_shape_2 (u_ref06_shape_2 (ref06_shape_2)) (x_ref06_shape_3)
theorem o_ref06_shape_2 {base S0 cs0} (hfin : H_ref06_shape base S0) : O_ref06_shape base S0 cs0 (x_ref06_shape_2) := OSound.cut (o_ref06_shape_3 hfin) (Nat.le_of_eq hfin.1) (s_ref06_shape_2 hfin)
@[reducible] noncomputable def p_ref06_shape_1 : CPat := ⟨⟨26, [1, 0, 1, 0, 1, 1, 1, 1, 1, 1, 1, 1, 1, 1, 1, 1, 1], none, [.any, .any, .any, .int .u64, .any, .any, .any, .any, .any, .any, .any, .any, .any, .any, .any, .any, .any, .any, .bool], 20⟩, [], [], 0⟩
@[reducible] noncomputable def u_ref06_shape_1 (k : Int → Bool → Option (ByteArray × Unit)) : denC p_ref06_shape_1 → Option (ByteArray × Unit) := fun x => k x.1.2.2.2.1 x.1.2.2.2.2.2.2.2.2.2.2.2.2.2.2.2.2.2.2.1
noncomputable def b_ref06_shape_1 (i24 : Int) (b25 : Bool) : Option (ByteArray × Unit) :=
 bif b25 then
  let s26 : ByteArray := (ByteArray.mk (List.toArray ((109 : UInt8) :: ([] : List UInt8))))
  some (s26, ())
 else
  let b27 : Bool := (i24 == (17 : Int))
  bif b27 then
   ref06_shape_2 i24 true
  else
   let b28 : Bool := (i24 == (21 : Int))
   ref06_shape_2 i24 b28
theorem ex_ref06_shape_1 : ∃ f, f = @b_ref06_shape_1 := ⟨_, rfl⟩
noncomputable def ref06_shape_1 := Classical.choose ex_ref06_shape_1
theorem ref06_shape_1_eq : @ref06_shape_1 = @b_ref06_shape_1 := Classical.choose_spec ex_ref06_shape_1
theorem s_ref06_shape_1 {base S0 cs0} (hfin : H_ref06_shape base S0) : J_ref06_shape base S0 cs0 p_ref06_shape_1 (u_ref06_shape_1 (ref06_shape_1)) :=
 JSound.join hfin.2 (o_ref06_shape_2 hfin) ks_ref06_shape 100000 (by rw [ref06_shape_1_eq]; intro x; kernel_rfl)
noncomputable def x_ref06_shape_1 : Cfg → Option (Option (ByteArray × Unit)) := cut p_ref06_shape_1 (u_ref06_shape_1 (ref06_shape_1)) (x_ref06_shape_2)
theorem o_ref06_shape_1 {base S0 cs0} (hfin : H_ref06_shape base S0) : O_ref06_shape base S0 cs0 (x_ref06_shape_1) := OSound.cut (o_ref06_shape_2 hfin) (Nat.le_of_eq hfin.1) (s_ref06_shape_1 hfin)
@[reducible] noncomputable def p_ref06_shape_0 : CPat := ⟨⟨26, [1, 0, 1, 0, 1], none, [.any, .any, .any, .int .u64, .bool], 34⟩, [], [], 0⟩
@[reducible] noncomputable def u_ref06_shape_0 (k : Int → Bool → Option (ByteArray × Unit)) : denC p_ref06_shape_0 → Option (ByteArray × Unit) := fun x => k x.1.2.2.2.1 x.1.2.2.2.2.1
noncomputable def b_ref06_shape_0 (i5 : Int) (b6 : Bool) : Option (ByteArray × Unit) :=
 bif b6 then
  let s7 : ByteArray := (ByteArray.mk (List.toArray ((45 : UInt8) :: ([] : List UInt8))))
  some (s7, ())
 else
  let b8 : Bool := (i5 == (2 : Int))
  bif b8 then
   let s9 : ByteArray := (ByteArray.mk (List.toArray ((101 : UInt8) :: ((115 : UInt8) :: ([] : List UInt8)))))
   some (s9, ())
  else
   let b10 : Bool := (i5 == (4 : Int))
   bif b10 then
    let s11 : ByteArray := (ByteArray.mk (List.toArray ((105 : UInt8) :: ((99 : UInt8) :: ((109 : UInt8) :: ([] : List UInt8))))))
    some (s11, ())
   else
    let b12 : Bool := (i5 == (5 : Int))
    bif b12 then
     let s13 : ByteArray := (ByteArray.mk (List.toArray ((105 : UInt8) :: ((99 : UInt8) :: ([] : List UInt8)))))
     some (s13, ())
    else
     let b14 : Bool := (i5 == (6 : Int))
     bif b14 then
      let s15 : ByteArray := (ByteArray.mk (List.toArray ((111 : UInt8) :: ((100 : UInt8) :: ([] : List UInt8)))))
      some (s15, ())
     else
      let b16 : Bool := (i5 == (8 : Int))
      bif b16 then
       let s17 : ByteArray := (ByteArray.mk (List.toArray ((105 : UInt8) :: ((111 : UInt8) :: ((102 : UInt8) :: ((100 : UInt8) :: ([] : List UInt8)))))))
       some (s17, ())
      else
       let b18 : Bool := (i5 == (16 : Int))
       bif b18 then
        ref06_shape_1 i5 true
       else
        let b19 : Bool := (i5 == (18 : Int))
        bif b19 then
         ref06_shape_1 i5 true
        else
         let b20 : Bool := (i5 == (19 : Int))
         bif b20 then
          ref06_shape_1 i5 true
         else
          let b21 : Bool := (i5 == (20 : Int))
          bif b21 then
           ref06_shape_1 i5 true
          else
           let b22 : Bool := (i5 == (22 : Int))
           bif b22 then
            ref06_shape_1 i5 true
           else
            let b23 : Bool := (i5 == (23 : Int))
            ref06_shape_1 i5 b23
theorem ex_ref06_shape_0 : ∃ f, f = @b_ref06_shape_0 := ⟨_, rfl⟩
noncomputable def ref06_shape_0 := Classical.choose ex_ref06_shape_0
theorem ref06_shape_0_eq : @ref06_shape_0 = @b_ref06_shape_0 := Classical.choose_spec ex_ref06_shape_0
theorem s_ref06_shape_0 {base S0 cs0} (hfin : H_ref06_shape base S0) : J_ref06_shape base S0 cs0 p_ref06_shape_0 (u_ref06_shape_0 (ref06_shape_0)) :=
 JSound.join hfin.2 (o_ref06_shape_1 hfin) ks_ref06_shape 100000 (by rw [ref06_shape_0_eq]; intro x; kernel_rfl)
noncomputable def x_ref06_shape_0 : Cfg → Option (Option (ByteArray × Unit)) := cut p_ref06_shape_0 (u_ref06_shape_0 (ref06_shape_0)) (x_ref06_shape_1)
theorem o_ref06_shape_0 {base S0 cs0} (hfin : H_ref06_shape base S0) : O_ref06_shape base S0 cs0 (x_ref06_shape_0) := OSound.cut (o_ref06_shape_1 hfin) (Nat.le_of_eq hfin.1) (s_ref06_shape_0 hfin)
noncomputable def b_ref06_shape (a0 : Int) : Option (ByteArray × Unit) :=
 let s1 : ByteArray := (ByteArray.mk (List.toArray ([] : List UInt8)))
 let b2 : Bool := (a0 == (0 : Int))
 bif b2 then
  ref06_shape_0 a0 true
 else
  let b3 : Bool := (a0 == (1 : Int))
  bif b3 then
   ref06_shape_0 a0 true
  else
   let b4 : Bool := (a0 == (30 : Int))
   ref06_shape_0 a0 b4
theorem ex_ref06_shape : ∃ f, f = @b_ref06_shape := ⟨_, rfl⟩
noncomputable def ref06_shape := Classical.choose ex_ref06_shape
theorem ref06_shape_eq : @ref06_shape = @b_ref06_shape := Classical.choose_spec ex_ref06_shape
noncomputable def cb_ref06_shape : Con := ⟨[(.int .u64)], r_ref06_shape, fun x => b_ref06_shape x.1⟩
noncomputable def c_ref06_shape : Con := ⟨[(.int .u64)], r_ref06_shape, fun x => ref06_shape x.1⟩
theorem cb_ref06_shape_ok : cb_ref06_shape.Sound prog Inv gInv 26 :=
 con_run (M := m_ref06_shape) inv_g (f := f26) rfl ks_ref06_shape 100000 (X := x_ref06_shape_0) (fun base S0 cs0 hn hf => have hfin : H_ref06_shape base S0 := ⟨hn, hf⟩; o_ref06_shape_0 hfin) (by intro x; kernel_rfl)
theorem c_ref06_shape_ok : c_ref06_shape.Sound prog Inv gInv 26 := by
 have e : c_ref06_shape = cb_ref06_shape := by unfold c_ref06_shape cb_ref06_shape; rw [ref06_shape_eq]
 rw [e]; exact cb_ref06_shape_ok
end Go.Proofs.YtjlfmolfcgennaaDoor.V
namespace Go.Proofs.YtjlfmolfcgennaaDoor.V
open Go.RowKit
set_option linter.unusedVariables false
theorem in_loop (s : ByteArray) (x : Int) : ∀ (suf pre : List Int) (m : Nat), suf.length < m → strBytes s = pre ++ suf → s.size ≤ 9223372036854775807 →
  ref06_in_0 m s x ((pre.length : Nat) : Int) = some (decide (x ∈ suf), ()) := by
 intro suf
 induction suf with
 | nil =>
  intro pre m hm hs hl
  obtain ⟨m, rfl⟩ : ∃ k, m = k + 1 := ⟨m - 1, by omega⟩
  have hsz : s.size = pre.length := by rw [← strBytes_len, hs]; simp
  have c : ¬ ((pre.length : Nat) : Int) < ((s.size : Nat) : Int) := by omega
  simp only [ref06_in_0, t_ref06_in_0, c, decide_false, cond_false, List.not_mem_nil]
 | cons y suf ih =>
  intro pre m hm hs hl
  obtain ⟨m, rfl⟩ : ∃ k, m = k + 1 := ⟨m - 1, by omega⟩
  have hsz : s.size = pre.length + 1 + suf.length := by rw [← strBytes_len, hs]; simp; omega
  have c : ((pre.length : Nat) : Int) < ((s.size : Nat) : Int) := by omega
  have e : byteAt s ((pre.length : Nat) : Int) = y := by rw [byteAt_is, hs, Int.toNat_natCast, getD_mid]
  have w : IntKind.wrap .i64 (((pre.length : Nat) : Int) + 1) = (((pre ++ [y]).length : Nat) : Int) := by rw [wrap_i64 _ (by omega) (by omega)]; simp
  simp only [ref06_in_0, t_ref06_in_0, c, nn, and_self, decide_true, cond_true, e]
  by_cases h : y = x
  · subst h; simp
  ·
   have h' : ¬ x = y := fun e => h e.symm
   simp only [beq_false_of_ne h, cond_false, w]
   rw [ih (pre ++ [y]) m (by simp at hm; omega) (by rw [hs]; simp) hl]
   simp [h']
theorem in_is (s : ByteArray) (x : Int) (hl : s.size ≤ 9223372036854775807) : ref06_in s x = some (decide (x ∈ strBytes s), ()) := by
 rw [ref06_in_eq, b_ref06_in, ref06_in_0'_eq, b_ref06_in_0']
 exact in_loop s x (strBytes s) [] _ (by rw [strBytes_len]; omega) rfl hl
def shapeL (k : Int) : List Int :=
 if k = 0 ∨ k = 1 ∨ k = 30 then [45] else if k = 2 then [101, 115] else if k = 4 then [105, 99, 109] else if k = 5 then [105, 99] else if k = 6 then [111, 100] else if k = 8 then [105, 111, 102, 100]
 else if k = 16 ∨ k = 18 ∨ k = 19 ∨ k = 20 ∨ k = 22 ∨ k = 23 then [109] else if k = 17 ∨ k = 21 then [105, 109] else if k = 24 then [113, 112, 110, 116] else if k = 25 then [113] else if k = 26 ∨ k = 27 then [116]
 else if k = 28 then [99, 101, 100] else if k = 29 then [99, 100] else []
theorem shape_is (k : Int) : ref06_shape k = some (bytesStr (shapeL k), ()) := by
 rw [ref06_shape_eq, b_ref06_shape]
 simp only [ref06_shape_0_eq, b_ref06_shape_0, ref06_shape_1_eq, b_ref06_shape_1, ref06_shape_2_eq, b_ref06_shape_2, ref06_shape_3_eq, b_ref06_shape_3]
 cases h : kindB k with
 | true =>
  rcases kinds h with rfl | rfl | rfl | rfl | rfl | rfl | rfl | rfl | rfl | rfl | rfl | rfl | rfl | rfl | rfl | rfl | rfl | rfl | rfl | rfl | rfl | rfl <;> rfl
 | false =>
  obtain ⟨h0, h1, h2, h4, h5, h6, h8, h16, h17, h18, h19, h20, h21, h22, h23, h24, h25, h26, h27, h28, h29, h30⟩ := nokind h
  simp only [beq_false_of_ne h0, beq_false_of_ne h1, beq_false_of_ne h2, beq_false_of_ne h4, beq_false_of_ne h5, beq_false_of_ne h6, beq_false_of_ne h8, beq_false_of_ne h16, beq_false_of_ne h17, beq_false_of_ne h18, beq_false_of_ne h19,
   beq_false_of_ne h20, beq_false_of_ne h21, beq_false_of_ne h22, beq_false_of_ne h23, beq_false_of_ne h24, beq_false_of_ne h25, beq_false_of_ne h26, beq_false_of_ne h27, beq_false_of_ne h28, beq_false_of_ne h29, beq_false_of_ne h30, cond_false,
   shapeL, h0, h1, h2, h4, h5, h6, h8, h16, h17, h18, h19, h20, h21, h22, h23, h24, h25, h26, h27, h28, h29, h30, or_self, if_false]
  rfl
end Go.Proofs.YtjlfmolfcgennaaDoor.V
