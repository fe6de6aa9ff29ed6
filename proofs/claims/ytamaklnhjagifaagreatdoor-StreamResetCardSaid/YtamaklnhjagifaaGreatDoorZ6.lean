/- The law each law of the layer, part 6: what is proved: for every input that can be read the call of each law of the layer returns true and leaves its arguments alone. No conditions but the listed tables of the card. -/
import Derived.OpenShut
import Derived.LaidHandle
import Derived.LaidMore
import Derived.Stop.Joined
import Derived.Test.YtamaklnhjagifaaGreatDoorZ5
namespace Go.Proofs.YtamaklnhjagifaaGreatDoor.V
open Go.RowKit Go.Proofs.Tryz
set_option linter.unusedVariables false
set_option maxRecDepth 100000
noncomputable def ZY2:Mach prog Inv ZAq:=ZFE bas [(25,f25),(86,f86),(87,f87)] ⟨ZzD,Z0E,Z0F,trivial⟩ [(88,ZVU),(168,ZSm),(169,ZVW)] ⟨⟨ZlM,ZAa.callable Zz3⟩,⟨Zjo,ZAa.callable ZyF⟩,⟨ZlN,ZAa.callable ZyG⟩,trivial⟩ [] trivial [] trivial
/-! ### domino/stream.Next -/
@[reducible] def ZGO:List Ty:=[ZAJ,ZAN,(.int .u64),.bool]
def ZGw:List Nat:=[25,86,87]
abbrev ZCI (base:Base) (S0:Nat→Prop):=base.n=0∧FinOk (Zdd ZGO) base S0 (ZFg ZGO S0)
abbrev ZEx (base:Base) (S0:Nat→Prop) (cs0:List Go.Frame) (p:CPat) (J:ZC9 p→Option (ZFC ZGO)):=ZAb ZY2 base S0 cs0 (ZFg ZGO S0) p J
abbrev ZKZ (base:Base) (S0:Nat→Prop) (cs0:List Go.Frame) (X:Cfg→Option (Option (ZFC ZGO))):=ZAH ZY2 base S0 cs0 (ZFg ZGO S0) X
@[reducible] noncomputable def ZUA:CPat:=⟨⟨25,[1,1,1,0],(some 11),[.any,.any,.any,.any,.ptr 0 0,.any,.any,.any,.ptr 1 0,.ptr 2 0,.any,.any,.any,.any,.any,.any,.any,.any,.any,.any,.any,.any,.any,.any,.any,.any,.any,.any,.any,.any,.any,.any,.any,.any,.any,.any,.any,.any,.any,.any,.any,.any,.any,.any,.any,.any,.any,.any,.any,.any,.any,.any,.any,.any,.any,.any,.any,.any,.any,.any,.any,.any,.any,.any,.any,.any,.any,.any,.any,.tuple [.dat ZAN,.bool]],27⟩,[],[.dat 35 ZAJ,.dat 35 ZAJ,.dat 38 ZAN],0⟩
@[reducible] noncomputable def Zbs (k:ZAC→Bool→ZAB→ZAB→ZAC→Option (ZAB×ZAC×Int×Bool×Unit)):ZC9 ZUA→Option (ZAB×ZAC×Int×Bool×Unit):=fun x=>k x.1.2.2.2.2.2.2.2.2.2.2.2.2.2.2.2.2.2.2.2.2.2.2.2.2.2.2.2.2.2.2.2.2.2.2.2.2.2.2.2.2.2.2.2.2.2.2.2.2.2.2.2.2.2.2.2.2.2.2.2.2.2.2.2.2.2.2.2.2.2.1.1 x.1.2.2.2.2.2.2.2.2.2.2.2.2.2.2.2.2.2.2.2.2.2.2.2.2.2.2.2.2.2.2.2.2.2.2.2.2.2.2.2.2.2.2.2.2.2.2.2.2.2.2.2.2.2.2.2.2.2.2.2.2.2.2.2.2.2.2.2.2.2.1.2.1 x.2.2.1 x.2.2.2.1 x.2.2.2.2.1
noncomputable def ZN0 (d113:ZAC) (b114:Bool) (d115:ZAB) (d116:ZAB) (d117:ZAC):Option (ZAB×ZAC×Int×Bool×Unit) :=
 let s118:ByteArray:=(ByteArray.mk (List.toArray ([]:List UInt8)))
 let b119:Bool:=(!b114)
 bif b119 then
  let s120:ByteArray:=(ByteArray.mk (List.toArray ([]:List UInt8)))
  some (d115,(((0:Int),((0:Int),((0:Int),((0:Int),((0:Int),((0:Int),((0:Int),((0:Int),(false,(s120,(s120,(s120,(([]:List ZAA),()))))))))))))),((0:Int),(false,()))))
 else
  let n121:Int:=(((ByteArray.size d113.2.2.2.2.2.2.2.2.2.1):Nat):Int)
  ZAX (ZPe d115.1 d113.2.2.1 n121 d113.2.2.2.2.2.2.2.2.1) fun y122=>
  let n123:Int:=(Go.IntKind.wrap Go.IntKind.u64 (y122.1.2.1 - d115.1.2.1))
  some ((y122.1,d115.2),(d113,(n123,(true,()))))
theorem ZZx : ∃ f,f = @ZN0:=⟨_,rfl⟩
noncomputable def ZIV:=Classical.choose ZZx
theorem ZRY : @ZIV = @ZN0:=Classical.choose_spec ZZx
theorem Zld {base S0 cs0} (hfin:ZCI base S0):ZEx base S0 cs0 ZUA (Zbs (ZIV)) :=
 ZAb.join hfin.2 (ZAH.nowhere) ZGw 100000 (by rw [ZRY];intro x;kernel_rfl)
noncomputable def ZUB:Cfg→Option (Option (ZAB×ZAC×Int×Bool×Unit)):=cut ZUA (Zbs (ZIV)) (nowhere)
theorem ZUC {base S0 cs0} (hfin:ZCI base S0):ZKZ base S0 cs0 (ZUB):=ZAH.cut (ZAH.nowhere) (Nat.le_of_eq hfin.1) (Zld hfin)
@[reducible] noncomputable def ZFP:CPat:=⟨⟨87,[1,1,0,0],none,[.ptr 0 0,.int .u64,.int .i64,.int .u64,.any,.any,.any,.any,.ptr 1 0,.any,.int .i64],38⟩,[⟨25,[1,1,1,0],(some 10),[.any,.any,.any,.any,.ptr 0 0,.any,.any,.any,.ptr 2 0,.ptr 3 0],87⟩],[.dat 35 ZAJ,.dat 38 ZAN,.dat 35 ZAJ,.dat 38 ZAN],0⟩
@[reducible] noncomputable def ZFQ (k:Int→Int→Int→Int→ZAB→ZAC→ZAB→ZAC→Option (ZAB×ZAC×Int×Bool×Unit)):ZC9 ZFP→Option (ZAB×ZAC×Int×Bool×Unit):=fun x=>k x.1.2.1 x.1.2.2.1 x.1.2.2.2.1 x.1.2.2.2.2.2.2.2.2.2.2.1 x.2.2.1 x.2.2.2.1 x.2.2.2.2.1 x.2.2.2.2.2.1
@[reducible] noncomputable def ZUD:CPat:=⟨⟨87,[1,1,0,0,0,1,0,1,1,0,1,0],none,[.any,.any,.any,.any,.any,.any,.any,.any,.ptr 0 0,.any,.any,.any,.any,.any,.bool,.ptr 1 0],33⟩,[⟨25,[1,1,1,0],(some 10),[.any,.any,.any,.any,.ptr 2 0,.any,.any,.any,.ptr 3 0,.ptr 4 0],87⟩],[.dat 38 ZAN,.dat 38 ZAN,.dat 35 ZAJ,.dat 35 ZAJ,.dat 38 ZAN],0⟩
@[reducible] noncomputable def Zbt (k:Bool→ZAC→ZAC→ZAB→ZAB→ZAC→Option (ZAB×ZAC×Int×Bool×Unit)):ZC9 ZUD→Option (ZAB×ZAC×Int×Bool×Unit):=fun x=>k x.1.2.2.2.2.2.2.2.2.2.2.2.2.2.2.1 x.2.2.1 x.2.2.2.1 x.2.2.2.2.1 x.2.2.2.2.2.1 x.2.2.2.2.2.2.1
noncomputable def ZN1 (k3:Int→Int→Int→Int→ZAB→ZAC→ZAB→ZAC→Option (ZAB×ZAC×Int×Bool×Unit)) (b104:Bool) (d105:ZAC) (d106:ZAC) (d107:ZAB) (d108:ZAB) (d109:ZAC):Option (ZAB×ZAC×Int×Bool×Unit) :=
 ZIV d106 b104 d107 d108 d109
theorem ZZy : ∃ f,f = @ZN1:=⟨_,rfl⟩
noncomputable def ZN2:=Classical.choose ZZy
theorem ZRZ : @ZN2 = @ZN1:=Classical.choose_spec ZZy
theorem Zle {base S0 cs0} (hfin:ZCI base S0) (k3) (h3:ZEx base S0 cs0 ZFP (ZFQ k3)):ZEx base S0 cs0 ZUD (Zbt (ZN2 k3)) :=
 ZAb.join hfin.2 (ZAH.cut (ZUC hfin) (Nat.le_of_eq hfin.1) h3) ZGw 100000 (by rw [ZRZ];intro x;kernel_rfl)
noncomputable def Zbu (k3:Int→Int→Int→Int→ZAB→ZAC→ZAB→ZAC→Option (ZAB×ZAC×Int×Bool×Unit)):Cfg→Option (Option (ZAB×ZAC×Int×Bool×Unit)):=cut ZUD (Zbt (ZN2 k3)) (cut ZFP (ZFQ k3) (ZUB))
theorem Zlf {base S0 cs0} (hfin:ZCI base S0) (k3) (h3:ZEx base S0 cs0 ZFP (ZFQ k3)):ZKZ base S0 cs0 (Zbu k3):=ZAH.cut (ZAH.cut (ZUC hfin) (Nat.le_of_eq hfin.1) h3) (Nat.le_of_eq hfin.1) (Zle hfin k3 h3)
noncomputable def ZJz (k3:Int→Int→Int→Int→ZAB→ZAC→ZAB→ZAC→Option (ZAB×ZAC×Int×Bool×Unit)) (i89:Int) (i90:Int) (i91:Int) (i92:Int) (d93:ZAB) (d94:ZAC) (d95:ZAB) (d96:ZAC):Option (ZAB×ZAC×Int×Bool×Unit) :=
 let b97:Bool:=(decide (i92>(0:Int)))
 bif b97 then
  ZAX (Zc5 d93.1 i92 i91) fun y98=>
  let s99:ByteArray:=(ByteArray.mk (List.toArray ([]:List UInt8)))
  let s100:ByteArray:=(ByteArray.mk (List.toArray ([]:List UInt8)))
  let b101:Bool:=(!y98.2.2.2.1)
  bif b101 then
   ZN2 k3 y98.2.2.2.1 d94 ((8:Int),(i89,(y98.1,((0:Int),((0:Int),((0:Int),((0:Int),((0:Int),(y98.2.2.1,(y98.2.1,(s99,(s99,(([]:List ZAA),()))))))))))))) d93 d95 d96
  else
   ZAX (ZFO ((8:Int),(i89,(y98.1,((0:Int),((0:Int),((0:Int),((0:Int),((0:Int),(y98.2.2.1,(y98.2.1,(s99,(s99,(([]:List ZAA),()))))))))))))) i90) fun y102=>
   bif y102.1 then
    ZN2 k3 y98.2.2.2.1 d94 ((8:Int),(i89,(y98.1,((0:Int),((0:Int),((0:Int),((0:Int),((0:Int),(y98.2.2.1,(y98.2.1,(s99,(s99,(([]:List ZAA),()))))))))))))) d93 d95 d96
   else
    let n110:Int:=(Go.IntKind.wrap Go.IntKind.i64 (i92 - (1:Int)))
    k3 i89 i90 i91 n110 d93 d94 d95 d96
 else
  let s103:ByteArray:=(ByteArray.mk (List.toArray ([]:List UInt8)))
  ZIV ((0:Int),((0:Int),((0:Int),((0:Int),((0:Int),((0:Int),((0:Int),((0:Int),(false,(s103,(s103,(s103,(([]:List ZAA),()))))))))))))) false d93 d95 d96
noncomputable def ZEy:Nat→Int→Int→Int→Int→ZAB→ZAC→ZAB→ZAC→Option (ZAB×ZAC×Int×Bool×Unit)
 | 0=>fun _ _ _ _ _ _ _ _=>none
 | m+1=>ZJz (ZEy m)
noncomputable def ZMG (i89:Int) (i90:Int) (i91:Int) (i92:Int) (d93:ZAB) (d94:ZAC) (d95:ZAB) (d96:ZAC):Option (ZAB×ZAC×Int×Bool×Unit):=ZEy (Int.toNat (i92 - (0:Int))+2) i89 i90 i91 i92 d93 d94 d95 d96
theorem ZXw : ∃ f,f = @ZMG:=⟨_,rfl⟩
noncomputable def ZP3:=Classical.choose ZXw
theorem ZPn : @ZP3 = @ZMG:=Classical.choose_spec ZXw
theorem Zlg {base S0 cs0} (hfin:ZCI base S0) : ∀ m,ZEx base S0 cs0 ZFP (ZFQ (ZEy m)) :=
 ZAb.loop' hfin.2 ZGw 100000 ZFQ (fun k3=>Zbu k3) (fun k3 h3=>Zlf hfin k3 h3) (ZEy) (by intro x;rfl) (by intro m x;kernel_rfl)
theorem Zjp {base S0 cs0} (hfin:ZCI base S0):ZEx base S0 cs0 ZFP (ZFQ (ZP3)):=by
 rw [ZPn];exact fun x r hx=>Zlg hfin _ x r hx
noncomputable def Zbv:Cfg→Option (Option (ZAB×ZAC×Int×Bool×Unit)):=cut ZFP (ZFQ (ZP3)) (ZUB)
theorem Zbw {base S0 cs0} (hfin:ZCI base S0):ZKZ base S0 cs0 (Zbv):=ZAH.cut (ZUC hfin) (Nat.le_of_eq hfin.1) (Zjp hfin)
@[reducible] noncomputable def ZUE:CPat:=⟨⟨25,[1,0,1,0,0,1,1,0,0,1,1,1],none,[.any,.int .u64,.int .i64,.int .u64,.ptr 0 0,.any,.any,.any,.ptr 1 0,.ptr 2 0,.any,.any,.any,.any,.any,.any,.any,.any,.any,.any,.any,.any,.any,.any,.any,.any,.any,.any,.any,.any,.any,.any,.any,.any,.any,.any,.any,.any,.cs 3 0 3 14,.intC .i64 (3),.intC .i64 (2)],56⟩,[],[.dat 35 ZAJ,.dat 35 ZAJ,.dat 38 ZAN,.cells 159 [.ptr 0 12,.intC .u64 (4),.int .u64,.intC .u64 (0),.int .u64,.int .u64,.intC .u64 (0),.intC .u64 (0),.intC .u64 (0),.boolC false,.str,.str,.str,.nilSlice,.ptr 0 24,.intC .u64 (5),.int .u64,.intC .u64 (0),.intC .u64 (0),.int .u64,.intC .u64 (0),.intC .u64 (0),.intC .u64 (0),.boolC false,.str,.str,.str,.nilSlice,.ptr 0 20,.intC .u64 (17),.int .u64,.intC .u64 (0),.int .u64,.intC .u64 (0),.intC .u64 (0),.intC .u64 (0),.intC .u64 (0),.boolC false,.str,.str,.str,.nilSlice]],0⟩
@[reducible] noncomputable def Zbx (k:Int→Int→Int→ZAB→ZAB→ZAC→Int→Int→Int→ByteArray→ByteArray→ByteArray→Int→Int→ByteArray→ByteArray→ByteArray→Int→Int→ByteArray→ByteArray→ByteArray→Option (ZAB×ZAC×Int×Bool×Unit)):ZC9 ZUE→Option (ZAB×ZAC×Int×Bool×Unit):=fun x=>k x.1.2.1 x.1.2.2.1 x.1.2.2.2.1 x.2.2.1 x.2.2.2.1 x.2.2.2.2.1 x.2.2.2.2.2.1.2.2.1 x.2.2.2.2.2.1.2.2.2.2.1 x.2.2.2.2.2.1.2.2.2.2.2.1 x.2.2.2.2.2.1.2.2.2.2.2.2.2.2.2.2.1 x.2.2.2.2.2.1.2.2.2.2.2.2.2.2.2.2.2.1 x.2.2.2.2.2.1.2.2.2.2.2.2.2.2.2.2.2.2.1 x.2.2.2.2.2.1.2.2.2.2.2.2.2.2.2.2.2.2.2.2.2.2.1 x.2.2.2.2.2.1.2.2.2.2.2.2.2.2.2.2.2.2.2.2.2.2.2.2.2.1 x.2.2.2.2.2.1.2.2.2.2.2.2.2.2.2.2.2.2.2.2.2.2.2.2.2.2.2.2.2.2.1 x.2.2.2.2.2.1.2.2.2.2.2.2.2.2.2.2.2.2.2.2.2.2.2.2.2.2.2.2.2.2.2.1 x.2.2.2.2.2.1.2.2.2.2.2.2.2.2.2.2.2.2.2.2.2.2.2.2.2.2.2.2.2.2.2.2.1 x.2.2.2.2.2.1.2.2.2.2.2.2.2.2.2.2.2.2.2.2.2.2.2.2.2.2.2.2.2.2.2.2.2.2.2.2.1 x.2.2.2.2.2.1.2.2.2.2.2.2.2.2.2.2.2.2.2.2.2.2.2.2.2.2.2.2.2.2.2.2.2.2.2.2.2.2.1 x.2.2.2.2.2.1.2.2.2.2.2.2.2.2.2.2.2.2.2.2.2.2.2.2.2.2.2.2.2.2.2.2.2.2.2.2.2.2.2.2.2.2.2.2.1 x.2.2.2.2.2.1.2.2.2.2.2.2.2.2.2.2.2.2.2.2.2.2.2.2.2.2.2.2.2.2.2.2.2.2.2.2.2.2.2.2.2.2.2.2.2.1 x.2.2.2.2.2.1.2.2.2.2.2.2.2.2.2.2.2.2.2.2.2.2.2.2.2.2.2.2.2.2.2.2.2.2.2.2.2.2.2.2.2.2.2.2.2.2.1
noncomputable def ZN3 (i62:Int) (i63:Int) (i64:Int) (d65:ZAB) (d66:ZAB) (d67:ZAC) (i68:Int) (i69:Int) (i70:Int) (s71:ByteArray) (s72:ByteArray) (s73:ByteArray) (i74:Int) (i75:Int) (s76:ByteArray) (s77:ByteArray) (s78:ByteArray) (i79:Int) (i80:Int) (s81:ByteArray) (s82:ByteArray) (s83:ByteArray):Option (ZAB×ZAC×Int×Bool×Unit) :=
 bif d65.2.2.2.2.1 then
  let s84:ByteArray:=(ByteArray.mk (List.toArray ([]:List UInt8)))
  some (d65,(((0:Int),((0:Int),((0:Int),((0:Int),((0:Int),((0:Int),((0:Int),((0:Int),(false,(s84,(s84,(s84,(([]:List ZAA),()))))))))))))),((0:Int),(false,()))))
 else
  let n85:Int:=(Go.IntKind.wrap Go.IntKind.u64 (d65.1.2.1+i64))
  let n86:Int:=(if (n85<d65.2.1) then n85 else d65.2.1)
  let s87:ByteArray:=(ByteArray.mk (List.toArray ([]:List UInt8)))
  let n88:Int:=(if ((1200:Int)<i63) then (1200:Int) else i63)
  ZP3 i62 i63 n86 n88 d65 ((0:Int),((0:Int),((0:Int),((0:Int),((0:Int),((0:Int),((0:Int),((0:Int),(false,(s87,(s87,(s87,(([]:List ZAA),()))))))))))))) d66 d67
theorem ZZz : ∃ f,f = @ZN3:=⟨_,rfl⟩
noncomputable def ZD1:=Classical.choose ZZz
theorem ZRa : @ZD1 = @ZN3:=Classical.choose_spec ZZz
theorem Zlh {base S0 cs0} (hfin:ZCI base S0):ZEx base S0 cs0 ZUE (Zbx (ZD1)) :=
 ZAb.join hfin.2 (Zbw hfin) ZGw 100000 (by rw [ZRa];intro x;kernel_rfl)
noncomputable def Zby:Cfg→Option (Option (ZAB×ZAC×Int×Bool×Unit)):=cut ZUE (Zbx (ZD1)) (Zbv)
theorem Zbz {base S0 cs0} (hfin:ZCI base S0):ZKZ base S0 cs0 (Zby):=ZAH.cut (Zbw hfin) (Nat.le_of_eq hfin.1) (Zlh hfin)
@[reducible] noncomputable def ZUF:CPat:=⟨⟨25,[1,0,1,0,0,1,1,0,0,1,1,1],none,[.any,.int .u64,.int .i64,.int .u64,.ptr 0 0,.any,.any,.any,.ptr 1 0,.ptr 2 0,.any,.any,.any,.any,.any,.any,.any,.any,.any,.any,.any,.any,.any,.any,.any,.any,.any,.any,.any,.any,.any,.any,.any,.any,.any,.any,.any,.any,.cs 3 0 3 14,.intC .i64 (3),.intC .i64 (1)],56⟩,[],[.dat 35 ZAJ,.dat 35 ZAJ,.dat 38 ZAN,.cells 159 [.ptr 0 12,.intC .u64 (4),.int .u64,.intC .u64 (0),.int .u64,.int .u64,.intC .u64 (0),.intC .u64 (0),.intC .u64 (0),.boolC false,.str,.str,.str,.nilSlice,.ptr 0 24,.intC .u64 (5),.int .u64,.intC .u64 (0),.intC .u64 (0),.int .u64,.intC .u64 (0),.intC .u64 (0),.intC .u64 (0),.boolC false,.str,.str,.str,.nilSlice,.ptr 0 20,.intC .u64 (17),.int .u64,.intC .u64 (0),.int .u64,.intC .u64 (0),.intC .u64 (0),.intC .u64 (0),.intC .u64 (0),.boolC false,.str,.str,.str,.nilSlice]],0⟩
@[reducible] noncomputable def Zb0 (k:Int→Int→Int→ZAB→ZAB→ZAC→Int→Int→Int→ByteArray→ByteArray→ByteArray→Int→Int→ByteArray→ByteArray→ByteArray→Int→Int→ByteArray→ByteArray→ByteArray→Option (ZAB×ZAC×Int×Bool×Unit)):ZC9 ZUF→Option (ZAB×ZAC×Int×Bool×Unit):=fun x=>k x.1.2.1 x.1.2.2.1 x.1.2.2.2.1 x.2.2.1 x.2.2.2.1 x.2.2.2.2.1 x.2.2.2.2.2.1.2.2.1 x.2.2.2.2.2.1.2.2.2.2.1 x.2.2.2.2.2.1.2.2.2.2.2.1 x.2.2.2.2.2.1.2.2.2.2.2.2.2.2.2.2.1 x.2.2.2.2.2.1.2.2.2.2.2.2.2.2.2.2.2.1 x.2.2.2.2.2.1.2.2.2.2.2.2.2.2.2.2.2.2.1 x.2.2.2.2.2.1.2.2.2.2.2.2.2.2.2.2.2.2.2.2.2.2.1 x.2.2.2.2.2.1.2.2.2.2.2.2.2.2.2.2.2.2.2.2.2.2.2.2.2.1 x.2.2.2.2.2.1.2.2.2.2.2.2.2.2.2.2.2.2.2.2.2.2.2.2.2.2.2.2.2.2.1 x.2.2.2.2.2.1.2.2.2.2.2.2.2.2.2.2.2.2.2.2.2.2.2.2.2.2.2.2.2.2.2.1 x.2.2.2.2.2.1.2.2.2.2.2.2.2.2.2.2.2.2.2.2.2.2.2.2.2.2.2.2.2.2.2.2.1 x.2.2.2.2.2.1.2.2.2.2.2.2.2.2.2.2.2.2.2.2.2.2.2.2.2.2.2.2.2.2.2.2.2.2.2.2.1 x.2.2.2.2.2.1.2.2.2.2.2.2.2.2.2.2.2.2.2.2.2.2.2.2.2.2.2.2.2.2.2.2.2.2.2.2.2.2.1 x.2.2.2.2.2.1.2.2.2.2.2.2.2.2.2.2.2.2.2.2.2.2.2.2.2.2.2.2.2.2.2.2.2.2.2.2.2.2.2.2.2.2.2.2.1 x.2.2.2.2.2.1.2.2.2.2.2.2.2.2.2.2.2.2.2.2.2.2.2.2.2.2.2.2.2.2.2.2.2.2.2.2.2.2.2.2.2.2.2.2.2.1 x.2.2.2.2.2.1.2.2.2.2.2.2.2.2.2.2.2.2.2.2.2.2.2.2.2.2.2.2.2.2.2.2.2.2.2.2.2.2.2.2.2.2.2.2.2.2.1
noncomputable def ZUG (i37:Int) (i38:Int) (i39:Int) (d40:ZAB) (d41:ZAB) (d42:ZAC) (i43:Int) (i44:Int) (i45:Int) (s46:ByteArray) (s47:ByteArray) (s48:ByteArray) (i49:Int) (i50:Int) (s51:ByteArray) (s52:ByteArray) (s53:ByteArray) (i54:Int) (i55:Int) (s56:ByteArray) (s57:ByteArray) (s58:ByteArray):Option (ZAB×ZAC×Int×Bool×Unit) :=
 let s59:ByteArray:=(ByteArray.mk (List.toArray ([]:List UInt8)))
 bif d40.2.2.2.2.2.2.2.2.2.2.1 then
  ZAX (ZFO ((17:Int),(i54,((0:Int),(i55,((0:Int),((0:Int),((0:Int),((0:Int),(false,(s56,(s57,(s58,(([]:List ZAA),()))))))))))))) i38) fun y60=>
  bif d40.2.2.2.2.2.2.2.2.2.2.1 then
   let b61:Bool:=(!y60.1)
   bif y60.1 then
    some ((d40.1,(d40.2.1,(d40.2.2.1,(d40.2.2.2.1,(d40.2.2.2.2.1,(d40.2.2.2.2.2.1,(d40.2.2.2.2.2.2.1,(d40.2.2.2.2.2.2.2.1,(d40.2.2.2.2.2.2.2.2.1,(d40.2.2.2.2.2.2.2.2.2.1,(b61,d40.2.2.2.2.2.2.2.2.2.2.2))))))))))),(((17:Int),(i54,((0:Int),(i55,((0:Int),((0:Int),((0:Int),((0:Int),(false,(s56,(s57,(s58,(([]:List ZAA),()))))))))))))),((0:Int),(true,()))))
   else
    ZD1 i37 i38 i39 (d40.1,(d40.2.1,(d40.2.2.1,(d40.2.2.2.1,(d40.2.2.2.2.1,(d40.2.2.2.2.2.1,(d40.2.2.2.2.2.2.1,(d40.2.2.2.2.2.2.2.1,(d40.2.2.2.2.2.2.2.2.1,(d40.2.2.2.2.2.2.2.2.2.1,(b61,d40.2.2.2.2.2.2.2.2.2.2.2))))))))))) d41 d42 i43 i44 i45 s46 s47 s48 i49 i50 s51 s52 s53 i54 i55 s56 s57 s58
  else
   bif y60.1 then
    some ((d40.1,(d40.2.1,(d40.2.2.1,(d40.2.2.2.1,(d40.2.2.2.2.1,(d40.2.2.2.2.2.1,(d40.2.2.2.2.2.2.1,(d40.2.2.2.2.2.2.2.1,(d40.2.2.2.2.2.2.2.2.1,(d40.2.2.2.2.2.2.2.2.2.1,(false,d40.2.2.2.2.2.2.2.2.2.2.2))))))))))),(((17:Int),(i54,((0:Int),(i55,((0:Int),((0:Int),((0:Int),((0:Int),(false,(s56,(s57,(s58,(([]:List ZAA),()))))))))))))),((0:Int),(true,()))))
   else
    ZD1 i37 i38 i39 (d40.1,(d40.2.1,(d40.2.2.1,(d40.2.2.2.1,(d40.2.2.2.2.1,(d40.2.2.2.2.2.1,(d40.2.2.2.2.2.2.1,(d40.2.2.2.2.2.2.2.1,(d40.2.2.2.2.2.2.2.2.1,(d40.2.2.2.2.2.2.2.2.2.1,(false,d40.2.2.2.2.2.2.2.2.2.2.2))))))))))) d41 d42 i43 i44 i45 s46 s47 s48 i49 i50 s51 s52 s53 i54 i55 s56 s57 s58
 else
  bif d40.2.2.2.2.2.2.2.2.2.2.1 then
   ZD1 i37 i38 i39 (d40.1,(d40.2.1,(d40.2.2.1,(d40.2.2.2.1,(d40.2.2.2.2.1,(d40.2.2.2.2.2.1,(d40.2.2.2.2.2.2.1,(d40.2.2.2.2.2.2.2.1,(d40.2.2.2.2.2.2.2.2.1,(d40.2.2.2.2.2.2.2.2.2.1,(true,d40.2.2.2.2.2.2.2.2.2.2.2))))))))))) d41 d42 i43 i44 i45 s46 s47 s48 i49 i50 s51 s52 s53 i54 i55 s56 s57 s58
  else
   ZD1 i37 i38 i39 (d40.1,(d40.2.1,(d40.2.2.1,(d40.2.2.2.1,(d40.2.2.2.2.1,(d40.2.2.2.2.2.1,(d40.2.2.2.2.2.2.1,(d40.2.2.2.2.2.2.2.1,(d40.2.2.2.2.2.2.2.2.1,(d40.2.2.2.2.2.2.2.2.2.1,(false,d40.2.2.2.2.2.2.2.2.2.2.2))))))))))) d41 d42 i43 i44 i45 s46 s47 s48 i49 i50 s51 s52 s53 i54 i55 s56 s57 s58
theorem ZZ0 : ∃ f,f = @ZUG:=⟨_,rfl⟩
noncomputable def ZIW:=Classical.choose ZZ0
theorem ZZ1 : @ZIW = @ZUG:=Classical.choose_spec ZZ0
theorem Zli {base S0 cs0} (hfin:ZCI base S0):ZEx base S0 cs0 ZUF (Zb0 (ZIW)) :=
 ZAb.join hfin.2 (Zbz hfin) ZGw 100000 (by rw [ZZ1];intro x;kernel_rfl)
noncomputable def Zb1:Cfg→Option (Option (ZAB×ZAC×Int×Bool×Unit)):=cut ZUF (Zb0 (ZIW)) (Zby)
theorem Zb2 {base S0 cs0} (hfin:ZCI base S0):ZKZ base S0 cs0 (Zb1):=ZAH.cut (Zbz hfin) (Nat.le_of_eq hfin.1) (Zli hfin)
@[reducible] noncomputable def ZUH:CPat:=⟨⟨25,[1,0,1,0,0,1,1,0,0,1,1,1],none,[.any,.int .u64,.int .i64,.int .u64,.ptr 0 0,.any,.any,.any,.ptr 1 0,.ptr 2 0,.any,.any,.any,.any,.any,.any,.any,.any,.any,.any,.any,.any,.any,.any,.any,.any,.any,.any,.any,.any,.any,.any,.any,.any,.any,.any,.any,.any,.cs 3 0 3 14,.intC .i64 (3),.intC .i64 (0)],56⟩,[],[.dat 35 ZAJ,.dat 35 ZAJ,.dat 38 ZAN,.cells 159 [.ptr 0 12,.intC .u64 (4),.int .u64,.intC .u64 (0),.int .u64,.int .u64,.intC .u64 (0),.intC .u64 (0),.intC .u64 (0),.boolC false,.str,.str,.str,.nilSlice,.ptr 0 24,.intC .u64 (5),.int .u64,.intC .u64 (0),.intC .u64 (0),.int .u64,.intC .u64 (0),.intC .u64 (0),.intC .u64 (0),.boolC false,.str,.str,.str,.nilSlice,.ptr 0 20,.intC .u64 (17),.int .u64,.intC .u64 (0),.int .u64,.intC .u64 (0),.intC .u64 (0),.intC .u64 (0),.intC .u64 (0),.boolC false,.str,.str,.str,.nilSlice]],0⟩
@[reducible] noncomputable def Zb3 (k:Int→Int→Int→ZAB→ZAB→ZAC→Int→Int→Int→ByteArray→ByteArray→ByteArray→Int→Int→ByteArray→ByteArray→ByteArray→Int→Int→ByteArray→ByteArray→ByteArray→Option (ZAB×ZAC×Int×Bool×Unit)):ZC9 ZUH→Option (ZAB×ZAC×Int×Bool×Unit):=fun x=>k x.1.2.1 x.1.2.2.1 x.1.2.2.2.1 x.2.2.1 x.2.2.2.1 x.2.2.2.2.1 x.2.2.2.2.2.1.2.2.1 x.2.2.2.2.2.1.2.2.2.2.1 x.2.2.2.2.2.1.2.2.2.2.2.1 x.2.2.2.2.2.1.2.2.2.2.2.2.2.2.2.2.1 x.2.2.2.2.2.1.2.2.2.2.2.2.2.2.2.2.2.1 x.2.2.2.2.2.1.2.2.2.2.2.2.2.2.2.2.2.2.1 x.2.2.2.2.2.1.2.2.2.2.2.2.2.2.2.2.2.2.2.2.2.2.1 x.2.2.2.2.2.1.2.2.2.2.2.2.2.2.2.2.2.2.2.2.2.2.2.2.2.1 x.2.2.2.2.2.1.2.2.2.2.2.2.2.2.2.2.2.2.2.2.2.2.2.2.2.2.2.2.2.2.1 x.2.2.2.2.2.1.2.2.2.2.2.2.2.2.2.2.2.2.2.2.2.2.2.2.2.2.2.2.2.2.2.1 x.2.2.2.2.2.1.2.2.2.2.2.2.2.2.2.2.2.2.2.2.2.2.2.2.2.2.2.2.2.2.2.2.1 x.2.2.2.2.2.1.2.2.2.2.2.2.2.2.2.2.2.2.2.2.2.2.2.2.2.2.2.2.2.2.2.2.2.2.2.2.1 x.2.2.2.2.2.1.2.2.2.2.2.2.2.2.2.2.2.2.2.2.2.2.2.2.2.2.2.2.2.2.2.2.2.2.2.2.2.2.1 x.2.2.2.2.2.1.2.2.2.2.2.2.2.2.2.2.2.2.2.2.2.2.2.2.2.2.2.2.2.2.2.2.2.2.2.2.2.2.2.2.2.2.2.2.1 x.2.2.2.2.2.1.2.2.2.2.2.2.2.2.2.2.2.2.2.2.2.2.2.2.2.2.2.2.2.2.2.2.2.2.2.2.2.2.2.2.2.2.2.2.2.1 x.2.2.2.2.2.1.2.2.2.2.2.2.2.2.2.2.2.2.2.2.2.2.2.2.2.2.2.2.2.2.2.2.2.2.2.2.2.2.2.2.2.2.2.2.2.2.1
noncomputable def ZUI (i12:Int) (i13:Int) (i14:Int) (d15:ZAB) (d16:ZAB) (d17:ZAC) (i18:Int) (i19:Int) (i20:Int) (s21:ByteArray) (s22:ByteArray) (s23:ByteArray) (i24:Int) (i25:Int) (s26:ByteArray) (s27:ByteArray) (s28:ByteArray) (i29:Int) (i30:Int) (s31:ByteArray) (s32:ByteArray) (s33:ByteArray):Option (ZAB×ZAC×Int×Bool×Unit) :=
 let s34:ByteArray:=(ByteArray.mk (List.toArray ([]:List UInt8)))
 bif d15.2.2.2.2.2.2.2.2.2.2.2.2.2.2.1 then
  ZAX (ZFO ((5:Int),(i24,((0:Int),((0:Int),(i25,((0:Int),((0:Int),((0:Int),(false,(s26,(s27,(s28,(([]:List ZAA),()))))))))))))) i13) fun y35=>
  bif d15.2.2.2.2.2.2.2.2.2.2.2.2.2.2.1 then
   let b36:Bool:=(!y35.1)
   bif y35.1 then
    some ((d15.1,(d15.2.1,(d15.2.2.1,(d15.2.2.2.1,(d15.2.2.2.2.1,(d15.2.2.2.2.2.1,(d15.2.2.2.2.2.2.1,(d15.2.2.2.2.2.2.2.1,(d15.2.2.2.2.2.2.2.2.1,(d15.2.2.2.2.2.2.2.2.2.1,(d15.2.2.2.2.2.2.2.2.2.2.1,(d15.2.2.2.2.2.2.2.2.2.2.2.1,(d15.2.2.2.2.2.2.2.2.2.2.2.2.1,(d15.2.2.2.2.2.2.2.2.2.2.2.2.2.1,(b36,()))))))))))))))),(((5:Int),(i24,((0:Int),((0:Int),(i25,((0:Int),((0:Int),((0:Int),(false,(s26,(s27,(s28,(([]:List ZAA),()))))))))))))),((0:Int),(true,()))))
   else
    ZIW i12 i13 i14 (d15.1,(d15.2.1,(d15.2.2.1,(d15.2.2.2.1,(d15.2.2.2.2.1,(d15.2.2.2.2.2.1,(d15.2.2.2.2.2.2.1,(d15.2.2.2.2.2.2.2.1,(d15.2.2.2.2.2.2.2.2.1,(d15.2.2.2.2.2.2.2.2.2.1,(d15.2.2.2.2.2.2.2.2.2.2.1,(d15.2.2.2.2.2.2.2.2.2.2.2.1,(d15.2.2.2.2.2.2.2.2.2.2.2.2.1,(d15.2.2.2.2.2.2.2.2.2.2.2.2.2.1,(b36,()))))))))))))))) d16 d17 i18 i19 i20 s21 s22 s23 i24 i25 s26 s27 s28 i29 i30 s31 s32 s33
  else
   bif y35.1 then
    some ((d15.1,(d15.2.1,(d15.2.2.1,(d15.2.2.2.1,(d15.2.2.2.2.1,(d15.2.2.2.2.2.1,(d15.2.2.2.2.2.2.1,(d15.2.2.2.2.2.2.2.1,(d15.2.2.2.2.2.2.2.2.1,(d15.2.2.2.2.2.2.2.2.2.1,(d15.2.2.2.2.2.2.2.2.2.2.1,(d15.2.2.2.2.2.2.2.2.2.2.2.1,(d15.2.2.2.2.2.2.2.2.2.2.2.2.1,(d15.2.2.2.2.2.2.2.2.2.2.2.2.2.1,(false,()))))))))))))))),(((5:Int),(i24,((0:Int),((0:Int),(i25,((0:Int),((0:Int),((0:Int),(false,(s26,(s27,(s28,(([]:List ZAA),()))))))))))))),((0:Int),(true,()))))
   else
    ZIW i12 i13 i14 (d15.1,(d15.2.1,(d15.2.2.1,(d15.2.2.2.1,(d15.2.2.2.2.1,(d15.2.2.2.2.2.1,(d15.2.2.2.2.2.2.1,(d15.2.2.2.2.2.2.2.1,(d15.2.2.2.2.2.2.2.2.1,(d15.2.2.2.2.2.2.2.2.2.1,(d15.2.2.2.2.2.2.2.2.2.2.1,(d15.2.2.2.2.2.2.2.2.2.2.2.1,(d15.2.2.2.2.2.2.2.2.2.2.2.2.1,(d15.2.2.2.2.2.2.2.2.2.2.2.2.2.1,(false,()))))))))))))))) d16 d17 i18 i19 i20 s21 s22 s23 i24 i25 s26 s27 s28 i29 i30 s31 s32 s33
 else
  bif d15.2.2.2.2.2.2.2.2.2.2.2.2.2.2.1 then
   ZIW i12 i13 i14 (d15.1,(d15.2.1,(d15.2.2.1,(d15.2.2.2.1,(d15.2.2.2.2.1,(d15.2.2.2.2.2.1,(d15.2.2.2.2.2.2.1,(d15.2.2.2.2.2.2.2.1,(d15.2.2.2.2.2.2.2.2.1,(d15.2.2.2.2.2.2.2.2.2.1,(d15.2.2.2.2.2.2.2.2.2.2.1,(d15.2.2.2.2.2.2.2.2.2.2.2.1,(d15.2.2.2.2.2.2.2.2.2.2.2.2.1,(d15.2.2.2.2.2.2.2.2.2.2.2.2.2.1,(true,()))))))))))))))) d16 d17 i18 i19 i20 s21 s22 s23 i24 i25 s26 s27 s28 i29 i30 s31 s32 s33
  else
   ZIW i12 i13 i14 (d15.1,(d15.2.1,(d15.2.2.1,(d15.2.2.2.1,(d15.2.2.2.2.1,(d15.2.2.2.2.2.1,(d15.2.2.2.2.2.2.1,(d15.2.2.2.2.2.2.2.1,(d15.2.2.2.2.2.2.2.2.1,(d15.2.2.2.2.2.2.2.2.2.1,(d15.2.2.2.2.2.2.2.2.2.2.1,(d15.2.2.2.2.2.2.2.2.2.2.2.1,(d15.2.2.2.2.2.2.2.2.2.2.2.2.1,(d15.2.2.2.2.2.2.2.2.2.2.2.2.2.1,(false,()))))))))))))))) d16 d17 i18 i19 i20 s21 s22 s23 i24 i25 s26 s27 s28 i29 i30 s31 s32 s33
theorem ZZ2 : ∃ f,f = @ZUI:=⟨_,rfl⟩
noncomputable def ZIX:=Classical.choose ZZ2
theorem ZZ3 : @ZIX = @ZUI:=Classical.choose_spec ZZ2
theorem Zlj {base S0 cs0} (hfin:ZCI base S0):ZEx base S0 cs0 ZUH (Zb3 (ZIX)) :=
 ZAb.join hfin.2 (Zb2 hfin) ZGw 100000 (by rw [ZZ3];intro x;kernel_rfl)
noncomputable def Zb4:Cfg→Option (Option (ZAB×ZAC×Int×Bool×Unit)):=cut ZUH (Zb3 (ZIX)) (Zb1)
theorem Zlk {base S0 cs0} (hfin:ZCI base S0):ZKZ base S0 cs0 (Zb4):=ZAH.cut (Zb2 hfin) (Nat.le_of_eq hfin.1) (Zlj hfin)
noncomputable def ZSn (a0:ZAB) (a1:Int) (a2:Int) (a3:Int):Option (ZAB×ZAC×Int×Bool×Unit) :=
 let s4:ByteArray:=(ByteArray.mk (List.toArray ([]:List UInt8)))
 let s5:ByteArray:=(ByteArray.mk (List.toArray ([]:List UInt8)))
 let s6:ByteArray:=(ByteArray.mk (List.toArray ([]:List UInt8)))
 let s7:ByteArray:=(ByteArray.mk (List.toArray ([]:List UInt8)))
 let s8:ByteArray:=(ByteArray.mk (List.toArray ([]:List UInt8)))
 let s9:ByteArray:=(ByteArray.mk (List.toArray ([]:List UInt8)))
 bif a0.2.2.2.2.2.1 then
  ZAX (ZFO ((4:Int),(a1,((0:Int),(a0.1.2.1,(a0.2.2.1,((0:Int),((0:Int),((0:Int),(false,(s6,(s6,(s6,(([]:List ZAA),()))))))))))))) a2) fun y10=>
  bif a0.2.2.2.2.2.1 then
   let b11:Bool:=(!y10.1)
   bif y10.1 then
    some ((a0.1,(a0.2.1,(a0.2.2.1,(a0.2.2.2.1,(a0.2.2.2.2.1,(b11,a0.2.2.2.2.2.2)))))),(((4:Int),(a1,((0:Int),(a0.1.2.1,(a0.2.2.1,((0:Int),((0:Int),((0:Int),(false,(s6,(s6,(s6,(([]:List ZAA),()))))))))))))),((0:Int),(true,()))))
   else
    ZIX a1 a2 a3 (a0.1,(a0.2.1,(a0.2.2.1,(a0.2.2.2.1,(a0.2.2.2.2.1,(b11,a0.2.2.2.2.2.2)))))) (((0:Int),((0:Int),(s4,(([]:List ZAA),(([]:List ZAA),(false,(false,(false,())))))))),((0:Int),((0:Int),((0:Int),(false,(false,(false,(((0:Int),(([]:List ZAE),((0:Int),(false,())))),((0:Int),((0:Int),(false,(false,(false,((0:Int),(false,()))))))))))))))) ((0:Int),((0:Int),((0:Int),((0:Int),((0:Int),((0:Int),((0:Int),((0:Int),(false,(s5,(s5,(s5,(([]:List ZAA),()))))))))))))) a1 a0.1.2.1 a0.2.2.1 s6 s6 s6 a1 a0.2.2.2.2.2.2.2.2.2.2.2.2.2.1 s7 s7 s7 a1 a0.2.2.2.2.2.2.2.2.2.1 s8 s8 s8
  else
   bif y10.1 then
    some ((a0.1,(a0.2.1,(a0.2.2.1,(a0.2.2.2.1,(a0.2.2.2.2.1,(false,a0.2.2.2.2.2.2)))))),(((4:Int),(a1,((0:Int),(a0.1.2.1,(a0.2.2.1,((0:Int),((0:Int),((0:Int),(false,(s6,(s6,(s6,(([]:List ZAA),()))))))))))))),((0:Int),(true,()))))
   else
    ZIX a1 a2 a3 (a0.1,(a0.2.1,(a0.2.2.1,(a0.2.2.2.1,(a0.2.2.2.2.1,(false,a0.2.2.2.2.2.2)))))) (((0:Int),((0:Int),(s4,(([]:List ZAA),(([]:List ZAA),(false,(false,(false,())))))))),((0:Int),((0:Int),((0:Int),(false,(false,(false,(((0:Int),(([]:List ZAE),((0:Int),(false,())))),((0:Int),((0:Int),(false,(false,(false,((0:Int),(false,()))))))))))))))) ((0:Int),((0:Int),((0:Int),((0:Int),((0:Int),((0:Int),((0:Int),((0:Int),(false,(s5,(s5,(s5,(([]:List ZAA),()))))))))))))) a1 a0.1.2.1 a0.2.2.1 s6 s6 s6 a1 a0.2.2.2.2.2.2.2.2.2.2.2.2.2.1 s7 s7 s7 a1 a0.2.2.2.2.2.2.2.2.2.1 s8 s8 s8
 else
  bif a0.2.2.2.2.2.1 then
   ZIX a1 a2 a3 (a0.1,(a0.2.1,(a0.2.2.1,(a0.2.2.2.1,(a0.2.2.2.2.1,(true,a0.2.2.2.2.2.2)))))) (((0:Int),((0:Int),(s4,(([]:List ZAA),(([]:List ZAA),(false,(false,(false,())))))))),((0:Int),((0:Int),((0:Int),(false,(false,(false,(((0:Int),(([]:List ZAE),((0:Int),(false,())))),((0:Int),((0:Int),(false,(false,(false,((0:Int),(false,()))))))))))))))) ((0:Int),((0:Int),((0:Int),((0:Int),((0:Int),((0:Int),((0:Int),((0:Int),(false,(s5,(s5,(s5,(([]:List ZAA),()))))))))))))) a1 a0.1.2.1 a0.2.2.1 s6 s6 s6 a1 a0.2.2.2.2.2.2.2.2.2.2.2.2.2.1 s7 s7 s7 a1 a0.2.2.2.2.2.2.2.2.2.1 s8 s8 s8
  else
   ZIX a1 a2 a3 (a0.1,(a0.2.1,(a0.2.2.1,(a0.2.2.2.1,(a0.2.2.2.2.1,(false,a0.2.2.2.2.2.2)))))) (((0:Int),((0:Int),(s4,(([]:List ZAA),(([]:List ZAA),(false,(false,(false,())))))))),((0:Int),((0:Int),((0:Int),(false,(false,(false,(((0:Int),(([]:List ZAE),((0:Int),(false,())))),((0:Int),((0:Int),(false,(false,(false,((0:Int),(false,()))))))))))))))) ((0:Int),((0:Int),((0:Int),((0:Int),((0:Int),((0:Int),((0:Int),((0:Int),(false,(s5,(s5,(s5,(([]:List ZAA),()))))))))))))) a1 a0.1.2.1 a0.2.2.1 s6 s6 s6 a1 a0.2.2.2.2.2.2.2.2.2.2.2.2.2.1 s7 s7 s7 a1 a0.2.2.2.2.2.2.2.2.2.1 s8 s8 s8
theorem ZeQ : ∃ f,f = @ZSn:=⟨_,rfl⟩
noncomputable def ZCq:=Classical.choose ZeQ
theorem ZeR : @ZCq = @ZSn:=Classical.choose_spec ZeQ
noncomputable def ZWb:Con:=⟨[ZAJ,(.int .u64),(.int .i64),(.int .u64)],ZGO,fun x=>ZSn x.1 x.2.1 x.2.2.1 x.2.2.2.1⟩
noncomputable def ZKa:Con:=⟨[ZAJ,(.int .u64),(.int .i64),(.int .u64)],ZGO,fun x=>ZCq x.1 x.2.1 x.2.2.1 x.2.2.2.1⟩
theorem ZiI:ZWb.Sound prog Inv ZAq 25 :=
 ZAm (M:=ZY2) ZBo (f:=f25) rfl ZGw 100000 (X:=Zb4) (fun base S0 cs0 hn hf=>have hfin:ZCI base S0:=⟨hn,hf⟩;Zlk hfin) (by intro x;kernel_rfl)
theorem ZRb:ZKa.Sound prog Inv ZAq 25:=by
 have e:ZKa=ZWb:=by unfold ZKa ZWb;rw [ZeR]
 rw [e];exact ZiI
end Go.Proofs.YtamaklnhjagifaaGreatDoor.V
namespace Go.Proofs.YtamaklnhjagifaaGreatDoor.V
open Go.RowKit
set_option linter.unusedVariables false
abbrev noF:ZAC:=(0,0,0,0,0,0,0,0,false,⟨#[]⟩,⟨#[]⟩,⟨#[]⟩,[],())
def ZdX (f:ZAC) (most:Int):Bool:=ZiG f&&decide ((((Zr5 f).length:Nat):Int)≤most)
theorem ZfM (f:ZAC) (most:Int) (h:FrOk f):ZFO f most=some (ZdX f most,()):=by
 rw [ZeP,ZSl,ZwW f h]
 unfold ZdX
 cases hm:ZiG f with
 | true=>simp only [if_true,ZAK,beq_self_eq_true,cond_true,ZYP,Bool.true_and]
 | false=>simp only [Bool.false_eq_true,if_false,ZAK,show ((1:Int)==0)=false from rfl,cond_false,Bool.false_and]
def fr4 (id code mx:Int):ZAC:=(4,id,0,mx,code,0,0,0,false,⟨#[]⟩,⟨#[]⟩,⟨#[]⟩,[],())
def fr5 (id code:Int):ZAC:=(5,id,0,0,code,0,0,0,false,⟨#[]⟩,⟨#[]⟩,⟨#[]⟩,[],())
def Zuo (id mx:Int):ZAC:=(17,id,0,mx,0,0,0,0,false,⟨#[]⟩,⟨#[]⟩,⟨#[]⟩,[],())
def fr8 (id off:Int) (data:ByteArray) (fin:Bool):ZAC:=(8,id,off,0,0,0,0,0,fin,data,⟨#[]⟩,⟨#[]⟩,[],())
abbrev U64 (n:Int):Prop:=0≤n∧n<18446744073709551616
theorem ZD2:U64 0:=⟨Int.le_refl _,by decide⟩
theorem Zup {id code mx:Int} (h1:U64 id) (h2:U64 code) (h3:U64 mx):FrOk (fr4 id code mx) :=
 ⟨⟨by show (0:Int)≤4;omega,by show (4:Int)<_;omega⟩,h1,ZD2,h3,h2,ZD2,ZD2,ZD2,fun r hr=>(by cases hr),by simp [fr4]⟩
theorem ZwX {id code:Int} (h1:U64 id) (h2:U64 code):FrOk (fr5 id code) :=
 ⟨⟨by show (0:Int)≤5;omega,by show (5:Int)<_;omega⟩,h1,ZD2,ZD2,h2,ZD2,ZD2,ZD2,fun r hr=>(by cases hr),by simp [fr5]⟩
theorem Zuq {id mx:Int} (h1:U64 id) (h3:U64 mx):FrOk (Zuo id mx) :=
 ⟨⟨by show (0:Int)≤17;omega,by show (17:Int)<_;omega⟩,h1,ZD2,h3,ZD2,ZD2,ZD2,ZD2,fun r hr=>(by cases hr),by simp [Zuo]⟩
theorem ZwY {id off:Int} {data:ByteArray} {fin:Bool} (h1:U64 id) (h2:U64 off):FrOk (fr8 id off data fin) :=
 ⟨⟨by show (0:Int)≤8;omega,by show (8:Int)<_;omega⟩,h1,h2,ZD2,ZD2,ZD2,ZD2,ZD2,fun r hr=>(by cases hr),by simp [fr8]⟩
def ZrL (q:ZAF) (id most credit:Int):Nat→Option ZAC
 | 0=>none
 | n+1=>
  let x:=ZUl q ((n+1:Nat):Int) credit
  if x.2.2.2.1 then if ZdX (fr8 id x.1 x.2.1 x.2.2.1) most then some (fr8 id x.1 x.2.1 x.2.2.1) else ZrL q id most credit n else none
theorem Zur (q:ZAF) (k:Nat) (h:SQ q k) (most credit:Int):U64 (ZUl q most credit).1:=by
 have hb:=h.base
 have hen:=h.en
 unfold ZUl
 unfold enQ at *
 cases ht:q.2.2.2.2.1 with
 | nil=>
  simp only
  split
  · exact ⟨by omega,by omega⟩
  · exact ZD2
 | cons r t=>
  have:=h.todo.rng r (by rw [ht];exact List.mem_cons_self)
  have hf:=h.todo.can.full r (by rw [ht];exact List.mem_cons_self)
  simp only
  split
  · exact ZD2
  · exact ⟨by omega,by omega⟩
noncomputable def ZaX (s:ZAB) (id most more:Int):Option (ZAB×ZAC×Int×Bool×Unit) :=
 if s.2.2.2.2.1 then some (s,noF,0,false,()) else
 match ZrL s.1 id most (min s.2.1 (IntKind.wrap .u64 (s.1.2.1+more))) (min most 1200).toNat with
 | none=>some (s,noF,0,false,())
 | some f=>ZAX (ZPe s.1 f.2.2.1 ((f.2.2.2.2.2.2.2.2.2.1.size:Nat):Int) f.2.2.2.2.2.2.2.2.1) fun y=>some ((y.1,s.2),f,IntKind.wrap .u64 (y.1.2.1 - s.1.2.1),true,())
theorem Zc8 (f:ZAC) (s d:ZAB) (e:ZAC):ZIV f false s d e=some (s,noF,0,false,()):=by
 rw [ZRY,ZN0]
 rfl
theorem Zsn (f:ZAC) (s d:ZAB) (e:ZAC):ZIV f true s d e=ZAX (ZPe s.1 f.2.2.1 ((f.2.2.2.2.2.2.2.2.2.1.size:Nat):Int) f.2.2.2.2.2.2.2.2.1) fun y=>some ((y.1,s.2),f,IntKind.wrap .u64 (y.1.2.1 - s.1.2.1),true,()):=by
 rw [ZRY,ZN0]
 rfl
theorem Zso (s:ZAB) (k:Nat) (h:SQ s.1 k) (id most credit:Int) (hid:U64 id) (hc:0≤credit∧credit<18446744073709551616) (d:ZAB) (e:ZAC) : ∀ (n m:Nat),n≤1200→n<m →
  ZEy m id most credit ((n:Nat):Int) s noF d e=match ZrL s.1 id most credit n with
   | none=>some (s,noF,0,false,())
   | some f=>ZAX (ZPe s.1 f.2.2.1 ((f.2.2.2.2.2.2.2.2.2.1.size:Nat):Int) f.2.2.2.2.2.2.2.2.1) fun y=>some ((y.1,s.2),f,IntKind.wrap .u64 (y.1.2.1 - s.1.2.1),true,()):=by
 intro n
 induction n with
 | zero=>
  intro m h1 h2
  obtain ⟨m,rfl⟩ : ∃ k,m=k+1:=⟨m - 1,by omega⟩
  have c:decide ((((0:Nat):Nat):Int)>0)=false:=rfl
  simp only [ZEy,ZJz,c,cond_false,ZrL]
  exact Zc8 _ s d e
 | succ n ih=>
  intro m h1 h2
  obtain ⟨m,rfl⟩ : ∃ k,m=k+1:=⟨m - 1,by omega⟩
  have c:decide (((n+1:Nat):Int)>0)=true:=decide_eq_true (by omega)
  have hq:=Zyp s.1 k h ((n+1:Nat):Int) credit (by omega) hc
  have ho:=Zur s.1 k h ((n+1:Nat):Int) credit
  have w:IntKind.wrap .i64 (((n+1:Nat):Int) - 1)=((n:Nat):Int):=by rw [wrap_i64 _ (by omega) (by omega)];omega
  simp only [ZEy,ZJz,c,cond_true,hq,ZAK,ZrL]
  generalize ZUl s.1 ((n+1:Nat):Int) credit=x at *
  obtain ⟨off,data,fin,is,⟨⟩⟩:=x
  simp only at ho ⊢
  cases is with
  | false=>
   simp only [Bool.not_false,cond_true,Bool.false_eq_true,if_false,ZRZ,ZN1]
   exact Zc8 _ s d e
  | true=>
   have hfit:ZFO (8,id,off,0,0,0,0,0,fin,data,ByteArray.mk (List.toArray ([]:List UInt8)),ByteArray.mk (List.toArray ([]:List UInt8)),[],()) most=some (ZdX (fr8 id off data fin) most,()):=ZfM (fr8 id off data fin) most (ZwY hid ho)
   simp only [Bool.not_true,cond_false,if_true,hfit,ZAK]
   cases hx:ZdX (fr8 id off data fin) most with
   | true=>
    simp only [cond_true,if_true,ZRZ,ZN1]
    exact Zsn (fr8 id off data fin) s d e
   | false=>
    simp only [cond_false,Bool.false_eq_true,if_false,w]
    exact ih m (by omega) (by omega)
theorem Zr6 (s:ZAB) (k:Nat) (h:SQ s.1 k) (id most more:Int) (hid:U64 id) (hcr:U64 s.2.1) (hm : -4611686018427387904≤most) (d:ZAB) (e:ZAC) (i68 i69 i70:Int) (s71 s72 s73:ByteArray) (i74 i75:Int) (s76 s77 s78:ByteArray) (i79 i80:Int) (s81 s82 s83:ByteArray) :
  ZD1 id most more s d e i68 i69 i70 s71 s72 s73 i74 i75 s76 s77 s78 i79 i80 s81 s82 s83=ZaX s id most more:=by
 rw [ZRa,ZN3]
 unfold ZaX
 cases hr:s.2.2.2.2.1 with
 | true=>rfl
 | false=>
  have e1:(if IntKind.wrap .u64 (s.1.2.1+more)<s.2.1 then IntKind.wrap .u64 (s.1.2.1+more) else s.2.1)=min s.2.1 (IntKind.wrap .u64 (s.1.2.1+more)):=by split <;> omega
  have e2:(if (1200:Int)<most then (1200:Int) else most)=min most 1200:=by split <;> omega
  have hw:0≤IntKind.wrap .u64 (s.1.2.1+more)∧IntKind.wrap .u64 (s.1.2.1+more)<18446744073709551616:=by
   rw [ZJY]
   omega
  simp only [cond_false,Bool.false_eq_true,if_false,e1,e2,ZPn,ZMG]
  generalize IntKind.wrap .u64 (s.1.2.1+more)=w at *
  by_cases hp:0≤min most 1200
  ·
   have:=Zso s k h id most (min s.2.1 w) hid (by unfold U64 at hcr;omega) d e (min most 1200).toNat (Int.toNat (min most 1200 - 0)+2) (by omega) (by omega)
   have e3:(((min most 1200).toNat:Nat):Int)=min most 1200:=by omega
   rw [e3] at this
   exact this
  ·
   have h0:(min most 1200).toNat=0:=by omega
   have h1:Int.toNat (min most 1200 - 0)+2=1+1:=by omega
   rw [h0,h1]
   have c:decide (min most 1200>0)=false:=by simp;omega
   simp only [ZEy,ZJz,c,cond_false,ZrL]
   exact Zc8 _ s d e
structure SN (s:ZAB):Prop where
 cr:U64 s.2.1
 code:U64 s.2.2.1
 lim:U64 s.2.2.2.2.2.2.2.2.2.1
 sc:U64 s.2.2.2.2.2.2.2.2.2.2.2.2.2.1
noncomputable def ZqP (b4 b5 b17:Bool) (tl:Option (ZAB×ZAC×Int×Bool×Unit)) (s:ZAB) (id:Int):Option (ZAB×ZAC×Int×Bool×Unit) :=
 if s.2.2.2.2.2.1&&b4 then some ((s.1,s.2.1,s.2.2.1,s.2.2.2.1,s.2.2.2.2.1,false,s.2.2.2.2.2.2),fr4 id s.2.2.1 s.1.2.1,0,true,())
 else if s.2.2.2.2.2.2.2.2.2.2.2.2.2.2.1&&b5 then some ((s.1,s.2.1,s.2.2.1,s.2.2.2.1,s.2.2.2.2.1,s.2.2.2.2.2.1,s.2.2.2.2.2.2.1,s.2.2.2.2.2.2.2.1,s.2.2.2.2.2.2.2.2.1,s.2.2.2.2.2.2.2.2.2.1,s.2.2.2.2.2.2.2.2.2.2.1,s.2.2.2.2.2.2.2.2.2.2.2.1,s.2.2.2.2.2.2.2.2.2.2.2.2.1,s.2.2.2.2.2.2.2.2.2.2.2.2.2.1,false,()),fr5 id s.2.2.2.2.2.2.2.2.2.2.2.2.2.1,0,true,())
 else if s.2.2.2.2.2.2.2.2.2.2.1&&b17 then some ((s.1,s.2.1,s.2.2.1,s.2.2.2.1,s.2.2.2.2.1,s.2.2.2.2.2.1,s.2.2.2.2.2.2.1,s.2.2.2.2.2.2.2.1,s.2.2.2.2.2.2.2.2.1,s.2.2.2.2.2.2.2.2.2.1,false,s.2.2.2.2.2.2.2.2.2.2.2),Zuo id s.2.2.2.2.2.2.2.2.2.1,0,true,())
 else tl
theorem Zus (s:ZAB) (id most more:Int) (b4 b5 b17:Bool) (tl:Option (ZAB×ZAC×Int×Bool×Unit))
  (f4:ZFO (4,id,0,s.1.2.1,s.2.2.1,0,0,0,false,ByteArray.mk (List.toArray ([]:List UInt8)),ByteArray.mk (List.toArray ([]:List UInt8)),ByteArray.mk (List.toArray ([]:List UInt8)),[],()) most=some (b4,()))
  (f5:ZFO (5,id,0,0,s.2.2.2.2.2.2.2.2.2.2.2.2.2.1,0,0,0,false,ByteArray.mk (List.toArray ([]:List UInt8)),ByteArray.mk (List.toArray ([]:List UInt8)),ByteArray.mk (List.toArray ([]:List UInt8)),[],()) most=some (b5,()))
  (f17:ZFO (17,id,0,s.2.2.2.2.2.2.2.2.2.1,0,0,0,0,false,ByteArray.mk (List.toArray ([]:List UInt8)),ByteArray.mk (List.toArray ([]:List UInt8)),ByteArray.mk (List.toArray ([]:List UInt8)),[],()) most=some (b17,()))
  (tail : ∀ d e i68 i69 i70 s71 s72 s73 i74 i75 s76 s77 s78 i79 i80 s81 s82 s83,ZD1 id most more s d e i68 i69 i70 s71 s72 s73 i74 i75 s76 s77 s78 i79 i80 s81 s82 s83=tl):ZCq s id most more=ZqP b4 b5 b17 tl s id:=by
 obtain ⟨q,cr,cd,wy,rs,td,gn,inn,wn,lm,ra,br,st,sc,stt,⟨⟩⟩:=s
 simp only at f4 f5 f17
 rw [ZeR,ZSn]
 unfold ZqP
 cases td <;> cases stt <;> cases ra <;> cases b4 <;> cases b5 <;> cases b17 <;>
  simp only [cond_true,cond_false,f4,f5,f17,ZAK,ZZ3,ZUI,ZZ1,ZUG,tail,Bool.and_self,Bool.and_true,Bool.and_false,Bool.false_eq_true,if_true,if_false,Bool.not_true,Bool.not_false] <;> rfl
theorem ZwZ (s:ZAB) (k:Nat) (h:SQ s.1 k) (hn:SN s) (id most more:Int) (hid:U64 id) (hm : -4611686018427387904≤most):ZCq s id most more=ZqP (ZdX (fr4 id s.2.2.1 s.1.2.1) most) (ZdX (fr5 id s.2.2.2.2.2.2.2.2.2.2.2.2.2.1) most) (ZdX (Zuo id s.2.2.2.2.2.2.2.2.2.1) most) (ZaX s id most more) s id :=
 Zus s id most more _ _ _ _ (ZfM (fr4 id s.2.2.1 s.1.2.1) most (Zup hid hn.code ⟨h.top.1,Int.lt_of_le_of_lt h.top.2 (by decide)⟩)) (ZfM (fr5 id s.2.2.2.2.2.2.2.2.2.2.2.2.2.1) most (ZwX hid hn.sc)) (ZfM (Zuo id s.2.2.2.2.2.2.2.2.2.1) most (Zuq hid hn.lim))
  (fun d e i68 i69 i70 s71 s72 s73 i74 i75 s76 s77 s78 i79 i80 s81 s82 s83=>Zr6 s k h id most more hid hn.cr hm d e i68 i69 i70 s71 s72 s73 i74 i75 s76 s77 s78 i79 i80 s81 s82 s83)
end Go.Proofs.YtamaklnhjagifaaGreatDoor.V
namespace Go.Proofs.YtamaklnhjagifaaGreatDoor.V
open Go.RowKit Go.Proofs.Tryz
set_option linter.unusedVariables false
set_option maxRecDepth 100000
noncomputable def Zjq:Mach prog Inv ZAq:=ZFE bas [(81,f81)] ⟨ZzX,trivial⟩ [(19,ZFx)] ⟨⟨ZMU,ZAa.callable ZzB⟩,trivial⟩ [] trivial [] trivial
/-! ### domino/stream.further -/
@[reducible] def ZZ4:List Ty:=[(.int .u64)]
def ZiJ:List Nat:=[81]
noncomputable def ZMH (a0:ZAD) (a1:ZAD):Option (Int×Unit) :=
 ZAX (ZDt a0) fun y2=>
 ZAX (ZDt a1) fun y3=>
 let n4:Int:=(Go.IntKind.wrap Go.IntKind.u64 (y2.1 - y3.1))
 some (n4,())
theorem ZXx : ∃ f,f = @ZMH:=⟨_,rfl⟩
noncomputable def ZL1:=Classical.choose ZXx
theorem ZXy : @ZL1 = @ZMH:=Classical.choose_spec ZXx
noncomputable def ZPo:Con:=⟨[ZAP,ZAP],ZZ4,fun x=>ZMH x.1 x.2.1⟩
noncomputable def ZIl:Con:=⟨[ZAP,ZAP],ZZ4,fun x=>ZL1 x.1 x.2.1⟩
theorem ZdY:ZPo.Sound prog Inv ZAq 81 :=
 ZAm (M:=Zjq) ZBo (f:=f81) rfl ZiJ 100000 (X:=nowhere) (fun base S0 cs0 hn hf=>ZAH.nowhere) (by intro x;kernel_rfl)
theorem ZUJ:ZIl.Sound prog Inv ZAq 81:=by
 have e:ZIl=ZPo:=by unfold ZIl ZPo;rw [ZXy]
 rw [e];exact ZdY
noncomputable def Zoy:Mach prog Inv ZAq:=ZFE bas [(18,f18)] ⟨ZzA,trivial⟩ [(80,ZQN),(81,ZIl)] ⟨⟨ZbN,ZAa.callable ZzW⟩,⟨ZUJ,ZAa.callable ZzX⟩,trivial⟩ [] trivial [] trivial
/-! ### domino/stream.Data -/
@[reducible] def Zg3:List Ty:=[ZAJ,(.int .u64),(.int .i64)]
def Zmr:List Nat:=[18]
noncomputable def ZSo (a0:ZAB) (a1:ZAC):Option (ZAB×Int×Int×Unit) :=
 let s2:ByteArray:=(ByteArray.mk (List.toArray ([]:List UInt8)))
 let n3:Int:=(((ByteArray.size a1.2.2.2.2.2.2.2.2.2.1):Nat):Int)
 let n4:Int:=(Go.IntKind.wrap Go.IntKind.u64 n3)
 let n5:Int:=(Go.IntKind.wrap Go.IntKind.u64 (a1.2.2.1+n4))
 let b6:Bool:=(decide (n5>a0.2.2.2.2.2.2.2.2.2.1))
 bif b6 then
  some (a0,((0:Int),((170:Int),())))
 else
  ZAX (ZFy a0.2.2.2.2.2.2.2.1 a1.2.2.1 a1.2.2.2.2.2.2.2.2.2.1 a1.2.2.2.2.2.2.2.2.1) fun y7=>
  let b8:Bool:=(y7.2.1 != (0:Int))
  bif b8 then
   some (a0,((0:Int),y7.2))
  else
   bif a0.2.2.2.2.2.2.2.2.2.2.2.1 then
    some (a0,((0:Int),y7.2))
   else
    ZAX (ZL1 y7.1 a0.2.2.2.2.2.2.2.1) fun y9=>
    some ((a0.1,(a0.2.1,(a0.2.2.1,(a0.2.2.2.1,(a0.2.2.2.2.1,(a0.2.2.2.2.2.1,(a0.2.2.2.2.2.2.1,(y7.1,a0.2.2.2.2.2.2.2.2)))))))),(y9.1,((0:Int),())))
theorem ZeS : ∃ f,f = @ZSo:=⟨_,rfl⟩
noncomputable def ZFR:=Classical.choose ZeS
theorem ZeT : @ZFR = @ZSo:=Classical.choose_spec ZeS
noncomputable def ZWc:Con:=⟨[ZAJ,ZAN],Zg3,fun x=>ZSo x.1 x.2.1⟩
noncomputable def ZKb:Con:=⟨[ZAJ,ZAN],Zg3,fun x=>ZFR x.1 x.2.1⟩
theorem ZiK:ZWc.Sound prog Inv ZAq 18 :=
 ZAm (M:=Zoy) ZBo (f:=f18) rfl Zmr 100000 (X:=nowhere) (fun base S0 cs0 hn hf=>ZAH.nowhere) (by intro x;kernel_rfl)
theorem ZRc:ZKb.Sound prog Inv ZAq 18:=by
 have e:ZKb=ZWc:=by unfold ZKb ZWc;rw [ZeT]
 rw [e];exact ZiK
noncomputable def ZY3:Mach prog Inv ZAq:=ZFE bas [(17,f17)] ⟨Zy9,trivial⟩ [(79,ZSU)] ⟨⟨Zje,ZAa.callable Zz1⟩,trivial⟩ [] trivial [] trivial
/-! ### domino/stream.Read -/
@[reducible] def ZGP:List Ty:=[ZAJ,.str,.bool,(.int .i64)]
def ZeU:List Nat:=[17]
abbrev ZY4 (base:Base) (S0:Nat→Prop):=base.n=0∧FinOk (Zdd ZGP) base S0 (ZFg ZGP S0)
abbrev Zoz (base:Base) (S0:Nat→Prop) (cs0:List Go.Frame) (p:CPat) (J:ZC9 p→Option (ZFC ZGP)):=ZAb ZY3 base S0 cs0 (ZFg ZGP S0) p J
abbrev Zo0 (base:Base) (S0:Nat→Prop) (cs0:List Go.Frame) (X:Cfg→Option (Option (ZFC ZGP))):=ZAH ZY3 base S0 cs0 (ZFg ZGP S0) X
@[reducible] noncomputable def ZUK:CPat:=⟨⟨17,[1,1,1,1,0,1,1],none,[.any,.any,.ptr 0 0,.any,.ptr 1 0,.any,.any,.any,.any,.str,.bool],37⟩,[],[.dat 35 ZAJ,.dat 35 ZAJ],0⟩
@[reducible] noncomputable def Zb5 (k:ByteArray→Bool→ZAB→ZAB→Option (ZAB×ByteArray×Bool×Int×Unit)):ZC9 ZUK→Option (ZAB×ByteArray×Bool×Int×Unit):=fun x=>k x.1.2.2.2.2.2.2.2.2.2.1 x.1.2.2.2.2.2.2.2.2.2.2.1 x.2.2.1 x.2.2.2.1
noncomputable def ZN4 (s11:ByteArray) (b12:Bool) (d13:ZAB) (d14:ZAB):Option (ZAB×ByteArray×Bool×Int×Unit) :=
 some (d13,(s11,(b12,((0:Int),()))))
theorem ZZ5 : ∃ f,f = @ZN4:=⟨_,rfl⟩
noncomputable def ZN5:=Classical.choose ZZ5
theorem ZRd : @ZN5 = @ZN4:=Classical.choose_spec ZZ5
theorem Zll {base S0 cs0} (hfin:ZY4 base S0):Zoz base S0 cs0 ZUK (Zb5 (ZN5)) :=
 ZAb.join hfin.2 (ZAH.nowhere) ZeU 100000 (by rw [ZRd];intro x;kernel_rfl)
noncomputable def Zb6:Cfg→Option (Option (ZAB×ByteArray×Bool×Int×Unit)):=cut ZUK (Zb5 (ZN5)) (nowhere)
theorem Zlm {base S0 cs0} (hfin:ZY4 base S0):Zo0 base S0 cs0 (Zb6):=ZAH.cut (ZAH.nowhere) (Nat.le_of_eq hfin.1) (Zll hfin)
noncomputable def ZN6 (a0:ZAB) (a1:Int):Option (ZAB×ByteArray×Bool×Int×Unit) :=
 let s2:ByteArray:=(ByteArray.mk (List.toArray ([]:List UInt8)))
 let s3:ByteArray:=(ByteArray.mk (List.toArray ([]:List UInt8)))
 bif a0.2.2.2.2.2.2.2.2.2.2.2.1 then
  let s4:ByteArray:=(ByteArray.mk (List.toArray ([]:List UInt8)))
  some (a0,(s4,(true,((160:Int),()))))
 else
  ZAX (ZYh a0.2.2.2.2.2.2.2.1 a1) fun y5=>
  let b6:Bool:=(!y5.1.2.2.2.1)
  bif b6 then
   let n7:Int:=(Go.IntKind.wrap Go.IntKind.u64 (a0.2.2.2.2.2.2.2.2.2.1 - y5.1.1))
   let n8:Int:=(Int.fdiv a0.2.2.2.2.2.2.2.2.1 (2:Int))
   let b9:Bool:=(decide (n7<n8))
   bif b9 then
    let n10:Int:=(Go.IntKind.wrap Go.IntKind.u64 (y5.1.1+a0.2.2.2.2.2.2.2.2.1))
    some ((a0.1,(a0.2.1,(a0.2.2.1,(a0.2.2.2.1,(a0.2.2.2.2.1,(a0.2.2.2.2.2.1,(a0.2.2.2.2.2.2.1,(y5.1,(a0.2.2.2.2.2.2.2.2.1,(n10,(true,a0.2.2.2.2.2.2.2.2.2.2.2))))))))))),(y5.2.1,(y5.2.2.1,((0:Int),()))))
   else
    ZN5 y5.2.1 y5.2.2.1 (a0.1,(a0.2.1,(a0.2.2.1,(a0.2.2.2.1,(a0.2.2.2.2.1,(a0.2.2.2.2.2.1,(a0.2.2.2.2.2.2.1,(y5.1,a0.2.2.2.2.2.2.2.2)))))))) (((0:Int),((0:Int),(s2,(([]:List ZAA),(([]:List ZAA),(false,(false,(false,())))))))),((0:Int),((0:Int),((0:Int),(false,(false,(false,(((0:Int),(([]:List ZAE),((0:Int),(false,())))),((0:Int),((0:Int),(false,(false,(false,((0:Int),(false,())))))))))))))))
  else
   ZN5 y5.2.1 y5.2.2.1 (a0.1,(a0.2.1,(a0.2.2.1,(a0.2.2.2.1,(a0.2.2.2.2.1,(a0.2.2.2.2.2.1,(a0.2.2.2.2.2.2.1,(y5.1,a0.2.2.2.2.2.2.2.2)))))))) (((0:Int),((0:Int),(s2,(([]:List ZAA),(([]:List ZAA),(false,(false,(false,())))))))),((0:Int),((0:Int),((0:Int),(false,(false,(false,(((0:Int),(([]:List ZAE),((0:Int),(false,())))),((0:Int),((0:Int),(false,(false,(false,((0:Int),(false,())))))))))))))))
theorem ZeV : ∃ f,f = @ZN6:=⟨_,rfl⟩
noncomputable def ZFS:=Classical.choose ZeV
theorem ZWd : @ZFS = @ZN6:=Classical.choose_spec ZeV
noncomputable def ZWe:Con:=⟨[ZAJ,(.int .i64)],ZGP,fun x=>ZN6 x.1 x.2.1⟩
noncomputable def ZKc:Con:=⟨[ZAJ,(.int .i64)],ZGP,fun x=>ZFS x.1 x.2.1⟩
theorem ZiL:ZWe.Sound prog Inv ZAq 17 :=
 ZAm (M:=ZY3) ZBo (f:=f17) rfl ZeU 100000 (X:=Zb6) (fun base S0 cs0 hn hf=>have hfin:ZY4 base S0:=⟨hn,hf⟩;Zlm hfin) (by intro x;kernel_rfl)
theorem ZRe:ZKc.Sound prog Inv ZAq 17:=by
 have e:ZKc=ZWe:=by unfold ZKc ZWe;rw [ZWd]
 rw [e];exact ZiL
noncomputable def ZqQ:Mach prog Inv ZAq:=ZFE bas [(97,f97)] ⟨Zz9,trivial⟩ [(80,ZQN)] ⟨⟨ZbN,ZAa.callable ZzW⟩,trivial⟩ [] trivial [] trivial
/-! ### domino/gather.Set -/
@[reducible] def Zix:List Ty:=[ZAP,(.int .i64)]
def Zo1:List Nat:=[97]
noncomputable def ZVf (a0:ZAD) (a1:Int):Option (ZAD×Int×Unit) :=
 ZAX (ZFy a0 a1 (ByteArray.mk (List.toArray ([]:List UInt8))) true) fun y2=>
 some y2
theorem Zg4 : ∃ f,f = @ZVf:=⟨_,rfl⟩
noncomputable def Zc9:=Classical.choose Zg4
theorem Zg5 : @Zc9 = @ZVf:=Classical.choose_spec Zg4
noncomputable def ZY5:Con:=⟨[ZAP,(.int .u64)],Zix,fun x=>ZVf x.1 x.2.1⟩
noncomputable def ZVg:Con:=⟨[ZAP,(.int .u64)],Zix,fun x=>Zc9 x.1 x.2.1⟩
theorem Zjr:ZY5.Sound prog Inv ZAq 97 :=
 ZAm (M:=ZqQ) ZBo (f:=f97) rfl Zo1 100000 (X:=nowhere) (fun base S0 cs0 hn hf=>ZAH.nowhere) (by intro x;kernel_rfl)
theorem Zln:ZVg.Sound prog Inv ZAq 97:=by
 have e:ZVg=ZY5:=by unfold ZVg ZY5;rw [Zg5]
 rw [e];exact Zjr
noncomputable def ZWf:Mach prog Inv ZAq:=ZFE bas [(29,f29),(98,f98)] ⟨Zzy,Z0A,trivial⟩ [(81,ZIl),(97,ZVg),(158,ZIs)] ⟨⟨ZUJ,ZAa.callable ZzX⟩,⟨Zln,ZAa.callable Zz9⟩,⟨ZPb,ZAa.callable Zvg⟩,trivial⟩ [] trivial [] trivial
/-! ### domino/stream.Break -/
@[reducible] def ZE6:List Ty:=[ZAJ,(.int .u64),(.int .i64)]
def Zb7:List Nat:=[29,98]
abbrev ZWg (base:Base) (S0:Nat→Prop):=base.n=0∧FinOk (Zdd ZE6) base S0 (ZFg ZE6 S0)
abbrev Zms (base:Base) (S0:Nat→Prop) (cs0:List Go.Frame) (p:CPat) (J:ZC9 p→Option (ZFC ZE6)):=ZAb ZWf base S0 cs0 (ZFg ZE6 S0) p J
abbrev Zmt (base:Base) (S0:Nat→Prop) (cs0:List Go.Frame) (X:Cfg→Option (Option (ZFC ZE6))):=ZAH ZWf base S0 cs0 (ZFg ZE6 S0) X
@[reducible] noncomputable def ZRf:CPat:=⟨⟨29,[1,1,1,1,1,1,0,1,1,1],none,[.any,.any,.ptr 0 0,.ptr 1 0,.ptr 2 0,.any,.any,.any,.any,.int .u64],50⟩,[],[.dat 35 ZAJ,.dat 38 ZAN,.dat 35 ZAJ],0⟩
@[reducible] noncomputable def ZZ6 (k:Int→ZAB→ZAC→ZAB→Option (ZAB×Int×Int×Unit)):ZC9 ZRf→Option (ZAB×Int×Int×Unit):=fun x=>k x.1.2.2.2.2.2.2.2.2.2.1 x.2.2.1 x.2.2.2.1 x.2.2.2.2.1
noncomputable def ZRg (i10:Int) (d11:ZAB) (d12:ZAC) (d13:ZAB):Option (ZAB×Int×Int×Unit) :=
 let b14:Bool:=(!d11.2.2.2.2.2.2.2.2.2.2.2.1)
 bif b14 then
  some ((d11.1,(d11.2.1,(d11.2.2.1,(d12.2.2.2.2.1,(d11.2.2.2.2.1,(d11.2.2.2.2.2.1,(d11.2.2.2.2.2.2.1,((d11.2.2.2.2.2.2.2.1.1,(([]:List ZAE),d11.2.2.2.2.2.2.2.1.2.2)),(d11.2.2.2.2.2.2.2.2.1,(d11.2.2.2.2.2.2.2.2.2.1,(d11.2.2.2.2.2.2.2.2.2.2.1,(true,d11.2.2.2.2.2.2.2.2.2.2.2.2)))))))))))),(i10,((0:Int),())))
 else
  some ((d11.1,(d11.2.1,(d11.2.2.1,(d11.2.2.2.1,(d11.2.2.2.2.1,(d11.2.2.2.2.2.1,(d11.2.2.2.2.2.2.1,((d11.2.2.2.2.2.2.2.1.1,(([]:List ZAE),d11.2.2.2.2.2.2.2.1.2.2)),d11.2.2.2.2.2.2.2.2)))))))),(i10,((0:Int),())))
theorem ZXz : ∃ f,f = @ZRg:=⟨_,rfl⟩
noncomputable def ZGx:=Classical.choose ZXz
theorem ZX0 : @ZGx = @ZRg:=Classical.choose_spec ZXz
theorem Zjs {base S0 cs0} (hfin:ZWg base S0):Zms base S0 cs0 ZRf (ZZ6 (ZGx)) :=
 ZAb.join hfin.2 (ZAH.nowhere) Zb7 100000 (by rw [ZX0];intro x;kernel_rfl)
noncomputable def ZZ7:Cfg→Option (Option (ZAB×Int×Int×Unit)):=cut ZRf (ZZ6 (ZGx)) (nowhere)
theorem Zjt {base S0 cs0} (hfin:ZWg base S0):Zmt base S0 cs0 (ZZ7):=ZAH.cut (ZAH.nowhere) (Nat.le_of_eq hfin.1) (Zjs hfin)
noncomputable def ZP4 (a0:ZAB) (a1:ZAC):Option (ZAB×Int×Int×Unit) :=
 let s2:ByteArray:=(ByteArray.mk (List.toArray ([]:List UInt8)))
 let b3:Bool:=(decide (a1.2.2.2.1>a0.2.2.2.2.2.2.2.2.2.1))
 bif b3 then
  some (a0,((0:Int),((170:Int),())))
 else
  ZAX (Zc9 a0.2.2.2.2.2.2.2.1 a1.2.2.2.1) fun y4=>
  let b5:Bool:=(y4.2.1 != (0:Int))
  bif b5 then
   some (a0,((0:Int),y4.2))
  else
   ZAX (ZL1 y4.1 a0.2.2.2.2.2.2.2.1) fun y6=>
   bif a0.2.2.2.2.2.2.2.1.2.2.2.1 then
    let b7:Bool:=(!a0.2.2.2.2.2.2.2.2.2.2.2.1)
    bif b7 then
     ZAX (ZMq y4.1) fun y8=>
     bif y8.2.1 then
      some ((a0.1,(a0.2.1,(a0.2.2.1,(a0.2.2.2.1,(a0.2.2.2.2.1,(a0.2.2.2.2.2.1,(a0.2.2.2.2.2.2.1,(y4.1,a0.2.2.2.2.2.2.2.2)))))))),(y6.1,((0:Int),())))
     else
      ZGx y6.1 (a0.1,(a0.2.1,(a0.2.2.1,(a0.2.2.2.1,(a0.2.2.2.2.1,(a0.2.2.2.2.2.1,(a0.2.2.2.2.2.2.1,(y4.1,a0.2.2.2.2.2.2.2.2)))))))) a1 (((0:Int),((0:Int),(s2,(([]:List ZAA),(([]:List ZAA),(false,(false,(false,())))))))),((0:Int),((0:Int),((0:Int),(false,(false,(false,(((0:Int),(([]:List ZAE),((0:Int),(false,())))),((0:Int),((0:Int),(false,(false,(false,((0:Int),(false,())))))))))))))))
    else
     ZGx y6.1 (a0.1,(a0.2.1,(a0.2.2.1,(a0.2.2.2.1,(a0.2.2.2.2.1,(a0.2.2.2.2.2.1,(a0.2.2.2.2.2.2.1,(y4.1,a0.2.2.2.2.2.2.2.2)))))))) a1 (((0:Int),((0:Int),(s2,(([]:List ZAA),(([]:List ZAA),(false,(false,(false,())))))))),((0:Int),((0:Int),((0:Int),(false,(false,(false,(((0:Int),(([]:List ZAE),((0:Int),(false,())))),((0:Int),((0:Int),(false,(false,(false,((0:Int),(false,())))))))))))))))
   else
    ZGx y6.1 (a0.1,(a0.2.1,(a0.2.2.1,(a0.2.2.2.1,(a0.2.2.2.2.1,(a0.2.2.2.2.2.1,(a0.2.2.2.2.2.2.1,(y4.1,a0.2.2.2.2.2.2.2.2)))))))) a1 (((0:Int),((0:Int),(s2,(([]:List ZAA),(([]:List ZAA),(false,(false,(false,())))))))),((0:Int),((0:Int),((0:Int),(false,(false,(false,(((0:Int),(([]:List ZAE),((0:Int),(false,())))),((0:Int),((0:Int),(false,(false,(false,((0:Int),(false,())))))))))))))))
theorem Zb8 : ∃ f,f = @ZP4:=⟨_,rfl⟩
noncomputable def ZJ0:=Classical.choose Zb8
theorem Zb9 : @ZJ0 = @ZP4:=Classical.choose_spec Zb8
noncomputable def ZUL:Con:=⟨[ZAJ,ZAN],ZE6,fun x=>ZP4 x.1 x.2.1⟩
noncomputable def ZP5:Con:=⟨[ZAJ,ZAN],ZE6,fun x=>ZJ0 x.1 x.2.1⟩
theorem Zg6:ZUL.Sound prog Inv ZAq 29 :=
 ZAm (M:=ZWf) ZBo (f:=f29) rfl Zb7 100000 (X:=ZZ7) (fun base S0 cs0 hn hf=>have hfin:ZWg base S0:=⟨hn,hf⟩;Zjt hfin) (by intro x;kernel_rfl)
theorem ZiM:ZP5.Sound prog Inv ZAq 29:=by
 have e:ZP5=ZUL:=by unfold ZP5 ZUL;rw [Zb9]
 rw [e];exact Zg6
end Go.Proofs.YtamaklnhjagifaaGreatDoor.V
namespace Go.Proofs.YtamaklnhjagifaaGreatDoor.V
open Go.RowKit
set_option linter.unusedVariables false
structure GI (s:ZAD) (g:Int→Int) (t:RS) (k:Nat):Prop where
 l:s.2.1=ZDS g t
 by_:ByF g
 plc:Plc t
 len:t.length≤k
 rd:0≤s.1∧s.1≤4611686018427387903
 fin:0≤s.2.2.1∧s.2.2.1≤4611686018427387903
 low : ∀ r∈t,s.1≤r.1
theorem GI.mono {s:ZAD} {g:Int→Int} {t:RS} {k m:Nat} (h:GI s g t k) (hm:k≤m):GI s g t m:=⟨h.l,h.by_,h.plc,Nat.le_trans h.len hm,h.rd,h.fin,h.low⟩
theorem Zut (g:Int→Int) (hg:ByF g):GI (0,[],0,false,()) g [] 0:=⟨rfl,hg,⟨ZYQ,fun _ h=>by cases h⟩,Nat.le_refl _,⟨Int.le_refl _,by decide⟩,⟨Int.le_refl _,by decide⟩,fun _ h=>by cases h⟩
theorem Znk {s u:ZAD} {g h:Int→Int} {t v:RS} {k m:Nat} (hs:GI s g t k) (hu:GI u h v m) (hk:k≤100000) (hm:m≤100000):ZL1 u s=some (IntKind.wrap .u64 (hiF u.1 u.2.2.1 v - hiF s.1 s.2.2.1 t),()):=by
 rw [ZXy,ZMH,ZS4 h v u hu.l hu.plc (by have:=hu.len;omega),ZS4 g t s hs.l hs.plc (by have:=hs.len;omega)]
 rfl
structure PutR (s:ZAD) (t:RS) (g:Int→Int) (off:Int) (data:ByteArray) (fin:Bool) (k:Nat) (s':ZAD) (u:RS):Prop where
 gi:GI s' (ov t g (Zig off data)) u (k+1)
 rd:s'.1=s.1
 fn:s'.2.2.1=if fin then off+((data.size:Nat):Int) else s.2.2.1
 kn:s'.2.2.2.1=(fin||s.2.2.2.1)
 mem : ∀ n,ZGV u n↔ZGV t n∨(max s.1 off≤n∧n<off+((data.size:Nat):Int))
theorem Zy2 {s:ZAD} {g:Int→Int} {t:RS} {k:Nat} (h:GI s g t k) (hk:k≤100000) (off:Int) (data:ByteArray) (fin:Bool) (ho:0≤off) (he:off+((data.size:Nat):Int)≤4611686018427387903) (hd:data.size≤1099511627776) :
  (ZrF s (hiF s.1 s.2.2.1 t) (off+((data.size:Nat):Int)) fin=true→ZFy s off data fin=some (s,140,())) ∧
  (ZrF s (hiF s.1 s.2.2.1 t) (off+((data.size:Nat):Int)) fin=false → ∃ s' u,ZFy s off data fin=some (s',0,())∧PutR s t g off data fin k s' u):=by
 obtain ⟨_,h2,h3⟩:=ZxO g t s h.l h.by_ h.plc (by have:=h.len;omega) h.rd.1 off data fin ⟨ho,by omega⟩ hd
 refine ⟨h2 he,fun hb => ?_⟩
 obtain ⟨u,u1,u2,u3,u4⟩:=h3 he hb
 have hf:=h.fin
 have hr:=h.rd
 refine ⟨_,u,u1,⟨⟨rfl,Zzk h.by_ (ZoV _ _),u2,by have:=h.len;omega,hr,?_,fun r hr' => ?_⟩,rfl,rfl,rfl,u3⟩⟩
 ·
  simp only
  split <;> omega
 ·
  have hfr:=u2.can.full r hr'
  rcases (u3 r.1).mp ⟨r,hr',Int.le_refl _,hfr⟩ with h5 | h5
  ·
   obtain ⟨x,hx,h6,_⟩:=h5
   have:=h.low x hx
   simp only
   omega
  ·
   simp only
   omega
def ZG0 (s:ZAB) (x:ZAD):ZAB:=(s.1,s.2.1,s.2.2.1,s.2.2.2.1,s.2.2.2.2.1,s.2.2.2.2.2.1,s.2.2.2.2.2.2.1,x,s.2.2.2.2.2.2.2.2)
theorem Zo2 (s:ZAB) {g:Int→Int} {t:RS} {k:Nat} (h:GI s.2.2.2.2.2.2.2.1 g t k) (hk:k≤99999) (f:ZAC) (ho:0≤f.2.2.1) (he:f.2.2.1+((f.2.2.2.2.2.2.2.2.2.1.size:Nat):Int)≤4611686018427387903) (hd:f.2.2.2.2.2.2.2.2.2.1.size≤1099511627776) :
  (f.2.2.1+((f.2.2.2.2.2.2.2.2.2.1.size:Nat):Int)>s.2.2.2.2.2.2.2.2.2.1→ZFR s f=some (s,0,170,())) ∧
  (f.2.2.1+((f.2.2.2.2.2.2.2.2.2.1.size:Nat):Int)≤s.2.2.2.2.2.2.2.2.2.1→ZrF s.2.2.2.2.2.2.2.1 (hiF s.2.2.2.2.2.2.2.1.1 s.2.2.2.2.2.2.2.1.2.2.1 t) (f.2.2.1+((f.2.2.2.2.2.2.2.2.2.1.size:Nat):Int)) f.2.2.2.2.2.2.2.2.1=true→ZFR s f=some (s,0,140,())) ∧
  (f.2.2.1+((f.2.2.2.2.2.2.2.2.2.1.size:Nat):Int)≤s.2.2.2.2.2.2.2.2.2.1→ZrF s.2.2.2.2.2.2.2.1 (hiF s.2.2.2.2.2.2.2.1.1 s.2.2.2.2.2.2.2.1.2.2.1 t) (f.2.2.1+((f.2.2.2.2.2.2.2.2.2.1.size:Nat):Int)) f.2.2.2.2.2.2.2.2.1=false →
   (s.2.2.2.2.2.2.2.2.2.2.2.1=true→ZFR s f=some (s,0,0,())) ∧
   (s.2.2.2.2.2.2.2.2.2.2.2.1=false → ∃ s' u,ZFR s f=some (ZG0 s s',IntKind.wrap .u64 (hiF s'.1 s'.2.2.1 u - hiF s.2.2.2.2.2.2.2.1.1 s.2.2.2.2.2.2.2.1.2.2.1 t),0,())∧PutR s.2.2.2.2.2.2.2.1 t g f.2.2.1 f.2.2.2.2.2.2.2.2.2.1 f.2.2.2.2.2.2.2.2.1 k s' u)):=by
 obtain ⟨h1,h2⟩:=Zy2 h (by omega) f.2.2.1 f.2.2.2.2.2.2.2.2.2.1 f.2.2.2.2.2.2.2.2.1 ho he hd
 have w1:IntKind.wrap .u64 ((f.2.2.2.2.2.2.2.2.2.1.size:Nat):Int)=((f.2.2.2.2.2.2.2.2.2.1.size:Nat):Int):=ZAh _ (by omega) (by omega)
 have w2:IntKind.wrap .u64 (f.2.2.1+((f.2.2.2.2.2.2.2.2.2.1.size:Nat):Int))=f.2.2.1+((f.2.2.2.2.2.2.2.2.2.1.size:Nat):Int):=ZAh _ (by omega) (by omega)
 rw [ZeT,ZSo]
 simp only [w1,w2]
 by_cases hl:f.2.2.1+((f.2.2.2.2.2.2.2.2.2.1.size:Nat):Int)>s.2.2.2.2.2.2.2.2.2.1
 ·
  simp only [hl,decide_true,cond_true]
  exact ⟨fun _=>trivial,fun h=>absurd h (by omega),fun h=>absurd h (by omega)⟩
 ·
  simp only [hl,decide_false,cond_false]
  refine ⟨fun h=>by first | exact h.elim | omega,fun _ hb => ?_,fun _ hb => ?_⟩
  ·
   rw [h1 hb]
   rfl
  ·
   obtain ⟨s',u,p1,p2⟩:=h2 hb
   rw [p1]
   simp only [ZAK,bne_self_eq_false,cond_false]
   refine ⟨fun hx => ?_,fun hx=>⟨s',u,?_,p2⟩⟩
   · rw [hx];rfl
   ·
    rw [hx]
    simp only [cond_false]
    rw [Znk h p2.gi (by omega) (by omega)]
    rfl
theorem ZrM (s:ZAB) (n:Int) (h:s.2.2.2.2.2.2.2.2.2.2.2.1=true):ZFS s n=some (s,⟨#[]⟩,true,160,()):=by
 rw [ZWd,ZN6,h]
 rfl
def Zr7 (s:ZAB) (rd:Int):Bool := !s.2.2.2.2.2.2.2.1.2.2.2.1&&decide (IntKind.wrap .u64 (s.2.2.2.2.2.2.2.2.2.1 - rd)<Int.fdiv s.2.2.2.2.2.2.2.2.1 2)
def ZrN (s:ZAB) (x:ZAD):ZAB :=
 if Zr7 s x.1 then (s.1,s.2.1,s.2.2.1,s.2.2.2.1,s.2.2.2.2.1,s.2.2.2.2.2.1,s.2.2.2.2.2.2.1,x,s.2.2.2.2.2.2.2.2.1,IntKind.wrap .u64 (x.1+s.2.2.2.2.2.2.2.2.1),true,s.2.2.2.2.2.2.2.2.2.2.2) else ZG0 s x
structure TakeR (s:ZAD) (t:RS) (g:Int→Int) (n:Int) (k:Nat) (s':ZAD) (u:RS):Prop where
 gi:GI s' g u k
 rd:s'.1=s.1+tkN s.1 t n
 fn:s'.2.2.1=s.2.2.1
 kn:s'.2.2.2.1=s.2.2.2.1
 mem : ∀ m,ZGV u m↔ZGV t m∧s.1+tkN s.1 t n≤m
theorem Zuu {rd:Int} {t:RS} (ht:Plc t) (n:Int):0≤tkN rd t n∧tkN rd t n≤Zd4 rd t:=by
 have:=ZuQ (rd:=rd) ht.can
 unfold tkN
 omega
theorem ZxW {rd fin:Int} {t:RS} (ht:Plc t):rd+Zd4 rd t≤hiF rd fin t:=by
 cases t with
 | nil=>
  have:=ZlK rd fin []
  show rd+0≤_
  omega
 | cons r t=>
  have hf:=ht.can.head
  unfold Zd4
  simp only
  split
  ·
   have:=Zoh rd fin ht.can (n:=r.2.1) ⟨r,List.mem_cons_self,hf,Int.le_refl _⟩
   omega
  ·
   have:=ZlK rd fin (r::t)
   omega
theorem Zo3 (s:ZAB) {g:Int→Int} {t:RS} {k:Nat} (h:GI s.2.2.2.2.2.2.2.1 g t k) (hk:k≤100000) (hbr:s.2.2.2.2.2.2.2.2.2.2.2.1=false) (n:Int) (hsz:Zd4 s.2.2.2.2.2.2.2.1.1 t≤4294967296) (hrd:s.2.2.2.2.2.2.2.1.1+Zd4 s.2.2.2.2.2.2.2.1.1 t≤4611686018427387903) :
  ∃ s' u,ZFS s n=some (ZrN s s',seg g s.2.2.2.2.2.2.2.1.1 (s'.1 - 1),s.2.2.2.2.2.2.2.1.2.2.2.1&&(s'.1==s.2.2.2.2.2.2.2.1.2.2.1),0,())∧TakeR s.2.2.2.2.2.2.2.1 t g n k s' u:=by
 have hr:=h.rd
 have hlen:=h.len
 obtain ⟨u,u1,u2,u3,u4⟩:=ZxP g t s.2.2.2.2.2.2.2.1 h.l h.by_ h.plc (by omega) ⟨hr.1,by omega⟩ h.low hsz n
 have htk:=Zuu (rd:=s.2.2.2.2.2.2.2.1.1) h.plc n
 refine ⟨(s.2.2.2.2.2.2.2.1.1+tkN s.2.2.2.2.2.2.2.1.1 t n,ZDS g u,s.2.2.2.2.2.2.2.1.2.2.1,s.2.2.2.2.2.2.2.1.2.2.2.1,()),u,?_,⟨⟨rfl,h.by_,u2,by omega,⟨by simp only;omega,by simp only;omega⟩,h.fin,fun r hr' => ?_⟩,rfl,rfl,rfl,u3⟩⟩
 ·
  rw [ZWd,ZN6,hbr]
  simp only [cond_false,u1,ZAK]
  unfold ZrN Zr7
  cases hkn:s.2.2.2.2.2.2.2.1.2.2.2.1 with
  | true=>
   simp only [Bool.not_true,cond_false,ZRd,ZN4,Bool.false_and,Bool.false_eq_true,if_false]
   rfl
  | false=>
   simp only [Bool.not_false,cond_true,Bool.true_and]
   by_cases hx:IntKind.wrap .u64 (s.2.2.2.2.2.2.2.2.2.1 - (s.2.2.2.2.2.2.2.1.1+tkN s.2.2.2.2.2.2.2.1.1 t n))<Int.fdiv s.2.2.2.2.2.2.2.2.1 2
   · simp only [hx,decide_true,cond_true,if_true]
   ·
    simp only [hx,decide_false,cond_false,ZRd,ZN4,Bool.false_eq_true,if_false]
    rfl
 · exact ((u3 r.1).mp ⟨r,hr',Int.le_refl _,u2.can.full r hr'⟩).2
end Go.Proofs.YtamaklnhjagifaaGreatDoor.V
namespace Go.Proofs.YtamaklnhjagifaaGreatDoor.V
open Go.RowKit Go.Proofs.Tryz
set_option linter.unusedVariables false
set_option maxRecDepth 100000
noncomputable def ZqR:Mach prog Inv ZAq:=ZFE bas [(16,f16)] ⟨Zxl,trivial⟩ [] trivial [] trivial [] trivial
/-! ### domino/stream.New -/
@[reducible] def Ziy:List Ty:=[ZAJ]
def Zo4:List Nat:=[16]
noncomputable def ZVh (a0:Int) (a1:Int):Option (ZAB×Unit) :=
 let s2:ByteArray:=(ByteArray.mk (List.toArray ([]:List UInt8)))
 let s3:ByteArray:=(ByteArray.mk (List.toArray ([]:List UInt8)))
 some ((((0:Int),((0:Int),(s3,(([]:List ZAA),(([]:List ZAA),(false,(false,(false,())))))))),(a0,((0:Int),((0:Int),(false,(false,(false,(((0:Int),(([]:List ZAE),((0:Int),(false,())))),(a1,(a1,(false,(false,(false,((0:Int),(false,()))))))))))))))),())
theorem Zg7 : ∃ f,f = @ZVh:=⟨_,rfl⟩
noncomputable def ZKd:=Classical.choose Zg7
theorem Zg8 : @ZKd = @ZVh:=Classical.choose_spec Zg7
noncomputable def ZY6:Con:=⟨[(.int .u64),(.int .u64)],Ziy,fun x=>ZVh x.1 x.2.1⟩
noncomputable def ZH7:Con:=⟨[(.int .u64),(.int .u64)],Ziy,fun x=>ZKd x.1 x.2.1⟩
theorem Zju:ZY6.Sound prog Inv ZAq 16 :=
 ZAm (M:=ZqR) ZBo (f:=f16) rfl Zo4 100000 (X:=nowhere) (fun base S0 cs0 hn hf=>ZAH.nowhere) (by intro x;kernel_rfl)
theorem ZJ1:ZH7.Sound prog Inv ZAq 16:=by
 have e:ZH7=ZY6:=by unfold ZH7 ZY6;rw [Zg8]
 rw [e];exact Zju
noncomputable def Zo5:Mach prog Inv ZAq:=ZFE bas [(15,f15)] ⟨Zx4,trivial⟩ [(16,ZH7),(17,ZKc),(18,ZKb),(23,ZKX),(25,ZKa)] ⟨⟨ZJ1,ZAa.callable Zxl⟩,⟨ZRe,ZAa.callable Zy9⟩,⟨ZRc,ZAa.callable ZzA⟩,⟨ZRQ,ZAa.callable ZzC⟩,⟨ZRb,ZAa.callable ZzD⟩,trivial⟩ [] trivial [] trivial
/-! ### domino/dominolaw16.shown -/
@[reducible] def Zg9:List Ty:=[.bool]
def Zmu:List Nat:=[15]
noncomputable def ZSp:Option (Bool×Unit) :=
 ZAX (ZKd (2:Int) (9:Int)) fun y0=>
 let s1:ByteArray:=(ByteArray.mk (List.toArray ([]:List UInt8)))
 ZAX (ZIN y0.1.1 (ByteArray.mk (List.toArray ((97:UInt8)::((98:UInt8)::((99:UInt8)::([]:List UInt8)))))) (9:Int)) fun y2=>
 let s3:ByteArray:=(ByteArray.mk (List.toArray ([]:List UInt8)))
 ZAX (ZCq (y2.1,y0.1.2) (4:Int) (100:Int) (50:Int)) fun y4=>
 let s5:ByteArray:=(ByteArray.mk (List.toArray ([]:List UInt8)))
 ZAX (ZCq y4.1 (4:Int) (100:Int) (50:Int)) fun y6=>
 let s7:ByteArray:=(ByteArray.mk (List.toArray ([]:List UInt8)))
 let s8:ByteArray:=(ByteArray.mk (List.toArray ([]:List UInt8)))
 let s9:ByteArray:=(ByteArray.mk (List.toArray ((120:UInt8)::((121:UInt8)::((122:UInt8)::([]:List UInt8))))))
 let s10:ByteArray:=(ByteArray.mk (List.toArray ([]:List UInt8)))
 ZAX (ZFR y4.1 ((8:Int),((4:Int),((0:Int),((0:Int),((0:Int),((0:Int),((0:Int),((0:Int),(true,(s9,(s10,(s10,(([]:List ZAA),())))))))))))))) fun y11=>
 let s12:ByteArray:=(ByteArray.mk (List.toArray ((120:UInt8)::([]:List UInt8))))
 let s13:ByteArray:=(ByteArray.mk (List.toArray ([]:List UInt8)))
 ZAX (ZFR y11.1 ((8:Int),((4:Int),((9:Int),((0:Int),((0:Int),((0:Int),((0:Int),((0:Int),(false,(s12,(s13,(s13,(([]:List ZAA),())))))))))))))) fun y14=>
 let s15:ByteArray:=(ByteArray.mk (List.toArray ([]:List UInt8)))
 ZAX (ZFS y11.1 (5:Int)) fun y16=>
 let s17:ByteArray:=(ByteArray.mk (List.toArray ([]:List UInt8)))
 let b18:Bool:=(y2.2.1==(3:Int))
 bif b18 then
  bif y4.2.2.2.1 then
   let b19:Bool:=((ByteArray.toList y4.2.1.2.2.2.2.2.2.2.2.2.1)==(ByteArray.toList (ByteArray.mk (List.toArray ((97:UInt8)::((98:UInt8)::([]:List UInt8)))))))
   bif b19 then
    let b20:Bool:=(y4.2.2.1==(2:Int))
    bif b20 then
     let b21:Bool:=(!y6.2.2.2.1)
     bif b21 then
      let b22:Bool:=(y11.2.2.1==(0:Int))
      bif b22 then
       let b23:Bool:=(y11.2.1==(3:Int))
       bif b23 then
        let b24:Bool:=(y14.2.2.1==(170:Int))
        bif b24 then
         let b25:Bool:=((ByteArray.toList y16.2.1)==(ByteArray.toList (ByteArray.mk (List.toArray ((120:UInt8)::((121:UInt8)::((122:UInt8)::([]:List UInt8))))))))
         bif b25 then
          bif y16.2.2.1 then
           let b26:Bool:=(y16.2.2.2.1==(0:Int))
           some (b26,())
          else
           some (false,())
         else
          some (false,())
        else
         some (false,())
       else
        some (false,())
      else
       some (false,())
     else
      some (false,())
    else
     some (false,())
   else
    some (false,())
  else
   some (false,())
 else
  some (false,())
theorem ZeW : ∃ f,f = @ZSp:=⟨_,rfl⟩
noncomputable def ZFT:=Classical.choose ZeW
theorem ZeX : @ZFT = @ZSp:=Classical.choose_spec ZeW
noncomputable def ZWh:Con:=⟨[],Zg9,fun x=>ZSp⟩
noncomputable def ZIY:Con:=⟨[],Zg9,fun x=>ZFT⟩
theorem ZiN:ZWh.Sound prog Inv ZAq 15 :=
 ZAm (M:=Zo5) ZBo (f:=f15) rfl Zmu 100000 (X:=nowhere) (fun base S0 cs0 hn hf=>ZAH.nowhere) (by intro x;kernel_rfl)
theorem ZMI:ZIY.Sound prog Inv ZAq 15:=by
 have e:ZIY=ZWh:=by unfold ZIY ZWh;rw [ZeX]
 rw [e];exact ZiN
end Go.Proofs.YtamaklnhjagifaaGreatDoor.V
namespace Go.Proofs.YtamaklnhjagifaaGreatDoor.V
open Go.RowKit
set_option linter.unusedVariables false
abbrev ZzF:ZAD:=(0,[],0,false,())
def Znl:ZAF:=(0,0,⟨#[]⟩,[],[],false,false,false,())
def ZRh (credit window:Int):ZAB:=(Znl,credit,0,0,false,false,false,ZzF,window,window,false,false,false,0,false,())
theorem Zuv (credit window:Int):ZKd credit window=some (ZRh credit window,()):=by
 rw [Zg8,ZVh]
 rfl
theorem Zlo:Plc []:=⟨ZYQ,fun _ h=>by cases h⟩
theorem ZrO (k:Nat):SQ Znl k:=⟨Int.le_refl _,by decide,⟨Int.le_refl _,by decide⟩,Zlo,Zlo,fun _ h=>absurd h (ZC1 _),fun _ h=>absurd h (ZC1 _),Nat.zero_le _,Nat.zero_le _⟩
theorem Zlp {a b:Int} (h:a≤b):Can [(a,b,())]:=Zc0 ZYQ h (fun x hx=>by cases hx)
theorem ZfN (a b n:Int):ZGV [(a,b,())] n↔a≤n∧n≤b:=Zvo (a,b,()) n
def ZvE:ByteArray:=ByteArray.mk (List.toArray ((97:UInt8)::(98:UInt8)::(99:UInt8)::[]))
def abD:ByteArray:=ByteArray.mk (List.toArray ((97:UInt8)::(98:UInt8)::[]))
def Zs3:ByteArray:=ByteArray.mk (List.toArray ((120:UInt8)::(121:UInt8)::(122:UInt8)::[]))
def xD:ByteArray:=ByteArray.mk (List.toArray ((120:UInt8)::[]))
def sh1:ZAF:=(0,0,ZvE,[],[(0,2,())],false,false,false,())
def sh2:ZAF:=(0,2,ZvE,[],[(2,2,())],false,false,false,())
theorem Zuw {a b:Int} (h0:0≤a) (h:a≤b) (h1:b<4611686018427387904):Plc [(a,b,())]:=⟨Zlp h,fun r hr=>by simp only [List.mem_singleton] at hr;subst hr;exact ⟨h0,h1⟩⟩
theorem Zwa:SQ sh1 5:=⟨Int.le_refl _,by decide,⟨Int.le_refl _,by decide⟩,Zlo,Zuw (Int.le_refl _) (by decide) (by decide),fun _ h=>absurd h (ZC1 _),fun n h=>by
 have:=(ZfN 0 2 n).mp h
 have e:enQ sh1=3:=rfl
 rw [e]
 exact ⟨this.1,by omega⟩,Nat.zero_le _,by decide⟩
theorem Zy3:SQ sh2 5:=⟨Int.le_refl _,by decide,⟨by decide,by decide⟩,Zlo,Zuw (by decide) (by decide) (by decide),fun _ h=>absurd h (ZC1 _),fun n h=>by
 have:=(ZfN 2 2 n).mp h
 have e:enQ sh2=3:=rfl
 rw [e]
 exact ⟨by show (0:Int)≤n;omega,by omega⟩,Nat.zero_le _,by decide⟩
theorem Zv7:ZIN Znl ZvE 9=some (sh1,3,()):=by
 obtain ⟨_,h⟩:=Zr2 Znl 5 (ZrO 5) (by decide) ZvE 9 (by decide) (by decide) (by decide) (by decide)
 have e:wrN Znl ZvE 9=3:=by decide
 rw [e] at h
 obtain ⟨u,u1,u2,u3,_⟩:=h (by decide)
 have hu:u=[(0,2,())]:=Zax u2.can (Zlp (by decide)) fun n=>by
  rw [u3 n,ZfN]
  have e2:enQ Znl=0:=rfl
  rw [e2]
  exact ⟨fun h=>h.elim (fun h=>absurd h (ZC1 n)) (fun h=>by omega),fun h => .inr (by omega)⟩
 rw [u1,hu]
 have e3:(Znl.2.2.1++ZvE.extract 0 (Int.toNat 3))=ZvE:=by decide
 rw [e3]
 rfl
def shS (q:ZAF):ZAB:=(q,2,0,0,false,false,false,ZzF,9,9,false,false,false,0,false,())
theorem ZRi {n:Int} (h0:0≤n) (h1:n<18446744073709551616):U64 n:=⟨h0,h1⟩
theorem Zwb (q:ZAF):SN (shS q):=⟨ZRi (n:=2) (by decide) (by decide),ZRi (n:=0) (by decide) (by decide),ZRi (n:=9) (by decide) (by decide),ZRi (n:=0) (by decide) (by decide)⟩
theorem ZxX:ZCq (shS sh1) 4 100 50=some (shS sh2,fr8 4 0 abD false,2,true,()):=by
 rw [ZwZ (shS sh1) 5 Zwa (Zwb sh1) 4 100 50 ⟨by decide,by decide⟩ (by decide)]
 have h1:ZqP (ZdX (fr4 4 (shS sh1).2.2.1 (shS sh1).1.2.1) 100) (ZdX (fr5 4 (shS sh1).2.2.2.2.2.2.2.2.2.2.2.2.2.1) 100) (ZdX (Zuo 4 (shS sh1).2.2.2.2.2.2.2.2.2.1) 100) (ZaX (shS sh1) 4 100 50) (shS sh1) 4=ZaX (shS sh1) 4 100 50:=rfl
 rw [h1]
 unfold ZaX
 have h2:ZrL (shS sh1).1 4 100 (min (shS sh1).2.1 (IntKind.wrap .u64 ((shS sh1).1.2.1+50))) (min (100:Int) 1200).toNat=some (fr8 4 0 abD false):=by
  have e1:min (shS sh1).2.1 (IntKind.wrap .u64 ((shS sh1).1.2.1+50))=2:=by decide
  rw [e1]
  have e2:(min (100:Int) 1200).toNat=99+1:=rfl
  rw [e2]
  unfold ZrL
  have e3:ZUl (shS sh1).1 ((99+1:Nat):Int) 2=(0,abD,false,true,()):=by
   have x:ZUl (shS sh1).1 ((99+1:Nat):Int) 2=(0,ZvE.extract 0 2,false,true,()):=rfl
   rw [x]
   have y:ZvE.extract 0 2=abD:=by decide
   rw [y]
  have e4:ZdX (fr8 4 0 abD false) 100=true:=by decide +kernel
  simp only [e3,if_true,e4]
 rw [h2]
 have h3 : ¬ ((shS sh1).2.2.2.2.1=true):=by decide
 rw [if_neg h3]
 obtain ⟨u,u1,u2,u3,_⟩:=ZuX sh1 5 Zwa (by decide) 0 2 false ⟨by decide,by decide⟩ ⟨by decide,by decide⟩
 have hu:u=[(2,2,())]:=Zax u2.can (Zlp (by decide)) fun n=>by
  have:ZGV sh1.2.2.2.2.1 n↔0≤n∧n≤2:=ZfN 0 2 n
  rw [u3 n,this,ZfN]
  omega
 have e5:(((fr8 4 0 abD false).2.2.2.2.2.2.2.2.2.1.size:Nat):Int)=2:=rfl
 have e6:(shS sh1).1=sh1:=rfl
 have e7:(fr8 4 0 abD false).2.2.1=0:=rfl
 have e8:(fr8 4 0 abD false).2.2.2.2.2.2.2.2.1=false:=rfl
 simp only [e5,e6,e7,e8,u1,ZAK,hu]
 have e9:max sh1.2.1 (min (0+2) (enQ sh1))=2:=rfl
 rw [e9]
 rfl
theorem Zv8:ZCq (shS sh2) 4 100 50=some (shS sh2,noF,0,false,()):=by
 rw [ZwZ (shS sh2) 5 Zy3 (Zwb sh2) 4 100 50 ⟨by decide,by decide⟩ (by decide)]
 have h1:ZqP (ZdX (fr4 4 (shS sh2).2.2.1 (shS sh2).1.2.1) 100) (ZdX (fr5 4 (shS sh2).2.2.2.2.2.2.2.2.2.2.2.2.2.1) 100) (ZdX (Zuo 4 (shS sh2).2.2.2.2.2.2.2.2.2.1) 100) (ZaX (shS sh2) 4 100 50) (shS sh2) 4=ZaX (shS sh2) 4 100 50:=rfl
 rw [h1]
 unfold ZaX
 have h2:ZrL (shS sh2).1 4 100 (min (shS sh2).2.1 (IntKind.wrap .u64 ((shS sh2).1.2.1+50))) (min (100:Int) 1200).toNat=none:=by
  have e1:min (shS sh2).2.1 (IntKind.wrap .u64 ((shS sh2).1.2.1+50))=2:=by decide
  rw [e1]
  have e2:(min (100:Int) 1200).toNat=99+1:=rfl
  rw [e2]
  unfold ZrL
  have e3:ZUl (shS sh2).1 ((99+1:Nat):Int) 2=(0,⟨#[]⟩,false,false,()):=rfl
  simp only [e3,Bool.false_eq_true,if_false]
 rw [h2]
 have h3 : ¬ ((shS sh2).2.2.2.2.1=true):=by decide
 rw [if_neg h3]
theorem ZMv:ZFT=some (true,()):=by
 have hz:ByF (fun _=>0):=fun _=>⟨Int.le_refl _,by show (0:Int)≤255;decide⟩
 have hgi:GI (shS sh2).2.2.2.2.2.2.2.1 (fun _=>0) [] 0:=Zut _ hz
 have d1:=Zo2 (shS sh2) hgi (by decide) (fr8 4 0 Zs3 true) (by decide) (by decide) (by decide)
 obtain ⟨_,_,d1⟩:=d1
 obtain ⟨_,d1⟩:=d1 (by decide) (by decide)
 obtain ⟨s',u,e11,hp⟩:=d1 rfl
 have hkn:s'.2.2.2.1=true:=by rw [hp.kn];rfl
 have hfn:s'.2.2.1=3:=by rw [hp.fn];rfl
 have hrd:s'.1=0:=by rw [hp.rd];rfl
 have hmem : ∀ n,ZGV u n↔0≤n∧n≤2:=fun n=>by
  rw [hp.mem n]
  have e1:max (shS sh2).2.2.2.2.2.2.2.1.1 (fr8 4 0 Zs3 true).2.2.1=0:=rfl
  have e2:(fr8 4 0 Zs3 true).2.2.1+(((fr8 4 0 Zs3 true).2.2.2.2.2.2.2.2.2.1.size:Nat):Int)=3:=rfl
  rw [e1,e2]
  exact ⟨fun h=>h.elim (fun h=>absurd h (ZC1 n)) (fun h=>by omega),fun h => .inr (by omega)⟩
 have hu:u=[(0,2,())]:=Zax hp.gi.plc.can (Zlp (by decide)) fun n=>by rw [hmem n,ZfN]
 subst hu
 have w1:IntKind.wrap .u64 (hiF s'.1 s'.2.2.1 [(0,2,())] - hiF (shS sh2).2.2.2.2.2.2.2.1.1 (shS sh2).2.2.2.2.2.2.2.1.2.2.1 [])=3:=by
  rw [hrd,hfn]
  rfl
 rw [w1] at e11
 have d2:=(Zo2 (ZG0 (shS sh2) s') hp.gi (by decide) (fr8 4 9 xD false) (by decide) (by decide) (by decide)).1 (by show (9:Int)+1>9;decide)
 have hrdy:Zd4 s'.1 [(0,2,())]=3:=by rw [hrd];rfl
 obtain ⟨s'',v,r1,r2⟩:=Zo3 (ZG0 (shS sh2) s') hp.gi (by decide) rfl 5 (by show Zd4 s'.1 [(0,2,())]≤_;rw [hrdy];decide) (by show s'.1+Zd4 s'.1 [(0,2,())]≤_;rw [hrdy,hrd];decide)
 have hrd2:s''.1=3:=by
  rw [r2.rd]
  show s'.1+tkN s'.1 [(0,2,())] 5=3
  unfold tkN
  rw [hrdy,hrd]
  rfl
 have hseg:seg (ov [] (fun _=>0) (Zig (fr8 4 0 Zs3 true).2.2.1 (fr8 4 0 Zs3 true).2.2.2.2.2.2.2.2.2.1)) (ZG0 (shS sh2) s').2.2.2.2.2.2.2.1.1 (s''.1 - 1)=Zs3:=by
  have e1:(ZG0 (shS sh2) s').2.2.2.2.2.2.2.1.1=0:=hrd
  rw [e1,hrd2]
  refine (Zk1 (h:=Zig 0 Zs3) fun n _ _=>ZuO (ZC1 n)).trans ?_
  exact (Zq7 0 Zs3).symm
 have hall:((ZG0 (shS sh2) s').2.2.2.2.2.2.2.1.2.2.2.1&&(s''.1==(ZG0 (shS sh2) s').2.2.2.2.2.2.2.1.2.2.1))=true:=by
  have e1:(ZG0 (shS sh2) s').2.2.2.2.2.2.2.1.2.2.2.1=true:=hkn
  have e2:(ZG0 (shS sh2) s').2.2.2.2.2.2.2.1.2.2.1=3:=hfn
  rw [e1,e2,hrd2]
  rfl
 rw [hseg,hall] at r1
 have n1:ZKd 2 9=some (ZRh 2 9,()):=Zuv 2 9
 have x1:(ZRh 2 9).1=Znl:=rfl
 have x2:((sh1,(ZRh 2 9).2):ZAB)=shS sh1:=rfl
 have y1:ByteArray.mk (List.toArray ((97:UInt8)::((98:UInt8)::((99:UInt8)::([]:List UInt8)))))=ZvE:=rfl
 have y2:ByteArray.mk (List.toArray ((120:UInt8)::((121:UInt8)::((122:UInt8)::([]:List UInt8)))))=Zs3:=rfl
 have y3:ByteArray.mk (List.toArray ((120:UInt8)::([]:List UInt8)))=xD:=rfl
 have y4:ByteArray.mk (List.toArray ((97:UInt8)::((98:UInt8)::([]:List UInt8))))=abD:=rfl
 have f1:((8,4,0,0,0,0,0,0,true,Zs3,ByteArray.mk (List.toArray ([]:List UInt8)),ByteArray.mk (List.toArray ([]:List UInt8)),[],()):ZAC)=fr8 4 0 Zs3 true:=rfl
 have f2:((8,4,9,0,0,0,0,0,false,xD,ByteArray.mk (List.toArray ([]:List UInt8)),ByteArray.mk (List.toArray ([]:List UInt8)),[],()):ZAC)=fr8 4 9 xD false:=rfl
 have f3:(fr8 4 0 abD false).2.2.2.2.2.2.2.2.2.1=abD:=rfl
 rw [ZeX,ZSp]
 simp only [n1,ZAK,y1,y2,y3,y4,x1,Zv7,x2,ZxX,Zv8,f1,f2,e11,d2,r1,f3,Zcz,decide_true,beq_self_eq_true,cond_true,Bool.not_false]
end Go.Proofs.YtamaklnhjagifaaGreatDoor.V
namespace Go.Proofs.YtamaklnhjagifaaGreatDoor.V
open Go.RowKit Go.Proofs.Tryz
set_option linter.unusedVariables false
set_option maxRecDepth 100000
noncomputable def ZUM:Mach prog Inv ZAq:=ZFE bas [(14,f14)] ⟨ZzR,trivial⟩ [] trivial [] trivial [] trivial
/-! ### domino/dominolaw16.bounded -/
@[reducible] def ZEE:List Ty:=[.bool]
def ZZ8:List Nat:=[14]
abbrev ZN7 (base:Base) (S0:Nat→Prop):=base.n=0∧FinOk (Zdd ZEE) base S0 (ZFg ZEE S0)
abbrev ZcA (base:Base) (S0:Nat→Prop) (cs0:List Go.Frame) (p:CPat) (J:ZC9 p→Option (ZFC ZEE)):=ZAb ZUM base S0 cs0 (ZFg ZEE S0) p J
abbrev Zlq (base:Base) (S0:Nat→Prop) (cs0:List Go.Frame) (X:Cfg→Option (Option (ZFC ZEE))):=ZAH ZUM base S0 cs0 (ZFg ZEE S0) X
@[reducible] noncomputable def ZHz:CPat:=⟨⟨14,[1,0,1,0],none,[.rows ZBV false,.any,.any,.int .i64],43⟩,[],[],0⟩
@[reducible] noncomputable def ZH0 (k:(List ZAR)→Int→Option (Bool×Unit)):ZC9 ZHz→Option (Bool×Unit):=fun x=>k x.1.1 x.1.2.2.2.1
noncomputable def ZPp (k0:(List ZAR)→Int→Option (Bool×Unit)) (l16:(List ZAR)) (i17:Int):Option (Bool×Unit) :=
 let n18:Int:=(((List.length l16):Nat):Int)
 let b19:Bool:=(decide (i17<n18))
 bif b19 then
  bif (decide (((0:Int)≤i17)∧(i17<(((List.length l16):Nat):Int)))) then
   let x20:ZAR:=(List.getD l16 (Int.toNat i17) (Ty.dflt ZBV))
   let n21:Int:=(((ByteArray.size x20.2.2.2.1.2.2.2.2.2.2.2.2.2.1):Nat):Int)
   let b22:Bool:=(decide (n21>(100:Int)))
   bif b22 then
    some (false,())
   else
    bif (decide (((0:Int)≤i17)∧(i17<(((List.length l16):Nat):Int)))) then
     let x23:ZAR:=(List.getD l16 (Int.toNat i17) (Ty.dflt ZBV))
     let n24:Int:=(((List.length x23.2.2.2.1.2.2.2.2.2.2.2.2.2.2.2.2.1):Nat):Int)
     let b25:Bool:=(decide (n24>(5:Int)))
     bif b25 then
      some (false,())
     else
      bif (decide (((0:Int)≤i17)∧(i17<(((List.length l16):Nat):Int)))) then
       let x26:ZAR:=(List.getD l16 (Int.toNat i17) (Ty.dflt ZBV))
       let b27:Bool:=(decide (x26.2.1>(1300:Int)))
       bif b27 then
        some (false,())
       else
        bif (decide (((0:Int)≤i17)∧(i17<(((List.length l16):Nat):Int)))) then
         let x28:ZAR:=(List.getD l16 (Int.toNat i17) (Ty.dflt ZBV))
         let b29:Bool:=(decide (x28.2.2.1>(4294967296:Int)))
         bif b29 then
          some (false,())
         else
          let n32:Int:=(Go.IntKind.wrap Go.IntKind.i64 (i17+(1:Int)))
          k0 l16 n32
        else none
      else none
    else none
  else none
 else
  let n30:Int:=(((List.length l16):Nat):Int)
  let b31:Bool:=(decide (n30≤(40:Int)))
  some (b31,())
noncomputable def ZFU:Nat→(List ZAR)→Int→Option (Bool×Unit)
 | 0=>fun _ _=>none
 | m+1=>ZPp (ZFU m)
noncomputable def ZN8 (l16:(List ZAR)) (i17:Int):Option (Bool×Unit):=ZFU (Int.toNat ((((List.length l16):Nat):Int) - i17)+2) l16 i17
theorem ZUN : ∃ f,f = @ZN8:=⟨_,rfl⟩
noncomputable def ZMJ:=Classical.choose ZUN
theorem ZUO : @ZMJ = @ZN8:=Classical.choose_spec ZUN
theorem ZiO {base S0 cs0} (hfin:ZN7 base S0) : ∀ m,ZcA base S0 cs0 ZHz (ZH0 (ZFU m)) :=
 ZAb.loop' hfin.2 ZZ8 100000 ZH0 (fun k0=>cut ZHz (ZH0 k0) (nowhere)) (fun k0 h0=>ZAH.cut (ZAH.nowhere) (Nat.le_of_eq hfin.1) h0) (ZFU) (by intro x;rfl) (by intro m x;kernel_rfl)
theorem ZhA {base S0 cs0} (hfin:ZN7 base S0):ZcA base S0 cs0 ZHz (ZH0 (ZMJ)):=by
 rw [ZUO];exact fun x r hx=>ZiO hfin _ x r hx
noncomputable def ZX1:Cfg→Option (Option (Bool×Unit)):=cut ZHz (ZH0 (ZMJ)) (nowhere)
theorem ZiP {base S0 cs0} (hfin:ZN7 base S0):Zlq base S0 cs0 (ZX1):=ZAH.cut (ZAH.nowhere) (Nat.le_of_eq hfin.1) (ZhA hfin)
noncomputable def ZN9 (a0:(List ZAR)):Option (Bool×Unit) :=
 ZMJ a0 (0:Int)
theorem ZZ9 : ∃ f,f = @ZN9:=⟨_,rfl⟩
noncomputable def ZOA:=Classical.choose ZZ9
theorem ZaA : @ZOA = @ZN9:=Classical.choose_spec ZZ9
noncomputable def ZRj:Con:=⟨[(.slice ZBV)],ZEE,fun x=>ZN9 x.1⟩
noncomputable def ZJ2:Con:=⟨[(.slice ZBV)],ZEE,fun x=>ZOA x.1⟩
theorem ZfO:ZRj.Sound prog Inv ZAq 14 :=
 ZAm (M:=ZUM) ZBo (f:=f14) rfl ZZ8 100000 (X:=ZX1) (fun base S0 cs0 hn hf=>have hfin:ZN7 base S0:=⟨hn,hf⟩;ZiP hfin) (by intro x;kernel_rfl)
theorem ZVi:ZJ2.Sound prog Inv ZAq 14:=by
 have e:ZJ2=ZRj:=by unfold ZJ2 ZRj;rw [ZaA]
 rw [e];exact ZfO
end Go.Proofs.YtamaklnhjagifaaGreatDoor.V
namespace Go.Proofs.YtamaklnhjagifaaGreatDoor.V
open Go.RowKit
set_option linter.unusedVariables false
structure ActOk (x:ZAR):Prop where
 data:x.2.2.2.1.2.2.2.2.2.2.2.2.2.1.size≤100
 set:x.2.2.2.1.2.2.2.2.2.2.2.2.2.2.2.2.1.length≤5
 n:x.2.1≤1300
 num:x.2.2.1≤4294967296
theorem Zsp : ∀ (suf pre:List ZAR) (m:Nat),suf.length<m→(pre++suf).length≤9223372036854775807 →
  ∃ b,ZFU m (pre++suf) ((pre.length:Nat):Int)=some (b,())∧(b=true→(∀ x∈suf,ActOk x)∧(pre++suf).length≤40):=by
 intro suf
 induction suf with
 | nil=>
  intro pre m hm hl
  obtain ⟨m,rfl⟩ : ∃ k,m=k+1:=⟨m - 1,by omega⟩
  rw [List.append_nil]
  refine ⟨decide (((pre.length:Nat):Int)≤40),?_,fun h=>⟨fun _ h=>(by cases h),by have:=of_decide_eq_true h;omega⟩⟩
  simp only [ZFU,ZPp,Int.lt_irrefl,decide_false,cond_false]
 | cons x suf ih=>
  intro pre m hm hl
  obtain ⟨m,rfl⟩ : ∃ k,m=k+1:=⟨m - 1,by omega⟩
  simp only [ZFU,ZPp,ZLV,nn,and_true,decide_true,cond_true,ZDD,ZDC]
  by_cases h1:(((x.2.2.2.1.2.2.2.2.2.2.2.2.2.1.size:Nat):Int)>100)
  ·
   simp only [h1,decide_true,cond_true]
   exact ⟨false,rfl,fun h=>(by cases h)⟩
  ·
   by_cases h2:(((x.2.2.2.1.2.2.2.2.2.2.2.2.2.2.2.2.1.length:Nat):Int)>5)
   ·
    simp only [h1,decide_false,cond_false,h2,decide_true,cond_true]
    exact ⟨false,rfl,fun h=>(by cases h)⟩
   ·
    by_cases h3:x.2.1>1300
    ·
     simp only [h1,decide_false,cond_false,h2,h3,decide_true,cond_true]
     exact ⟨false,rfl,fun h=>(by cases h)⟩
    ·
     by_cases h4:x.2.2.1>4294967296
     ·
      simp only [h1,decide_false,cond_false,h2,h3,h4,decide_true,cond_true]
      exact ⟨false,rfl,fun h=>(by cases h)⟩
     ·
      simp only [h1,decide_false,cond_false,h2,h3,h4]
      rw [Zk0 pre x x suf hl,ZID]
      obtain ⟨b,k1,k2⟩:=ih (pre++[x]) m (by simp at hm;omega) (by simpa using hl)
      refine ⟨b,k1,fun hb => ?_⟩
      obtain ⟨k3,k4⟩:=k2 hb
      refine ⟨fun y hy => ?_,k4⟩
      rcases List.mem_cons.mp hy with rfl | hy
      · exact ⟨by omega,by omega,by omega,by omega⟩
      · exact k3 y hy
theorem Zr8 (l:List ZAR) (hl:l.length≤9223372036854775807) : ∃ b,ZOA l=some (b,())∧(b=true→(∀ x∈l,ActOk x)∧l.length≤40):=by
 obtain ⟨b,h1,h2⟩:=Zsp l [] (Int.toNat (((l.length:Nat):Int) - 0)+2) (by omega) (by simpa using hl)
 refine ⟨b,?_,h2⟩
 rw [ZaA,ZN9,ZUO,ZN8]
 exact h1
end Go.Proofs.YtamaklnhjagifaaGreatDoor.V
namespace Go.Proofs.YtamaklnhjagifaaGreatDoor.V
open Go.RowKit Go.Proofs.Tryz
set_option linter.unusedVariables false
set_option maxRecDepth 100000
noncomputable def ZMa:Mach prog Inv ZAq:=ZFE bas [(3,f3)] ⟨ok3,trivial⟩ [(14,ZJ2),(15,ZIY),(16,ZH7),(17,ZKc),(18,ZKb),(19,ZFx),(20,ZNm)] ⟨⟨ZVi,ZAa.callable ZzR⟩,⟨ZMI,ZAa.callable Zx4⟩,⟨ZJ1,ZAa.callable Zxl⟩,⟨ZRe,ZAa.callable Zy9⟩,⟨ZRc,ZAa.callable ZzA⟩,⟨ZMU,ZAa.callable ZzB⟩,⟨ZZr,ZAa.callable ZzS⟩,trivial⟩ [] trivial [] trivial
/-! ### domino/dominolaw16.StreamLimit -/
@[reducible] def ZCO:List Ty:=[.bool]
def ZEd:List Nat:=[3]
abbrev ZBZ (base:Base) (S0:Nat→Prop):=base.n=0∧FinOk (Zdd ZCO) base S0 (ZFg ZCO S0)
abbrev ZBv (base:Base) (S0:Nat→Prop) (cs0:List Go.Frame) (p:CPat) (J:ZC9 p→Option (ZFC ZCO)):=ZAb ZMa base S0 cs0 (ZFg ZCO S0) p J
abbrev ZIZ (base:Base) (S0:Nat→Prop) (cs0:List Go.Frame) (X:Cfg→Option (Option (ZFC ZCO))):=ZAH ZMa base S0 cs0 (ZFg ZCO S0) X
@[reducible] noncomputable def ZBT:CPat:=⟨⟨3,[1,1,1,0,1,0],none,[.int .u16,.rows ZBV false,.any,.any,.any,.ptr 0 0,.int .i64],136⟩,[],[.dat 35 ZAJ],0⟩
@[reducible] noncomputable def ZBU (k:Int→(List ZAR)→Int→ZAB→Option (Bool×Unit)):ZC9 ZBT→Option (Bool×Unit):=fun x=>k x.1.1 x.1.2.1 x.1.2.2.2.2.2.2.1 x.2.2.1
@[reducible] noncomputable def ZJ3:CPat:=⟨⟨3,[1,1,1,0,1,0,0,1,1],none,[.int .u16,.rows ZBV false,.any,.any,.any,.ptr 0 0,.int .i64],136⟩,[],[.dat 35 ZAJ],0⟩
@[reducible] noncomputable def ZQj (k:Int→(List ZAR)→Int→ZAB→Option (Bool×Unit)):ZC9 ZJ3→Option (Bool×Unit):=fun x=>k x.1.1 x.1.2.1 x.1.2.2.2.2.2.2.1 x.2.2.1
noncomputable def ZGQ (k1:Int→(List ZAR)→Int→ZAB→Option (Bool×Unit)) (i123:Int) (l124:(List ZAR)) (i125:Int) (d126:ZAB):Option (Bool×Unit) :=
 let n127:Int:=(Go.IntKind.wrap Go.IntKind.i64 (i125+(1:Int)))
 k1 i123 l124 n127 d126
theorem ZOl : ∃ f,f = @ZGQ:=⟨_,rfl⟩
noncomputable def ZFV:=Classical.choose ZOl
theorem ZI0 : @ZFV = @ZGQ:=Classical.choose_spec ZOl
theorem ZcB {base S0 cs0} (hfin:ZBZ base S0) (k1) (h1:ZBv base S0 cs0 ZBT (ZBU k1)):ZBv base S0 cs0 ZJ3 (ZQj (ZFV k1)) :=
 ZAb.join hfin.2 (ZAH.cut (ZAH.nowhere) (Nat.le_of_eq hfin.1) h1) ZEd 100000 (by rw [ZI0];intro x;kernel_rfl)
noncomputable def ZQk (k1:Int→(List ZAR)→Int→ZAB→Option (Bool×Unit)):Cfg→Option (Option (Bool×Unit)):=cut ZJ3 (ZQj (ZFV k1)) (cut ZBT (ZBU k1) (nowhere))
theorem ZQl {base S0 cs0} (hfin:ZBZ base S0) (k1) (h1:ZBv base S0 cs0 ZBT (ZBU k1)):ZIZ base S0 cs0 (ZQk k1):=ZAH.cut (ZAH.cut (ZAH.nowhere) (Nat.le_of_eq hfin.1) h1) (Nat.le_of_eq hfin.1) (ZcB hfin k1 h1)
@[reducible] noncomputable def ZJ4:CPat:=⟨⟨3,[1,1,1,0,1,0,0,1,0,0,1,1,1,1,1,0,1,1],none,[.int .u16,.rows ZBV false,.any,.any,.any,.ptr 0 0,.int .i64,.any,.any,.any,.any,.any,.any,.ptr 1 0],129⟩,[],[.dat 35 ZAJ,.dat 35 ZAJ],0⟩
@[reducible] noncomputable def ZQm (k:Int→(List ZAR)→Int→ZAB→ZAB→Option (Bool×Unit)):ZC9 ZJ4→Option (Bool×Unit):=fun x=>k x.1.1 x.1.2.1 x.1.2.2.2.2.2.2.1 x.2.2.1 x.2.2.2.1
noncomputable def ZJ5 (k1:Int→(List ZAR)→Int→ZAB→Option (Bool×Unit)) (i108:Int) (l109:(List ZAR)) (i110:Int) (d111:ZAB) (d112:ZAB):Option (Bool×Unit) :=
 ZAX (ZDt d112.2.2.2.2.2.2.2.1) fun y113=>
 let b114:Bool:=(decide (y113.1>d112.2.2.2.2.2.2.2.2.2.1))
 bif b114 then
  some (false,())
 else
  ZAX (ZPd d112.2.2.2.2.2.2.2.1) fun y115=>
  let n116:Int:=(Go.IntKind.wrap Go.IntKind.u64 y115.1)
  let n117:Int:=(Go.IntKind.wrap Go.IntKind.u64 i108)
  let b118:Bool:=(decide (n116>n117))
  bif b118 then
   some (false,())
  else
   let n119:Int:=(Go.IntKind.wrap Go.IntKind.u64 i108)
   let n120:Int:=(Go.IntKind.wrap Go.IntKind.u64 (d112.2.2.2.2.2.2.2.1.1+n119))
   let b121:Bool:=(decide (d112.2.2.2.2.2.2.2.2.2.1>n120))
   bif b121 then
    some (false,())
   else
    ZFV k1 i108 l109 i110 d112
theorem ZOm : ∃ f,f = @ZJ5:=⟨_,rfl⟩
noncomputable def ZCP:=Classical.choose ZOm
theorem ZOn : @ZCP = @ZJ5:=Classical.choose_spec ZOm
theorem ZcC {base S0 cs0} (hfin:ZBZ base S0) (k1) (h1:ZBv base S0 cs0 ZBT (ZBU k1)):ZBv base S0 cs0 ZJ4 (ZQm (ZCP k1)) :=
 ZAb.join hfin.2 (ZQl hfin k1 h1) ZEd 100000 (by rw [ZOn];intro x;kernel_rfl)
noncomputable def ZQn (k1:Int→(List ZAR)→Int→ZAB→Option (Bool×Unit)):Cfg→Option (Option (Bool×Unit)):=cut ZJ4 (ZQm (ZCP k1)) (ZQk k1)
theorem ZcD {base S0 cs0} (hfin:ZBZ base S0) (k1) (h1:ZBv base S0 cs0 ZBT (ZBU k1)):ZIZ base S0 cs0 (ZQn k1):=ZAH.cut (ZQl hfin k1 h1) (Nat.le_of_eq hfin.1) (ZcC hfin k1 h1)
noncomputable def ZJ6 (k1:Int→(List ZAR)→Int→ZAB→Option (Bool×Unit)) (i67:Int) (l68:(List ZAR)) (i69:Int) (d70:ZAB):Option (Bool×Unit) :=
 let n71:Int:=(((List.length l68):Nat):Int)
 let b72:Bool:=(decide (i69<n71))
 bif b72 then
  bif (decide (((0:Int)≤i69)∧(i69<(((List.length l68):Nat):Int)))) then
   let x73:ZAR:=(List.getD l68 (Int.toNat i69) (Ty.dflt ZBV))
   let s74:ByteArray:=(ByteArray.mk (List.toArray ([]:List UInt8)))
   let b75:Bool:=(x73.1==(6:Int))
   bif b75 then
    ZAX (ZFS d70 x73.2.1) fun y76=>
    let s77:ByteArray:=(ByteArray.mk (List.toArray ([]:List UInt8)))
    let b78:Bool:=(y76.2.2.2.1 != (0:Int))
    let b79:Bool:=(!(b78==d70.2.2.2.2.2.2.2.2.2.2.2.1))
    bif b79 then
     some (false,())
    else
     let b80:Bool:=(decide (y76.1.2.2.2.2.2.2.2.2.2.1<d70.2.2.2.2.2.2.2.2.2.1))
     bif b80 then
      some (false,())
     else
      ZFV k1 i67 l68 i69 y76.1
   else
    let n81:Int:=(Int.tmod x73.2.2.1 (3000:Int))
    let s82:ByteArray:=(ByteArray.mk (List.toArray ([]:List UInt8)))
    let s83:ByteArray:=(ByteArray.mk (List.toArray ([]:List UInt8)))
    ZAX (ZFR d70 ((8:Int),((4:Int),(n81,((0:Int),((0:Int),((0:Int),((0:Int),((0:Int),(x73.2.2.2.1.2.2.2.2.2.2.2.2.1,(x73.2.2.2.1.2.2.2.2.2.2.2.2.2.1,(s82,(s82,(([]:List ZAA),())))))))))))))) fun y84=>
    let s85:ByteArray:=(ByteArray.mk (List.toArray ([]:List UInt8)))
    let n86:Int:=(((ByteArray.size x73.2.2.2.1.2.2.2.2.2.2.2.2.2.1):Nat):Int)
    let n87:Int:=(Go.IntKind.wrap Go.IntKind.u64 n86)
    let n88:Int:=(Go.IntKind.wrap Go.IntKind.u64 (n81+n87))
    let b89:Bool:=(y84.2.2.1==(0:Int))
    bif b89 then
     let b90:Bool:=(decide (n88>d70.2.2.2.2.2.2.2.2.2.1))
     bif b90 then
      some (false,())
     else
      ZAX (ZDt y84.1.2.2.2.2.2.2.2.1) fun y91=>
      ZAX (ZDt d70.2.2.2.2.2.2.2.1) fun y92=>
      let n93:Int:=(Go.IntKind.wrap Go.IntKind.u64 (y92.1+y84.2.1))
      let b94:Bool:=(y91.1 != n93)
      bif b94 then
       some (false,())
      else
       let b95:Bool:=(y84.2.2.1==(170:Int))
       bif b95 then
        let b96:Bool:=(decide (n88≤d70.2.2.2.2.2.2.2.2.2.1))
        bif b96 then
         some (false,())
        else
         ZCP k1 i67 l68 i69 d70 y84.1
       else
        ZCP k1 i67 l68 i69 d70 y84.1
    else
     let b97:Bool:=(y84.2.2.1==(170:Int))
     bif b97 then
      let b98:Bool:=(decide (n88≤d70.2.2.2.2.2.2.2.2.2.1))
      bif b98 then
       some (false,())
      else
       ZCP k1 i67 l68 i69 d70 y84.1
     else
      ZCP k1 i67 l68 i69 d70 y84.1
  else none
 else
  some (true,())
noncomputable def ZCQ:Nat→Int→(List ZAR)→Int→ZAB→Option (Bool×Unit)
 | 0=>fun _ _ _ _=>none
 | m+1=>ZJ6 (ZCQ m)
noncomputable def ZI1 (i67:Int) (l68:(List ZAR)) (i69:Int) (d70:ZAB):Option (Bool×Unit):=ZCQ (Int.toNat ((((List.length l68):Nat):Int) - i69)+2) i67 l68 i69 d70
theorem ZOB : ∃ f,f = @ZI1:=⟨_,rfl⟩
noncomputable def ZG9:=Classical.choose ZOB
theorem ZOC : @ZG9 = @ZI1:=Classical.choose_spec ZOB
theorem ZcE {base S0 cs0} (hfin:ZBZ base S0) : ∀ m,ZBv base S0 cs0 ZBT (ZBU (ZCQ m)) :=
 ZAb.loop' hfin.2 ZEd 100000 ZBU (fun k1=>ZQn k1) (fun k1 h1=>ZcD hfin k1 h1) (ZCQ) (by intro x;rfl) (by intro m x;kernel_rfl)
theorem ZaY {base S0 cs0} (hfin:ZBZ base S0):ZBv base S0 cs0 ZBT (ZBU (ZG9)):=by
 rw [ZOC];exact fun x r hx=>ZcE hfin _ x r hx
noncomputable def ZQo:Cfg→Option (Option (Bool×Unit)):=cut ZBT (ZBU (ZG9)) (nowhere)
theorem ZQp {base S0 cs0} (hfin:ZBZ base S0):ZIZ base S0 cs0 (ZQo):=ZAH.cut (ZAH.nowhere) (Nat.le_of_eq hfin.1) (ZaY hfin)
@[reducible] noncomputable def ZJ7:CPat:=⟨⟨3,[1,0,1,0],none,[],143⟩,[],[],0⟩
@[reducible] noncomputable def ZQq (k:Option (Bool×Unit)):ZC9 ZJ7→Option (Bool×Unit):=fun x=>k
noncomputable def ZJ8:Option (Bool×Unit) :=
 ZAX ZFT fun y7=>
 some y7
theorem ZOo : ∃ f,f = @ZJ8:=⟨_,rfl⟩
noncomputable def ZDq:=Classical.choose ZOo
theorem ZOp : @ZDq = @ZJ8:=Classical.choose_spec ZOo
theorem ZcF {base S0 cs0} (hfin:ZBZ base S0):ZBv base S0 cs0 ZJ7 (ZQq (ZDq)) :=
 ZAb.join hfin.2 (ZQp hfin) ZEd 100000 (by rw [ZOp];intro x;kernel_rfl)
noncomputable def ZQr:Cfg→Option (Option (Bool×Unit)):=cut ZJ7 (ZQq (ZDq)) (ZQo)
theorem ZcG {base S0 cs0} (hfin:ZBZ base S0):ZIZ base S0 cs0 (ZQr):=ZAH.cut (ZQp hfin) (Nat.le_of_eq hfin.1) (ZcF hfin)
noncomputable def ZIa (a0:Int) (a1:(List ZAR)):Option (Bool×Unit) :=
 ZAX (ZOA a1) fun y2=>
 let b3:Bool:=(!y2.1)
 bif b3 then
  ZDq
 else
  ZAX ZFT fun y4=>
  let b5:Bool:=(!y4.1)
  bif b5 then
   ZDq
  else
   let n8:Int:=(Go.IntKind.wrap Go.IntKind.u64 a0)
   ZAX (ZKd (0:Int) n8) fun y9=>
   let s10:ByteArray:=(ByteArray.mk (List.toArray ([]:List UInt8)))
   ZG9 a0 a1 (0:Int) y9.1
theorem ZSA : ∃ f,f = @ZIa:=⟨_,rfl⟩
noncomputable def ZPq:=Classical.choose ZSA
theorem ZSB : @ZPq = @ZIa:=Classical.choose_spec ZSA
noncomputable def ZLK:Con:=⟨[(.int .u16),(.slice ZBV)],ZCO,fun x=>ZIa x.1 x.2.1⟩
noncomputable def ZCR:Con:=⟨[(.int .u16),(.slice ZBV)],ZCO,fun x=>ZPq x.1 x.2.1⟩
theorem ZY7:ZLK.Sound prog Inv ZAq 3 :=
 ZAm (M:=ZMa) ZBo (f:=f3) rfl ZEd 100000 (X:=ZQr) (fun base S0 cs0 hn hf=>have hfin:ZBZ base S0:=⟨hn,hf⟩;ZcG hfin) (by intro x;kernel_rfl)
theorem ZaZ:ZCR.Sound prog Inv ZAq 3:=by
 have e:ZCR=ZLK:=by unfold ZCR ZLK;rw [ZSB]
 rw [e];exact ZY7
end Go.Proofs.YtamaklnhjagifaaGreatDoor.V
namespace Go.Proofs.YtamaklnhjagifaaGreatDoor.V
open Go.RowKit
set_option linter.unusedVariables false
structure LimI (s:ZAB) (w:Int) (g:Int→Int) (t:RS) (k:Nat):Prop where
 gi:GI s.2.2.2.2.2.2.2.1 g t k
 br:s.2.2.2.2.2.2.2.2.2.2.2.1=false
 win:s.2.2.2.2.2.2.2.2.1=w
 lim:hiF s.2.2.2.2.2.2.2.1.1 s.2.2.2.2.2.2.2.1.2.2.1 t≤s.2.2.2.2.2.2.2.2.2.1
 far:s.2.2.2.2.2.2.2.2.2.1≤s.2.2.2.2.2.2.2.1.1+w
 top:hiF s.2.2.2.2.2.2.2.1.1 s.2.2.2.2.2.2.2.1.2.2.1 t≤3200
theorem LimI.held {s:ZAB} {w:Int} {g:Int→Int} {t:RS} {k:Nat} (h:LimI s w g t k):0≤Znh t∧Znh t≤w:=by
 have hr:=h.gi.rd
 have hge:=ZlK s.2.2.2.2.2.2.2.1.1 s.2.2.2.2.2.2.2.1.2.2.1 t
 have:=ZrG (t:=t) (a:=s.2.2.2.2.2.2.2.1.1) (b:=hiF s.2.2.2.2.2.2.2.1.1 s.2.2.2.2.2.2.2.1.2.2.1 t) h.gi.plc.can (fun r hr'=>⟨h.gi.low r hr',Zoh _ _ h.gi.plc.can ⟨r,hr',h.gi.plc.can.full r hr',Int.le_refl _⟩⟩) hge.1
 have h1:=h.lim
 have h2:=h.far
 omega
theorem Zux {s:ZAB} {w:Int} {g:Int→Int} {t:RS} {k:Nat} (h:LimI s w g t k) (hk:k≤1000) (hw:0≤w∧w≤65535) (k1:Int→List ZAR→Int→ZAB→Option (Bool×Unit)) (l:List ZAR) (i:Int) (d:ZAB) :
  ZCP k1 w l i d s=k1 w l (IntKind.wrap .i64 (i+1)) s:=by
 have hl:=h.gi.len
 have hh:=h.held
 have hr:=h.gi.rd
 have h1:=h.lim
 have h2:=h.far
 have hge:=ZlK s.2.2.2.2.2.2.2.1.1 s.2.2.2.2.2.2.2.1.2.2.1 t
 have h3:=h.top
 rw [ZOn,ZJ5,ZS4 g t _ h.gi.l h.gi.plc (by omega),ZuU g t _ h.gi.l h.gi.plc (by omega)]
 have c1:decide (hiF s.2.2.2.2.2.2.2.1.1 s.2.2.2.2.2.2.2.1.2.2.1 t>s.2.2.2.2.2.2.2.2.2.1)=false:=by simp;omega
 have w1:IntKind.wrap .u64 (Znh t)=Znh t:=ZAh _ (by omega) (by omega)
 have w2:IntKind.wrap .u64 w=w:=ZAh _ (by omega) (by omega)
 have c2:decide (Znh t>w)=false:=by simp;omega
 have w3:IntKind.wrap .u64 (s.2.2.2.2.2.2.2.1.1+w)=s.2.2.2.2.2.2.2.1.1+w:=ZAh _ (by omega) (by omega)
 have c3:decide (s.2.2.2.2.2.2.2.2.2.1>s.2.2.2.2.2.2.2.1.1+w)=false:=by simp;omega
 simp only [ZAK,c1,cond_false,w1,w2,c2,w3,c3,ZI0,ZGQ]
theorem Zsq {s:ZAB} {w:Int} {g:Int→Int} {t:RS} {k:Nat} (h:LimI s w g t k) (hk:k≤1000) (hw:0≤w∧w≤65535) (n:Int) :
  ∃ s2 d b u,ZFS s n=some (s2,d,b,0,())∧LimI s2 w g u k∧s.2.2.2.2.2.2.2.2.2.1≤s2.2.2.2.2.2.2.2.2.2.1:=by
 have hr:=h.gi.rd
 have h1:=h.lim
 have h2:=h.far
 have h3:=h.top
 have hhi:=ZxW (rd:=s.2.2.2.2.2.2.2.1.1) (fin:=s.2.2.2.2.2.2.2.1.2.2.1) h.gi.plc
 have htk:=Zuu (rd:=s.2.2.2.2.2.2.2.1.1) h.gi.plc n
 obtain ⟨s',u,r1,r2⟩:=Zo3 s h.gi (by omega) h.br n (by omega) (by omega)
 have hrd:=r2.rd
 have hfn:=r2.fn
 have hge:=ZlK s.2.2.2.2.2.2.2.1.1 s.2.2.2.2.2.2.2.1.2.2.1 t
 have hhi':hiF s'.1 s'.2.2.1 u≤hiF s.2.2.2.2.2.2.2.1.1 s.2.2.2.2.2.2.2.1.2.2.1 t:=by
  refine ZwU r2.gi.plc.can (by omega) (by rw [hfn];exact hge.2) fun m hm => ?_
  have:=Zoh s.2.2.2.2.2.2.2.1.1 s.2.2.2.2.2.2.2.1.2.2.1 h.gi.plc.can ((r2.mem m).mp hm).1
  omega
 refine ⟨ZrN s s',_,_,u,r1,?_,?_⟩
 ·
  unfold ZrN
  split
  ·
   have w1:IntKind.wrap .u64 (s'.1+s.2.2.2.2.2.2.2.2.1)=s'.1+w:=by rw [h.win,ZAh _ (by omega) (by omega)]
   refine ⟨r2.gi,h.br,h.win,?_,?_,by simp only;omega⟩
   · simp only [w1];omega
   · simp only [w1];omega
  · exact ⟨r2.gi,h.br,h.win,by simp only [ZG0];omega,by simp only [ZG0];omega,by simp only [ZG0];omega⟩
 ·
  unfold ZrN
  split
  ·
   have w1:IntKind.wrap .u64 (s'.1+s.2.2.2.2.2.2.2.2.1)=s'.1+w:=by rw [h.win,ZAh _ (by omega) (by omega)]
   simp only [w1]
   omega
  · exact Int.le_refl _
theorem Zsr {w:Int} (hw:0≤w∧w≤65535) : ∀ (suf pre:List ZAR) (m:Nat) (s:ZAB) (g:Int→Int) (t:RS),(pre++suf).length≤40→suf.length<m→(∀ x∈suf,ActOk x∧0≤x.2.2.1)→LimI s w g t pre.length →
  ZCQ m w (pre++suf) ((pre.length:Nat):Int) s=some (true,()):=by
 intro suf
 induction suf with
 | nil=>
  intro pre m s g t hl hm hx hs
  obtain ⟨m,rfl⟩ : ∃ k,m=k+1:=⟨m - 1,by omega⟩
  rw [List.append_nil]
  simp only [ZCQ,ZJ6,Int.lt_irrefl,decide_false,cond_false]
 | cons x suf ih=>
  intro pre m s g t hl hm hx hs
  obtain ⟨m,rfl⟩ : ∃ k,m=k+1:=⟨m - 1,by omega⟩
  obtain ⟨ha,hn⟩:=hx x List.mem_cons_self
  have hpl:pre.length≤39:=by simp at hl;omega
  have hlen:(pre++[x]).length=pre.length+1:=by simp
  have hmn:=ZJE pre x x suf (by simp at hl ⊢;omega)
  have nx : ∀ (s2:ZAB) (g2:Int→Int) (u:RS) (k2:Nat),LimI s2 w g2 u k2→k2≤pre.length+1→ZCQ m w (pre++x::suf) (IntKind.wrap .i64 (((pre.length:Nat):Int)+1)) s2=some (true,()):=by
   intro s2 g2 u k2 h hk
   rw [hmn,ZID]
   exact ih (pre++[x]) m s2 g2 u (by simpa using hl) (by simp at hm;omega) (fun y hy=>hx y (List.mem_cons_of_mem _ hy)) ⟨h.gi.mono (by omega),h.br,h.win,h.lim,h.far,h.top⟩
  simp only [ZCQ,ZJ6,ZLV,nn,and_true,decide_true,cond_true,ZDD,ZDC]
  cases (x.1==(6:Int)) with
  | true=>
   obtain ⟨s2,d,b,u,r1,r2,r3⟩:=Zsq hs (by omega) hw x.2.1
   have c1:decide (s2.2.2.2.2.2.2.2.2.2.1<s.2.2.2.2.2.2.2.2.2.1)=false:=by simp;omega
   simp only [cond_true,r1,ZAK,bne_self_eq_false,hs.br,beq_self_eq_true,Bool.not_true,cond_false,c1,ZI0,ZGQ]
   exact nx s2 g u pre.length r2 (by omega)
  | false=>
   have hd:=ha.data
   have htm:Int.tmod x.2.2.1 3000=x.2.2.1 % 3000:=Int.tmod_eq_emod_of_nonneg hn
   have hoff:0≤x.2.2.1 % 3000∧x.2.2.1 % 3000<3000:=⟨Int.emod_nonneg _ (by decide),Int.emod_lt_of_pos _ (by decide)⟩
   have w1:IntKind.wrap .u64 ((x.2.2.2.1.2.2.2.2.2.2.2.2.2.1.size:Nat):Int)=((x.2.2.2.1.2.2.2.2.2.2.2.2.2.1.size:Nat):Int):=ZAh _ (by omega) (by omega)
   have fr:((8,4,x.2.2.1 % 3000,0,0,0,0,0,x.2.2.2.1.2.2.2.2.2.2.2.2.1,x.2.2.2.1.2.2.2.2.2.2.2.2.2.1,ByteArray.mk (List.toArray ([]:List UInt8)),ByteArray.mk (List.toArray ([]:List UInt8)),[],()):ZAC)=fr8 4 (x.2.2.1 % 3000) x.2.2.2.1.2.2.2.2.2.2.2.2.2.1 x.2.2.2.1.2.2.2.2.2.2.2.2.1:=rfl
   simp only [cond_false,htm,w1,fr]
   generalize x.2.2.1 % 3000=off at *
   generalize x.2.2.2.1.2.2.2.2.2.2.2.2.2.1=data at *
   generalize x.2.2.2.1.2.2.2.2.2.2.2.2.1=fin at *
   have w2:IntKind.wrap .u64 (off+((data.size:Nat):Int))=off+((data.size:Nat):Int):=ZAh _ (by omega) (by omega)
   simp only [w2]
   obtain ⟨d1,d2,d3⟩:=Zo2 s hs.gi (by omega) (fr8 4 off data fin) hoff.1 (by show off+((data.size:Nat):Int)≤_;omega) (by show data.size≤_;omega)
   have e1:(fr8 4 off data fin).2.2.1+(((fr8 4 off data fin).2.2.2.2.2.2.2.2.2.1.size:Nat):Int)=off+((data.size:Nat):Int):=rfl
   have e2:(fr8 4 off data fin).2.2.2.2.2.2.2.2.1=fin:=rfl
   have e3:(fr8 4 off data fin).2.2.1=off:=rfl
   have e4:(fr8 4 off data fin).2.2.2.2.2.2.2.2.2.1=data:=rfl
   rw [e1] at d1 d2 d3
   rw [e2] at d2 d3
   by_cases hlm:off+((data.size:Nat):Int)>s.2.2.2.2.2.2.2.2.2.1
   ·
    have c1:decide (off+((data.size:Nat):Int)≤s.2.2.2.2.2.2.2.2.2.1)=false:=by simp;omega
    simp only [d1 hlm,ZAK,show ((170:Int)==0)=false from rfl,cond_false,show ((170:Int)==170)=true from rfl,cond_true,c1]
    rw [Zux hs (by omega) hw]
    exact nx s g t pre.length hs (by omega)
   ·
    cases hb:ZrF s.2.2.2.2.2.2.2.1 (hiF s.2.2.2.2.2.2.2.1.1 s.2.2.2.2.2.2.2.1.2.2.1 t) (off+((data.size:Nat):Int)) fin with
    | true=>
     simp only [d2 (by omega) hb,ZAK,show ((140:Int)==0)=false from rfl,cond_false,show ((140:Int)==170)=false from rfl]
     rw [Zux hs (by omega) hw]
     exact nx s g t pre.length hs (by omega)
    | false=>
     obtain ⟨_,d4⟩:=d3 (by omega) hb
     obtain ⟨s',u,p1,p2⟩:=d4 hs.br
     have hr:=hs.gi.rd
     have h1:=hs.lim
     have h2:=hs.far
     have h3:=hs.top
     have hge:=ZlK s.2.2.2.2.2.2.2.1.1 s.2.2.2.2.2.2.2.1.2.2.1 t
     have hge':=ZlK s'.1 s'.2.2.1 u
     have hrd:=p2.rd
     have hfn:s'.2.2.1≤max s.2.2.2.2.2.2.2.1.2.2.1 (off+((data.size:Nat):Int)):=by
      rw [p2.fn,e3,e4]
      split <;> omega
     have hhi':hiF s'.1 s'.2.2.1 u≤max (hiF s.2.2.2.2.2.2.2.1.1 s.2.2.2.2.2.2.2.1.2.2.1 t) (off+((data.size:Nat):Int)):=by
      refine ZwU p2.gi.plc.can (by omega) (by omega) fun n hn => ?_
      rcases (p2.mem n).mp hn with h | h
      ·
       have:=Zoh s.2.2.2.2.2.2.2.1.1 s.2.2.2.2.2.2.2.1.2.2.1 hs.gi.plc.can h
       omega
      ·
       rw [e3,e4] at h
       omega
     have hI:LimI (ZG0 s s') w _ u (pre.length+1):=⟨p2.gi,hs.br,hs.win,by simp only [ZG0];omega,by simp only [ZG0];omega,by simp only [ZG0];omega⟩
     have c1:decide (off+((data.size:Nat):Int)>s.2.2.2.2.2.2.2.2.2.1)=false:=by simp;omega
     have hH1:=ZS4 _ u s' p2.gi.l p2.gi.plc (by have:=p2.gi.len;omega)
     have hH2:=ZS4 g t _ hs.gi.l hs.gi.plc (by have:=hs.gi.len;omega)
     have hIn:(ZG0 s s').2.2.2.2.2.2.2.1=s':=rfl
     have w3:IntKind.wrap .u64 (hiF s.2.2.2.2.2.2.2.1.1 s.2.2.2.2.2.2.2.1.2.2.1 t+IntKind.wrap .u64 (hiF s'.1 s'.2.2.1 u - hiF s.2.2.2.2.2.2.2.1.1 s.2.2.2.2.2.2.2.1.2.2.1 t))=hiF s'.1 s'.2.2.1 u:=by
      rw [ZJY,ZJY]
      omega
     have c2:(hiF s'.1 s'.2.2.1 u != hiF s'.1 s'.2.2.1 u)=false:=by simp
     simp only [p1,ZAK,show ((0:Int)==0)=true from rfl,cond_true,c1,cond_false,hIn,hH1,hH2,w3,c2,show ((0:Int)==170)=false from rfl]
     rw [Zux hI (by omega) hw]
     exact nx (ZG0 s s') _ u (pre.length+1) hI (by omega)
theorem Zmv (x:ZFC ZCR.params) (h:Wfs ZCR.params x):ZCR.F x=some (true,()):=by
 obtain ⟨w,l,u⟩:=x
 obtain ⟨h1,h2,_⟩:=h
 have hw:=ZwR h1
 show ZPq w l=_
 rw [ZSB,ZIa]
 have h0:ZDq=some (true,()):=by
  rw [ZOp,ZJ8,ZMv]
  rfl
 obtain ⟨b,hb1,hb2⟩:=Zr8 l (by have:=h2.1;unfold maxLen at this;exact this)
 rw [hb1]
 simp only [ZAK]
 cases b with
 | false=>simp only [Bool.not_false,cond_true,h0]
 | true=>
  obtain ⟨hb3,hb4⟩:=hb2 rfl
  have w1:IntKind.wrap .u64 w=w:=ZAh _ (by omega) (by omega)
  simp only [Bool.not_true,cond_false,ZMv,ZAK,w1,Zuv]
  rw [ZOC,ZI1]
  have hz:ByF (fun _=>0):=fun _=>⟨Int.le_refl _,by show (0:Int)≤255;decide⟩
  refine Zsr hw l [] _ (ZRh 0 w) _ [] (by simpa using hb4) (by omega) (fun y hy=>⟨hb3 y hy,?_⟩) ⟨Zut _ hz,rfl,rfl,?_,?_,?_⟩
  ·
   obtain ⟨_,_,h3,_⟩:=h2.2 y hy
   have:=ZwQ h3
   omega
  ·
   have e:hiF (ZRh 0 w).2.2.2.2.2.2.2.1.1 (ZRh 0 w).2.2.2.2.2.2.2.1.2.2.1 []=0:=rfl
   have e2:(ZRh 0 w).2.2.2.2.2.2.2.2.2.1=w:=rfl
   rw [e,e2]
   omega
  ·
   have e2:(ZRh 0 w).2.2.2.2.2.2.2.2.2.1=w:=rfl
   have e3:(ZRh 0 w).2.2.2.2.2.2.2.1.1=0:=rfl
   rw [e2,e3]
   omega
  ·
   have e:hiF (ZRh 0 w).2.2.2.2.2.2.2.1.1 (ZRh 0 w).2.2.2.2.2.2.2.1.2.2.1 []=0:=rfl
   rw [e]
   decide
end Go.Proofs.YtamaklnhjagifaaGreatDoor.V
namespace Go.Proofs.YtamaklnhjagifaaGreatDoor.V
open Go.RowKit Go.ChangeShapes
set_option linter.unusedVariables false
section
variable {H:Type} {enc:TypeId×Value→H} {P:Program} {w:World} {sp:Nat→Bool} {held:Bool} {fuel:Nat}
theorem Zuy {k:IntKind} {N:Nat} {e t:TypeId} {cs:List Value} {l:List Int} {p:List MemPlace} (hu:P.underlying t=some (.array N e)) (he:P.underlying e=some (.int k)) (hc:P.cellsOf e=1) (ht:P.cellsOf t=l.length) (hN:N=l.length)
  (hd:DataW.trod enc P w 0 sp held fuel t cs=some (.agg (l.map fun n => .lit (.int k n)),p)):cs=l.map (Value.int k):=by
 obtain ⟨xs,m,rfl,hx,hlen,hn,hel⟩:=DataW.trod_array hu hd
 simp only [Prod.mk.injEq,DataW.agg.injEq] at hx
 have hm:=hx.1
 rw [ht] at hlen
 refine List.ext_getElem (by rw [hlen,List.length_map]) fun i h1 h2 => ?_
 have hi:i<l.length:=by rw [List.length_map] at h2;exact h2
 have hix:i<xs.length:=by omega
 have h3:=hel i (by omega)
 rw [hc,Nat.mul_one,List.getElem?_eq_getElem hix] at h3
 obtain ⟨n,e1,e2,_⟩:=DataW.trod_int he h3
 have e3:(cs.drop i).take 1=[cs[i]]:=by
  rw [List.drop_eq_getElem_cons h1,List.take_succ_cons,List.take_zero]
 rw [e3] at e1
 have e4:(l.map fun n=>(DataW.lit (.int k n):DataW H))[i]? = (xs.map (·.1))[i]? := by rw [hm]
 rw [List.getElem?_map,List.getElem?_map,List.getElem?_eq_getElem hi,List.getElem?_eq_getElem hix,e2] at e4
 simp only [Option.map_some,Option.some.injEq,DataW.lit.injEq,Lit.int.injEq,true_and] at e4
 simp only [List.cons.injEq,and_true] at e1
 rw [e1,List.getElem_map,← e4]
theorem Ziz {k:IntKind} {N:Nat} {e t g:TypeId} {n:String} {cs:Array Value} {l:List Int} {p:List MemPlace} (hg:P.globalNamed n=some g) (hv:w.var? P n=some cs) (hu:P.underlying t=some (.array N e)) (he:P.underlying e=some (.int k)) (hc:P.cellsOf e=1) (ht:P.cellsOf t=l.length) (hN:N=l.length)
  (hd:DataW.trod enc P w 0 sp held fuel t cs.toList=some (.agg (l.map fun n => .lit (.int k n)),p)) {r:List (Nat×(Σ t:Ty,List t.den))} (hr:Zfp w r):Zfp w ((g,⟨.int k,l⟩)::r)∧g<w.heap.size:=by
 have hcs:=Zuy hu he hc ht hN hd
 simp only [World.var?,hg,Option.bind_some] at hv
 cases hh:w.heap[g]? with
 | none=>rw [hh] at hv;cases hv
 | some o=>
  rw [hh] at hv
  cases o with
  | cells arr e' fz=>
   simp only [Option.some.injEq] at hv
   subst hv
   refine ⟨⟨⟨arr,e',fz,hh,fun i hi=>⟨[.int k (l.getD i 0)],?_,?_⟩⟩,hr⟩,ZHC hh⟩
   ·
    simp only [Rep]
    have:l.getD i 0=l[i]:=by simp [List.getD,hi]
    rw [this]
   ·
    intro j hj
    simp at hj
    subst hj
    show arr[i*1+0]? = _
    rw [Nat.mul_one,Nat.add_zero,← Array.getElem?_toList,hcs,List.getElem?_map,List.getElem?_eq_getElem hi]
    simp [List.getD,hi]
  | _=>cases hv
end
end Go.Proofs.YtamaklnhjagifaaGreatDoor.V
namespace Go.Proofs.YtamaklnhjagifaaGreatDoor.V
open Go.RowKit
set_option linter.unusedVariables false
def ivl (a b:Int):RS:=if a<b then [(a,b - 1,())] else []
theorem ZxY (a b:Int):Can (ivl a b):=by
 unfold ivl
 split
 · exact Zlp (by omega)
 · exact ZYQ
theorem Zuz (a b n:Int):ZGV (ivl a b) n↔a≤n∧n<b:=by
 unfold ivl
 split
 · rw [ZfN];omega
 · exact ⟨fun h=>absurd h (ZC1 n),fun h=>by omega⟩
theorem Zwc {t:RS} (ht:Can t) {a b:Int} (h : ∀ n,ZGV t n↔a≤n∧n<b):t=ivl a b:=Zax ht (ZxY a b) fun n=>by rw [h n,Zuz]
theorem Zo6 (rd fin a b:Int):hiF rd fin (ivl a b)=if a<b then max (max rd fin) b else max rd fin:=by
 by_cases h:a<b
 ·
  have e:ivl a b=[(a,b - 1,())]:=if_pos h
  rw [e,if_pos h]
  show max (max rd fin) (b - 1+1)=_
  rw [Int.sub_add_cancel]
 ·
  have e:ivl a b=[]:=if_neg h
  rw [e,if_neg h]
  rfl
theorem ZkO (rd a b:Int):Zd4 rd (ivl a b)=if a<b∧a=rd then b - a else 0:=by
 by_cases h:a<b
 ·
  have e:ivl a b=[(a,b - 1,())]:=if_pos h
  rw [e]
  show (if a=rd then b - 1+1 - a else 0)=_
  by_cases h2:a=rd
  ·
   rw [if_pos h2,if_pos ⟨h,h2⟩]
   omega
  · rw [if_neg h2,if_neg (fun k=>h2 k.2)]
 ·
  have e:ivl a b=[]:=if_neg h
  rw [e,if_neg (fun k=>h k.1)]
  rfl
theorem ZxZ (s:ZAD) (n:Int):Zc9 s n=ZFy s n ⟨#[]⟩ true:=by
 rw [Zg5,ZVf]
 show (ZAX (ZFy s n ⟨#[]⟩ true) fun y=>some y)=_
 cases ZFy s n ⟨#[]⟩ true <;> rfl
def Zzp (s:ZAB) (x:ZAD) (code:Int):ZAB :=
 (s.1,s.2.1,s.2.2.1,if s.2.2.2.2.2.2.2.2.2.2.2.1 then s.2.2.2.1 else code,s.2.2.2.2.1,s.2.2.2.2.2.1,s.2.2.2.2.2.2.1,(x.1,[],x.2.2),s.2.2.2.2.2.2.2.2.1,s.2.2.2.2.2.2.2.2.2.1,s.2.2.2.2.2.2.2.2.2.2.1,true,s.2.2.2.2.2.2.2.2.2.2.2.2)
theorem Zu0 (s d:ZAB) (n:Int) (f:ZAC) (x:ZAD):ZGx n (ZG0 s x) f d=some (Zzp s x f.2.2.2.2.1,n,0,()):=by
 rw [ZX0,ZRg]
 unfold Zzp ZG0
 obtain ⟨q,cr,cd,wy,rs,td,gn,inn,wn,lm,ra,br,st,sc,stt,⟨⟩⟩:=s
 cases br <;> rfl
theorem Zv9 (s:ZAB) {g:Int→Int} {t:RS} {k:Nat} (h:GI s.2.2.2.2.2.2.2.1 g t k) (hk:k≤99999) (f:ZAC) (ho:0≤f.2.2.2.1) (he:f.2.2.2.1≤4611686018427387903) :
  (f.2.2.2.1>s.2.2.2.2.2.2.2.2.2.1→ZJ0 s f=some (s,0,170,())) ∧
  (f.2.2.2.1≤s.2.2.2.2.2.2.2.2.2.1→ZrF s.2.2.2.2.2.2.2.1 (hiF s.2.2.2.2.2.2.2.1.1 s.2.2.2.2.2.2.2.1.2.2.1 t) f.2.2.2.1 true=true→ZJ0 s f=some (s,0,140,())) ∧
  (f.2.2.2.1≤s.2.2.2.2.2.2.2.2.2.1→ZrF s.2.2.2.2.2.2.2.1 (hiF s.2.2.2.2.2.2.2.1.1 s.2.2.2.2.2.2.2.1.2.2.1 t) f.2.2.2.1 true=false →
   ∃ s',GI s' g t (k+1)∧s'.1=s.2.2.2.2.2.2.2.1.1∧s'.2.2.1=f.2.2.2.1∧s'.2.2.2.1=true∧ZJ0 s f=some (if s.2.2.2.2.2.2.2.1.2.2.2.1&&(!s.2.2.2.2.2.2.2.2.2.2.2.1&&Zxm s' (Zd4 s'.1 t)) then ZG0 s s' else Zzp s s' f.2.2.2.2.1,IntKind.wrap .u64 (hiF s'.1 s'.2.2.1 t - hiF s.2.2.2.2.2.2.2.1.1 s.2.2.2.2.2.2.2.1.2.2.1 t),0,())):=by
 have hz:f.2.2.2.1+(((⟨#[]⟩:ByteArray).size:Nat):Int)=f.2.2.2.1:=Int.add_zero _
 obtain ⟨h1,h2⟩:=Zy2 h (by omega) f.2.2.2.1 ⟨#[]⟩ true ho (by rw [hz];exact he) (by decide)
 rw [hz] at h1 h2
 rw [Zb9,ZP4]
 by_cases hl:f.2.2.2.1>s.2.2.2.2.2.2.2.2.2.1
 ·
  simp only [hl,decide_true,cond_true]
  exact ⟨fun _=>trivial,fun h=>absurd h (by omega),fun h=>absurd h (by omega)⟩
 ·
  simp only [hl,decide_false,cond_false,ZxZ]
  refine ⟨fun h=>by first | exact h.elim | omega,fun _ hb => ?_,fun _ hb => ?_⟩
  ·
   rw [h1 hb]
   rfl
  ·
   obtain ⟨s',u,p1,p2⟩:=h2 hb
   have hu:u=t:=Zax p2.gi.plc.can h.plc.can fun n=>by
    rw [p2.mem n,hz]
    exact ⟨fun h=>h.elim id fun h=>by omega,.inl⟩
   subst hu
   have hgi:GI s' g u (k+1):=⟨p2.gi.l.trans (Zc2 fun n hn=>ZxM hn),h.by_,p2.gi.plc,p2.gi.len,p2.gi.rd,p2.gi.fin,p2.gi.low⟩
   refine ⟨s',hgi,p2.rd,by rw [p2.fn];exact hz,by rw [p2.kn];rfl,?_⟩
   have hset:((s.1,s.2.1,s.2.2.1,s.2.2.2.1,s.2.2.2.2.1,s.2.2.2.2.2.1,s.2.2.2.2.2.2.1,s',s.2.2.2.2.2.2.2.2):ZAB)=ZG0 s s':=rfl
   rw [p1]
   simp only [ZAK,bne_self_eq_false,cond_false]
   rw [Znk h hgi (by omega) (by omega)]
   simp only [ZAK,hset,Zu0]
   cases hkn:s.2.2.2.2.2.2.2.1.2.2.2.1 with
   | false=>rfl
   | true=>
    cases hbr:s.2.2.2.2.2.2.2.2.2.2.2.1 with
    | true=>rfl
    | false=>
     simp only [cond_true,Bool.not_false,Bool.true_and]
     rw [Zr1 g u s' hgi.l hgi.plc]
     simp only [ZAK]
     cases Zxm s' (Zd4 s'.1 u)<;>rfl
end Go.Proofs.YtamaklnhjagifaaGreatDoor.V
namespace Go.Proofs.YtamaklnhjagifaaGreatDoor.V
open Go.RowKit Go.Proofs.Tryz
set_option linter.unusedVariables false
set_option maxRecDepth 100000
noncomputable def ZLL:Mach prog Inv ZAq:=ZFE bas [(5,f5)] ⟨ok5,trivial⟩ [(15,ZIY),(16,ZH7),(17,ZKc),(18,ZKb),(20,ZNm),(29,ZP5)] ⟨⟨ZMI,ZAa.callable Zx4⟩,⟨ZJ1,ZAa.callable Zxl⟩,⟨ZRe,ZAa.callable Zy9⟩,⟨ZRc,ZAa.callable ZzA⟩,⟨ZZr,ZAa.callable ZzS⟩,⟨ZiM,ZAa.callable Zzy⟩,trivial⟩ [] trivial [] trivial
/-! ### domino/dominolaw16.StreamBroken -/
@[reducible] def ZB5:List Ty:=[.bool]
def ZJ9:List Nat:=[5]
abbrev ZEe (base:Base) (S0:Nat→Prop):=base.n=0∧FinOk (Zdd ZB5) base S0 (ZFg ZB5 S0)
abbrev ZSC (base:Base) (S0:Nat→Prop) (cs0:List Go.Frame) (p:CPat) (J:ZC9 p→Option (ZFC ZB5)):=ZAb ZLL base S0 cs0 (ZFg ZB5 S0) p J
abbrev ZSD (base:Base) (S0:Nat→Prop) (cs0:List Go.Frame) (X:Cfg→Option (Option (ZFC ZB5))):=ZAH ZLL base S0 cs0 (ZFg ZB5 S0) X
@[reducible] noncomputable def ZI2:CPat:=⟨⟨5,[1,1,1,1,1,1,1,1,0,1,1],none,[.any,.any,.bool,.int .u8,.any,.any,.any,.any,.any,.any,.any,.any,.any,.any,.any,.any,.ptr 0 0,.int .u64,.int .i64],131⟩,[],[.dat 35 ZAJ],0⟩
@[reducible] noncomputable def ZOq (k:Bool→Int→Int→Int→ZAB→Option (Bool×Unit)):ZC9 ZI2→Option (Bool×Unit):=fun x=>k x.1.2.2.1 x.1.2.2.2.1 x.1.2.2.2.2.2.2.2.2.2.2.2.2.2.2.2.2.2.1 x.1.2.2.2.2.2.2.2.2.2.2.2.2.2.2.2.2.2.2.1 x.2.2.1
noncomputable def ZI3 (b36:Bool) (i37:Int) (i38:Int) (i39:Int) (d40:ZAB):Option (Bool×Unit) :=
 ZAX (ZFS d40 (5:Int)) fun y41=>
 let s42:ByteArray:=(ByteArray.mk (List.toArray ([]:List UInt8)))
 bif b36 then
  let b43:Bool:=(i39==(0:Int))
  bif b43 then
   let b44:Bool:=(!d40.2.2.2.2.2.2.2.2.2.2.2.1)
   bif b44 then
    let b45:Bool:=(y41.2.2.2.1==(0:Int))
    bif b45 then
     let b46:Bool:=(i38==(0:Int))
     some (b46,())
    else
     some (false,())
   else
    some (false,())
  else
   some (false,())
 else
  let b47:Bool:=(i39==(0:Int))
  bif b47 then
   bif d40.2.2.2.2.2.2.2.2.2.2.2.1 then
    let b48:Bool:=(d40.2.2.2.1==(9:Int))
    bif b48 then
     let n49:Int:=(Go.IntKind.wrap Go.IntKind.u64 i37)
     let b50:Bool:=(i38==n49)
     bif b50 then
      let b51:Bool:=(y41.2.2.2.1==(160:Int))
      bif b51 then
       bif y41.2.2.1 then
        ZAX (ZPd d40.2.2.2.2.2.2.2.1) fun y52=>
        let b53:Bool:=(y52.1==(0:Int))
        some (b53,())
       else
        some (false,())
      else
       some (false,())
     else
      some (false,())
    else
     some (false,())
   else
    some (false,())
  else
   some (false,())
theorem ZOD : ∃ f,f = @ZI3:=⟨_,rfl⟩
noncomputable def ZEf:=Classical.choose ZOD
theorem ZOE : @ZEf = @ZI3:=Classical.choose_spec ZOD
theorem Zaa {base S0 cs0} (hfin:ZEe base S0):ZSC base S0 cs0 ZI2 (ZOq (ZEf)) :=
 ZAb.join hfin.2 (ZAH.nowhere) ZJ9 100000 (by rw [ZOE];intro x;kernel_rfl)
noncomputable def ZOr:Cfg→Option (Option (Bool×Unit)):=cut ZI2 (ZOq (ZEf)) (nowhere)
theorem ZOs {base S0 cs0} (hfin:ZEe base S0):ZSD base S0 cs0 (ZOr):=ZAH.cut (ZAH.nowhere) (Nat.le_of_eq hfin.1) (Zaa hfin)
@[reducible] noncomputable def ZI4:CPat:=⟨⟨5,[1,0,1,0],none,[],150⟩,[],[],0⟩
@[reducible] noncomputable def ZOt (k:Option (Bool×Unit)):ZC9 ZI4→Option (Bool×Unit):=fun x=>k
noncomputable def ZI5:Option (Bool×Unit) :=
 ZAX ZFT fun y9=>
 some y9
theorem ZOF : ∃ f,f = @ZI5:=⟨_,rfl⟩
noncomputable def ZDU:=Classical.choose ZOF
theorem ZOG : @ZDU = @ZI5:=Classical.choose_spec ZOF
theorem Zab {base S0 cs0} (hfin:ZEe base S0):ZSC base S0 cs0 ZI4 (ZOt (ZDU)) :=
 ZAb.join hfin.2 (ZOs hfin) ZJ9 100000 (by rw [ZOG];intro x;kernel_rfl)
noncomputable def ZOu:Cfg→Option (Option (Bool×Unit)):=cut ZI4 (ZOt (ZDU)) (ZOr)
theorem Zac {base S0 cs0} (hfin:ZEe base S0):ZSD base S0 cs0 (ZOu):=ZAH.cut (ZOs hfin) (Nat.le_of_eq hfin.1) (Zab hfin)
noncomputable def ZHA (a0:ByteArray) (a1:Int) (a2:Bool) (a3:Int):Option (Bool×Unit) :=
 let n4:Int:=(((ByteArray.size a0):Nat):Int)
 let b5:Bool:=(decide (n4>(200:Int)))
 bif b5 then
  ZDU
 else
  ZAX ZFT fun y6=>
  let b7:Bool:=(!y6.1)
  bif b7 then
   ZDU
  else
   ZAX (ZKd (0:Int) (1000:Int)) fun y10=>
   let s11:ByteArray:=(ByteArray.mk (List.toArray ([]:List UInt8)))
   let n12:Int:=(Go.IntKind.wrap Go.IntKind.i64 a1)
   let n13:Int:=(((ByteArray.size a0):Nat):Int)
   let n14:Int:=(Go.IntKind.wrap Go.IntKind.i64 (n13+(1:Int)))
   bif (decide (n14≠(0:Int))) then
    let n15:Int:=(Int.tmod n12 n14)
    let s16:ByteArray:=(ByteArray.mk (List.toArray ([]:List UInt8)))
    ZAX (ZFR y10.1 ((8:Int),((4:Int),((0:Int),((0:Int),((0:Int),((0:Int),((0:Int),((0:Int),(a2,(a0,(s16,(s16,(([]:List ZAA),())))))))))))))) fun y17=>
    ZAX (ZFS y17.1 n15) fun y18=>
    let n19:Int:=(((ByteArray.size a0):Nat):Int)
    let n20:Int:=(Go.IntKind.wrap Go.IntKind.i64 a3)
    let n21:Int:=(Go.IntKind.wrap Go.IntKind.i64 (n19+n20))
    let n22:Int:=(Go.IntKind.wrap Go.IntKind.u64 n21)
    let s23:ByteArray:=(ByteArray.mk (List.toArray ([]:List UInt8)))
    ZAX (ZJ0 y18.1 ((4:Int),((4:Int),((0:Int),(n22,((9:Int),((0:Int),((0:Int),((0:Int),(false,(s23,(s23,(s23,(([]:List ZAA),())))))))))))))) fun y24=>
    let s25:ByteArray:=(ByteArray.mk (List.toArray ([]:List UInt8)))
    let b26:Bool:=(y17.2.2.1 != (0:Int))
    bif b26 then
     some (false,())
    else
     let b27:Bool:=(y18.2.2.2.1 != (0:Int))
     bif b27 then
      some (false,())
     else
      bif (decide (((0:Int)≤(0:Int))∧(((0:Int)≤n15)∧(n15≤(((ByteArray.size a0):Nat):Int))))) then
       let s28:ByteArray:=(ByteArray.extract a0 0 (Int.toNat n15))
       let b29:Bool:=(!((ByteArray.toList y18.2.1)==(ByteArray.toList s28)))
       bif b29 then
        some (false,())
       else
        bif a2 then
         let b30:Bool:=(decide (a3>(0:Int)))
         bif b30 then
          let b31:Bool:=(y24.2.2.1==(140:Int))
          bif b31 then
           let b32:Bool:=(y24.2.1==(0:Int))
           bif b32 then
            let b33:Bool:=(!y24.1.2.2.2.2.2.2.2.2.2.2.2.1)
            some (b33,())
           else
            some (false,())
          else
           some (false,())
         else
          ZEf a2 a3 y24.2.1 y24.2.2.1 y24.1
        else
         ZEf a2 a3 y24.2.1 y24.2.2.1 y24.1
      else none
   else none
theorem ZQs : ∃ f,f = @ZHA:=⟨_,rfl⟩
noncomputable def ZOH:=Classical.choose ZQs
theorem ZQt : @ZOH = @ZHA:=Classical.choose_spec ZQs
noncomputable def ZKA:Con:=⟨[.str,(.int .u8),.bool,(.int .u8)],ZB5,fun x=>ZHA x.1 x.2.1 x.2.2.1 x.2.2.2.1⟩
noncomputable def ZB6:Con:=⟨[.str,(.int .u8),.bool,(.int .u8)],ZB5,fun x=>ZOH x.1 x.2.1 x.2.2.1 x.2.2.2.1⟩
theorem ZX2:ZKA.Sound prog Inv ZAq 5 :=
 ZAm (M:=ZLL) ZBo (f:=f5) rfl ZJ9 100000 (X:=ZOu) (fun base S0 cs0 hn hf=>have hfin:ZEe base S0:=⟨hn,hf⟩;Zac hfin) (by intro x;kernel_rfl)
theorem ZY8:ZB6.Sound prog Inv ZAq 5:=by
 have e:ZB6=ZKA:=by unfold ZB6 ZKA;rw [ZQt]
 rw [e];exact ZX2
end Go.Proofs.YtamaklnhjagifaaGreatDoor.V
namespace Go.Proofs.YtamaklnhjagifaaGreatDoor.V
open Go.RowKit
set_option linter.unusedVariables false
theorem ZrP (text:ByteArray) (hl:text.size≤200) (k:Int) (hk:0≤k∧k≤((text.size:Nat):Int)) (fin:Bool) (more:Int) (hm:0≤more∧more≤255) :
  ∃ s1 s2 s3 n3 e3 b2,ZFR (ZRh 0 1000) (fr8 4 0 text fin)=some (s1,((text.size:Nat):Int),0,())∧ZFS s1 k=some (s2,text.extract 0 k.toNat,b2,0,())∧ZJ0 s2 (fr4 4 9 (((text.size:Nat):Int)+more))=some (s3,n3,e3,()) ∧
   (fin=true→more>0→e3=140∧n3=0∧s3.2.2.2.2.2.2.2.2.2.2.2.1=false) ∧
   (fin=true → ¬ more>0→e3=0∧n3=0∧s3.2.2.2.2.2.2.2.2.2.2.2.1=false ∧ ∃ s4 d4 b4,ZFS s3 5=some (s4,d4,b4,0,())) ∧
   (fin=false→e3=0∧n3=more∧s3.2.2.2.2.2.2.2.2.2.2.2.1=true∧s3.2.2.2.1=9∧ZPd s3.2.2.2.2.2.2.2.1=some (0,())):=by
 have hz:ByF (fun _=>0):=fun _=>⟨Int.le_refl _,by show (0:Int)≤255;decide⟩
 generalize hlen:((text.size:Nat):Int)=len at *
 have hlen0:0≤len∧len≤200:=by omega
 have e1:(fr8 4 0 text fin).2.2.1+(((fr8 4 0 text fin).2.2.2.2.2.2.2.2.2.1.size:Nat):Int)=len:=by
  show (0:Int)+((text.size:Nat):Int)=len
  omega
 obtain ⟨_,_,d3⟩:=Zo2 (ZRh 0 1000) (Zut _ hz) (by decide) (fr8 4 0 text fin) (Int.le_refl _) (by rw [e1];omega) (by show text.size≤_;omega)
 rw [e1] at d3
 have hlim0:(ZRh 0 1000).2.2.2.2.2.2.2.2.2.1=1000:=rfl
 have hin0:(ZRh 0 1000).2.2.2.2.2.2.2.1=(0,[],0,false,()):=rfl
 have hhi0:hiF (ZRh 0 1000).2.2.2.2.2.2.2.1.1 (ZRh 0 1000).2.2.2.2.2.2.2.1.2.2.1 []=0:=rfl
 rw [hlim0,hhi0] at d3
 have hb0:ZrF (ZRh 0 1000).2.2.2.2.2.2.2.1 0 len (fr8 4 0 text fin).2.2.2.2.2.2.2.2.1=false:=by
  unfold ZrF
  have:decide (len<0)=false:=by simp;omega
  rw [this,hin0]
  simp
 obtain ⟨_,d4⟩:=d3 (by omega) hb0
 obtain ⟨x1,u1,p1,p2⟩:=d4 rfl
 have hrd1:x1.1=0:=p2.rd
 have hfn1:x1.2.2.1=if fin then len else 0:=by
  rw [p2.fn,e1]
  rfl
 have hkn1:x1.2.2.2.1=fin:=by
  rw [p2.kn]
  show (fin||false)=fin
  simp
 have hu1:u1=ivl 0 len:=Zwc p2.gi.plc.can fun n=>by
  rw [p2.mem n,e1]
  have:max (ZRh 0 1000).2.2.2.2.2.2.2.1.1 (fr8 4 0 text fin).2.2.1=0:=rfl
  rw [this]
  exact ⟨fun h=>h.elim (fun h=>absurd h (ZC1 n)) id,.inr⟩
 subst hu1
 have hhi1:hiF x1.1 x1.2.2.1 (ivl 0 len)=len:=by
  rw [Zo6,hrd1,hfn1]
  cases fin <;> (simp only [if_true,Bool.false_eq_true,if_false];split <;> omega)
 have w1:IntKind.wrap .u64 (hiF x1.1 x1.2.2.1 (ivl 0 len) - 0)=len:=by
  rw [hhi1,ZAh _ (by omega) (by omega)]
  omega
 rw [w1] at p1
 have hgi1:=p2.gi
 have hrdy1:Zd4 x1.1 (ivl 0 len)=len:=by
  rw [ZkO,hrd1]
  split <;> omega
 obtain ⟨x2,u2,r1,r2⟩:=Zo3 (ZG0 (ZRh 0 1000) x1) hgi1 (by decide) rfl k (by show Zd4 x1.1 (ivl 0 len)≤_;omega) (by show x1.1+Zd4 x1.1 (ivl 0 len)≤_;omega)
 have htk:tkN (ZG0 (ZRh 0 1000) x1).2.2.2.2.2.2.2.1.1 (ivl 0 len) k=k:=by
  show tkN x1.1 (ivl 0 len) k=k
  unfold tkN
  rw [hrdy1]
  omega
 have hrd2:x2.1=k:=by
  rw [r2.rd,htk]
  show x1.1+k=k
  omega
 have hfn2:x2.2.2.1=if fin then len else 0:=r2.fn.trans hfn1
 have hkn2:x2.2.2.2.1=fin:=r2.kn.trans hkn1
 have hu2:u2=ivl k len:=Zwc r2.gi.plc.can fun n=>by
  rw [r2.mem n,htk,Zuz]
  have:(ZG0 (ZRh 0 1000) x1).2.2.2.2.2.2.2.1.1=0:=hrd1
  rw [this]
  omega
 subst hu2
 have hhi2:hiF x2.1 x2.2.2.1 (ivl k len)=len:=by
  rw [Zo6,hrd2,hfn2]
  cases fin <;> (simp only [if_true,Bool.false_eq_true,if_false];split <;> omega)
 have hraise:Zr7 (ZG0 (ZRh 0 1000) x1) x2.1=false:=by
  unfold Zr7
  have e:(ZG0 (ZRh 0 1000) x1).2.2.2.2.2.2.2.2.2.1=1000:=rfl
  have e2:Int.fdiv (ZG0 (ZRh 0 1000) x1).2.2.2.2.2.2.2.2.1 2=500:=rfl
  rw [e,e2,hrd2,ZAh _ (by omega) (by omega)]
  have:decide ((1000:Int) - k<500)=false:=by simp;omega
  rw [this]
  simp
 have hrs:ZrN (ZG0 (ZRh 0 1000) x1) x2=ZG0 (ZRh 0 1000) x2:=by
  unfold ZrN
  rw [hraise]
  rfl
 rw [hrs] at r1
 have hseg:seg (ov [] (fun _=>0) (Zig (fr8 4 0 text fin).2.2.1 (fr8 4 0 text fin).2.2.2.2.2.2.2.2.2.1)) (ZG0 (ZRh 0 1000) x1).2.2.2.2.2.2.2.1.1 (x2.1 - 1)=text.extract 0 k.toNat:=by
  have e:(ZG0 (ZRh 0 1000) x1).2.2.2.2.2.2.2.1.1=0:=hrd1
  rw [e,hrd2]
  refine (Zk1 (h:=Zig 0 text) fun n _ _=>ZuO (ZC1 n)).trans ?_
  have:=ZYR (ZoV 0 text) (lo:=0) (hi:=len - 1) (a:=0) (b:=k - 1) (Int.le_refl _) (by omega) (by omega)
  have e3:seg (Zig 0 text) 0 (len - 1)=text:=by
   have:=Zq7 0 text
   rw [hlen,Int.zero_add] at this
   exact this.symm
  rw [e3] at this
  have e4:(k - 1+1 - 0).toNat=k.toNat:=by omega
  rw [e4] at this
  exact this.symm
 rw [hseg] at r1
 have hgi2:GI (ZG0 (ZRh 0 1000) x2).2.2.2.2.2.2.2.1 _ (ivl k len) 1:=r2.gi
 obtain ⟨_,b2,b3⟩:=Zv9 (ZG0 (ZRh 0 1000) x2) hgi2 (by decide) (fr4 4 9 (len+more)) (by show 0≤len+more;omega) (by show len+more≤_;omega)
 have eM:(fr4 4 9 (len+more)).2.2.2.1=len+more:=rfl
 have eL:(ZG0 (ZRh 0 1000) x2).2.2.2.2.2.2.2.2.2.1=1000:=rfl
 have eI:(ZG0 (ZRh 0 1000) x2).2.2.2.2.2.2.2.1=x2:=rfl
 rw [eM,eL,eI,hhi2] at b2 b3
 have hbad:ZrF x2 len (len+more) true=(fin&&decide (more>0)):=by
  unfold ZrF
  rw [hkn2,hfn2]
  have:decide (len+more<len)=false:=by simp;omega
  rw [this]
  cases fin with
  | false=>rfl
  | true=>
   simp only [if_true,Bool.true_and,Bool.and_false,Bool.or_false,this]
   congr 1
   apply propext
   omega
 refine ⟨ZG0 (ZRh 0 1000) x1,ZG0 (ZRh 0 1000) x2,?_⟩
 by_cases hB:(fin&&decide (more>0))=true
 ·
  have:=b2 (by omega) (by rw [hbad];exact hB)
  simp only [Bool.and_eq_true,decide_eq_true_eq] at hB
  exact ⟨_,_,_,_,p1,r1,this,fun _ _=>⟨rfl,rfl,rfl⟩,fun _ h=>absurd hB.2 h,fun h=>absurd hB.1 (by rw [h];decide)⟩
 ·
  have hB':(fin&&decide (more>0))=false:=Bool.eq_false_iff.mpr hB
  obtain ⟨x3,g3,q1,q2,q3,q4⟩:=b3 (by omega) (by rw [hbad];exact hB')
  have hbr2:(ZG0 (ZRh 0 1000) x2).2.2.2.2.2.2.2.2.2.2.2.1=false:=rfl
  have eC:(fr4 4 9 (len+more)).2.2.2.2.1=9:=rfl
  rw [hkn2,hbr2,eC] at q4
  cases fin with
  | true=>
   have hm0:more=0:=by
    simp only [Bool.true_and,decide_eq_false_iff_not] at hB'
    omega
   subst hm0
   have hal:Zxm x3 (Zd4 x3.1 (ivl k len))=true:=by
    unfold Zxm
    rw [q3,q2,q1,hrd2,ZkO]
    have e:len+0 - k=if k<len∧k=k then len - k else 0:=by split <;> omega
    rw [e]
    simp
   rw [hal] at q4
   have hw:IntKind.wrap .u64 (hiF x3.1 x3.2.2.1 (ivl k len) - len)=0:=by
    have:hiF x3.1 x3.2.2.1 (ivl k len)=len:=by
     rw [Zo6,q1,q2,hrd2]
     split <;> omega
    rw [this,Int.sub_self]
    rfl
   rw [hw] at q4
   obtain ⟨x4,u4,r3,_⟩:=Zo3 (ZG0 (ZG0 (ZRh 0 1000) x2) x3) g3 (by decide) rfl 5 (by show Zd4 x3.1 (ivl k len)≤_;rw [ZkO];split <;> omega) (by show x3.1+Zd4 x3.1 (ivl k len)≤_;rw [ZkO,q1,hrd2];split <;> omega)
   exact ⟨_,_,_,_,p1,r1,q4,fun _ h=>absurd h (by decide),fun _ _=>⟨rfl,rfl,rfl,_,_,_,r3⟩,fun h=>(by cases h)⟩
  | false=>
   have hw:IntKind.wrap .u64 (hiF x3.1 x3.2.2.1 (ivl k len) - len)=more:=by
    have:hiF x3.1 x3.2.2.1 (ivl k len)=len+more:=by
     rw [Zo6,q1,q2,hrd2]
     split <;> omega
    rw [this,ZAh _ (by omega) (by omega)]
    omega
   rw [hw] at q4
   simp only [Bool.false_and,Bool.false_eq_true,if_false] at q4
   refine ⟨_,_,_,_,p1,r1,q4,fun h=>(by cases h),fun h=>(by cases h),fun _=>⟨rfl,rfl,rfl,rfl,?_⟩⟩
   exact ZuU (fun _=>0) [] _ rfl Zlo (by decide)
theorem Zss (text:ByteArray) (a:Int) (fin:Bool) (more:Int) (ha:0≤a∧a≤255) (hm:0≤more∧more≤255):ZOH text a fin more=some (true,()):=by
 rw [ZQt,ZHA]
 have h0:ZDU=some (true,()):=by
  rw [ZOG,ZI5,ZMv]
  rfl
 by_cases hl:((text.size:Nat):Int)>200
 · simp only [hl,decide_true,cond_true,h0]
 ·
  have w1:IntKind.wrap .i64 a=a:=wrap_i64 _ (by omega) (by omega)
  have w2:IntKind.wrap .i64 (((text.size:Nat):Int)+1)=((text.size:Nat):Int)+1:=wrap_i64 _ (by omega) (by omega)
  have c1:decide (((text.size:Nat):Int)+1≠0)=true:=by simp;omega
  have ht:Int.tmod a (((text.size:Nat):Int)+1)=a % (((text.size:Nat):Int)+1):=Int.tmod_eq_emod_of_nonneg (by omega)
  have q0:0≤a % (((text.size:Nat):Int)+1):=Int.emod_nonneg _ (by omega)
  have q1:a % (((text.size:Nat):Int)+1)<((text.size:Nat):Int)+1:=Int.emod_lt_of_pos _ (by omega)
  generalize a % (((text.size:Nat):Int)+1)=k at *
  have w3:IntKind.wrap .i64 more=more:=wrap_i64 _ (by omega) (by omega)
  have w4:IntKind.wrap .i64 (((text.size:Nat):Int)+more)=((text.size:Nat):Int)+more:=wrap_i64 _ (by omega) (by omega)
  have w5:IntKind.wrap .u64 (((text.size:Nat):Int)+more)=((text.size:Nat):Int)+more:=ZAh _ (by omega) (by omega)
  have w6:IntKind.wrap .u64 more=more:=ZAh _ (by omega) (by omega)
  have f1:((8,4,0,0,0,0,0,0,fin,text,ByteArray.mk (List.toArray ([]:List UInt8)),ByteArray.mk (List.toArray ([]:List UInt8)),[],()):ZAC)=fr8 4 0 text fin:=rfl
  have f2:((4,4,0,((text.size:Nat):Int)+more,9,0,0,0,false,ByteArray.mk (List.toArray ([]:List UInt8)),ByteArray.mk (List.toArray ([]:List UInt8)),ByteArray.mk (List.toArray ([]:List UInt8)),[],()):ZAC)=fr4 4 9 (((text.size:Nat):Int)+more):=rfl
  obtain ⟨s1,s2,s3,n3,e3,b2,r1,r2,r3,r4,r5,r6⟩:=ZrP text (by omega) k ⟨q0,by omega⟩ fin more hm
  have c2:decide ((0:Int)≤0∧(0:Int)≤k∧k≤((text.size:Nat):Int))=true:=by simp;omega
  simp only [hl,decide_false,cond_false,ZMv,ZAK,Bool.not_true,Zuv,w1,w2,c1,cond_true,ht,f1,r1,r2,w3,w4,w5,f2,r3,bne_self_eq_false,c2,Zcz,ZOE,ZI3,w6]
  cases fin with
  | true=>
   by_cases hmo:more>0
   ·
    obtain ⟨t1,t2,t3⟩:=r4 rfl hmo
    simp only [hmo,decide_true,cond_true,t1,t2,t3,Bool.not_true,Bool.not_false,cond_false,beq_self_eq_true]
   ·
    obtain ⟨t1,t2,t3,s4,d4,b4,t4⟩:=r5 rfl hmo
    simp only [hmo,decide_true,decide_false,cond_true,t1,t2,t3,t4,ZAK,Bool.not_true,Bool.not_false,cond_false,beq_self_eq_true]
  | false=>
   obtain ⟨t1,t2,t3,t4,t5⟩:=r6 rfl
   simp only [decide_true,cond_true,cond_false,Bool.not_true,ZrM s3 5 t3,t1,t2,t3,t4,t5,ZAK,beq_self_eq_true]
theorem Zlr (x:ZFC ZB6.params) (h:Wfs ZB6.params x):ZB6.F x=some (true,()):=by
 obtain ⟨text,a,fin,more,u⟩:=x
 obtain ⟨_,h2,_,h4,_⟩:=h
 exact Zss text a fin more (Zw0 h2) (Zw0 h4)
structure SQT (s:ZAF) (k:Nat):Prop where
 sq:SQ s k
 new : ∀ n,s.2.1≤n→n<enQ s→ZGV s.2.2.2.2.1 n
 topen:s.2.1≤enQ s
 small:s.2.2.1.size≤1000000
theorem ZqS {q:ZAF} {id most credit:Int} : ∀ {n:Nat} {f:ZAC},ZrL q id most credit n=some f → ∃ m:Nat,1≤m∧m≤n∧(ZUl q ((m:Nat):Int) credit).2.2.2.1=true∧f=fr8 id (ZUl q ((m:Nat):Int) credit).1 (ZUl q ((m:Nat):Int) credit).2.1 (ZUl q ((m:Nat):Int) credit).2.2.1∧ZdX f most=true
 | 0,f,h=>by simp [ZrL] at h
 | n+1,f,h=>by
  unfold ZrL at h
  simp only at h
  split at h
  ·
   rename_i hi
   split at h
   ·
    rename_i hf
    simp only [Option.some.injEq] at h
    subst h
    exact ⟨n+1,by omega,Nat.le_refl _,hi,rfl,hf⟩
   ·
    obtain ⟨m,h1,h2,h3⟩:=ZqS h
    exact ⟨m,h1,by omega,h3⟩
  · cases h
theorem Zst {q:ZAF} {k:Nat} (h:SQT q k) {m credit:Int} (hm:1≤m) (hc:0≤credit) (hi:(ZUl q m credit).2.2.2.1=true) :
  ∃ e,(ZUl q m credit).1+(((ZUl q m credit).2.1.size:Nat):Int)=e∧q.1≤(ZUl q m credit).1∧e≤enQ q∧(ZUl q m credit).2.1.size≤1000000∧((q.2.2.2.2.1=[]∧e≤q.2.1)∨e≤credit) ∧
   (q.2.2.2.2.1=[]→(ZUl q m credit).1=enQ q∧(ZUl q m credit).2.1.size=0∧q.2.2.2.2.2.2.1=true):=by
 have hb:=h.sq.base
 have hen:=h.sq.en
 have hsm:=h.small
 have hdef:enQ q=q.1+((q.2.2.1.size:Nat):Int):=rfl
 have hnew:=h.new
 have hte:=h.topen
 unfold ZUl at hi ⊢
 cases ht:q.2.2.2.2.1 with
 | nil=>
  rw [ht] at hi hnew
  simp only at hi
  simp only [hi,if_true]
  refine ⟨enQ q,by simp [ByteArray.size],by omega,Int.le_refl _,by decide,.inl ⟨trivial,?_⟩,fun _=>⟨trivial,rfl,trivial⟩⟩
  rcases Int.lt_or_le q.2.1 (enQ q) with hlt | hle
  · exact absurd (hnew q.2.1 (Int.le_refl _) hlt) (ZC1 _)
  · exact hle
 | cons r t=>
  rw [ht] at hi
  simp only at hi
  have hr:=h.sq.todo.rng r (by rw [ht];exact List.mem_cons_self)
  have hf:=h.sq.todo.can.full r (by rw [ht];exact List.mem_cons_self)
  have k1:=h.sq.tin r.1 ⟨r,by rw [ht];exact List.mem_cons_self,Int.le_refl _,hf⟩
  have k2:=h.sq.tin r.2.1 ⟨r,by rw [ht];exact List.mem_cons_self,hf,Int.le_refl _⟩
  by_cases hle:toQ r m credit≤r.1
  ·
   simp only [hle,if_true] at hi
   cases hi
  ·
   have hto:toQ r m credit≤r.2.1+1∧toQ r m credit≤credit:=by unfold toQ;omega
   simp only [hle,if_false]
   have hsz:(((q.2.2.1.extract (r.1 - q.1).toNat (toQ r m credit - q.1).toNat).size:Nat):Int)=toQ r m credit - r.1:=by
    simp only [ByteArray.size_extract]
    omega
   refine ⟨toQ r m credit,by rw [hsz];omega,k1.1,by omega,by omega,.inr hto.2,fun h=>by cases h⟩
theorem Zu1 (s:ZAB) (k:Nat) (h:SQT s.1 k) (hk:k≤90000) (hcr:U64 s.2.1) (id most more:Int) (hid:U64 id) (hmore:0≤more∧more≤4611686018427387904) :
  ∃ q f n is,ZaX s id most more=some ((q,s.2),f,n,is,())∧SQT q (k+1)∧q.1=s.1.1∧q.2.2.1=s.1.2.2.1∧q.2.2.2.2.2.1=s.1.2.2.2.2.2.1∧q.2.1=s.1.2.1+n∧0≤n∧n≤more∧(s.1.2.1≤s.2.1→q.2.1≤s.2.1) ∧
   (is=true→FrOk f∧s.2.2.2.2.1=false∧ZdX f most=true∧f.1=8∧(s.1.2.1≤s.2.1→f.2.2.1+((f.2.2.2.2.2.2.2.2.2.1.size:Nat):Int)≤s.2.1))∧(is=false→q=s.1∧f=noF∧n=0):=by
 have hb:=h.sq.base
 have hen:=h.sq.en
 have htp:=h.sq.top
 have none_ : ∃ q f n is,some (s,noF,0,false,())=some (((q,s.2),f,n,is,()):ZAB×ZAC×Int×Bool×Unit)∧SQT q (k+1)∧q.1=s.1.1∧q.2.2.1=s.1.2.2.1∧q.2.2.2.2.2.1=s.1.2.2.2.2.2.1∧q.2.1=s.1.2.1+n∧0≤n∧n≤more∧(s.1.2.1≤s.2.1→q.2.1≤s.2.1) ∧
   (is=true→FrOk f∧s.2.2.2.2.1=false∧ZdX f most=true∧f.1=8∧(s.1.2.1≤s.2.1→f.2.2.1+((f.2.2.2.2.2.2.2.2.2.1.size:Nat):Int)≤s.2.1))∧(is=false→q=s.1∧f=noF∧n=0) :=
  ⟨s.1,noF,0,false,rfl,⟨h.sq.mono (by omega),h.new,h.topen,h.small⟩,rfl,rfl,rfl,(Int.add_zero _).symm,Int.le_refl _,hmore.1,fun h=>h,fun h=>(by cases h),fun _=>⟨rfl,rfl,rfl⟩⟩
 unfold ZaX
 cases hrs:s.2.2.2.2.1 with
 | true=>
  rw [if_pos rfl]
  rw [hrs] at none_
  exact none_
 | false=>
  rw [if_neg (by decide)]
  have w0:IntKind.wrap .u64 (s.1.2.1+more)=s.1.2.1+more:=ZAh _ (by omega) (by omega)
  rw [w0]
  cases ho:ZrL s.1 id most (min s.2.1 (s.1.2.1+more)) (min most 1200).toNat with
  | none=>rw [hrs] at none_;exact none_
  | some f=>
   obtain ⟨m,m1,m2,m3,m4,m5⟩:=ZqS ho
   have hcr':=hcr
   unfold U64 at hcr'
   obtain ⟨e,e1,e2,e3,e4,e5,e6⟩:=Zst h (m:=((m:Nat):Int)) (credit:=min s.2.1 (s.1.2.1+more)) (by omega) (by omega) m3
   have hso:=h.sq.en
   generalize hx:ZUl s.1 ((m:Nat):Int) (min s.2.1 (s.1.2.1+more))=x at *
   obtain ⟨u,u1,u2,u3,u4⟩:=ZuX s.1 k h.sq (by omega) x.1 ((x.2.1.size:Nat):Int) x.2.2.1 ⟨by omega,by omega⟩ ⟨by omega,by omega⟩
   have f1:f.2.2.1=x.1:=by rw [m4];rfl
   have f2:f.2.2.2.2.2.2.2.2.2.1=x.2.1:=by rw [m4];rfl
   have f3:f.2.2.2.2.2.2.2.2.1=x.2.2.1:=by rw [m4];rfl
   have f4:f.1=8:=by rw [m4];rfl
   simp only [f1,f2,f3,u1,ZAK]
   have hmin:min (x.1+((x.2.1.size:Nat):Int)) (enQ s.1)=e:=by omega
   rw [hmin]
   have hTn:max s.1.2.1 e - s.1.2.1≤more:=by
    rcases e5 with ⟨_,h5⟩ | h5 <;> omega
   have w1:IntKind.wrap .u64 (max s.1.2.1 e - s.1.2.1)=max s.1.2.1 e - s.1.2.1:=ZAh _ (by omega) (by omega)
   rw [w1]
   have hEn:enQ (s.1.1,max s.1.2.1 e,s.1.2.2.1,s.1.2.2.2.1,u,s.1.2.2.2.2.2.1,s.1.2.2.2.2.2.2.1 && !x.2.2.1,s.1.2.2.2.2.2.2.2.1,())=enQ s.1:=rfl
   refine ⟨_,f,max s.1.2.1 e - s.1.2.1,true,rfl,⟨⟨hb,by rw [hEn];exact hen,⟨by simp only;omega,by simp only;omega⟩,h.sq.acked,u2,by rw [hEn];exact h.sq.ain,fun n hn => ?_,Nat.le_succ_of_le h.sq.al,by have:=h.sq.tl;simp only;omega⟩,fun n h1 h2 => ?_,?_,h.small⟩,rfl,rfl,rfl,by simp only;omega,by omega,hTn,fun hT => ?_,fun _=>⟨by rw [m4];exact ZwY hid ⟨by omega,by omega⟩,trivial,m5,f4,fun hT => ?_⟩,fun h=>by cases h⟩
   ·
    rw [hEn]
    exact h.sq.tin n ((u3 n).mp hn).1
   ·
    rw [hEn] at h2
    simp only at h1 ⊢
    exact (u3 n).mpr ⟨h.new n (by omega) h2,by omega⟩
   ·
    rw [hEn]
    have:=h.topen
    simp only
    omega
   ·
    simp only
    rcases e5 with ⟨_,h5⟩ | h5 <;> omega
   ·
    rw [f1,f2,e1]
    rcases e5 with ⟨_,h5⟩ | h5 <;> omega
theorem Zu2 (s:ZAF) (k:Nat) (h:SQT s k) (hk:k≤90000) (data:ByteArray) (room:Int) (hr:room≤1000000) (hd:data.size≤1000000) (he:enQ s+((data.size:Nat):Int)≤4611686018427387904) :
  ∃ q n,ZIN s data room=some (q,n,())∧SQT q (k+1)∧q.1=s.1∧q.2.1=s.2.1∧(q.2.2.1.size:Int)≤max room ((s.2.2.1.size:Nat):Int)∧q.2.2.2.2.2.1=s.2.2.2.2.2.1:=by
 obtain ⟨w1,w2⟩:=Zr2 s k h.sq (by omega) data room (by omega) (by omega) he (by have:=h.small;omega)
 have hsm:=h.small
 by_cases h0:wrN s data room=0
 · exact ⟨s,0,w1 h0,⟨h.sq.mono (by omega),h.new,h.topen,h.small⟩,rfl,rfl,by omega,rfl⟩
 ·
  have hp:0<wrN s data room:=by
   have:0≤wrN s data room:=by unfold wrN;split <;> omega
   omega
  obtain ⟨u,u1,u2,u3,u4⟩:=w2 hp
  have hwn:wrN s data room≤((data.size:Nat):Int)∧wrN s data room≤max room 0 - ((s.2.2.1.size:Nat):Int):=by
   unfold wrN at hp ⊢
   split at hp
   · omega
   ·
    rename_i hx
    simp only [hx]
    simp only [Bool.false_eq_true,if_false]
    omega
  have hsz:(s.2.2.1++data.extract 0 (wrN s data room).toNat).size=s.2.2.1.size+(wrN s data room).toNat:=by
   rw [ByteArray.size_append,ByteArray.size_extract]
   omega
  have hEn:enQ (s.1,s.2.1,s.2.2.1++data.extract 0 (wrN s data room).toNat,s.2.2.2.1,u,s.2.2.2.2.2)=enQ s+wrN s data room:=by
   unfold enQ
   simp only [hsz]
   omega
  refine ⟨_,_,u1,⟨⟨h.sq.base,by rw [hEn];omega,h.sq.top,h.sq.acked,u2,fun n hn => ?_,fun n hn => ?_,Nat.le_succ_of_le h.sq.al,by have:=h.sq.tl;simp only;omega⟩,fun n h1 h2 => ?_,by rw [hEn];have:=h.topen;simp only;omega,by simp only [hsz];omega⟩,rfl,rfl,by simp only [hsz];omega,rfl⟩
  ·
   rw [hEn]
   have:=h.sq.ain n hn
   exact ⟨this.1,by omega⟩
  ·
   rw [hEn]
   have hb:s.1≤enQ s:=by unfold enQ;omega
   rcases (u3 n).mp hn with h | h'
   ·
    have := ‹SQT s k›.sq.tin n h
    exact ⟨this.1,by omega⟩
   · exact ⟨by simp only;omega,h'.2⟩
  ·
   rw [hEn] at h2
   refine (u3 n).mpr ?_
   by_cases hn:n<enQ s
   · exact .inl (h.new n h1 hn)
   · exact .inr ⟨by omega,h2⟩
end Go.Proofs.YtamaklnhjagifaaGreatDoor.V
namespace Go.Proofs.YtamaklnhjagifaaGreatDoor.V
open Go.RowKit Go.Proofs.Tryz
set_option linter.unusedVariables false
set_option maxRecDepth 100000
noncomputable def ZfP:Mach prog Inv ZAq:=ZFE bas [(96,f96)] ⟨Zz8,trivial⟩ [] trivial [] trivial [] trivial
/-! ### domino/dominolaw16.set -/
@[reducible] def ZKB:List Ty:=[(.slice ZAG)]
def Zi0:List Nat:=[96]
abbrev ZY9 (base:Base) (S0:Nat→Prop):=base.n=0∧FinOk (Zdd ZKB) base S0 (ZFg ZKB S0)
abbrev Zls (base:Base) (S0:Nat→Prop) (cs0:List Go.Frame) (p:CPat) (J:ZC9 p→Option (ZFC ZKB)):=ZAb ZfP base S0 cs0 (ZFg ZKB S0) p J
abbrev ZrQ (base:Base) (S0:Nat→Prop) (cs0:List Go.Frame) (X:Cfg→Option (Option (ZFC ZKB))):=ZAH ZfP base S0 cs0 (ZFg ZKB S0) X
@[reducible] noncomputable def ZOI:CPat:=⟨⟨96,[1,1,0,1,0],none,[.rows ZAG false,.any,.any,.all 0,.int .i64],15⟩,[],[.row ZAG],0⟩
@[reducible] noncomputable def ZOJ (k:(List ZAA)→Int→(List ZAA)→Option ((List ZAA)×Unit)):ZC9 ZOI→Option ((List ZAA)×Unit):=fun x=>k x.1.1 x.1.2.2.2.2.1 x.2.2.1
noncomputable def ZZA (k0:(List ZAA)→Int→(List ZAA)→Option ((List ZAA)×Unit)) (l8:(List ZAA)) (i9:Int) (l10:(List ZAA)):Option ((List ZAA)×Unit) :=
 let n11:Int:=(((List.length l8):Nat):Int)
 let b12:Bool:=(decide (i9<n11))
 bif b12 then
  bif (decide (((0:Int)≤i9)∧(i9<(((List.length l8):Nat):Int)))) then
   let x13:ZAA:=(List.getD l8 (Int.toNat i9) (Ty.dflt ZAG))
   let e14:(Int×(Int×Unit)):=(x13.1,(x13.2.1,()))
   bif (decide (((List.length l10)+(List.length (e14::([]:List ZAA))))≤4294967296)) then
    let l15:(List ZAA):=(l10++(e14::([]:List ZAA)))
    let n16:Int:=(Go.IntKind.wrap Go.IntKind.i64 (i9+(1:Int)))
    k0 l8 n16 l15
   else none
  else none
 else
  some (l10,())
noncomputable def ZMb:Nat→(List ZAA)→Int→(List ZAA)→Option ((List ZAA)×Unit)
 | 0=>fun _ _ _=>none
 | m+1=>ZZA (ZMb m)
noncomputable def ZWi (l8:(List ZAA)) (i9:Int) (l10:(List ZAA)):Option ((List ZAA)×Unit):=ZMb (Int.toNat ((((List.length l8):Nat):Int) - i9)+2) l8 i9 l10
theorem ZcH : ∃ f,f = @ZWi:=⟨_,rfl⟩
noncomputable def ZVj:=Classical.choose ZcH
theorem ZcI : @ZVj = @ZWi:=Classical.choose_spec ZcH
theorem Zo7 {base S0 cs0} (hfin:ZY9 base S0) : ∀ m,Zls base S0 cs0 ZOI (ZOJ (ZMb m)) :=
 ZAb.loop' hfin.2 Zi0 100000 ZOJ (fun k0=>cut ZOI (ZOJ k0) (nowhere)) (fun k0 h0=>ZAH.cut (ZAH.nowhere) (Nat.le_of_eq hfin.1) h0) (ZMb) (by intro x;rfl) (by intro m x;kernel_rfl)
theorem Zmw {base S0 cs0} (hfin:ZY9 base S0):Zls base S0 cs0 ZOI (ZOJ (ZVj)):=by
 rw [ZcI];exact fun x r hx=>Zo7 hfin _ x r hx
noncomputable def ZhB:Cfg→Option (Option ((List ZAA)×Unit)):=cut ZOI (ZOJ (ZVj)) (nowhere)
theorem Zo8 {base S0 cs0} (hfin:ZY9 base S0):ZrQ base S0 cs0 (ZhB):=ZAH.cut (ZAH.nowhere) (Nat.le_of_eq hfin.1) (Zmw hfin)
noncomputable def ZZB (a0:(List ZAA)):Option ((List ZAA)×Unit) :=
 ZVj a0 (0:Int) ([]:List ZAA)
theorem Zi1 : ∃ f,f = @ZZB:=⟨_,rfl⟩
noncomputable def ZcJ:=Classical.choose Zi1
theorem Zi2 : @ZcJ = @ZZB:=Classical.choose_spec Zi1
noncomputable def ZcK:Con:=⟨[(.slice ZAG)],ZKB,fun x=>ZZB x.1⟩
noncomputable def ZZC:Con:=⟨[(.slice ZAG)],ZKB,fun x=>ZcJ x.1⟩
theorem Zlt:ZcK.Sound prog Inv ZAq 96 :=
 ZAm (M:=ZfP) ZBo (f:=f96) rfl Zi0 100000 (X:=ZhB) (fun base S0 cs0 hn hf=>have hfin:ZY9 base S0:=⟨hn,hf⟩;Zo8 hfin) (by intro x;kernel_rfl)
theorem Zmx:ZZC.Sound prog Inv ZAq 96:=by
 have e:ZZC=ZcK:=by unfold ZZC ZcK;rw [Zi2]
 rw [e];exact Zlt
noncomputable def ZZD:Mach prog Inv ZAq:=ZFE bas [(28,f28)] ⟨Zzx,trivial⟩ [(96,ZZC)] ⟨⟨Zmx,ZAa.callable Zz8⟩,trivial⟩ [] trivial [] trivial
/-! ### domino/dominolaw16.whole -/
@[reducible] def ZGR:List Ty:=[ZAJ]
def ZeY:List Nat:=[28]
abbrev ZSq (base:Base) (S0:Nat→Prop):=base.n=0∧FinOk (Zdd ZGR) base S0 (ZFg ZGR S0)
abbrev ZhC (base:Base) (S0:Nat→Prop) (cs0:List Go.Frame) (p:CPat) (J:ZC9 p→Option (ZFC ZGR)):=ZAb ZZD base S0 cs0 (ZFg ZGR S0) p J
abbrev Zo9 (base:Base) (S0:Nat→Prop) (cs0:List Go.Frame) (X:Cfg→Option (Option (ZFC ZGR))):=ZAH ZZD base S0 cs0 (ZFg ZGR S0) X
@[reducible] noncomputable def ZKC:CPat:=⟨⟨28,[1,1,1,0,1,0],none,[.any,.ptr 0 0,.ptr 1 0,.ptr 2 0,.ptr 3 0,.int .i64],85⟩,[],[.dat 35 ZAJ,.cells 66 [.intC .u64 (0),.intC .u64 (0),.str,.nilSlice,.nilSlice,.boolC false,.boolC false,.boolC false,.intC .u64 (0),.intC .u64 (0),.intC .u64 (0),.boolC false,.boolC false,.boolC false,.intC .u64 (0),.nilSlice,.intC .u64 (0),.boolC false,.intC .u64 (0),.intC .u64 (0),.boolC false,.boolC false,.boolC false,.intC .u64 (0),.boolC false],.dat 61 ZAT,.cells 64 [.int .u64,.all 4,.int .u64,.bool],.row ZAM],0⟩
@[reducible] noncomputable def ZKD (k:Int→ZAB→ByteArray→ZAF→Int→Int→Bool→(List ZAE)→Option (ZAB×Unit)):ZC9 ZKC→Option (ZAB×Unit):=fun x=>k x.1.2.2.2.2.2.1 x.2.2.1 x.2.2.2.1.2.2.1 x.2.2.2.2.1 x.2.2.2.2.2.1.1 x.2.2.2.2.2.1.2.2.1 x.2.2.2.2.2.1.2.2.2.1 x.2.2.2.2.2.2.1
noncomputable def ZUP (k0:Int→ZAB→ByteArray→ZAF→Int→Int→Bool→(List ZAE)→Option (ZAB×Unit)) (i15:Int) (d16:ZAB) (s17:ByteArray) (d18:ZAF) (i19:Int) (i20:Int) (b21:Bool) (l22:(List ZAE)):Option (ZAB×Unit) :=
 let n23:Int:=(((List.length d16.2.2.2.2.2.2.2.1.2.1):Nat):Int)
 let b24:Bool:=(decide (i15<n23))
 bif b24 then
  bif (decide (((0:Int)≤i15)∧(i15<(((List.length d16.2.2.2.2.2.2.2.1.2.1):Nat):Int)))) then
   let x25:ZAE:=(List.getD d16.2.2.2.2.2.2.2.1.2.1 (Int.toNat i15) (Ty.dflt ZAM))
   let e26:(Int×(ByteArray×Unit)):=(x25.1,(x25.2.1,()))
   bif (decide (((List.length l22)+(List.length (e26::([]:List ZAE))))≤4294967296)) then
    let l27:(List ZAE):=(l22++(e26::([]:List ZAE)))
    let n28:Int:=(Go.IntKind.wrap Go.IntKind.i64 (i15+(1:Int)))
    k0 n28 d16 s17 d18 i19 i20 b21 l27
   else none
  else none
 else
  some ((d18,(d16.2.1,(d16.2.2.1,(d16.2.2.2.1,(d16.2.2.2.2.1,(d16.2.2.2.2.2.1,(d16.2.2.2.2.2.2.1,((i19,(l22,(i20,(b21,())))),d16.2.2.2.2.2.2.2.2)))))))),())
noncomputable def ZIb:Nat→Int→ZAB→ByteArray→ZAF→Int→Int→Bool→(List ZAE)→Option (ZAB×Unit)
 | 0=>fun _ _ _ _ _ _ _ _=>none
 | m+1=>ZUP (ZIb m)
noncomputable def ZRk (i15:Int) (d16:ZAB) (s17:ByteArray) (d18:ZAF) (i19:Int) (i20:Int) (b21:Bool) (l22:(List ZAE)):Option (ZAB×Unit):=ZIb (Int.toNat ((((List.length d16.2.2.2.2.2.2.2.1.2.1):Nat):Int) - i15)+2) i15 d16 s17 d18 i19 i20 b21 l22
theorem ZX3 : ∃ f,f = @ZRk:=⟨_,rfl⟩
noncomputable def ZP6:=Classical.choose ZX3
theorem ZX4 : @ZP6 = @ZRk:=Classical.choose_spec ZX3
theorem Zlu {base S0 cs0} (hfin:ZSq base S0) : ∀ m,ZhC base S0 cs0 ZKC (ZKD (ZIb m)) :=
 ZAb.loop' hfin.2 ZeY 100000 ZKD (fun k0=>cut ZKC (ZKD k0) (nowhere)) (fun k0 h0=>ZAH.cut (ZAH.nowhere) (Nat.le_of_eq hfin.1) h0) (ZIb) (by intro x;rfl) (by intro m x;kernel_rfl)
theorem Zjv {base S0 cs0} (hfin:ZSq base S0):ZhC base S0 cs0 ZKC (ZKD (ZP6)):=by
 rw [ZX4];exact fun x r hx=>Zlu hfin _ x r hx
noncomputable def ZcL:Cfg→Option (Option (ZAB×Unit)):=cut ZKC (ZKD (ZP6)) (nowhere)
theorem Zlv {base S0 cs0} (hfin:ZSq base S0):Zo9 base S0 cs0 (ZcL):=ZAH.cut (ZAH.nowhere) (Nat.le_of_eq hfin.1) (Zjv hfin)
noncomputable def ZSr (a0:ZAB):Option (ZAB×Unit) :=
 let s1:ByteArray:=(ByteArray.mk (List.toArray ([]:List UInt8)))
 ZAX (ZcJ a0.1.2.2.2.1) fun y2=>
 ZAX (ZcJ a0.1.2.2.2.2.1) fun y3=>
 let s4:ByteArray:=(ByteArray.mk (List.toArray ([]:List UInt8)))
 ZP6 (0:Int) a0 s1 (a0.1.1,(a0.1.2.1,(a0.1.2.2.1,(y2.1,(y3.1,a0.1.2.2.2.2.2))))) a0.2.2.2.2.2.2.2.1.1 a0.2.2.2.2.2.2.2.1.2.2.1 a0.2.2.2.2.2.2.2.1.2.2.2.1 ([]:List ZAE)
theorem ZeZ : ∃ f,f = @ZSr:=⟨_,rfl⟩
noncomputable def ZUQ:=Classical.choose ZeZ
theorem Zea : @ZUQ = @ZSr:=Classical.choose_spec ZeZ
noncomputable def ZWj:Con:=⟨[ZAJ],ZGR,fun x=>ZSr x.1⟩
noncomputable def ZSs:Con:=⟨[ZAJ],ZGR,fun x=>ZUQ x.1⟩
theorem ZiQ:ZWj.Sound prog Inv ZAq 28 :=
 ZAm (M:=ZZD) ZBo (f:=f28) rfl ZeY 100000 (X:=ZcL) (fun base S0 cs0 hn hf=>have hfin:ZSq base S0:=⟨hn,hf⟩;Zlv hfin) (by intro x;kernel_rfl)
theorem Zjw:ZSs.Sound prog Inv ZAq 28:=by
 have e:ZSs=ZWj:=by unfold ZSs ZWj;rw [Zea]
 rw [e];exact ZiQ
noncomputable def ZcM:Mach prog Inv ZAq:=ZFE bas [(124,f124)] ⟨Zx9,trivial⟩ [] trivial [] trivial [] trivial
/-! ### domino/dominoref03.Same -/
@[reducible] def ZH8:List Ty:=[.bool]
def ZhD:List Nat:=[124]
abbrev ZVk (base:Base) (S0:Nat→Prop):=base.n=0∧FinOk (Zdd ZH8) base S0 (ZFg ZH8 S0)
abbrev Zi3 (base:Base) (S0:Nat→Prop) (cs0:List Go.Frame) (p:CPat) (J:ZC9 p→Option (ZFC ZH8)):=ZAb ZcM base S0 cs0 (ZFg ZH8 S0) p J
abbrev ZqT (base:Base) (S0:Nat→Prop) (cs0:List Go.Frame) (X:Cfg→Option (Option (ZFC ZH8))):=ZAH ZcM base S0 cs0 (ZFg ZH8 S0) X
@[reducible] noncomputable def ZL2:CPat:=⟨⟨124,[1,1,0,1,0],none,[.rows ZAG false,.rows ZAG false,.any,.any,.any,.int .i64],20⟩,[],[],0⟩
@[reducible] noncomputable def ZL3 (k:(List ZAA)→(List ZAA)→Int→Option (Bool×Unit)):ZC9 ZL2→Option (Bool×Unit):=fun x=>k x.1.1 x.1.2.1 x.1.2.2.2.2.2.1
noncomputable def ZWk (k0:(List ZAA)→(List ZAA)→Int→Option (Bool×Unit)) (l12:(List ZAA)) (l13:(List ZAA)) (i14:Int):Option (Bool×Unit) :=
 let n15:Int:=(((List.length l12):Nat):Int)
 let b16:Bool:=(decide (i14<n15))
 bif b16 then
  bif (decide (((0:Int)≤i14)∧(i14<(((List.length l12):Nat):Int)))) then
   let x17:ZAA:=(List.getD l12 (Int.toNat i14) (Ty.dflt ZAG))
   bif (decide (((0:Int)≤i14)∧(i14<(((List.length l13):Nat):Int)))) then
    let x18:ZAA:=(List.getD l13 (Int.toNat i14) (Ty.dflt ZAG))
    let b19:Bool:=(!((x17.1==x18.1)&&((x17.2.1==x18.2.1)&&true)))
    bif b19 then
     some (false,())
    else
     let n20:Int:=(Go.IntKind.wrap Go.IntKind.i64 (i14+(1:Int)))
     k0 l12 l13 n20
   else none
  else none
 else
  some (true,())
noncomputable def ZKE:Nat→(List ZAA)→(List ZAA)→Int→Option (Bool×Unit)
 | 0=>fun _ _ _=>none
 | m+1=>ZWk (ZKE m)
noncomputable def ZUR (l12:(List ZAA)) (l13:(List ZAA)) (i14:Int):Option (Bool×Unit):=ZKE (Int.toNat ((((List.length l12):Nat):Int) - i14)+2) l12 l13 i14
theorem ZaB : ∃ f,f = @ZUR:=⟨_,rfl⟩
noncomputable def ZSt:=Classical.choose ZaB
theorem ZaC : @ZSt = @ZUR:=Classical.choose_spec ZaB
theorem Zmy {base S0 cs0} (hfin:ZVk base S0) : ∀ m,Zi3 base S0 cs0 ZL2 (ZL3 (ZKE m)) :=
 ZAb.loop' hfin.2 ZhD 100000 ZL3 (fun k0=>cut ZL2 (ZL3 k0) (nowhere)) (fun k0 h0=>ZAH.cut (ZAH.nowhere) (Nat.le_of_eq hfin.1) h0) (ZKE) (by intro x;rfl) (by intro m x;kernel_rfl)
theorem Zlw {base S0 cs0} (hfin:ZVk base S0):Zi3 base S0 cs0 ZL2 (ZL3 (ZSt)):=by
 rw [ZaC];exact fun x r hx=>Zmy hfin _ x r hx
noncomputable def Zeb:Cfg→Option (Option (Bool×Unit)):=cut ZL2 (ZL3 (ZSt)) (nowhere)
theorem Zmz {base S0 cs0} (hfin:ZVk base S0):ZqT base S0 cs0 (Zeb):=ZAH.cut (ZAH.nowhere) (Nat.le_of_eq hfin.1) (Zlw hfin)
noncomputable def ZVl (a0:(List ZAA)) (a1:(List ZAA)):Option (Bool×Unit) :=
 let n2:Int:=(((List.length a0):Nat):Int)
 let n3:Int:=(((List.length a1):Nat):Int)
 let b4:Bool:=(n2 != n3)
 bif b4 then
  some (false,())
 else
  ZSt a0 a1 (0:Int)
theorem ZhE : ∃ f,f = @ZVl:=⟨_,rfl⟩
noncomputable def ZX5:=Classical.choose ZhE
theorem ZhF : @ZX5 = @ZVl:=Classical.choose_spec ZhE
noncomputable def ZZE:Con:=⟨[(.slice ZAG),(.slice ZAG)],ZH8,fun x=>ZVl x.1 x.2.1⟩
noncomputable def ZVm:Con:=⟨[(.slice ZAG),(.slice ZAG)],ZH8,fun x=>ZX5 x.1 x.2.1⟩
theorem Zjx:ZZE.Sound prog Inv ZAq 124 :=
 ZAm (M:=ZcM) ZBo (f:=f124) rfl ZhD 100000 (X:=Zeb) (fun base S0 cs0 hn hf=>have hfin:ZVk base S0:=⟨hn,hf⟩;Zmz hfin) (by intro x;kernel_rfl)
theorem Zlx:ZVm.Sound prog Inv ZAq 124:=by
 have e:ZVm=ZZE:=by unfold ZVm ZZE;rw [ZhF]
 rw [e];exact Zjx
noncomputable def ZqU:Mach prog Inv ZAq:=ZFE bas [(94,f94)] ⟨Zz6,trivial⟩ [(124,ZVm)] ⟨⟨Zlx,ZAa.callable Zx9⟩,trivial⟩ [] trivial [] trivial
/-! ### domino/dominoref15.Same -/
@[reducible] def Zi4:List Ty:=[.bool]
def ZpA:List Nat:=[94]
noncomputable def ZVn (a0:ZAF) (a1:ZAF):Option (Bool×Unit) :=
 let b2:Bool:=(a0.1==a1.1)
 bif b2 then
  let b3:Bool:=(a0.2.1==a1.2.1)
  bif b3 then
   let b4:Bool:=((ByteArray.toList a0.2.2.1)==(ByteArray.toList a1.2.2.1))
   bif b4 then
    ZAX (ZX5 a0.2.2.2.1 a1.2.2.2.1) fun y5=>
    bif y5.1 then
     ZAX (ZX5 a0.2.2.2.2.1 a1.2.2.2.2.1) fun y6=>
     bif y6.1 then
      let b7:Bool:=(a0.2.2.2.2.2.1==a1.2.2.2.2.2.1)
      bif b7 then
       let b8:Bool:=(a0.2.2.2.2.2.2.1==a1.2.2.2.2.2.2.1)
       bif b8 then
        let b9:Bool:=(a0.2.2.2.2.2.2.2.1==a1.2.2.2.2.2.2.2.1)
        some (b9,())
       else
        some (false,())
      else
       some (false,())
     else
      some (false,())
    else
     some (false,())
   else
    some (false,())
  else
   some (false,())
 else
  some (false,())
theorem ZhG : ∃ f,f = @ZVn:=⟨_,rfl⟩
noncomputable def ZdA:=Classical.choose ZhG
theorem ZhH : @ZdA = @ZVn:=Classical.choose_spec ZhG
noncomputable def ZZF:Con:=⟨[ZAT,ZAT],Zi4,fun x=>ZVn x.1 x.2.1⟩
noncomputable def ZVo:Con:=⟨[ZAT,ZAT],Zi4,fun x=>ZdA x.1 x.2.1⟩
theorem Zjy:ZZF.Sound prog Inv ZAq 94 :=
 ZAm (M:=ZqU) ZBo (f:=f94) rfl ZpA 100000 (X:=nowhere) (fun base S0 cs0 hn hf=>ZAH.nowhere) (by intro x;kernel_rfl)
theorem Zly:ZVo.Sound prog Inv ZAq 94:=by
 have e:ZVo=ZZF:=by unfold ZVo ZZF;rw [ZhH]
 rw [e];exact Zjy
noncomputable def ZcN:Mach prog Inv ZAq:=ZFE bas [(95,f95)] ⟨Zz7,trivial⟩ [] trivial [] trivial [] trivial
/-! ### domino/dominoref14.Same -/
@[reducible] def ZH9:List Ty:=[.bool]
def ZhI:List Nat:=[95]
abbrev ZVp (base:Base) (S0:Nat→Prop):=base.n=0∧FinOk (Zdd ZH9) base S0 (ZFg ZH9 S0)
abbrev Zi5 (base:Base) (S0:Nat→Prop) (cs0:List Go.Frame) (p:CPat) (J:ZC9 p→Option (ZFC ZH9)):=ZAb ZcN base S0 cs0 (ZFg ZH9 S0) p J
abbrev ZqV (base:Base) (S0:Nat→Prop) (cs0:List Go.Frame) (X:Cfg→Option (Option (ZFC ZH9))):=ZAH ZcN base S0 cs0 (ZFg ZH9 S0) X
@[reducible] noncomputable def ZL4:CPat:=⟨⟨95,[1,1,0,1,0],none,[.any,.any,.ptr 0 0,.ptr 1 0,.any,.int .i64],46⟩,[],[.dat 64 ZAP,.dat 64 ZAP],0⟩
@[reducible] noncomputable def ZL5 (k:Int→ZAD→ZAD→Option (Bool×Unit)):ZC9 ZL4→Option (Bool×Unit):=fun x=>k x.1.2.2.2.2.2.1 x.2.2.1 x.2.2.2.1
noncomputable def ZWl (k0:Int→ZAD→ZAD→Option (Bool×Unit)) (i15:Int) (d16:ZAD) (d17:ZAD):Option (Bool×Unit) :=
 let n18:Int:=(((List.length d16.2.1):Nat):Int)
 let b19:Bool:=(decide (i15<n18))
 bif b19 then
  bif (decide (((0:Int)≤i15)∧(i15<(((List.length d16.2.1):Nat):Int)))) then
   let x20:ZAE:=(List.getD d16.2.1 (Int.toNat i15) (Ty.dflt ZAM))
   bif (decide (((0:Int)≤i15)∧(i15<(((List.length d17.2.1):Nat):Int)))) then
    let x21:ZAE:=(List.getD d17.2.1 (Int.toNat i15) (Ty.dflt ZAM))
    let b22:Bool:=(!((x20.1==x21.1)&&((x20.2.1==x21.2.1)&&true)))
    bif b22 then
     some (false,())
    else
     let n23:Int:=(Go.IntKind.wrap Go.IntKind.i64 (i15+(1:Int)))
     k0 n23 d16 d17
   else none
  else none
 else
  some (true,())
noncomputable def ZKF:Nat→Int→ZAD→ZAD→Option (Bool×Unit)
 | 0=>fun _ _ _=>none
 | m+1=>ZWl (ZKF m)
noncomputable def ZUS (i15:Int) (d16:ZAD) (d17:ZAD):Option (Bool×Unit):=ZKF (Int.toNat ((((List.length d16.2.1):Nat):Int) - i15)+2) i15 d16 d17
theorem ZaD : ∃ f,f = @ZUS:=⟨_,rfl⟩
noncomputable def ZSu:=Classical.choose ZaD
theorem ZaE : @ZSu = @ZUS:=Classical.choose_spec ZaD
theorem Zm0 {base S0 cs0} (hfin:ZVp base S0) : ∀ m,Zi5 base S0 cs0 ZL4 (ZL5 (ZKF m)) :=
 ZAb.loop' hfin.2 ZhI 100000 ZL5 (fun k0=>cut ZL4 (ZL5 k0) (nowhere)) (fun k0 h0=>ZAH.cut (ZAH.nowhere) (Nat.le_of_eq hfin.1) h0) (ZKF) (by intro x;rfl) (by intro m x;kernel_rfl)
theorem Zlz {base S0 cs0} (hfin:ZVp base S0):Zi5 base S0 cs0 ZL4 (ZL5 (ZSu)):=by
 rw [ZaE];exact fun x r hx=>Zm0 hfin _ x r hx
noncomputable def Zec:Cfg→Option (Option (Bool×Unit)):=cut ZL4 (ZL5 (ZSu)) (nowhere)
theorem Zm1 {base S0 cs0} (hfin:ZVp base S0):ZqV base S0 cs0 (Zec):=ZAH.cut (ZAH.nowhere) (Nat.le_of_eq hfin.1) (Zlz hfin)
noncomputable def ZVq (a0:ZAD) (a1:ZAD):Option (Bool×Unit) :=
 let b2:Bool:=(a0.1 != a1.1)
 bif b2 then
  some (false,())
 else
  let b3:Bool:=(a0.2.2.1 != a1.2.2.1)
  bif b3 then
   some (false,())
  else
   let b4:Bool:=(!(a0.2.2.2.1==a1.2.2.2.1))
   bif b4 then
    some (false,())
   else
    let n5:Int:=(((List.length a0.2.1):Nat):Int)
    let n6:Int:=(((List.length a1.2.1):Nat):Int)
    let b7:Bool:=(n5 != n6)
    bif b7 then
     some (false,())
    else
     ZSu (0:Int) a0 a1
theorem ZhJ : ∃ f,f = @ZVq:=⟨_,rfl⟩
noncomputable def ZdB:=Classical.choose ZhJ
theorem ZhK : @ZdB = @ZVq:=Classical.choose_spec ZhJ
noncomputable def ZZG:Con:=⟨[ZAP,ZAP],ZH9,fun x=>ZVq x.1 x.2.1⟩
noncomputable def ZVr:Con:=⟨[ZAP,ZAP],ZH9,fun x=>ZdB x.1 x.2.1⟩
theorem Zjz:ZZG.Sound prog Inv ZAq 95 :=
 ZAm (M:=ZcN) ZBo (f:=f95) rfl ZhI 100000 (X:=Zec) (fun base S0 cs0 hn hf=>have hfin:ZVp base S0:=⟨hn,hf⟩;Zm1 hfin) (by intro x;kernel_rfl)
theorem Zl0:ZVr.Sound prog Inv ZAq 95:=by
 have e:ZVr=ZZG:=by unfold ZVr ZZG;rw [ZhK]
 rw [e];exact Zjz
noncomputable def ZqW:Mach prog Inv ZAq:=ZFE bas [(27,f27)] ⟨Zzw,trivial⟩ [(94,ZVo),(95,ZVr)] ⟨⟨Zly,ZAa.callable Zz6⟩,⟨Zl0,ZAa.callable Zz7⟩,trivial⟩ [] trivial [] trivial
/-! ### domino/dominoref16.Same -/
@[reducible] def Zi6:List Ty:=[.bool]
def ZpB:List Nat:=[27]
noncomputable def ZVs (a0:ZAB) (a1:ZAB):Option (Bool×Unit) :=
 ZAX (ZdA a0.1 a1.1) fun y2=>
 bif y2.1 then
  ZAX (ZdB a0.2.2.2.2.2.2.2.1 a1.2.2.2.2.2.2.2.1) fun y3=>
  bif y3.1 then
   let b4:Bool:=(a0.2.1==a1.2.1)
   bif b4 then
    let b5:Bool:=(a0.2.2.1==a1.2.2.1)
    bif b5 then
     let b6:Bool:=(a0.2.2.2.1==a1.2.2.2.1)
     bif b6 then
      let b7:Bool:=(a0.2.2.2.2.1==a1.2.2.2.2.1)
      bif b7 then
       let b8:Bool:=(a0.2.2.2.2.2.1==a1.2.2.2.2.2.1)
       bif b8 then
        let b9:Bool:=(a0.2.2.2.2.2.2.1==a1.2.2.2.2.2.2.1)
        bif b9 then
         let b10:Bool:=(a0.2.2.2.2.2.2.2.2.1==a1.2.2.2.2.2.2.2.2.1)
         bif b10 then
          let b11:Bool:=(a0.2.2.2.2.2.2.2.2.2.1==a1.2.2.2.2.2.2.2.2.2.1)
          bif b11 then
           let b12:Bool:=(a0.2.2.2.2.2.2.2.2.2.2.1==a1.2.2.2.2.2.2.2.2.2.2.1)
           bif b12 then
            let b13:Bool:=(a0.2.2.2.2.2.2.2.2.2.2.2.1==a1.2.2.2.2.2.2.2.2.2.2.2.1)
            bif b13 then
             let b14:Bool:=(a0.2.2.2.2.2.2.2.2.2.2.2.2.1==a1.2.2.2.2.2.2.2.2.2.2.2.2.1)
             bif b14 then
              let b15:Bool:=(a0.2.2.2.2.2.2.2.2.2.2.2.2.2.1==a1.2.2.2.2.2.2.2.2.2.2.2.2.2.1)
              bif b15 then
               let b16:Bool:=(a0.2.2.2.2.2.2.2.2.2.2.2.2.2.2.1==a1.2.2.2.2.2.2.2.2.2.2.2.2.2.2.1)
               some (b16,())
              else
               some (false,())
             else
              some (false,())
            else
             some (false,())
           else
            some (false,())
          else
           some (false,())
         else
          some (false,())
        else
         some (false,())
       else
        some (false,())
      else
       some (false,())
     else
      some (false,())
    else
     some (false,())
   else
    some (false,())
  else
   some (false,())
 else
  some (false,())
theorem ZhL : ∃ f,f = @ZVs:=⟨_,rfl⟩
noncomputable def ZdC:=Classical.choose ZhL
theorem ZhM : @ZdC = @ZVs:=Classical.choose_spec ZhL
noncomputable def ZZH:Con:=⟨[ZAJ,ZAJ],Zi6,fun x=>ZVs x.1 x.2.1⟩
noncomputable def ZVt:Con:=⟨[ZAJ,ZAJ],Zi6,fun x=>ZdC x.1 x.2.1⟩
theorem Zj0:ZZH.Sound prog Inv ZAq 27 :=
 ZAm (M:=ZqW) ZBo (f:=f27) rfl ZpB 100000 (X:=nowhere) (fun base S0 cs0 hn hf=>ZAH.nowhere) (by intro x;kernel_rfl)
theorem Zl1:ZVt.Sound prog Inv ZAq 27:=by
 have e:ZVt=ZZH:=by unfold ZVt ZZH;rw [ZhM]
 rw [e];exact Zj0
end Go.Proofs.YtamaklnhjagifaaGreatDoor.V
namespace Go.Proofs.YtamaklnhjagifaaGreatDoor.V
open Go.RowKit
set_option linter.unusedVariables false
theorem Zsu : ∀ (suf pre:List ZAA) (m:Nat),suf.length<m→(pre++suf).length≤1000000 →
  ZMb m (pre++suf) ((pre.length:Nat):Int) pre=some (pre++suf,()):=by
 intro suf
 induction suf with
 | nil=>
  intro pre m hm hl
  obtain ⟨m,rfl⟩ : ∃ k,m=k+1:=⟨m - 1,by omega⟩
  rw [List.append_nil]
  simp only [ZMb,ZZA,Int.lt_irrefl,decide_false,cond_false]
 | cons x suf ih=>
  intro pre m hm hl
  obtain ⟨m,rfl⟩ : ∃ k,m=k+1:=⟨m - 1,by omega⟩
  have c:pre.length+[((x.1,(x.2.1,())):ZAA)].length≤4294967296:=by simp at hl ⊢;omega
  have ex:((x.1,(x.2.1,())):ZAA)=x:=rfl
  simp only [ZMb,ZZA,ZLV,nn,and_true,decide_true,cond_true,ZDD,ZDC,c]
  rw [ZJE pre x x suf (by omega),ex]
  have:=ih (pre++[x]) m (by simp at hm;omega) (by simpa using hl)
  simpa using this
theorem Zr9 (l:List ZAA) (hl:l.length≤1000000):ZcJ l=some (l,()):=by
 rw [Zi2,ZZB,ZcI,ZWi]
 exact Zsu l [] _ (by omega) (by simpa using hl)
theorem ZqX (s:ZAB) (e:ByteArray) (q:ZAF) (i j:Int) (b:Bool) (hl:s.2.2.2.2.2.2.2.1.2.1.length≤1000000) : ∀ (suf pre:List ZAE) (m:Nat),suf.length<m→s.2.2.2.2.2.2.2.1.2.1=pre++suf →
  ZIb m ((pre.length:Nat):Int) s e q i j b pre=some ((q,s.2.1,s.2.2.1,s.2.2.2.1,s.2.2.2.2.1,s.2.2.2.2.2.1,s.2.2.2.2.2.2.1,(i,pre++suf,j,b,()),s.2.2.2.2.2.2.2.2),()):=by
 intro suf
 induction suf with
 | nil=>
  intro pre m hm h
  obtain ⟨m,rfl⟩ : ∃ k,m=k+1:=⟨m - 1,by omega⟩
  rw [List.append_nil] at h
  simp only [ZIb,ZUP,h,Int.lt_irrefl,decide_false,cond_false,List.append_nil]
 | cons x suf ih=>
  intro pre m hm h
  obtain ⟨m,rfl⟩ : ∃ k,m=k+1:=⟨m - 1,by omega⟩
  have hl':(pre++x::suf).length≤1000000:=by rw [← h];exact hl
  have c:pre.length+[((x.1,(x.2.1,())):ZAE)].length≤4294967296:=by simp at hl' ⊢;omega
  have ex:((x.1,(x.2.1,())):ZAE)=x:=rfl
  simp only [ZIb,ZUP,h,ZLV,nn,and_true,decide_true,cond_true,ZDD,ZDC,c]
  rw [ZJE pre x x suf (by omega),ex,ih (pre++[x]) m (by simp at hm;omega) (by rw [h];simp)]
  simp
theorem Zsv (s:ZAB) (h1:s.1.2.2.2.1.length≤1000000) (h2:s.1.2.2.2.2.1.length≤1000000) (h3:s.2.2.2.2.2.2.2.1.2.1.length≤1000000):ZUQ s=some (s,()):=by
 rw [Zea,ZSr,Zr9 _ h1,Zr9 _ h2]
 simp only [ZAK]
 rw [ZX4,ZRk]
 have:=ZqX s (ByteArray.mk (List.toArray ([]:List UInt8))) s.1 s.2.2.2.2.2.2.2.1.1 s.2.2.2.2.2.2.2.1.2.2.1 s.2.2.2.2.2.2.2.1.2.2.2.1 h3 s.2.2.2.2.2.2.2.1.2.1 [] (Int.toNat (((s.2.2.2.2.2.2.2.1.2.1.length:Nat):Int) - 0)+2) (by omega) rfl
 exact this
theorem Zsw (l:List ZAA) (hl:l.length≤1000000) : ∀ (suf pre:List ZAA) (m:Nat),suf.length<m→l=pre++suf→ZKE m l l ((pre.length:Nat):Int)=some (true,()):=by
 intro suf
 induction suf with
 | nil=>
  intro pre m hm h
  obtain ⟨m,rfl⟩ : ∃ k,m=k+1:=⟨m - 1,by omega⟩
  rw [List.append_nil] at h
  simp only [ZKE,ZWk,h,Int.lt_irrefl,decide_false,cond_false]
 | cons x suf ih=>
  intro pre m hm h
  obtain ⟨m,rfl⟩ : ∃ k,m=k+1:=⟨m - 1,by omega⟩
  have hl':(pre++x::suf).length≤1000000:=by rw [← h];exact hl
  have:=ih (pre++[x]) m (by simp at hm;omega) (by rw [h];simp)
  rw [h] at this ⊢
  simp only [ZKE,ZWk,ZLV,nn,and_true,decide_true,cond_true,ZDD,ZDC,beq_self_eq_true,Bool.and_self,Bool.not_true,cond_false]
  rw [ZJE pre x x suf (by omega)]
  exact this
theorem ZsA (l:List ZAA) (hl:l.length≤1000000):ZX5 l l=some (true,()):=by
 rw [ZhF,ZVl]
 simp only [bne_self_eq_false,cond_false]
 rw [ZaC,ZUR]
 exact Zsw l hl l [] _ (by omega) rfl
theorem bytes_beq (s:ByteArray):(s==s)=true:=by
 rcases s with ⟨d⟩
 show (d==d)=true
 exact beq_self_eq_true d
theorem ZrR (s:ZAD) (hl:s.2.1.length≤1000000) : ∀ (suf pre:List ZAE) (m:Nat),suf.length<m→s.2.1=pre++suf→ZKF m ((pre.length:Nat):Int) s s=some (true,()):=by
 intro suf
 induction suf with
 | nil=>
  intro pre m hm h
  obtain ⟨m,rfl⟩ : ∃ k,m=k+1:=⟨m - 1,by omega⟩
  rw [List.append_nil] at h
  simp only [ZKF,ZWl,h,Int.lt_irrefl,decide_false,cond_false]
 | cons x suf ih=>
  intro pre m hm h
  obtain ⟨m,rfl⟩ : ∃ k,m=k+1:=⟨m - 1,by omega⟩
  have hl':(pre++x::suf).length≤1000000:=by rw [← h];exact hl
  have:=ih (pre++[x]) m (by simp at hm;omega) (by rw [h];simp)
  simp only [ZKF,ZWl,h,ZLV,nn,and_true,decide_true,cond_true,ZDD,ZDC,beq_self_eq_true,bytes_beq,Bool.and_self,Bool.not_true,cond_false]
  rw [ZJE pre x x suf (by omega)]
  exact this
theorem Zu3 (s:ZAD) (hl:s.2.1.length≤1000000):ZdB s s=some (true,()):=by
 rw [ZhK,ZVq]
 simp only [bne_self_eq_false,cond_false,beq_self_eq_true,Bool.not_true]
 rw [ZaE,ZUS]
 exact ZrR s hl s.2.1 [] _ (by omega) rfl
theorem Zu4 (s:ZAF) (h1:s.2.2.2.1.length≤1000000) (h2:s.2.2.2.2.1.length≤1000000):ZdA s s=some (true,()):=by
 rw [ZhH,ZVn]
 simp only [beq_self_eq_true,cond_true,ZsA _ h1,ZsA _ h2,ZAK]
theorem Zu5 (s:ZAB) (h1:s.1.2.2.2.1.length≤1000000) (h2:s.1.2.2.2.2.1.length≤1000000) (h3:s.2.2.2.2.2.2.2.1.2.1.length≤1000000):ZdC s s=some (true,()):=by
 rw [ZhM,ZVs]
 simp only [Zu4 _ h1 h2,Zu3 _ h3,ZAK,cond_true,beq_self_eq_true]
end Go.Proofs.YtamaklnhjagifaaGreatDoor.V
namespace Go.Proofs.YtamaklnhjagifaaGreatDoor.V
open Go.RowKit Go.Proofs.Tryz
set_option linter.unusedVariables false
set_option maxRecDepth 100000
noncomputable def Zm2:Mach prog Inv ZAq:=ZFE bas [(21,f21)] ⟨Zzu,trivial⟩ [] trivial [] trivial [] trivial
/-! ### domino/stream.Grant -/
@[reducible] def Zed:List Ty:=[ZAJ]
def Zl2:List Nat:=[21]
noncomputable def ZP7 (a0:ZAB) (a1:Int):Option (ZAB×Unit) :=
 let s2:ByteArray:=(ByteArray.mk (List.toArray ([]:List UInt8)))
 let n3:Int:=(if (a1>a0.2.1) then a1 else a0.2.1)
 some ((a0.1,(n3,a0.2.2)),())
theorem ZcO : ∃ f,f = @ZP7:=⟨_,rfl⟩
noncomputable def ZVu:=Classical.choose ZcO
theorem ZcP : @ZVu = @ZP7:=Classical.choose_spec ZcO
noncomputable def ZUT:Con:=⟨[ZAJ,(.int .u64)],Zed,fun x=>ZP7 x.1 x.2.1⟩
noncomputable def ZP8:Con:=⟨[ZAJ,(.int .u64)],Zed,fun x=>ZVu x.1 x.2.1⟩
theorem ZhN:ZUT.Sound prog Inv ZAq 21 :=
 ZAm (M:=Zm2) ZBo (f:=f21) rfl Zl2 100000 (X:=nowhere) (fun base S0 cs0 hn hf=>ZAH.nowhere) (by intro x;kernel_rfl)
theorem ZiR:ZP8.Sound prog Inv ZAq 21:=by
 have e:ZP8=ZUT:=by unfold ZP8 ZUT;rw [ZcP]
 rw [e];exact ZhN
noncomputable def ZqY:Mach prog Inv ZAq:=ZFE bas [(83,f83)] ⟨Zz2,trivial⟩ [] trivial [] trivial [] trivial
/-! ### domino/sendq.Done -/
@[reducible] def Zi7:List Ty:=[.bool]
def ZpC:List Nat:=[83]
noncomputable def ZQu (a0:ZAF):Option (Bool×Unit) :=
 bif a0.2.2.2.2.2.1 then
  bif a0.2.2.2.2.2.2.2.1 then
   let b1:Bool:=((ByteArray.toList a0.2.2.1)==(ByteArray.toList (ByteArray.mk (List.toArray ([]:List UInt8)))))
   some (b1,())
  else
   some (false,())
 else
  some (false,())
theorem ZhO : ∃ f,f = @ZQu:=⟨_,rfl⟩
noncomputable def ZX6:=Classical.choose ZhO
theorem ZZI : @ZX6 = @ZQu:=Classical.choose_spec ZhO
noncomputable def ZZJ:Con:=⟨[ZAT],Zi7,fun x=>ZQu x.1⟩
noncomputable def ZVv:Con:=⟨[ZAT],Zi7,fun x=>ZX6 x.1⟩
theorem Zj1:ZZJ.Sound prog Inv ZAq 83 :=
 ZAm (M:=ZqY) ZBo (f:=f83) rfl ZpC 100000 (X:=nowhere) (fun base S0 cs0 hn hf=>ZAH.nowhere) (by intro x;kernel_rfl)
theorem Zl3:ZVv.Sound prog Inv ZAq 83:=by
 have e:ZVv=ZZJ:=by unfold ZVv ZZJ;rw [ZZI]
 rw [e];exact Zj1
noncomputable def ZZK:Mach prog Inv ZAq:=ZFE bas [(22,f22)] ⟨ZzT,trivial⟩ [(83,ZVv)] ⟨⟨Zl3,ZAa.callable Zz2⟩,trivial⟩ [] trivial [] trivial
/-! ### domino/stream.Give -/
@[reducible] def ZGS:List Ty:=[ZAJ]
def Zee:List Nat:=[22]
abbrev ZZL (base:Base) (S0:Nat→Prop):=base.n=0∧FinOk (Zdd ZGS) base S0 (ZFg ZGS S0)
abbrev ZpD (base:Base) (S0:Nat→Prop) (cs0:List Go.Frame) (p:CPat) (J:ZC9 p→Option (ZFC ZGS)):=ZAb ZZK base S0 cs0 (ZFg ZGS S0) p J
abbrev ZpE (base:Base) (S0:Nat→Prop) (cs0:List Go.Frame) (X:Cfg→Option (Option (ZFC ZGS))):=ZAH ZZK base S0 cs0 (ZFg ZGS S0) X
@[reducible] noncomputable def ZUU:CPat:=⟨⟨22,[1,0,1,1],none,[.any,.any,.ptr 0 0,.any,.ptr 1 0],14⟩,[],[.dat 35 ZAJ,.dat 35 ZAJ],0⟩
@[reducible] noncomputable def ZcQ (k:ZAB→ZAB→Option (ZAB×Unit)):ZC9 ZUU→Option (ZAB×Unit):=fun x=>k x.2.2.1 x.2.2.2.1
noncomputable def ZUV (d6:ZAB) (d7:ZAB):Option (ZAB×Unit) :=
 some (d6,())
theorem ZaF : ∃ f,f = @ZUV:=⟨_,rfl⟩
noncomputable def ZOK:=Classical.choose ZaF
theorem ZaG : @ZOK = @ZUV:=Classical.choose_spec ZaF
theorem Zl4 {base S0 cs0} (hfin:ZZL base S0):ZpD base S0 cs0 ZUU (ZcQ (ZOK)) :=
 ZAb.join hfin.2 (ZAH.nowhere) Zee 100000 (by rw [ZaG];intro x;kernel_rfl)
noncomputable def ZcR:Cfg→Option (Option (ZAB×Unit)):=cut ZUU (ZcQ (ZOK)) (nowhere)
theorem Zl5 {base S0 cs0} (hfin:ZZL base S0):ZpE base S0 cs0 (ZcR):=ZAH.cut (ZAH.nowhere) (Nat.le_of_eq hfin.1) (Zl4 hfin)
noncomputable def ZOL (a0:ZAB) (a1:Int):Option (ZAB×Unit) :=
 let s2:ByteArray:=(ByteArray.mk (List.toArray ([]:List UInt8)))
 let b3:Bool:=(!a0.2.2.2.2.1)
 bif b3 then
  ZAX (ZX6 a0.1) fun y4=>
  let b5:Bool:=(!y4.1)
  bif b5 then
   some ((a0.1,(a0.2.1,(a1,(a0.2.2.2.1,(true,(true,a0.2.2.2.2.2.2)))))),())
  else
   ZOK a0 (((0:Int),((0:Int),(s2,(([]:List ZAA),(([]:List ZAA),(false,(false,(false,())))))))),((0:Int),((0:Int),((0:Int),(false,(false,(false,(((0:Int),(([]:List ZAE),((0:Int),(false,())))),((0:Int),((0:Int),(false,(false,(false,((0:Int),(false,())))))))))))))))
 else
  ZOK a0 (((0:Int),((0:Int),(s2,(([]:List ZAA),(([]:List ZAA),(false,(false,(false,())))))))),((0:Int),((0:Int),((0:Int),(false,(false,(false,(((0:Int),(([]:List ZAE),((0:Int),(false,())))),((0:Int),((0:Int),(false,(false,(false,((0:Int),(false,())))))))))))))))
theorem Zef : ∃ f,f = @ZOL:=⟨_,rfl⟩
noncomputable def ZPr:=Classical.choose Zef
theorem ZWm : @ZPr = @ZOL:=Classical.choose_spec Zef
noncomputable def ZWn:Con:=⟨[ZAJ,(.int .u64)],ZGS,fun x=>ZOL x.1 x.2.1⟩
noncomputable def ZOM:Con:=⟨[ZAJ,(.int .u64)],ZGS,fun x=>ZPr x.1 x.2.1⟩
theorem ZiS:ZWn.Sound prog Inv ZAq 22 :=
 ZAm (M:=ZZK) ZBo (f:=f22) rfl Zee 100000 (X:=ZcR) (fun base S0 cs0 hn hf=>have hfin:ZZL base S0:=⟨hn,hf⟩;Zl5 hfin) (by intro x;kernel_rfl)
theorem ZaH:ZOM.Sound prog Inv ZAq 22:=by
 have e:ZOM=ZWn:=by unfold ZOM ZWn;rw [ZWm]
 rw [e];exact ZiS
noncomputable def ZLM:Mach prog Inv ZAq:=ZFE bas [(4,f4)] ⟨ok4,trivial⟩ [(14,ZJ2),(15,ZIY),(16,ZH7),(21,ZP8),(22,ZOM),(23,ZKX),(24,ZPz),(25,ZKa),(26,ZT7),(27,ZVt),(28,ZSs)] ⟨⟨ZVi,ZAa.callable ZzR⟩,⟨ZMI,ZAa.callable Zx4⟩,⟨ZJ1,ZAa.callable Zxl⟩,⟨ZiR,ZAa.callable Zzu⟩,⟨ZaH,ZAa.callable ZzT⟩,⟨ZRQ,ZAa.callable ZzC⟩,⟨ZiC,ZAa.callable Zzv⟩,⟨ZRb,ZAa.callable ZzD⟩,⟨ZeN,ZAa.callable ZzU⟩,⟨Zl1,ZAa.callable Zzw⟩,⟨Zjw,ZAa.callable Zzx⟩,trivial⟩ [] trivial [] trivial
/-! ### domino/dominolaw16.StreamCredit -/
@[reducible] def ZB7:List Ty:=[.bool]
def ZCS:List Nat:=[4]
abbrev ZA4 (base:Base) (S0:Nat→Prop):=base.n=0∧FinOk (Zdd ZB7) base S0 (ZFg ZB7 S0)
abbrev ZAv (base:Base) (S0:Nat→Prop) (cs0:List Go.Frame) (p:CPat) (J:ZC9 p→Option (ZFC ZB7)):=ZAb ZLM base S0 cs0 (ZFg ZB7 S0) p J
abbrev ZDV (base:Base) (S0:Nat→Prop) (cs0:List Go.Frame) (X:Cfg→Option (Option (ZFC ZB7))):=ZAH ZLM base S0 cs0 (ZFg ZB7 S0) X
@[reducible] noncomputable def ZAy:CPat:=⟨⟨4,[1,1,1,0,1,0],none,[.any,.rows ZBV false,.any,.any,.any,.ptr 0 0,.int .i64],144⟩,[],[.dat 35 ZAJ],0⟩
@[reducible] noncomputable def ZAz (k:(List ZAR)→Int→ZAB→Option (Bool×Unit)):ZC9 ZAy→Option (Bool×Unit):=fun x=>k x.1.2.1 x.1.2.2.2.2.2.2.1 x.2.2.1
@[reducible] noncomputable def ZI6:CPat:=⟨⟨4,[1,1,1,0,1,0,0,1,1],none,[.any,.rows ZBV false,.any,.any,.any,.ptr 0 0,.int .i64],144⟩,[],[.dat 35 ZAJ],0⟩
@[reducible] noncomputable def ZOv (k:(List ZAR)→Int→ZAB→Option (Bool×Unit)):ZC9 ZI6→Option (Bool×Unit):=fun x=>k x.1.2.1 x.1.2.2.2.2.2.2.1 x.2.2.1
noncomputable def ZI7 (k1:(List ZAR)→Int→ZAB→Option (Bool×Unit)) (l136:(List ZAR)) (i137:Int) (d138:ZAB):Option (Bool×Unit) :=
 let n139:Int:=(Go.IntKind.wrap Go.IntKind.i64 (i137+(1:Int)))
 k1 l136 n139 d138
theorem ZON : ∃ f,f = @ZI7:=⟨_,rfl⟩
noncomputable def ZBe:=Classical.choose ZON
theorem ZOO : @ZBe = @ZI7:=Classical.choose_spec ZON
theorem Zad {base S0 cs0} (hfin:ZA4 base S0) (k1) (h1:ZAv base S0 cs0 ZAy (ZAz k1)):ZAv base S0 cs0 ZI6 (ZOv (ZBe k1)) :=
 ZAb.join hfin.2 (ZAH.cut (ZAH.nowhere) (Nat.le_of_eq hfin.1) h1) ZCS 100000 (by rw [ZOO];intro x;kernel_rfl)
noncomputable def ZOw (k1:(List ZAR)→Int→ZAB→Option (Bool×Unit)):Cfg→Option (Option (Bool×Unit)):=cut ZI6 (ZOv (ZBe k1)) (cut ZAy (ZAz k1) (nowhere))
theorem ZOx {base S0 cs0} (hfin:ZA4 base S0) (k1) (h1:ZAv base S0 cs0 ZAy (ZAz k1)):ZDV base S0 cs0 (ZOw k1):=ZAH.cut (ZAH.cut (ZAH.nowhere) (Nat.le_of_eq hfin.1) h1) (Nat.le_of_eq hfin.1) (Zad hfin k1 h1)
@[reducible] noncomputable def ZI8:CPat:=⟨⟨4,[1,1,1,0,1,0,0,1,0,0,1,1,0,1,1,1,1,1,1,1,1,1,1,1,1,0,1,1],none,[.any,.rows ZBV false,.any,.any,.any,.ptr 0 0,.int .i64,.any,.any,.any,.ptr 1 0],140⟩,[],[.dat 35 ZAJ,.dat 35 ZAJ],0⟩
@[reducible] noncomputable def ZOy (k:(List ZAR)→Int→ZAB→ZAB→Option (Bool×Unit)):ZC9 ZI8→Option (Bool×Unit):=fun x=>k x.1.2.1 x.1.2.2.2.2.2.2.1 x.2.2.1 x.2.2.2.1
noncomputable def ZDe (k1:(List ZAR)→Int→ZAB→Option (Bool×Unit)) (l131:(List ZAR)) (i132:Int) (d133:ZAB) (d134:ZAB):Option (Bool×Unit) :=
 ZBe k1 l131 i132 d134
theorem ZOP : ∃ f,f = @ZDe:=⟨_,rfl⟩
noncomputable def ZEg:=Classical.choose ZOP
theorem ZEz : @ZEg = @ZDe:=Classical.choose_spec ZOP
theorem Zae {base S0 cs0} (hfin:ZA4 base S0) (k1) (h1:ZAv base S0 cs0 ZAy (ZAz k1)):ZAv base S0 cs0 ZI8 (ZOy (ZEg k1)) :=
 ZAb.join hfin.2 (ZOx hfin k1 h1) ZCS 100000 (by rw [ZEz];intro x;kernel_rfl)
noncomputable def ZOz (k1:(List ZAR)→Int→ZAB→Option (Bool×Unit)):Cfg→Option (Option (Bool×Unit)):=cut ZI8 (ZOy (ZEg k1)) (ZOw k1)
theorem ZO0 {base S0 cs0} (hfin:ZA4 base S0) (k1) (h1:ZAv base S0 cs0 ZAy (ZAz k1)):ZDV base S0 cs0 (ZOz k1):=ZAH.cut (ZOx hfin k1 h1) (Nat.le_of_eq hfin.1) (Zae hfin k1 h1)
@[reducible] noncomputable def ZI9:CPat:=⟨⟨4,[1,1,1,0,1,0,0,1,0,0,1,1,0,1,1,1,1,1,1,1,1,1,1,1,1],none,[.any,.rows ZBV false,.any,.any,.any,.ptr 0 0,.int .i64,.any,.any,.any,.ptr 1 0,.any,.int .u64,.bool],137⟩,[],[.dat 35 ZAJ,.dat 35 ZAJ],0⟩
@[reducible] noncomputable def ZO1 (k:(List ZAR)→Int→Int→Bool→ZAB→ZAB→Option (Bool×Unit)):ZC9 ZI9→Option (Bool×Unit):=fun x=>k x.1.2.1 x.1.2.2.2.2.2.2.1 x.1.2.2.2.2.2.2.2.2.2.2.2.2.1 x.1.2.2.2.2.2.2.2.2.2.2.2.2.2.1 x.2.2.1 x.2.2.2.1
noncomputable def ZDf (k1:(List ZAR)→Int→ZAB→Option (Bool×Unit)) (l119:(List ZAR)) (i120:Int) (i121:Int) (b122:Bool) (d123:ZAB) (d124:ZAB):Option (Bool×Unit) :=
 let b125:Bool:=(!b122)
 bif b125 then
  let b126:Bool:=(i121 != (0:Int))
  bif b126 then
   some (false,())
  else
   ZAX (ZUQ d123) fun y127=>
   ZAX (ZUQ d124) fun y128=>
   ZAX (ZdC y127.1 y128.1) fun y129=>
   let b130:Bool:=(!y129.1)
   bif b130 then
    some (false,())
   else
    ZEg k1 l119 i120 d123 d124
 else
  ZEg k1 l119 i120 d123 d124
theorem ZOQ : ∃ f,f = @ZDf:=⟨_,rfl⟩
noncomputable def ZEh:=Classical.choose ZOQ
theorem ZE0 : @ZEh = @ZDf:=Classical.choose_spec ZOQ
theorem Zaf {base S0 cs0} (hfin:ZA4 base S0) (k1) (h1:ZAv base S0 cs0 ZAy (ZAz k1)):ZAv base S0 cs0 ZI9 (ZO1 (ZEh k1)) :=
 ZAb.join hfin.2 (ZO0 hfin k1 h1) ZCS 100000 (by rw [ZE0];intro x;kernel_rfl)
noncomputable def ZO2 (k1:(List ZAR)→Int→ZAB→Option (Bool×Unit)):Cfg→Option (Option (Bool×Unit)):=cut ZI9 (ZO1 (ZEh k1)) (ZOz k1)
theorem ZO3 {base S0 cs0} (hfin:ZA4 base S0) (k1) (h1:ZAv base S0 cs0 ZAy (ZAz k1)):ZDV base S0 cs0 (ZO2 k1):=ZAH.cut (ZO0 hfin k1 h1) (Nat.le_of_eq hfin.1) (Zaf hfin k1 h1)
@[reducible] noncomputable def ZJA:CPat:=⟨⟨4,[1,1,1,0,1,0,0,1,0,0,1,1,0,1,1,1,1,1,1,1,1,1,1,1,0,1,0,1,1,1],none,[.any,.rows ZBV false,.any,.any,.any,.ptr 0 0,.int .i64,.any,.any,.any,.ptr 1 0,.any,.int .u64,.bool],137⟩,[],[.dat 35 ZAJ,.dat 35 ZAJ],0⟩
@[reducible] noncomputable def ZO4 (k:(List ZAR)→Int→Int→Bool→ZAB→ZAB→Option (Bool×Unit)):ZC9 ZJA→Option (Bool×Unit):=fun x=>k x.1.2.1 x.1.2.2.2.2.2.2.1 x.1.2.2.2.2.2.2.2.2.2.2.2.2.1 x.1.2.2.2.2.2.2.2.2.2.2.2.2.2.1 x.2.2.1 x.2.2.2.1
noncomputable def ZFd (k1:(List ZAR)→Int→ZAB→Option (Bool×Unit)) (l107:(List ZAR)) (i108:Int) (i109:Int) (b110:Bool) (d111:ZAB) (d112:ZAB):Option (Bool×Unit) :=
 ZEh k1 l107 i108 i109 b110 d111 d112
theorem ZOR : ∃ f,f = @ZFd:=⟨_,rfl⟩
noncomputable def ZEi:=Classical.choose ZOR
theorem ZIc : @ZEi = @ZFd:=Classical.choose_spec ZOR
theorem Zag {base S0 cs0} (hfin:ZA4 base S0) (k1) (h1:ZAv base S0 cs0 ZAy (ZAz k1)):ZAv base S0 cs0 ZJA (ZO4 (ZEi k1)) :=
 ZAb.join hfin.2 (ZO3 hfin k1 h1) ZCS 100000 (by rw [ZIc];intro x;kernel_rfl)
noncomputable def ZO5 (k1:(List ZAR)→Int→ZAB→Option (Bool×Unit)):Cfg→Option (Option (Bool×Unit)):=cut ZJA (ZO4 (ZEi k1)) (ZO2 k1)
theorem Zah {base S0 cs0} (hfin:ZA4 base S0) (k1) (h1:ZAv base S0 cs0 ZAy (ZAz k1)):ZDV base S0 cs0 (ZO5 k1):=ZAH.cut (ZO3 hfin k1 h1) (Nat.le_of_eq hfin.1) (Zag hfin k1 h1)
noncomputable def ZJB (k1:(List ZAR)→Int→ZAB→Option (Bool×Unit)) (l72:(List ZAR)) (i73:Int) (d74:ZAB):Option (Bool×Unit) :=
 let n75:Int:=(((List.length l72):Nat):Int)
 let b76:Bool:=(decide (i73<n75))
 bif b76 then
  bif (decide (((0:Int)≤i73)∧(i73<(((List.length l72):Nat):Int)))) then
   let x77:ZAR:=(List.getD l72 (Int.toNat i73) (Ty.dflt ZBV))
   let s78:ByteArray:=(ByteArray.mk (List.toArray ([]:List UInt8)))
   let b79:Bool:=(x77.1==(3:Int))
   bif b79 then
    let n80:Int:=(Int.tmod x77.2.2.1 (2000:Int))
    ZAX (ZVu d74 n80) fun y81=>
    ZBe k1 l72 i73 y81.1
   else
    let b82:Bool:=(x77.1==(4:Int))
    bif b82 then
     ZAX (ZPr d74 x77.2.2.1) fun y83=>
     ZBe k1 l72 i73 y83.1
    else
     let b84:Bool:=(x77.1==(9:Int))
     bif b84 then
      ZAX (ZIN d74.1 x77.2.2.2.1.2.2.2.2.2.2.2.2.2.1 (800:Int)) fun y85=>
      ZBe k1 l72 i73 (y85.1,d74.2)
     else
      let b86:Bool:=(x77.1==(10:Int))
      bif b86 then
       ZAX (ZVS d74.1) fun y87=>
       ZBe k1 l72 i73 (y87.1,d74.2)
      else
       let n88:Int:=(Int.tmod x77.2.2.1 (50:Int))
       ZAX (ZCq d74 (4:Int) x77.2.1 n88) fun y89=>
       let s90:ByteArray:=(ByteArray.mk (List.toArray ([]:List UInt8)))
       let s91:ByteArray:=(ByteArray.mk (List.toArray ([]:List UInt8)))
       bif y89.2.2.2.1 then
        ZAX (ZXv y89.2.1) fun y92=>
        let b93:Bool:=(y92.2.1 != (0:Int))
        bif b93 then
         some (false,())
        else
         let n94:Int:=(((ByteArray.size y92.1):Nat):Int)
         let b95:Bool:=(decide (n94>x77.2.1))
         bif b95 then
          some (false,())
         else
          let b96:Bool:=(y89.2.1.1==(8:Int))
          bif b96 then
           let n97:Int:=(((ByteArray.size y89.2.1.2.2.2.2.2.2.2.2.2.1):Nat):Int)
           let n98:Int:=(Go.IntKind.wrap Go.IntKind.u64 n97)
           let n99:Int:=(Go.IntKind.wrap Go.IntKind.u64 (y89.2.1.2.2.1+n98))
           let b100:Bool:=(decide (n99>d74.2.1))
           bif b100 then
            some (false,())
           else
            bif d74.2.2.2.2.1 then
             some (false,())
            else
             let b101:Bool:=(decide (y89.2.2.1>n88))
             bif b101 then
              some (false,())
             else
              let n102:Int:=(Go.IntKind.wrap Go.IntKind.u64 (d74.1.2.1+y89.2.2.1))
              let b103:Bool:=(y89.1.1.2.1 != n102)
              bif b103 then
               some (false,())
              else
               ZEi k1 l72 i73 y89.2.2.1 y89.2.2.2.1 d74 y89.1
          else
           let b104:Bool:=(decide (y89.2.2.1>n88))
           bif b104 then
            some (false,())
           else
            let n105:Int:=(Go.IntKind.wrap Go.IntKind.u64 (d74.1.2.1+y89.2.2.1))
            let b106:Bool:=(y89.1.1.2.1 != n105)
            bif b106 then
             some (false,())
            else
             ZEi k1 l72 i73 y89.2.2.1 y89.2.2.2.1 d74 y89.1
       else
        ZEh k1 l72 i73 y89.2.2.1 y89.2.2.2.1 d74 y89.1
  else none
 else
  some (true,())
noncomputable def ZB8:Nat→(List ZAR)→Int→ZAB→Option (Bool×Unit)
 | 0=>fun _ _ _=>none
 | m+1=>ZJB (ZB8 m)
noncomputable def ZId (l72:(List ZAR)) (i73:Int) (d74:ZAB):Option (Bool×Unit):=ZB8 (Int.toNat ((((List.length l72):Nat):Int) - i73)+2) l72 i73 d74
theorem ZMw : ∃ f,f = @ZId:=⟨_,rfl⟩
noncomputable def ZGT:=Classical.choose ZMw
theorem ZMx : @ZGT = @ZId:=Classical.choose_spec ZMw
theorem Zai {base S0 cs0} (hfin:ZA4 base S0) : ∀ m,ZAv base S0 cs0 ZAy (ZAz (ZB8 m)) :=
 ZAb.loop' hfin.2 ZCS 100000 ZAz (fun k1=>ZO5 k1) (fun k1 h1=>Zah hfin k1 h1) (ZB8) (by intro x;rfl) (by intro m x;kernel_rfl)
theorem ZZM {base S0 cs0} (hfin:ZA4 base S0):ZAv base S0 cs0 ZAy (ZAz (ZGT)):=by
 rw [ZMx];exact fun x r hx=>Zai hfin _ x r hx
noncomputable def ZO6:Cfg→Option (Option (Bool×Unit)):=cut ZAy (ZAz (ZGT)) (nowhere)
theorem ZO7 {base S0 cs0} (hfin:ZA4 base S0):ZDV base S0 cs0 (ZO6):=ZAH.cut (ZAH.nowhere) (Nat.le_of_eq hfin.1) (ZZM hfin)
@[reducible] noncomputable def ZJC:CPat:=⟨⟨4,[1,0,1,0],none,[],151⟩,[],[],0⟩
@[reducible] noncomputable def ZO8 (k:Option (Bool×Unit)):ZC9 ZJC→Option (Bool×Unit):=fun x=>k
noncomputable def ZJD:Option (Bool×Unit) :=
 ZAX ZFT fun y7=>
 some y7
theorem ZOS : ∃ f,f = @ZJD:=⟨_,rfl⟩
noncomputable def ZDW:=Classical.choose ZOS
theorem ZOT : @ZDW = @ZJD:=Classical.choose_spec ZOS
theorem Zaj {base S0 cs0} (hfin:ZA4 base S0):ZAv base S0 cs0 ZJC (ZO8 (ZDW)) :=
 ZAb.join hfin.2 (ZO7 hfin) ZCS 100000 (by rw [ZOT];intro x;kernel_rfl)
noncomputable def ZO9:Cfg→Option (Option (Bool×Unit)):=cut ZJC (ZO8 (ZDW)) (ZO6)
theorem Zak {base S0 cs0} (hfin:ZA4 base S0):ZDV base S0 cs0 (ZO9):=ZAH.cut (ZO7 hfin) (Nat.le_of_eq hfin.1) (Zaj hfin)
noncomputable def ZHB (a0:Int) (a1:(List ZAR)):Option (Bool×Unit) :=
 ZAX (ZOA a1) fun y2=>
 let b3:Bool:=(!y2.1)
 bif b3 then
  ZDW
 else
  ZAX ZFT fun y4=>
  let b5:Bool:=(!y4.1)
  bif b5 then
   ZDW
  else
   let n8:Int:=(Go.IntKind.wrap Go.IntKind.u64 a0)
   ZAX (ZKd n8 (100:Int)) fun y9=>
   let s10:ByteArray:=(ByteArray.mk (List.toArray ([]:List UInt8)))
   ZGT a1 (0:Int) y9.1
theorem ZQv : ∃ f,f = @ZHB:=⟨_,rfl⟩
noncomputable def ZOU:=Classical.choose ZQv
theorem ZQw : @ZOU = @ZHB:=Classical.choose_spec ZQv
noncomputable def ZKG:Con:=⟨[(.int .u16),(.slice ZBV)],ZB7,fun x=>ZHB x.1 x.2.1⟩
noncomputable def ZB9:Con:=⟨[(.int .u16),(.slice ZBV)],ZB7,fun x=>ZOU x.1 x.2.1⟩
theorem ZX7:ZKG.Sound prog Inv ZAq 4 :=
 ZAm (M:=ZLM) ZBo (f:=f4) rfl ZCS 100000 (X:=ZO9) (fun base S0 cs0 hn hf=>have hfin:ZA4 base S0:=⟨hn,hf⟩;Zak hfin) (by intro x;kernel_rfl)
theorem ZZN:ZB9.Sound prog Inv ZAq 4:=by
 have e:ZB9=ZKG:=by unfold ZB9 ZKG;rw [ZQw]
 rw [e];exact ZX7
end Go.Proofs.YtamaklnhjagifaaGreatDoor.V
namespace Go.Proofs.YtamaklnhjagifaaGreatDoor.V
open Go.RowKit
set_option linter.unusedVariables false
theorem Zu6 (s:ZAB) (k:Nat) (h:SQ s.1 k) (id most more:Int) (hid:U64 id) (hcr:U64 s.2.1) (d:ZAB) (e:ZAC) (i68 i69 i70:Int) (s71 s72 s73:ByteArray) (i74 i75:Int) (s76 s77 s78:ByteArray) (i79 i80:Int) (s81 s82 s83:ByteArray) :
  ZD1 id most more s d e i68 i69 i70 s71 s72 s73 i74 i75 s76 s77 s78 i79 i80 s81 s82 s83=ZaX s id most more:=by
 by_cases hm : -4611686018427387904≤most
 · exact Zr6 s k h id most more hid hcr hm d e i68 i69 i70 s71 s72 s73 i74 i75 s76 s77 s78 i79 i80 s81 s82 s83
 ·
  rw [ZRa,ZN3]
  unfold ZaX
  cases hr:s.2.2.2.2.1 with
  | true=>rfl
  | false=>
   have e2:(if (1200:Int)<most then (1200:Int) else most)=most:=by split <;> omega
   have h0:(min most 1200).toNat=0:=by omega
   have h1:Int.toNat (most - 0)+2=1+1:=by omega
   have c:decide (most>0)=false:=by simp;omega
   simp only [cond_false,Bool.false_eq_true,if_false,e2,ZPn,ZMG,h0,ZEy,ZJz,c,ZrL]
   exact Zc8 _ s d e
theorem ZpF (s:ZAB) (k:Nat) (h:SQ s.1 k) (hn:SN s) (id most more:Int) (hid:U64 id):ZCq s id most more=ZqP (ZdX (fr4 id s.2.2.1 s.1.2.1) most) (ZdX (fr5 id s.2.2.2.2.2.2.2.2.2.2.2.2.2.1) most) (ZdX (Zuo id s.2.2.2.2.2.2.2.2.2.1) most) (ZaX s id most more) s id :=
 Zus s id most more _ _ _ _ (ZfM (fr4 id s.2.2.1 s.1.2.1) most (Zup hid hn.code ⟨h.top.1,Int.lt_of_le_of_lt h.top.2 (by decide)⟩)) (ZfM (fr5 id s.2.2.2.2.2.2.2.2.2.2.2.2.2.1) most (ZwX hid hn.sc)) (ZfM (Zuo id s.2.2.2.2.2.2.2.2.2.1) most (Zuq hid hn.lim))
  (fun d e i68 i69 i70 s71 s72 s73 i74 i75 s76 s77 s78 i79 i80 s81 s82 s83=>Zu6 s k h id most more hid hn.cr d e i68 i69 i70 s71 s72 s73 i74 i75 s76 s77 s78 i79 i80 s81 s82 s83)
theorem Zu7 {f:ZAC} {most:Int} (hf:FrOk f) (h:ZdX f most=true) : ∃ b,ZXv f=some (b,0,())∧((b.size:Nat):Int)≤most:=by
 unfold ZdX at h
 simp only [Bool.and_eq_true,decide_eq_true_eq] at h
 refine ⟨ZCK (Zr5 f),?_,by rw [ZYP];exact h.2⟩
 rw [ZwW f hf,if_pos h.1]
theorem ZwA (s:ZAB) (n:Int):ZVu s n=some ((s.1,max s.2.1 n,s.2.2),()):=by
 rw [ZcP,ZP7]
 have:(if n>s.2.1 then n else s.2.1)=max s.2.1 n:=by split <;> omega
 simp only [this]
theorem Zxa (s:ZAB) (n:Int) : ∃ t,ZPr s n=some (t,())∧(t=s∨t=(s.1,s.2.1,n,s.2.2.2.1,true,true,s.2.2.2.2.2.2)):=by
 have hd : ∃ b,ZX6 s.1=some (b,()):=by
  rw [ZZI,ZQu]
  cases s.1.2.2.2.2.2.1 <;> cases s.1.2.2.2.2.2.2.2.1 <;> exact ⟨_,rfl⟩
 obtain ⟨b,hb⟩:=hd
 rw [ZWm,ZOL]
 simp only [hb,ZAK,ZaG,ZUV]
 cases s.2.2.2.2.1 with
 | true=>exact ⟨s,rfl,.inl rfl⟩
 | false=>
  cases b with
  | true=>exact ⟨s,rfl,.inl rfl⟩
  | false=>exact ⟨_,rfl,.inr rfl⟩
structure CrI (s:ZAB) (k:Nat):Prop where
 sq:SQT s.1 k
 base:s.1.1=0
 data:s.1.2.2.1.size≤800
 cr:0≤s.2.1∧s.2.1≤65535
 code:U64 s.2.2.1
 top:s.1.2.1≤s.2.1
 inn:s.2.2.2.2.2.2.2.1=ZzF
 lim:s.2.2.2.2.2.2.2.2.2.1=100
 ra:s.2.2.2.2.2.2.2.2.2.2.1=false
 sc:s.2.2.2.2.2.2.2.2.2.2.2.2.2.1=0
 st:s.2.2.2.2.2.2.2.2.2.2.2.2.2.2.1=false
theorem SQT.mono {s:ZAF} {k m:Nat} (h:SQT s k) (hm:k≤m):SQT s m:=⟨h.sq.mono hm,h.new,h.topen,h.small⟩
theorem ZwB (s:ZAF) (k:Nat) (h:SQT s k) (b c:Bool):SQT (s.1,s.2.1,s.2.2.1,s.2.2.2.1,s.2.2.2.2.1,b,c,s.2.2.2.2.2.2.2.1,()) k :=
 ⟨⟨h.sq.base,h.sq.en,h.sq.top,h.sq.acked,h.sq.todo,h.sq.ain,h.sq.tin,h.sq.al,h.sq.tl⟩,h.new,h.topen,h.small⟩
theorem ZrS : ∀ (suf pre:List ZAR) (m:Nat) (s:ZAB),(pre++suf).length≤40→suf.length<m→(∀ x∈suf,ActOk x∧0≤x.2.2.1)→CrI s pre.length →
  ZB8 m (pre++suf) ((pre.length:Nat):Int) s=some (true,()):=by
 intro suf
 induction suf with
 | nil=>
  intro pre m s hl hm hx hs
  obtain ⟨m,rfl⟩ : ∃ k,m=k+1:=⟨m - 1,by omega⟩
  rw [List.append_nil]
  simp only [ZB8,ZJB,Int.lt_irrefl,decide_false,cond_false]
 | cons x suf ih=>
  intro pre m s hl hm hx hs
  obtain ⟨m,rfl⟩ : ∃ k,m=k+1:=⟨m - 1,by omega⟩
  obtain ⟨ha,hn⟩:=hx x List.mem_cons_self
  have hpl:pre.length≤39:=by simp at hl;omega
  have hlen:(pre++[x]).length=pre.length+1:=by simp
  have hmn:=ZJE pre x x suf (by simp at hl ⊢;omega)
  have nx : ∀ (s2:ZAB),CrI s2 (pre.length+1)→ZBe (ZB8 m) (pre++x::suf) ((pre.length:Nat):Int) s2=some (true,()):=by
   intro s2 h
   rw [ZOO,ZI7,hmn,ZID]
   exact ih (pre++[x]) m s2 (by simpa using hl) (by simp at hm;omega) (fun y hy=>hx y (List.mem_cons_of_mem _ hy)) (by rw [hlen];exact h)
  have hnum:=ha.num
  have hsq:=hs.sq.mono (Nat.le_succ pre.length)
  have hcr:=hs.cr
  have htp:=hs.top
  have hb0:=hs.base
  have hds:=hs.data
  have hdat:=ha.data
  simp only [ZB8,ZJB,ZLV,nn,and_true,decide_true,cond_true,ZDD,ZDC]
  cases (x.1==(3:Int)) with
  | true=>
   have htm:Int.tmod x.2.2.1 2000=x.2.2.1 % 2000:=Int.tmod_eq_emod_of_nonneg hn
   have:=Int.emod_lt_of_pos x.2.2.1 (show (0:Int)<2000 by decide)
   simp only [cond_true,ZwA,ZAK,htm]
   exact nx _ ⟨hsq,hb0,hds,by simp only;omega,hs.code,by simp only;omega,hs.inn,hs.lim,hs.ra,hs.sc,hs.st⟩
  | false=>
  cases (x.1==(4:Int)) with
  | true=>
   obtain ⟨t,t1,t2⟩:=Zxa s x.2.2.1
   simp only [cond_false,cond_true,t1,ZAK]
   rcases t2 with rfl | rfl
   · exact nx _ ⟨hsq,hb0,hds,hcr,hs.code,htp,hs.inn,hs.lim,hs.ra,hs.sc,hs.st⟩
   · exact nx _ ⟨hsq,hb0,hds,hcr,⟨hn,Int.lt_of_le_of_lt hnum (by decide)⟩,htp,hs.inn,hs.lim,hs.ra,hs.sc,hs.st⟩
  | false=>
  cases (x.1==(9:Int)) with
  | true=>
   have hen:enQ s.1≤800:=by unfold enQ;omega
   obtain ⟨q,n,q1,q2,q3,q4,q5,_⟩:=Zu2 s.1 pre.length hs.sq (by omega) x.2.2.2.1.2.2.2.2.2.2.2.2.2.1 800 (by decide) (by omega) (by omega)
   simp only [cond_false,cond_true,q1,ZAK]
   exact nx _ ⟨q2,by rw [← hb0];exact q3,by simp only;omega,hcr,hs.code,by simp only;omega,hs.inn,hs.lim,hs.ra,hs.sc,hs.st⟩
  | false=>
  cases (x.1==(10:Int)) with
  | true=>
   simp only [cond_false,cond_true,ZuW,ZAK]
   exact nx _ ⟨ZwB s.1 _ hsq _ _,hb0,hds,hcr,hs.code,htp,hs.inn,hs.lim,hs.ra,hs.sc,hs.st⟩
  | false=>
   have htm:Int.tmod x.2.2.1 50=x.2.2.1 % 50:=Int.tmod_eq_emod_of_nonneg hn
   have hm0:0≤x.2.2.1 % 50∧x.2.2.1 % 50<50:=⟨Int.emod_nonneg _ (by decide),Int.emod_lt_of_pos _ (by decide)⟩
   have hsn:SN s:=⟨⟨hcr.1,by omega⟩,hs.code,by rw [hs.lim];exact ⟨by decide,by decide⟩,by rw [hs.sc];exact ⟨by decide,by decide⟩⟩
   have hid:U64 4:=⟨by decide,by decide⟩
   simp only [cond_false,htm]
   generalize x.2.2.1 % 50=more at *
   rw [ZpF s pre.length hs.sq.sq hsn 4 x.2.1 more hid]
   generalize x.2.1=most at *
   have hsp:=hs.sq.sq.top
   have htop:IntKind.wrap .u64 (s.1.2.1+0)=s.1.2.1:=by rw [ZAh _ (by omega) (by omega)];omega
   unfold ZqP
   simp only [hs.st,hs.ra,Bool.false_and,Bool.false_eq_true,if_false]
   by_cases hfit:(s.2.2.2.2.2.1&&ZdX (fr4 4 s.2.2.1 s.1.2.1) most)=true
   ·
    simp only [hfit,if_true,ZAK,cond_true]
    have hf4:ZdX (fr4 4 s.2.2.1 s.1.2.1) most=true:=by simp only [Bool.and_eq_true] at hfit;exact hfit.2
    obtain ⟨b,b1,b2⟩:=Zu7 (Zup hid hs.code ⟨hsp.1,Int.lt_of_le_of_lt hsp.2 (by decide)⟩) hf4
    have c1:decide (((b.size:Nat):Int)>most)=false:=by simp;omega
    have c2:((fr4 4 s.2.2.1 s.1.2.1).1==(8:Int))=false:=rfl
    have c3:decide ((0:Int)>more)=false:=by simp;omega
    simp only [b1,ZAK,bne_self_eq_false,cond_false,c1,c2,c3,htop,ZIc,ZFd,ZE0,ZDf,Bool.not_true,ZEz,ZDe]
    exact nx _ ⟨hsq,hb0,hds,hcr,hs.code,htp,hs.inn,hs.lim,hs.ra,hs.sc,hs.st⟩
   ·
    rw [if_neg hfit]
    obtain ⟨q,f,n,is,t1,t2,t3,t4,t5,t6,t7,t8,t9,t10,t11⟩:=Zu1 s pre.length hs.sq (by omega) ⟨hcr.1,by omega⟩ 4 most more hid ⟨hm0.1,by omega⟩
    have hI:CrI (q,s.2) (pre.length+1):=⟨t2,by rw [← hb0];exact t3,by simp only [t4];exact hds,hcr,hs.code,t9 htp,hs.inn,hs.lim,hs.ra,hs.sc,hs.st⟩
    simp only [t1,ZAK]
    cases is with
    | true=>
     obtain ⟨u1,u2,u3,u4,u5⟩:=t10 rfl
     have u6:=u5 htp
     obtain ⟨b,b1,b2⟩:=Zu7 u1 u3
     have hoff:=u1.off
     have c1:decide (((b.size:Nat):Int)>most)=false:=by simp;omega
     have c2:(f.1==(8:Int))=true:=by rw [u4];rfl
     have w1:IntKind.wrap .u64 ((f.2.2.2.2.2.2.2.2.2.1.size:Nat):Int)=((f.2.2.2.2.2.2.2.2.2.1.size:Nat):Int):=ZAh _ (by omega) (by omega)
     have w2:IntKind.wrap .u64 (f.2.2.1+((f.2.2.2.2.2.2.2.2.2.1.size:Nat):Int))=f.2.2.1+((f.2.2.2.2.2.2.2.2.2.1.size:Nat):Int):=ZAh _ (by omega) (by omega)
     have c3:decide (f.2.2.1+((f.2.2.2.2.2.2.2.2.2.1.size:Nat):Int)>s.2.1)=false:=by simp;omega
     have c4:decide (n>more)=false:=by simp;omega
     have w3:IntKind.wrap .u64 (s.1.2.1+n)=q.2.1:=by rw [t6];exact ZAh _ (by omega) (by omega)
     simp only [cond_true,b1,ZAK,bne_self_eq_false,cond_false,c1,c2,w1,w2,c3,u2,c4,w3,ZIc,ZFd,ZE0,ZDf,Bool.not_true,ZEz,ZDe]
     exact nx _ hI
    | false=>
     obtain ⟨rfl,rfl,rfl⟩:=t11 rfl
     have e:(s.1,s.2)=s:=rfl
     have h1:=hs.sq.sq.al
     have h2:=hs.sq.sq.tl
     have h3:s.2.2.2.2.2.2.2.1.2.1.length≤1000000:=by rw [hs.inn];exact Nat.zero_le _
     simp only [cond_false,ZE0,ZDf,Bool.not_false,cond_true,bne_self_eq_false,e,Zsv s (by omega) (by omega) h3,ZAK,Zu5 s (by omega) (by omega) h3,Bool.not_true,ZEz,ZDe]
     exact nx _ hI
theorem Zl6 (x:ZFC ZB9.params) (h:Wfs ZB9.params x):ZB9.F x=some (true,()):=by
 obtain ⟨w,l,u⟩:=x
 obtain ⟨h1,h2,_⟩:=h
 have hw:=ZwR h1
 show ZOU w l=_
 rw [ZQw,ZHB]
 have h0:ZDW=some (true,()):=by
  rw [ZOT,ZJD,ZMv]
  rfl
 obtain ⟨b,hb1,hb2⟩:=Zr8 l (by have:=h2.1;unfold maxLen at this;exact this)
 rw [hb1]
 simp only [ZAK]
 cases b with
 | false=>simp only [Bool.not_false,cond_true,h0]
 | true=>
  obtain ⟨hb3,hb4⟩:=hb2 rfl
  have w1:IntKind.wrap .u64 w=w:=ZAh _ (by omega) (by omega)
  simp only [Bool.not_true,cond_false,ZMv,ZAK,w1,Zuv]
  rw [ZMx,ZId]
  refine ZrS l [] _ (ZRh w 100) (by simpa using hb4) (by omega) (fun y hy=>⟨hb3 y hy,?_⟩) ⟨⟨ZrO 0,?_,Int.le_refl _,Nat.zero_le _⟩,rfl,Nat.zero_le _,hw,⟨Int.le_refl _,by show (0:Int)<18446744073709551616;decide⟩,hw.1,rfl,rfl,rfl,rfl,rfl⟩
  ·
   obtain ⟨_,_,h3,_⟩:=h2.2 y hy
   have:=ZwQ h3
   omega
  ·
   intro n a b
   have e:enQ Znl=0:=rfl
   have e2:Znl.2.1=0:=rfl
   have a':Znl.2.1≤n:=a
   have b':n<enQ Znl:=b
   omega
end Go.Proofs.YtamaklnhjagifaaGreatDoor.V
namespace Go.Proofs.YtamaklnhjagifaaGreatDoor.V
open Go.RowKit Go.Proofs.Tryz
set_option linter.unusedVariables false
set_option maxRecDepth 100000
noncomputable def ZcS:Mach prog Inv ZAq:=ZFE bas [(181,f181)] ⟨ZyL,trivial⟩ [(85,ZMf),(161,ZNW),(170,ZDT)] ⟨⟨ZTU,ZAa.callable ZzE⟩,⟨ZZc,ZAa.callable Zw4⟩,⟨ZIO,ZAa.callable Zvh⟩,trivial⟩ [] trivial [] trivial
/-! ### domino/sendq.Lost -/
@[reducible] def ZIA:List Ty:=[ZAT]
def ZZO:List Nat:=[181]
abbrev ZMy (base:Base) (S0:Nat→Prop):=base.n=0∧FinOk (Zdd ZIA) base S0 (ZFg ZIA S0)
abbrev ZcT (base:Base) (S0:Nat→Prop) (cs0:List Go.Frame) (p:CPat) (J:ZC9 p→Option (ZFC ZIA)):=ZAb ZcS base S0 cs0 (ZFg ZIA S0) p J
abbrev Zi8 (base:Base) (S0:Nat→Prop) (cs0:List Go.Frame) (X:Cfg→Option (Option (ZFC ZIA))):=ZAH ZcS base S0 cs0 (ZFg ZIA S0) X
@[reducible] noncomputable def ZWo:CPat:=⟨⟨181,[1,1],none,[.any,.any,.any,.bool,.ptr 0 0,.any,.any,.any,.ptr 1 0],43⟩,[],[.dat 30 ZAT,.dat 30 ZAT],0⟩
@[reducible] noncomputable def Zeg (k:Bool→ZAF→ZAF→Option (ZAF×Unit)):ZC9 ZWo→Option (ZAF×Unit):=fun x=>k x.1.2.2.2.1 x.2.2.1 x.2.2.2.1
noncomputable def Zeh (b27:Bool) (d28:ZAF) (d29:ZAF):Option (ZAF×Unit) :=
 bif d28.2.2.2.2.2.2.1 then
  some ((d28.1,(d28.2.1,(d28.2.2.1,(d28.2.2.2.1,(d28.2.2.2.2.1,(d28.2.2.2.2.2.1,(true,d28.2.2.2.2.2.2.2))))))),())
 else
  bif b27 then
   bif d28.2.2.2.2.2.1 then
    let b30:Bool:=(!d28.2.2.2.2.2.2.2.1)
    some ((d28.1,(d28.2.1,(d28.2.2.1,(d28.2.2.2.1,(d28.2.2.2.2.1,(d28.2.2.2.2.2.1,(b30,d28.2.2.2.2.2.2.2))))))),())
   else
    some ((d28.1,(d28.2.1,(d28.2.2.1,(d28.2.2.2.1,(d28.2.2.2.2.1,(d28.2.2.2.2.2.1,(false,d28.2.2.2.2.2.2.2))))))),())
  else
   some ((d28.1,(d28.2.1,(d28.2.2.1,(d28.2.2.2.1,(d28.2.2.2.2.1,(d28.2.2.2.2.2.1,(false,d28.2.2.2.2.2.2.2))))))),())
theorem ZcU : ∃ f,f = @Zeh:=⟨_,rfl⟩
noncomputable def ZQx:=Classical.choose ZcU
theorem Zl7 : @ZQx = @Zeh:=Classical.choose_spec ZcU
theorem Zm3 {base S0 cs0} (hfin:ZMy base S0):ZcT base S0 cs0 ZWo (Zeg (ZQx)) :=
 ZAb.join hfin.2 (ZAH.nowhere) ZZO 100000 (by rw [Zl7];intro x;kernel_rfl)
noncomputable def ZWp:Cfg→Option (Option (ZAF×Unit)):=cut ZWo (Zeg (ZQx)) (nowhere)
theorem Zei {base S0 cs0} (hfin:ZMy base S0):Zi8 base S0 cs0 (ZWp):=ZAH.cut (ZAH.nowhere) (Nat.le_of_eq hfin.1) (Zm3 hfin)
@[reducible] noncomputable def ZL6:CPat:=⟨⟨181,[1,0,1,1,0,1,0],none,[.any,.any,.any,.bool,.ptr 0 0,.any,.any,.any,.ptr 1 0,.any,.any,.any,.any,.any,.any,.any,.any,.any,.any,.any,.any,.any,.any,.any,.rows ZAG false,.int .i64,.int .i64],25⟩,[],[.dat 30 ZAT,.dat 30 ZAT],0⟩
@[reducible] noncomputable def ZL7 (k:Bool→(List ZAA)→Int→Int→ZAF→ZAF→Option (ZAF×Unit)):ZC9 ZL6→Option (ZAF×Unit):=fun x=>k x.1.2.2.2.1 x.1.2.2.2.2.2.2.2.2.2.2.2.2.2.2.2.2.2.2.2.2.2.2.2.2.1 x.1.2.2.2.2.2.2.2.2.2.2.2.2.2.2.2.2.2.2.2.2.2.2.2.2.2.1 x.1.2.2.2.2.2.2.2.2.2.2.2.2.2.2.2.2.2.2.2.2.2.2.2.2.2.2.1 x.2.2.1 x.2.2.2.1
noncomputable def Zm4 (k0:Bool→(List ZAA)→Int→Int→ZAF→ZAF→Option (ZAF×Unit)) (b16:Bool) (l17:(List ZAA)) (i18:Int) (i19:Int) (d20:ZAF) (d21:ZAF):Option (ZAF×Unit) :=
 let b22:Bool:=(decide (i19<i18))
 bif b22 then
  bif (decide (((0:Int)≤i19)∧(i19<(((List.length l17):Nat):Int)))) then
   let x23:ZAA:=(List.getD l17 (Int.toNat i19) (Ty.dflt ZAG))
   ZAX (ZS3 d20.2.2.2.2.1 x23) fun y24=>
   let n25:Int:=(Go.IntKind.wrap Go.IntKind.i64 (i19+(1:Int)))
   k0 b16 l17 i18 n25 (d20.1,(d20.2.1,(d20.2.2.1,(d20.2.2.2.1,(y24.1,d20.2.2.2.2.2))))) d21
  else none
 else
  ZQx b16 d20 d21
noncomputable def ZVw:Nat→Bool→(List ZAA)→Int→Int→ZAF→ZAF→Option (ZAF×Unit)
 | 0=>fun _ _ _ _ _ _=>none
 | m+1=>Zm4 (ZVw m)
noncomputable def ZcV (b16:Bool) (l17:(List ZAA)) (i18:Int) (i19:Int) (d20:ZAF) (d21:ZAF):Option (ZAF×Unit):=ZVw (Int.toNat (i18 - i19)+2) b16 l17 i18 i19 d20 d21
theorem ZaI : ∃ f,f = @ZcV:=⟨_,rfl⟩
noncomputable def ZSv:=Classical.choose ZaI
theorem Zj2 : @ZSv = @ZcV:=Classical.choose_spec ZaI
theorem Zm5 {base S0 cs0} (hfin:ZMy base S0) : ∀ m,ZcT base S0 cs0 ZL6 (ZL7 (ZVw m)) :=
 ZAb.loop' hfin.2 ZZO 100000 ZL7 (fun k0=>cut ZL6 (ZL7 k0) (ZWp)) (fun k0 h0=>ZAH.cut (Zei hfin) (Nat.le_of_eq hfin.1) h0) (ZVw) (by intro x;rfl) (by intro m x;kernel_rfl)
theorem Zl8 {base S0 cs0} (hfin:ZMy base S0):ZcT base S0 cs0 ZL6 (ZL7 (ZSv)):=by
 rw [Zj2];exact fun x r hx=>Zm5 hfin _ x r hx
noncomputable def Zej:Cfg→Option (Option (ZAF×Unit)):=cut ZL6 (ZL7 (ZSv)) (ZWp)
theorem Zm6 {base S0 cs0} (hfin:ZMy base S0):Zi8 base S0 cs0 (Zej):=ZAH.cut (Zei hfin) (Nat.le_of_eq hfin.1) (Zl8 hfin)
noncomputable def ZcW (a0:ZAF) (a1:Int) (a2:Int) (a3:Bool):Option (ZAF×Unit) :=
 let s4:ByteArray:=(ByteArray.mk (List.toArray ([]:List UInt8)))
 ZAX (ZGC a0 a1 a2) fun y5=>
 bif y5.2.1 then
  ZAX (ZTd a0.2.2.2.1 y5.1) fun y6=>
  let n7:Int:=(((List.length y6.1):Nat):Int)
  ZSv a3 y6.1 n7 (0:Int) a0 ((0:Int),((0:Int),(s4,(([]:List ZAA),(([]:List ZAA),(false,(false,(false,()))))))))
 else
  ZQx a3 a0 ((0:Int),((0:Int),(s4,(([]:List ZAA),(([]:List ZAA),(false,(false,(false,()))))))))
theorem ZhP : ∃ f,f = @ZcW:=⟨_,rfl⟩
noncomputable def ZiT:=Classical.choose ZhP
theorem ZpG : @ZiT = @ZcW:=Classical.choose_spec ZhP
noncomputable def ZZP:Con:=⟨[ZAT,(.int .u64),(.int .i64),.bool],ZIA,fun x=>ZcW x.1 x.2.1 x.2.2.1 x.2.2.2.1⟩
noncomputable def ZVx:Con:=⟨[ZAT,(.int .u64),(.int .i64),.bool],ZIA,fun x=>ZiT x.1 x.2.1 x.2.2.1 x.2.2.2.1⟩
theorem Zj3:ZZP.Sound prog Inv ZAq 181 :=
 ZAm (M:=ZcS) ZBo (f:=f181) rfl ZZO 100000 (X:=Zej) (fun base S0 cs0 hn hf=>have hfin:ZMy base S0:=⟨hn,hf⟩;Zm6 hfin) (by intro x;kernel_rfl)
theorem Zl9:ZVx.Sound prog Inv ZAq 181:=by
 have e:ZVx=ZZP:=by unfold ZVx ZZP;rw [ZpG]
 rw [e];exact Zj3
noncomputable def ZpH:Mach prog Inv ZAq:=ZFE bas [(30,f30),(98,f98),(99,f99),(100,f100),(101,f101),(102,f102),(103,f103)] ⟨Zzz,Z0A,Z0B,Zza,Zzb,Zzc,Zzd,trivial⟩ [(158,ZIs),(181,ZVx)] ⟨⟨ZPb,ZAa.callable Zvg⟩,⟨Zl9,ZAa.callable ZyL⟩,trivial⟩ [] trivial [] trivial
/-! ### domino/stream.Lost -/
@[reducible] def ZhQ:List Ty:=[ZAJ]
def Zm7:List Nat:=[30,98,99,100,101,102,103]
noncomputable def ZSw (a0:ZAB) (a1:ZAC):Option (ZAB×Unit) :=
 let s2:ByteArray:=(ByteArray.mk (List.toArray ([]:List UInt8)))
 let s3:ByteArray:=(ByteArray.mk (List.toArray ([]:List UInt8)))
 bif (decide ((((Zn0 ((((([]:List Int)++((8:Int)::([]:List Int)))++((4:Int)::([]:List Int)))++((5:Int)::([]:List Int)))++((17:Int)::([]:List Int))) a1.1):Nat):Int)=(0:Int))) then
  let b4:Bool:=(!a0.2.2.2.2.1)
  bif b4 then
   let n5:Int:=(((ByteArray.size a1.2.2.2.2.2.2.2.2.2.1):Nat):Int)
   ZAX (ZiT a0.1 a1.2.2.1 n5 a1.2.2.2.2.2.2.2.2.1) fun y6=>
   some ((y6.1,a0.2),())
  else
   some (a0,())
 else
  bif (decide ((((Zn0 ((((([]:List Int)++((8:Int)::([]:List Int)))++((4:Int)::([]:List Int)))++((5:Int)::([]:List Int)))++((17:Int)::([]:List Int))) a1.1):Nat):Int)=(1:Int))) then
   bif a0.2.2.2.2.2.1 then
    some ((a0.1,(a0.2.1,(a0.2.2.1,(a0.2.2.2.1,(a0.2.2.2.2.1,(true,a0.2.2.2.2.2.2)))))),())
   else
    let b7:Bool:=(!a0.2.2.2.2.2.2.1)
    some ((a0.1,(a0.2.1,(a0.2.2.1,(a0.2.2.2.1,(a0.2.2.2.2.1,(b7,a0.2.2.2.2.2.2)))))),())
  else
   bif (decide ((((Zn0 ((((([]:List Int)++((8:Int)::([]:List Int)))++((4:Int)::([]:List Int)))++((5:Int)::([]:List Int)))++((17:Int)::([]:List Int))) a1.1):Nat):Int)=(2:Int))) then
    bif a0.2.2.2.2.2.2.2.2.2.2.2.2.2.2.1 then
     some ((a0.1,(a0.2.1,(a0.2.2.1,(a0.2.2.2.1,(a0.2.2.2.2.1,(a0.2.2.2.2.2.1,(a0.2.2.2.2.2.2.1,(a0.2.2.2.2.2.2.2.1,(a0.2.2.2.2.2.2.2.2.1,(a0.2.2.2.2.2.2.2.2.2.1,(a0.2.2.2.2.2.2.2.2.2.2.1,(a0.2.2.2.2.2.2.2.2.2.2.2.1,(a0.2.2.2.2.2.2.2.2.2.2.2.2.1,(a0.2.2.2.2.2.2.2.2.2.2.2.2.2.1,(true,()))))))))))))))),())
    else
     let b8:Bool:=(!a0.2.2.2.2.2.2.2.2.2.2.2.1)
     bif b8 then
      ZAX (ZMq a0.2.2.2.2.2.2.2.1) fun y9=>
      let b10:Bool:=(!y9.2.1)
      some ((a0.1,(a0.2.1,(a0.2.2.1,(a0.2.2.2.1,(a0.2.2.2.2.1,(a0.2.2.2.2.2.1,(a0.2.2.2.2.2.2.1,(a0.2.2.2.2.2.2.2.1,(a0.2.2.2.2.2.2.2.2.1,(a0.2.2.2.2.2.2.2.2.2.1,(a0.2.2.2.2.2.2.2.2.2.2.1,(a0.2.2.2.2.2.2.2.2.2.2.2.1,(a0.2.2.2.2.2.2.2.2.2.2.2.2.1,(a0.2.2.2.2.2.2.2.2.2.2.2.2.2.1,(b10,()))))))))))))))),())
     else
      some ((a0.1,(a0.2.1,(a0.2.2.1,(a0.2.2.2.1,(a0.2.2.2.2.1,(a0.2.2.2.2.2.1,(a0.2.2.2.2.2.2.1,(a0.2.2.2.2.2.2.2.1,(a0.2.2.2.2.2.2.2.2.1,(a0.2.2.2.2.2.2.2.2.2.1,(a0.2.2.2.2.2.2.2.2.2.2.1,(a0.2.2.2.2.2.2.2.2.2.2.2.1,(a0.2.2.2.2.2.2.2.2.2.2.2.2.1,(a0.2.2.2.2.2.2.2.2.2.2.2.2.2.1,(false,()))))))))))))))),())
   else
    bif (decide ((((Zn0 ((((([]:List Int)++((8:Int)::([]:List Int)))++((4:Int)::([]:List Int)))++((5:Int)::([]:List Int)))++((17:Int)::([]:List Int))) a1.1):Nat):Int)=(3:Int))) then
     bif a0.2.2.2.2.2.2.2.2.2.2.1 then
      some ((a0.1,(a0.2.1,(a0.2.2.1,(a0.2.2.2.1,(a0.2.2.2.2.1,(a0.2.2.2.2.2.1,(a0.2.2.2.2.2.2.1,(a0.2.2.2.2.2.2.2.1,(a0.2.2.2.2.2.2.2.2.1,(a0.2.2.2.2.2.2.2.2.2.1,(true,a0.2.2.2.2.2.2.2.2.2.2.2))))))))))),())
     else
      let b11:Bool:=(a1.2.2.2.1==a0.2.2.2.2.2.2.2.2.2.1)
      bif b11 then
       let b12:Bool:=(!a0.2.2.2.2.2.2.2.1.2.2.2.1)
       some ((a0.1,(a0.2.1,(a0.2.2.1,(a0.2.2.2.1,(a0.2.2.2.2.1,(a0.2.2.2.2.2.1,(a0.2.2.2.2.2.2.1,(a0.2.2.2.2.2.2.2.1,(a0.2.2.2.2.2.2.2.2.1,(a0.2.2.2.2.2.2.2.2.2.1,(b12,a0.2.2.2.2.2.2.2.2.2.2.2))))))))))),())
      else
       some ((a0.1,(a0.2.1,(a0.2.2.1,(a0.2.2.2.1,(a0.2.2.2.2.1,(a0.2.2.2.2.2.1,(a0.2.2.2.2.2.2.1,(a0.2.2.2.2.2.2.2.1,(a0.2.2.2.2.2.2.2.2.1,(a0.2.2.2.2.2.2.2.2.2.1,(false,a0.2.2.2.2.2.2.2.2.2.2.2))))))))))),())
    else
     bif (decide ((((Zn0 ((((([]:List Int)++((8:Int)::([]:List Int)))++((4:Int)::([]:List Int)))++((5:Int)::([]:List Int)))++((17:Int)::([]:List Int))) a1.1):Nat):Int)=(4:Int))) then
      some (a0,())
     else
      none
theorem Zek : ∃ f,f = @ZSw:=⟨_,rfl⟩
noncomputable def ZUW:=Classical.choose Zek
theorem Zel : @ZUW = @ZSw:=Classical.choose_spec Zek
noncomputable def ZWq:Con:=⟨[ZAJ,ZAN],ZhQ,fun x=>ZSw x.1 x.2.1⟩
noncomputable def ZSx:Con:=⟨[ZAJ,ZAN],ZhQ,fun x=>ZUW x.1 x.2.1⟩
theorem ZiU:ZWq.Sound prog Inv ZAq 30 :=
 ZAm (M:=ZpH) ZBo (f:=f30) rfl Zm7 100000 (X:=nowhere) (fun base S0 cs0 hn hf=>ZAH.nowhere) (by intro x;kernel_rfl)
theorem Zj4:ZSx.Sound prog Inv ZAq 30:=by
 have e:ZSx=ZWq:=by unfold ZSx ZWq;rw [Zel]
 rw [e];exact ZiU
noncomputable def ZZQ:Mach prog Inv ZAq:=ZFE bas [(182,f182),(214,f214)] ⟨ZyM,Zzg,trivial⟩ [(85,ZMf),(170,ZDT),(171,ZQH)] ⟨⟨ZTU,ZAa.callable ZzE⟩,⟨ZIO,ZAa.callable Zvh⟩,⟨Za9,ZAa.callable Zw6⟩,trivial⟩ [] trivial [] trivial
/-! ### domino/sendq.Acked -/
@[reducible] def ZGU:List Ty:=[ZAT]
def ZL8:List Nat:=[182,214]
abbrev ZE1 (base:Base) (S0:Nat→Prop):=base.n=0∧FinOk (Zdd ZGU) base S0 (ZFg ZGU S0)
abbrev ZSy (base:Base) (S0:Nat→Prop) (cs0:List Go.Frame) (p:CPat) (J:ZC9 p→Option (ZFC ZGU)):=ZAb ZZQ base S0 cs0 (ZFg ZGU S0) p J
abbrev ZSz (base:Base) (S0:Nat→Prop) (cs0:List Go.Frame) (X:Cfg→Option (Option (ZFC ZGU))):=ZAH ZZQ base S0 cs0 (ZFg ZGU S0) X
@[reducible] noncomputable def ZUX:CPat:=⟨⟨182,[1,1,1,0,1,1],none,[.any,.any,.any,.any,.any,.any,.any,.any,.ptr 0 0,.ptr 1 0],60⟩,[],[.dat 30 ZAT,.dat 285 ZAT],0⟩
@[reducible] noncomputable def ZcX (k:ZAF→ZAF→Option (ZAF×Unit)):ZC9 ZUX→Option (ZAF×Unit):=fun x=>k x.2.2.1 x.2.2.2.1
noncomputable def ZcY (d26:ZAF) (d27:ZAF):Option (ZAF×Unit) :=
 some (d27,())
theorem ZaJ : ∃ f,f = @ZcY:=⟨_,rfl⟩
noncomputable def ZOV:=Classical.choose ZaJ
theorem Zj5 : @ZOV = @ZcY:=Classical.choose_spec ZaJ
theorem ZmA {base S0 cs0} (hfin:ZE1 base S0):ZSy base S0 cs0 ZUX (ZcX (ZOV)) :=
 ZAb.join hfin.2 (ZAH.nowhere) ZL8 100000 (by rw [Zj5];intro x;kernel_rfl)
noncomputable def ZcZ:Cfg→Option (Option (ZAF×Unit)):=cut ZUX (ZcX (ZOV)) (nowhere)
theorem Zca {base S0 cs0} (hfin:ZE1 base S0):ZSz base S0 cs0 (ZcZ):=ZAH.cut (ZAH.nowhere) (Nat.le_of_eq hfin.1) (ZmA hfin)
@[reducible] noncomputable def ZUY:CPat:=⟨⟨182,[1,1,1],none,[.any,.any,.any,.bool,.any,.any,.any,.any,.ptr 0 0,.ptr 1 0],60⟩,[],[.dat 30 ZAT,.dat 285 ZAT],0⟩
@[reducible] noncomputable def Zcb (k:Bool→ZAF→ZAF→Option (ZAF×Unit)):ZC9 ZUY→Option (ZAF×Unit):=fun x=>k x.1.2.2.2.1 x.2.2.1 x.2.2.2.1
noncomputable def Zcc (b23:Bool) (d24:ZAF) (d25:ZAF):Option (ZAF×Unit) :=
 bif b23 then
  bif d25.2.2.2.2.2.1 then
   some ((d25.1,(d25.2.1,(d25.2.2.1,(d25.2.2.2.1,(d25.2.2.2.2.1,(d25.2.2.2.2.2.1,(false,(true,())))))))),())
  else
   ZOV d24 d25
 else
  ZOV d24 d25
theorem ZaK : ∃ f,f = @Zcc:=⟨_,rfl⟩
noncomputable def ZOW:=Classical.choose ZaK
theorem Zj6 : @ZOW = @Zcc:=Classical.choose_spec ZaK
theorem ZmB {base S0 cs0} (hfin:ZE1 base S0):ZSy base S0 cs0 ZUY (Zcb (ZOW)) :=
 ZAb.join hfin.2 (Zca hfin) ZL8 100000 (by rw [Zj6];intro x;kernel_rfl)
noncomputable def Zcd:Cfg→Option (Option (ZAF×Unit)):=cut ZUY (Zcb (ZOW)) (ZcZ)
theorem Zce {base S0 cs0} (hfin:ZE1 base S0):ZSz base S0 cs0 (Zcd):=ZAH.cut (Zca hfin) (Nat.le_of_eq hfin.1) (ZmB hfin)
@[reducible] noncomputable def ZUZ:CPat:=⟨⟨182,[1,1,0,1,1,0,1],(some 2),[.any,.any,.any,.bool,.any,.any,.any,.any,.ptr 0 0,.ptr 1 0],60⟩,[],[.dat 30 ZAT,.dat 285 ZAT],0⟩
@[reducible] noncomputable def Zcf (k:Bool→ZAF→ZAF→Option (ZAF×Unit)):ZC9 ZUZ→Option (ZAF×Unit):=fun x=>k x.1.2.2.2.1 x.2.2.1 x.2.2.2.1
noncomputable def Zcg (b20:Bool) (d21:ZAF) (d22:ZAF):Option (ZAF×Unit) :=
 ZOW b20 d21 d22
theorem ZaL : ∃ f,f = @Zcg:=⟨_,rfl⟩
noncomputable def ZOX:=Classical.choose ZaL
theorem Zj7 : @ZOX = @Zcg:=Classical.choose_spec ZaL
theorem ZmC {base S0 cs0} (hfin:ZE1 base S0):ZSy base S0 cs0 ZUZ (Zcf (ZOX)) :=
 ZAb.join hfin.2 (Zce hfin) ZL8 100000 (by rw [Zj7];intro x;kernel_rfl)
noncomputable def Zch:Cfg→Option (Option (ZAF×Unit)):=cut ZUZ (Zcf (ZOX)) (Zcd)
theorem Zci {base S0 cs0} (hfin:ZE1 base S0):ZSz base S0 cs0 (Zch):=ZAH.cut (Zce hfin) (Nat.le_of_eq hfin.1) (ZmC hfin)
@[reducible] noncomputable def ZUa:CPat:=⟨⟨214,[0,1,0],none,[],67⟩,[⟨182,[1,1,0,1,1,0,1],(some 1),[.any,.any,.any,.bool,.any,.any,.any,.any,.ptr 0 0,.ptr 1 0],60⟩],[.dat 30 ZAT,.dat 285 ZAT],0⟩
@[reducible] noncomputable def Zcj (k:Bool→ZAF→ZAF→Option (ZAF×Unit)):ZC9 ZUa→Option (ZAF×Unit):=fun x=>k x.2.1.1.2.2.2.1 x.2.2.1 x.2.2.2.1
noncomputable def Zck (b12:Bool) (d13:ZAF) (d14:ZAF):Option (ZAF×Unit) :=
 ZOX b12 d13 d14
theorem ZaM : ∃ f,f = @Zck:=⟨_,rfl⟩
noncomputable def ZOY:=Classical.choose ZaM
theorem Zj8 : @ZOY = @Zck:=Classical.choose_spec ZaM
theorem ZmD {base S0 cs0} (hfin:ZE1 base S0):ZSy base S0 cs0 ZUa (Zcj (ZOY)) :=
 ZAb.join hfin.2 (Zci hfin) ZL8 100000 (by rw [Zj8];intro x;kernel_rfl)
noncomputable def Zcl:Cfg→Option (Option (ZAF×Unit)):=cut ZUa (Zcj (ZOY)) (Zch)
theorem ZmE {base S0 cs0} (hfin:ZE1 base S0):ZSz base S0 cs0 (Zcl):=ZAH.cut (Zci hfin) (Nat.le_of_eq hfin.1) (ZmD hfin)
noncomputable def ZZR (a0:ZAF) (a1:Int) (a2:Int) (a3:Bool):Option (ZAF×Unit) :=
 let s4:ByteArray:=(ByteArray.mk (List.toArray ([]:List UInt8)))
 ZAX (ZGC a0 a1 a2) fun y5=>
 bif y5.2.1 then
  ZAX (ZS3 a0.2.2.2.1 y5.1) fun y6=>
  ZAX (ZXY a0.2.2.2.2.1 y5.1) fun y7=>
  let n8:Int:=(((List.length y6.1):Nat):Int)
  let b9:Bool:=(n8==(0:Int))
  bif b9 then
   ZOY a3 ((0:Int),((0:Int),(s4,(([]:List ZAA),(([]:List ZAA),(false,(false,(false,())))))))) (a0.1,(a0.2.1,(a0.2.2.1,(y6.1,(y7.1,a0.2.2.2.2.2)))))
  else
   bif (decide (((0:Int)≤(0:Int))∧((0:Int)<(((List.length y6.1):Nat):Int)))) then
    let x10:ZAA:=(List.getD y6.1 0 (Ty.dflt ZAG))
    let b11:Bool:=(decide (x10.1>a0.1))
    bif b11 then
     ZOY a3 ((0:Int),((0:Int),(s4,(([]:List ZAA),(([]:List ZAA),(false,(false,(false,())))))))) (a0.1,(a0.2.1,(a0.2.2.1,(y6.1,(y7.1,a0.2.2.2.2.2)))))
    else
     bif (decide (((0:Int)≤(0:Int))∧((0:Int)<(((List.length y6.1):Nat):Int)))) then
      let x15:ZAA:=(List.getD y6.1 0 (Ty.dflt ZAG))
      let n16:Int:=(Go.IntKind.wrap Go.IntKind.u64 (x15.2.1+(1:Int)))
      let n17:Int:=(Go.IntKind.wrap Go.IntKind.u64 (n16 - a0.1))
      bif (decide (((0:Int)≤n17)∧((n17≤(((ByteArray.size a0.2.2.1):Nat):Int))∧((((ByteArray.size a0.2.2.1):Nat):Int)≤(((ByteArray.size a0.2.2.1):Nat):Int))))) then
       let s18:ByteArray:=(ByteArray.extract a0.2.2.1 (Int.toNat n17) (Int.toNat (((ByteArray.size a0.2.2.1):Nat):Int)))
       bif (decide (((0:Int)≤(1:Int))∧(((1:Int)≤(((List.length y6.1):Nat):Int))∧(((((List.length y6.1):Nat):Int)≤(((List.length y6.1):Nat):Int))∧(((((List.length y6.1):Nat):Int)≤(((List.length y6.1):Nat):Int))∧((true=true)∧(true=true))))))) then
        let l19:(List ZAA):=(List.take ((Int.toNat (((List.length y6.1):Nat):Int)) - 1) (List.drop 1 y6.1))
        ZOX a3 ((0:Int),((0:Int),(s4,(([]:List ZAA),(([]:List ZAA),(false,(false,(false,())))))))) (n16,(a0.2.1,(s18,(l19,(y7.1,a0.2.2.2.2.2)))))
       else none
      else none
     else none
   else none
 else
  ZOW a3 ((0:Int),((0:Int),(s4,(([]:List ZAA),(([]:List ZAA),(false,(false,(false,())))))))) a0
theorem Zem : ∃ f,f = @ZZR:=⟨_,rfl⟩
noncomputable def ZfQ:=Classical.choose Zem
theorem Zm8 : @ZfQ = @ZZR:=Classical.choose_spec Zem
noncomputable def ZWr:Con:=⟨[ZAT,(.int .u64),(.int .i64),.bool],ZGU,fun x=>ZZR x.1 x.2.1 x.2.2.1 x.2.2.2.1⟩
noncomputable def ZS0:Con:=⟨[ZAT,(.int .u64),(.int .i64),.bool],ZGU,fun x=>ZfQ x.1 x.2.1 x.2.2.1 x.2.2.2.1⟩
theorem ZiV:ZWr.Sound prog Inv ZAq 182 :=
 ZAm (M:=ZZQ) ZBo (f:=f182) rfl ZL8 100000 (X:=Zcl) (fun base S0 cs0 hn hf=>have hfin:ZE1 base S0:=⟨hn,hf⟩;ZmE hfin) (by intro x;kernel_rfl)
theorem Zj9:ZS0.Sound prog Inv ZAq 182:=by
 have e:ZS0=ZWr:=by unfold ZS0 ZWr;rw [Zm8]
 rw [e];exact ZiV
noncomputable def Zm9:Mach prog Inv ZAq:=ZFE bas [(31,f31),(99,f99),(104,f104),(105,f105)] ⟨Zz0,Z0B,Zze,Zzf,trivial⟩ [(182,ZS0)] ⟨⟨Zj9,ZAa.callable ZyM⟩,trivial⟩ [] trivial [] trivial
/-! ### domino/stream.Acked -/
@[reducible] def Zen:List Ty:=[ZAJ]
def ZmF:List Nat:=[31,99,104,105]
noncomputable def ZP9 (a0:ZAB) (a1:ZAC):Option (ZAB×Unit) :=
 let s2:ByteArray:=(ByteArray.mk (List.toArray ([]:List UInt8)))
 let s3:ByteArray:=(ByteArray.mk (List.toArray ([]:List UInt8)))
 bif (decide ((((Zn0 ((([]:List Int)++((8:Int)::([]:List Int)))++((4:Int)::([]:List Int))) a1.1):Nat):Int)=(0:Int))) then
  let n4:Int:=(((ByteArray.size a1.2.2.2.2.2.2.2.2.2.1):Nat):Int)
  ZAX (ZfQ a0.1 a1.2.2.1 n4 a1.2.2.2.2.2.2.2.2.1) fun y5=>
  some ((y5.1,a0.2),())
 else
  bif (decide ((((Zn0 ((([]:List Int)++((8:Int)::([]:List Int)))++((4:Int)::([]:List Int))) a1.1):Nat):Int)=(1:Int))) then
   some ((a0.1,(a0.2.1,(a0.2.2.1,(a0.2.2.2.1,(a0.2.2.2.2.1,(false,(true,a0.2.2.2.2.2.2.2))))))),())
  else
   bif (decide ((((Zn0 ((([]:List Int)++((8:Int)::([]:List Int)))++((4:Int)::([]:List Int))) a1.1):Nat):Int)=(2:Int))) then
    some (a0,())
   else
    none
theorem Zcm : ∃ f,f = @ZP9:=⟨_,rfl⟩
noncomputable def ZVy:=Classical.choose Zcm
theorem Zcn : @ZVy = @ZP9:=Classical.choose_spec Zcm
noncomputable def ZUb:Con:=⟨[ZAJ,ZAN],Zen,fun x=>ZP9 x.1 x.2.1⟩
noncomputable def ZQA:Con:=⟨[ZAJ,ZAN],Zen,fun x=>ZVy x.1 x.2.1⟩
theorem ZhR:ZUb.Sound prog Inv ZAq 31 :=
 ZAm (M:=Zm9) ZBo (f:=f31) rfl ZmF 100000 (X:=nowhere) (fun base S0 cs0 hn hf=>ZAH.nowhere) (by intro x;kernel_rfl)
theorem ZiW:ZQA.Sound prog Inv ZAq 31:=by
 have e:ZQA=ZUb:=by unfold ZQA ZUb;rw [Zcn]
 rw [e];exact ZhR
noncomputable def ZMc:Mach prog Inv ZAq:=ZFE bas [(6,f6)] ⟨ok6,trivial⟩ [(15,ZIY),(16,ZH7),(22,ZOM),(23,ZKX),(25,ZKa),(30,ZSx),(31,ZQA),(32,ZQW)] ⟨⟨ZMI,ZAa.callable Zx4⟩,⟨ZJ1,ZAa.callable Zxl⟩,⟨ZaH,ZAa.callable ZzT⟩,⟨ZRQ,ZAa.callable ZzC⟩,⟨ZRb,ZAa.callable ZzD⟩,⟨Zj4,ZAa.callable Zzz⟩,⟨ZiW,ZAa.callable Zz0⟩,⟨Zbk,ZAa.callable ZzV⟩,trivial⟩ [] trivial [] trivial
/-! ### domino/dominolaw16.StreamReset -/
@[reducible] def ZCT:List Ty:=[.bool]
def ZLN:List Nat:=[6]
abbrev ZFW (base:Base) (S0:Nat→Prop):=base.n=0∧FinOk (Zdd ZCT) base S0 (ZFg ZCT S0)
abbrev ZUc (base:Base) (S0:Nat→Prop) (cs0:List Go.Frame) (p:CPat) (J:ZC9 p→Option (ZFC ZCT)):=ZAb ZMc base S0 cs0 (ZFg ZCT S0) p J
abbrev ZUd (base:Base) (S0:Nat→Prop) (cs0:List Go.Frame) (X:Cfg→Option (Option (ZFC ZCT))):=ZAH ZMc base S0 cs0 (ZFg ZCT S0) X
@[reducible] noncomputable def ZKH:CPat:=⟨⟨6,[1,1,1,1,1,1,1,1,1],none,[.any,.any,.any,.bool,.any,.any,.any,.any,.any,.any,.any,.any,.any,.ptr 0 0,.ptr 1 0],117⟩,[],[.dat 35 ZAJ,.dat 38 ZAN],0⟩
@[reducible] noncomputable def ZQy (k:Bool→ZAB→ZAC→Option (Bool×Unit)):ZC9 ZKH→Option (Bool×Unit):=fun x=>k x.1.2.2.2.1 x.2.2.1 x.2.2.2.1
noncomputable def ZKI (b44:Bool) (d45:ZAB) (d46:ZAC):Option (Bool×Unit) :=
 ZAX (ZCq d45 (4:Int) (100:Int) (1000:Int)) fun y47=>
 let s48:ByteArray:=(ByteArray.mk (List.toArray ([]:List UInt8)))
 let s49:ByteArray:=(ByteArray.mk (List.toArray ([]:List UInt8)))
 ZAX (ZVy y47.1 d46) fun y50=>
 let s51:ByteArray:=(ByteArray.mk (List.toArray ([]:List UInt8)))
 ZAX (ZUW y50.1 d46) fun y52=>
 ZAX (ZCq y52.1 (4:Int) (100:Int) (1000:Int)) fun y53=>
 let s54:ByteArray:=(ByteArray.mk (List.toArray ([]:List UInt8)))
 let s55:ByteArray:=(ByteArray.mk (List.toArray ([]:List UInt8)))
 let b56:Bool:=(y47.2.2.2.1==b44)
 bif b56 then
  let b57:Bool:=(!y47.2.2.2.1)
  bif b57 then
   let b58:Bool:=(!y53.2.2.2.1)
   bif b58 then
    some (y50.1.2.2.2.2.2.2.1,())
   else
    some (false,())
  else
   ZAX (ZS5 d46 y47.2.1) fun y59=>
   bif y59.1 then
    let b60:Bool:=(!y53.2.2.2.1)
    bif b60 then
     some (y50.1.2.2.2.2.2.2.1,())
    else
     some (false,())
   else
    some (false,())
 else
  some (false,())
theorem ZPA : ∃ f,f = @ZKI:=⟨_,rfl⟩
noncomputable def ZDr:=Classical.choose ZPA
theorem ZPB : @ZDr = @ZKI:=Classical.choose_spec ZPA
theorem Zco {base S0 cs0} (hfin:ZFW base S0):ZUc base S0 cs0 ZKH (ZQy (ZDr)) :=
 ZAb.join hfin.2 (ZAH.nowhere) ZLN 100000 (by rw [ZPB];intro x;kernel_rfl)
noncomputable def ZQz:Cfg→Option (Option (Bool×Unit)):=cut ZKH (ZQy (ZDr)) (nowhere)
theorem ZQ0 {base S0 cs0} (hfin:ZFW base S0):ZUd base S0 cs0 (ZQz):=ZAH.cut (ZAH.nowhere) (Nat.le_of_eq hfin.1) (Zco hfin)
@[reducible] noncomputable def ZKJ:CPat:=⟨⟨6,[1,0,1,0],none,[],132⟩,[],[],0⟩
@[reducible] noncomputable def ZQ1 (k:Option (Bool×Unit)):ZC9 ZKJ→Option (Bool×Unit):=fun x=>k
noncomputable def ZKK:Option (Bool×Unit) :=
 ZAX ZFT fun y9=>
 some y9
theorem ZPC : ∃ f,f = @ZKK:=⟨_,rfl⟩
noncomputable def ZDs:=Classical.choose ZPC
theorem ZPD : @ZDs = @ZKK:=Classical.choose_spec ZPC
theorem Zcp {base S0 cs0} (hfin:ZFW base S0):ZUc base S0 cs0 ZKJ (ZQ1 (ZDs)) :=
 ZAb.join hfin.2 (ZQ0 hfin) ZLN 100000 (by rw [ZPD];intro x;kernel_rfl)
noncomputable def ZQ2:Cfg→Option (Option (Bool×Unit)):=cut ZKJ (ZQ1 (ZDs)) (ZQz)
theorem Zcq {base S0 cs0} (hfin:ZFW base S0):ZUd base S0 cs0 (ZQ2):=ZAH.cut (ZQ0 hfin) (Nat.le_of_eq hfin.1) (Zcp hfin)
noncomputable def ZIe (a0:ByteArray) (a1:Int) (a2:Int) (a3:Bool):Option (Bool×Unit) :=
 let n4:Int:=(((ByteArray.size a0):Nat):Int)
 let b5:Bool:=(decide (n4>(200:Int)))
 bif b5 then
  ZDs
 else
  ZAX ZFT fun y6=>
  let b7:Bool:=(!y6.1)
  bif b7 then
   ZDs
  else
   ZAX (ZKd (1000:Int) (100:Int)) fun y10=>
   let s11:ByteArray:=(ByteArray.mk (List.toArray ([]:List UInt8)))
   ZAX (ZIN y10.1.1 a0 (500:Int)) fun y12=>
   let n13:Int:=(Go.IntKind.wrap Go.IntKind.i64 a1)
   let n14:Int:=(Int.tmod n13 (100:Int))
   let n15:Int:=(Go.IntKind.wrap Go.IntKind.i64 ((5:Int)+n14))
   ZAX (ZCq (y12.1,y10.1.2) (4:Int) n15 (1000:Int)) fun y16=>
   let s17:ByteArray:=(ByteArray.mk (List.toArray ([]:List UInt8)))
   let n18:Int:=(Go.IntKind.wrap Go.IntKind.u64 a2)
   ZAX (ZPr y16.1 n18) fun y19=>
   ZAX (ZCq y19.1 (4:Int) (100:Int) (1000:Int)) fun y20=>
   let s21:ByteArray:=(ByteArray.mk (List.toArray ([]:List UInt8)))
   let s22:ByteArray:=(ByteArray.mk (List.toArray ([]:List UInt8)))
   let b23:Bool:=(!y20.2.2.2.1)
   bif b23 then
    some (false,())
   else
    let b24:Bool:=(y20.2.1.1 != (4:Int))
    bif b24 then
     some (false,())
    else
     let b25:Bool:=(y20.2.1.2.2.2.1 != y16.2.2.1)
     bif b25 then
      some (false,())
     else
      let n26:Int:=(Go.IntKind.wrap Go.IntKind.u64 a2)
      let b27:Bool:=(y20.2.1.2.2.2.2.1 != n26)
      bif b27 then
       some (false,())
      else
       let b28:Bool:=(y20.2.2.1 != (0:Int))
       bif b28 then
        some (false,())
       else
        bif a3 then
         ZAX (ZUW y20.1 y20.2.1) fun y29=>
         ZDr a3 y29.1 y20.2.1
        else
         ZDr a3 y20.1 y20.2.1
theorem ZSE : ∃ f,f = @ZIe:=⟨_,rfl⟩
noncomputable def ZPs:=Classical.choose ZSE
theorem ZSF : @ZPs = @ZIe:=Classical.choose_spec ZSE
noncomputable def ZLO:Con:=⟨[.str,(.int .u8),(.int .u32),.bool],ZCT,fun x=>ZIe x.1 x.2.1 x.2.2.1 x.2.2.2.1⟩
noncomputable def ZCU:Con:=⟨[.str,(.int .u8),(.int .u32),.bool],ZCT,fun x=>ZPs x.1 x.2.1 x.2.2.1 x.2.2.2.1⟩
theorem ZZS:ZLO.Sound prog Inv ZAq 6 :=
 ZAm (M:=ZMc) ZBo (f:=f6) rfl ZLN 100000 (X:=ZQ2) (fun base S0 cs0 hn hf=>have hfin:ZFW base S0:=⟨hn,hf⟩;Zcq hfin) (by intro x;kernel_rfl)
theorem Zal:ZCU.Sound prog Inv ZAq 6:=by
 have e:ZCU=ZLO:=by unfold ZCU ZLO;rw [ZSF]
 rw [e];exact ZZS
end Go.Proofs.YtamaklnhjagifaaGreatDoor.V
