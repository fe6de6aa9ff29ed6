/- The law each law of the layer, part 5: what is proved: for every input that can be read the call of each law of the layer returns true and leaves its arguments alone. No conditions but the listed tables of the card. -/
import Derived.Test.YtamaklnhjagifaaGreatDoorZ4
namespace Go.Proofs.YtamaklnhjagifaaGreatDoor.V
open Go.RowKit Go.Proofs.Tryz
set_option linter.unusedVariables false
set_option maxRecDepth 100000
noncomputable def ZdR:Mach prog Inv ZAq:=ZFE bas [(170,f170)] ⟨Zvh,trivial⟩ [(84,ZDl)] ⟨⟨ZG6,ZAa.callable Zx6⟩,trivial⟩ [] trivial [] trivial
/-! ### (domino/sendq.State).window -/
@[reducible] def ZRv:List Ty:=[ZAG,.bool]
def Zba:List Nat:=[170]
noncomputable def ZG7 (a0:ZAF) (a1:Int) (a2:Int):Option (ZAA×Bool×Unit) :=
 let n3:Int:=(if (a2>(0:Int)) then a2 else (0:Int))
 let n4:Int:=(Go.IntKind.wrap Go.IntKind.u64 n3)
 let n5:Int:=(Go.IntKind.wrap Go.IntKind.u64 (a1+n4))
 ZAX (ZD4 a0) fun y6=>
 let n7:Int:=(if (y6.1<n5) then y6.1 else n5)
 let n8:Int:=(if (a0.1>a1) then a0.1 else a1)
 let n9:Int:=(Go.IntKind.wrap Go.IntKind.u64 (n7 - (1:Int)))
 let b10:Bool:=(decide (n8<n7))
 some ((n8,(n9,())),(b10,()))
theorem ZQO : ∃ f,f = @ZG7:=⟨_,rfl⟩
noncomputable def ZGC:=Classical.choose ZQO
theorem ZQP : @ZGC = @ZG7:=Classical.choose_spec ZQO
noncomputable def ZJg:Con:=⟨[ZAT,(.int .u64),(.int .i64)],ZRv,fun x=>ZG7 x.1 x.2.1 x.2.2.1⟩
noncomputable def ZDT:Con:=⟨[ZAT,(.int .u64),(.int .i64)],ZRv,fun x=>ZGC x.1 x.2.1 x.2.2.1⟩
theorem ZXr:ZJg.Sound prog Inv ZAq 170 :=
 ZAm (M:=ZdR) ZBo (f:=f170) rfl Zba 100000 (X:=nowhere) (fun base S0 cs0 hn hf=>ZAH.nowhere) (by intro x;kernel_rfl)
theorem ZIO:ZDT.Sound prog Inv ZAq 170:=by
 have e:ZDT=ZJg:=by unfold ZDT ZJg;rw [ZQP]
 rw [e];exact ZXr
noncomputable def Zbb:Mach prog Inv ZAq:=ZFE bas [(88,f88)] ⟨Zz3,trivial⟩ [(84,ZDl),(170,ZDT),(171,ZQH)] ⟨⟨ZG6,ZAa.callable Zx6⟩,⟨ZIO,ZAa.callable Zvh⟩,⟨Za9,ZAa.callable Zw6⟩,trivial⟩ [] trivial [] trivial
/-! ### domino/sendq.Sent -/
@[reducible] def ZH4:List Ty:=[ZAT]
def Zgc:List Nat:=[88]
abbrev Zbc (base:Base) (S0:Nat→Prop):=base.n=0∧FinOk (Zdd ZH4) base S0 (ZFg ZH4 S0)
abbrev ZqI (base:Base) (S0:Nat→Prop) (cs0:List Go.Frame) (p:CPat) (J:ZC9 p→Option (ZFC ZH4)):=ZAb Zbb base S0 cs0 (ZFg ZH4 S0) p J
abbrev ZqJ (base:Base) (S0:Nat→Prop) (cs0:List Go.Frame) (X:Cfg→Option (Option (ZFC ZH4))):=ZAH Zbb base S0 cs0 (ZFg ZH4 S0) X
@[reducible] noncomputable def ZWL:CPat:=⟨⟨88,[1,1],none,[.any,.int .u64,.int .i64,.bool,.ptr 0 0,.any,.any,.any,.ptr 1 0],35⟩,[],[.dat 30 ZAT,.dat 30 ZAT],0⟩
@[reducible] noncomputable def Zd8 (k:Int→Int→Bool→ZAF→ZAF→Option (ZAF×Unit)):ZC9 ZWL→Option (ZAF×Unit):=fun x=>k x.1.2.1 x.1.2.2.1 x.1.2.2.2.1 x.2.2.1 x.2.2.2.1
noncomputable def ZWM (i14:Int) (i15:Int) (b16:Bool) (d17:ZAF) (d18:ZAF):Option (ZAF×Unit) :=
 let n19:Int:=(if (i15>(0:Int)) then i15 else (0:Int))
 let n20:Int:=(Go.IntKind.wrap Go.IntKind.u64 n19)
 let n21:Int:=(Go.IntKind.wrap Go.IntKind.u64 (i14+n20))
 ZAX (ZD4 d17) fun y22=>
 let n23:Int:=(if (y22.1<n21) then y22.1 else n21)
 let n24:Int:=(if (n23>d17.2.1) then n23 else d17.2.1)
 bif d17.2.2.2.2.2.2.1 then
  let b25:Bool:=(!b16)
  some ((d17.1,(n24,(d17.2.2.1,(d17.2.2.2.1,(d17.2.2.2.2.1,(d17.2.2.2.2.2.1,(b25,d17.2.2.2.2.2.2.2))))))),())
 else
  some ((d17.1,(n24,(d17.2.2.1,(d17.2.2.2.1,(d17.2.2.2.2.1,(d17.2.2.2.2.2.1,(false,d17.2.2.2.2.2.2.2))))))),())
theorem Zbd : ∃ f,f = @ZWM:=⟨_,rfl⟩
noncomputable def ZMr:=Classical.choose Zbd
theorem Zbe : @ZMr = @ZWM:=Classical.choose_spec Zbd
theorem Zmj {base S0 cs0} (hfin:Zbc base S0):ZqI base S0 cs0 ZWL (Zd8 (ZMr)) :=
 ZAb.join hfin.2 (ZAH.nowhere) Zgc 100000 (by rw [Zbe];intro x;kernel_rfl)
noncomputable def Zd9:Cfg→Option (Option (ZAF×Unit)):=cut ZWL (Zd8 (ZMr)) (nowhere)
theorem Zmk {base S0 cs0} (hfin:Zbc base S0):ZqJ base S0 cs0 (Zd9):=ZAH.cut (ZAH.nowhere) (Nat.le_of_eq hfin.1) (Zmj hfin)
noncomputable def ZVT (a0:ZAF) (a1:Int) (a2:Int) (a3:Bool):Option (ZAF×Unit) :=
 let s4:ByteArray:=(ByteArray.mk (List.toArray ([]:List UInt8)))
 ZAX (ZGC a0 a1 a2) fun y5=>
 bif y5.2.1 then
  ZAX (ZXY a0.2.2.2.2.1 y5.1) fun y6=>
  ZMr a1 a2 a3 (a0.1,(a0.2.1,(a0.2.2.1,(a0.2.2.2.1,(y6.1,a0.2.2.2.2.2))))) ((0:Int),((0:Int),(s4,(([]:List ZAA),(([]:List ZAA),(false,(false,(false,()))))))))
 else
  ZMr a1 a2 a3 a0 ((0:Int),((0:Int),(s4,(([]:List ZAA),(([]:List ZAA),(false,(false,(false,()))))))))
theorem Zgd : ∃ f,f = @ZVT:=⟨_,rfl⟩
noncomputable def ZPe:=Classical.choose Zgd
theorem Zge : @ZPe = @ZVT:=Classical.choose_spec Zgd
noncomputable def ZYj:Con:=⟨[ZAT,(.int .u64),(.int .i64),.bool],ZH4,fun x=>ZVT x.1 x.2.1 x.2.2.1 x.2.2.2.1⟩
noncomputable def ZVU:Con:=⟨[ZAT,(.int .u64),(.int .i64),.bool],ZH4,fun x=>ZPe x.1 x.2.1 x.2.2.1 x.2.2.2.1⟩
theorem Zjg:ZYj.Sound prog Inv ZAq 88 :=
 ZAm (M:=Zbb) ZBo (f:=f88) rfl Zgc 100000 (X:=Zd9) (fun base S0 cs0 hn hf=>have hfin:Zbc base S0:=⟨hn,hf⟩;Zmk hfin) (by intro x;kernel_rfl)
theorem ZlM:ZVU.Sound prog Inv ZAq 88:=by
 have e:ZVU=ZYj:=by unfold ZVU ZYj;rw [Zge]
 rw [e];exact Zjg
noncomputable def ZqK:Mach prog Inv ZAq:=ZFE bas [(169,f169)] ⟨ZyG,trivial⟩ [(84,ZDl)] ⟨⟨ZG6,ZAa.callable Zx6⟩,trivial⟩ [] trivial [] trivial
/-! ### domino/sendq.Next -/
@[reducible] def Zio:List Ty:=[(.int .u64),.str,.bool,.bool]
def Zoj:List Nat:=[169]
noncomputable def ZVV (a0:ZAF) (a1:Int) (a2:Int):Option (Int×ByteArray×Bool×Bool×Unit) :=
 let s3:ByteArray:=(ByteArray.mk (List.toArray ([]:List UInt8)))
 let n4:Int:=(((List.length a0.2.2.2.2.1):Nat):Int)
 let b5:Bool:=(n4==(0:Int))
 bif b5 then
  bif a0.2.2.2.2.2.2.1 then
   ZAX (ZD4 a0) fun y6=>
   let s9:ByteArray:=(ByteArray.mk (List.toArray ([]:List UInt8)))
   some (y6.1,(s9,(a0.2.2.2.2.2.2.1,(a0.2.2.2.2.2.2.1,()))))
  else
   let s8:ByteArray:=(ByteArray.mk (List.toArray ([]:List UInt8)))
   some ((0:Int),(s8,(a0.2.2.2.2.2.2.1,(a0.2.2.2.2.2.2.1,()))))
 else
  bif (decide (((0:Int)≤(0:Int))∧((0:Int)<(((List.length a0.2.2.2.2.1):Nat):Int)))) then
   let x10:ZAA:=(List.getD a0.2.2.2.2.1 0 (Ty.dflt ZAG))
   let n11:Int:=(Go.IntKind.wrap Go.IntKind.u64 (x10.2.1+(1:Int)))
   let n12:Int:=(if (a1>(0:Int)) then a1 else (0:Int))
   let n13:Int:=(Go.IntKind.wrap Go.IntKind.u64 n12)
   let n14:Int:=(Go.IntKind.wrap Go.IntKind.u64 (x10.1+n13))
   let n15:Int:=(if (a2<(if (n14<n11) then n14 else n11)) then a2 else (if (n14<n11) then n14 else n11))
   let b16:Bool:=(decide (n15≤x10.1))
   bif b16 then
    let s17:ByteArray:=(ByteArray.mk (List.toArray ([]:List UInt8)))
    some ((0:Int),(s17,(false,(false,()))))
   else
    let n18:Int:=(Go.IntKind.wrap Go.IntKind.u64 (x10.1 - a0.1))
    let n19:Int:=(Go.IntKind.wrap Go.IntKind.u64 (n15 - a0.1))
    bif (decide (((0:Int)≤n18)∧((n18≤n19)∧(n19≤(((ByteArray.size a0.2.2.1):Nat):Int))))) then
     let s20:ByteArray:=(ByteArray.extract a0.2.2.1 (Int.toNat n18) (Int.toNat n19))
     bif a0.2.2.2.2.2.1 then
      bif a0.2.2.2.2.2.2.1 then
       ZAX (ZD4 a0) fun y21=>
       let b22:Bool:=(n15==y21.1)
       some (x10.1,(s20,(b22,(true,()))))
      else
       some (x10.1,(s20,(false,(true,()))))
     else
      some (x10.1,(s20,(false,(true,()))))
    else none
  else none
theorem Zgf : ∃ f,f = @ZVV:=⟨_,rfl⟩
noncomputable def Zc5:=Classical.choose Zgf
theorem Zgg : @Zc5 = @ZVV:=Classical.choose_spec Zgf
noncomputable def ZYk:Con:=⟨[ZAT,(.int .i64),(.int .u64)],Zio,fun x=>ZVV x.1 x.2.1 x.2.2.1⟩
noncomputable def ZVW:Con:=⟨[ZAT,(.int .i64),(.int .u64)],Zio,fun x=>Zc5 x.1 x.2.1 x.2.2.1⟩
theorem Zjh:ZYk.Sound prog Inv ZAq 169 :=
 ZAm (M:=ZqK) ZBo (f:=f169) rfl Zoj 100000 (X:=nowhere) (fun base S0 cs0 hn hf=>ZAH.nowhere) (by intro x;kernel_rfl)
theorem ZlN:ZVW.Sound prog Inv ZAq 169:=by
 have e:ZVW=ZYk:=by unfold ZVW ZYk;rw [Zgg]
 rw [e];exact Zjh
end Go.Proofs.YtamaklnhjagifaaGreatDoor.V
namespace Go.Proofs.YtamaklnhjagifaaGreatDoor.V
open Go.RowKit
set_option linter.unusedVariables false
def enQ (s:ZAF):Int:=s.1+((s.2.2.1.size:Nat):Int)
structure SQ (s:ZAF) (k:Nat):Prop where
 base:0≤s.1
 en:enQ s≤4611686018427387904
 top:0≤s.2.1∧s.2.1≤4611686018427387904
 acked:Plc s.2.2.2.1
 todo:Plc s.2.2.2.2.1
 ain : ∀ n,ZGV s.2.2.2.1 n→s.1≤n∧n<enQ s
 tin : ∀ n,ZGV s.2.2.2.2.1 n→s.1≤n∧n<enQ s
 al:s.2.2.2.1.length≤k
 tl:s.2.2.2.2.1.length≤k
theorem SQ.mono {s:ZAF} {k m:Nat} (h:SQ s k) (hm:k≤m):SQ s m:=⟨h.base,h.en,h.top,h.acked,h.todo,h.ain,h.tin,Nat.le_trans h.al hm,Nat.le_trans h.tl hm⟩
theorem ZuV (s:ZAF) (h0:0≤s.1) (h1:enQ s≤4611686018427387904):ZD4 s=some (enQ s,()):=by
 unfold enQ at *
 rw [ZVR,ZKW]
 rw [ZAh ((s.2.2.1.size:Nat):Int) (by omega) (by omega),ZAh _ (by omega) (by omega)]
def wrN (s:ZAF) (data:ByteArray) (room:Int):Int:=if s.2.2.2.2.2.1 then 0 else max 0 (min ((data.size:Nat):Int) (max room 0 - ((s.2.2.1.size:Nat):Int)))
theorem Zr2 (s:ZAF) (k:Nat) (h:SQ s k) (hk:k≤100000) (data:ByteArray) (room:Int) (hr:room≤1099511627776) (hd:data.size≤1099511627776) (he:enQ s+((data.size:Nat):Int)≤4611686018427387904) (hsz:s.2.2.1.size≤1099511627776) :
  (wrN s data room=0→ZIN s data room=some (s,0,()))∧(0<wrN s data room → ∃ u,ZIN s data room=some ((s.1,s.2.1,s.2.2.1++data.extract 0 (wrN s data room).toNat,s.2.2.2.1,u,s.2.2.2.2.2),wrN s data room,())∧Plc u∧(∀ n,ZGV u n↔ZGV s.2.2.2.2.1 n∨(enQ s≤n∧n<enQ s+wrN s data room))∧u.length≤s.2.2.2.2.1.length+1):=by
 have hend:=ZuV s h.base h.en
 have hb:=h.base
 have hen:=h.en
 have htl:=h.tl
 have htd:=h.todo
 have hdef:enQ s=s.1+((s.2.2.1.size:Nat):Int):=rfl
 obtain ⟨base,top,dat,ack,todo,fin,ft,fa,⟨⟩⟩:=s
 simp only at hb htl htd hsz hdef
 have e1:(if room>0 then room else 0)=max room 0:=by split <;> omega
 have w1:IntKind.wrap .i64 (max room 0 - ((dat.size:Nat):Int))=max room 0 - ((dat.size:Nat):Int):=wrap_i64 _ (by omega) (by omega)
 rw [Zd6,ZSX]
 simp only [e1,w1]
 unfold wrN
 simp only
 cases fin with
 | true=>simp only [cond_true,if_true];exact ⟨fun _=>trivial,fun h=>by omega⟩
 | false=>
  simp only [cond_false,Bool.false_eq_true,if_false]
  have e2:(if max room 0 - ((dat.size:Nat):Int)<((data.size:Nat):Int) then max room 0 - ((dat.size:Nat):Int) else ((data.size:Nat):Int))=min ((data.size:Nat):Int) (max room 0 - ((dat.size:Nat):Int)):=by split <;> omega
  rw [e2]
  generalize hm:min ((data.size:Nat):Int) (max room 0 - ((dat.size:Nat):Int))=m
  by_cases h0:m≤0
  ·
   simp only [h0,decide_true,cond_true]
   exact ⟨fun _=>trivial,fun h=>by omega⟩
  ·
   have hmx:max 0 m=m:=by omega
   rw [hmx]
   generalize enQ (base,top,dat,ack,todo,false,ft,fa,())=en at *
   have w2:IntKind.wrap .u64 m=m:=ZAh _ (by omega) (by omega)
   have w3:IntKind.wrap .u64 (en+m)=en+m:=ZAh _ (by omega) (by omega)
   have w4:IntKind.wrap .u64 (en+m - 1)=en+m - 1:=ZAh _ (by omega) (by omega)
   simp only [h0,decide_false,cond_false,hend,ZAK,w2,w3,w4]
   obtain ⟨u,u1,u2,u3,u4⟩:=ZwT todo (en,en+m - 1,()) htd.set3 (by simp only;omega) (by simp only;omega) (by simp only;omega) (by omega)
   simp only at u3
   refine ⟨fun h=>by omega,fun _=>⟨u,?_,Zr0 u2.can fun n hn => ?_,fun n => ?_,u4⟩⟩
   ·
    have c1:decide ((0:Int)≤0∧(0:Int)≤m∧m≤((data.size:Nat):Int))=true:=by simp;omega
    have c2:decide (dat.size+(data.extract 0 m.toNat).size≤9223372036854775807)=true:=by simp;omega
    simp only [u1,ZAK,c1,cond_true,c2]
   ·
    rcases (u3 n).mp hn with h | h
    · exact htd.mem h
    · omega
   ·
    rw [u3 n]
    constructor
    ·
     rintro (h | h)
     · exact .inl h
     · exact .inr (by omega)
    ·
     rintro (h | h)
     · exact .inl h
     · exact .inr (by omega)
theorem ZuW (s:ZAF):ZVS s=some ((s.1,s.2.1,s.2.2.1,s.2.2.2.1,s.2.2.2.2.1,true,s.2.2.2.2.2.2.1 || !s.2.2.2.2.2.1,s.2.2.2.2.2.2.2.1,()),()):=by
 obtain ⟨base,top,dat,ack,todo,fin,ft,fa,⟨⟩⟩:=s
 rw [ZbZ,ZPy]
 cases ft <;> rfl
def toQ (r:Int×Int×Unit) (most credit:Int):Int:=min (min (r.2.1+1) (r.1+max 0 most)) credit
def ZUl (s:ZAF) (most credit:Int):Int×ByteArray×Bool×Bool×Unit:=match s.2.2.2.2.1 with
 | []=>(if s.2.2.2.2.2.2.1 then enQ s else 0,⟨#[]⟩,s.2.2.2.2.2.2.1,s.2.2.2.2.2.2.1,())
 | r::_=>if toQ r most credit≤r.1 then (0,⟨#[]⟩,false,false,())
  else (r.1,s.2.2.1.extract (r.1 - s.1).toNat (toQ r most credit - s.1).toNat,s.2.2.2.2.2.1&&(s.2.2.2.2.2.2.1&&(toQ r most credit==enQ s)),true,())
theorem Zyp (s:ZAF) (k:Nat) (h:SQ s k) (most credit:Int) (hm:most≤4611686018427387904) (hc:0≤credit∧credit<18446744073709551616):Zc5 s most credit=some (ZUl s most credit):=by
 have hend:=ZuV s h.base h.en
 have hb:=h.base
 have hen:=h.en
 have htd:=h.todo
 have hti:=h.tin
 have hdef:enQ s=s.1+((s.2.2.1.size:Nat):Int):=rfl
 obtain ⟨base,top,dat,ack,todo,fin,ft,fa,⟨⟩⟩:=s
 simp only at hb htd hti hdef
 rw [Zgg,ZVV]
 unfold ZUl
 cases todo with
 | nil=>
  simp only [List.length_nil,Int.natCast_zero,beq_self_eq_true,cond_true,hend,ZAK]
  cases ft <;> rfl
 | cons r todo=>
  have hf:=htd.can.head
  have hr:=htd.rng r List.mem_cons_self
  have k1:=hti r.1 ⟨r,List.mem_cons_self,Int.le_refl _,hf⟩
  have k2:=hti r.2.1 ⟨r,List.mem_cons_self,hf,Int.le_refl _⟩
  have c1:((((r::todo).length:Nat):Int)==0)=false:=beq_false_of_ne (by simp;omega)
  have c2:decide ((0:Int)≤0∧(0:Int)<(((r::todo).length:Nat):Int))=true:=by simp
  have g0:(r::todo).getD 0 (Ty.dflt ZAG)=r:=rfl
  have e1:(if most>0 then most else 0)=max 0 most:=by split <;> omega
  have w1:IntKind.wrap .u64 (r.2.1+1)=r.2.1+1:=ZAh _ (by omega) (by omega)
  have w2:IntKind.wrap .u64 (max 0 most)=max 0 most:=ZAh _ (by omega) (by omega)
  have w3:IntKind.wrap .u64 (r.1+max 0 most)=r.1+max 0 most:=ZAh _ (by omega) (by omega)
  have e2:(if credit<(if r.1+max 0 most<r.2.1+1 then r.1+max 0 most else r.2.1+1) then credit else (if r.1+max 0 most<r.2.1+1 then r.1+max 0 most else r.2.1+1))=toQ r most credit:=by
   unfold toQ
   split <;> split <;> omega
  have hto:toQ r most credit≤r.2.1+1:=by unfold toQ;omega
  simp only [c1,cond_false,c2,cond_true,g0,e1,w1,w2,w3,e2]
  generalize toQ r most credit=to at *
  by_cases hle:to≤r.1
  · simp only [hle,decide_true,cond_true,if_true]
  ·
   generalize enQ (base,top,dat,ack,r::todo,fin,ft,fa,())=en at *
   have w4:IntKind.wrap .u64 (r.1 - base)=r.1 - base:=ZAh _ (by omega) (by omega)
   have w5:IntKind.wrap .u64 (to - base)=to - base:=ZAh _ (by omega) (by omega)
   have c3:decide ((0:Int)≤r.1 - base∧r.1 - base≤to - base∧to - base≤((dat.size:Nat):Int))=true:=by simp;omega
   simp only [hle,decide_false,cond_false,if_false,w4,w5,c3,cond_true,hend,ZAK]
   cases fin <;> cases ft <;> rfl
theorem ZuX (s:ZAF) (k:Nat) (h:SQ s k) (hk:k≤100000) (off n:Int) (fin:Bool) (ho:0≤off∧off≤4611686018427387904) (hn:0≤n∧n≤1099511627776) :
  ∃ u,ZPe s off n fin=some ((s.1,max s.2.1 (min (off+n) (enQ s)),s.2.2.1,s.2.2.2.1,u,s.2.2.2.2.2.1,s.2.2.2.2.2.2.1 && !fin,s.2.2.2.2.2.2.2.1,()),())∧Plc u∧(∀ m,ZGV u m↔ZGV s.2.2.2.2.1 m ∧ ¬ (off≤m∧m<off+n))∧u.length≤s.2.2.2.2.1.length+1:=by
 have hb:=h.base
 have hen:=h.en
 have htd:=h.todo
 have hti:=h.tin
 have htl:=h.tl
 have htp:=h.top
 have hendS:=fun x:RS=>ZuV (s.1,s.2.1,s.2.2.1,s.2.2.2.1,x,s.2.2.2.2.2) h.base h.en
 have hx : ∀ x:RS,enQ (s.1,s.2.1,s.2.2.1,s.2.2.2.1,x,s.2.2.2.2.2)=enQ s:=fun _=>rfl
 obtain ⟨base,top,dat,ack,todo,fn,ft,fa,⟨⟩⟩:=s
 simp only at hb htd hti htl htp hendS hx
 have e1:(if n>0 then n else 0)=n:=by split <;> omega
 have w1:IntKind.wrap .u64 n=n:=ZAh _ (by omega) (by omega)
 have w2:IntKind.wrap .u64 (off+n)=off+n:=ZAh _ (by omega) (by omega)
 generalize hE:enQ (base,top,dat,ack,todo,fn,ft,fa,())=en at *
 have e2:(if en<off+n then en else off+n)=min (off+n) en:=by split <;> omega
 have e3:(if base>off then base else off)=max base off:=by split <;> omega
 have e4:(if min (off+n) en>top then min (off+n) en else top)=max top (min (off+n) en):=by split <;> omega
 have hfin : ∀ x:RS,ZMr off n fin (base,top,dat,ack,x,fn,ft,fa,()) (0,0,ByteArray.mk (List.toArray ([]:List UInt8)),[],[],false,false,false,())=some ((base,max top (min (off+n) en),dat,ack,x,fn,ft && !fin,fa,()),()):=fun x=>by
  rw [Zbe,ZWM]
  simp only [hendS x,hx x,ZAK,e1,w1,w2,e2,e4]
  cases ft <;> rfl
 rw [Zge,ZVT,ZQP,ZG7]
 simp only [hendS todo,hx todo,ZAK,e1,w1,w2,e2,e3]
 by_cases hlt:max base off<min (off+n) en
 ·
  have w3:IntKind.wrap .u64 (min (off+n) en - 1)=min (off+n) en - 1:=ZAh _ (by omega) (by omega)
  simp only [hlt,decide_true,cond_true,w3]
  obtain ⟨u,u1,u2,u3,u4⟩:=Zym todo (max base off,min (off+n) en - 1,()) htd.set3 (by simp only;omega) (by simp only;omega) (by simp only;omega) (by omega)
  simp only at u3
  rw [u1]
  simp only [ZAK,hfin u]
  refine ⟨u,rfl,Zr0 u2.can fun m hm=>htd.mem ((u3 m).mp hm).1,fun m => ?_,u4⟩
  rw [u3 m]
  constructor
  ·
   rintro ⟨h1,h2⟩
   have:=hti m h1
   exact ⟨h1,fun h=>h2 (by omega)⟩
  ·
   rintro ⟨h1,h2⟩
   exact ⟨h1,fun h=>h2 (by omega)⟩
 ·
  simp only [hlt,decide_false,cond_false,hfin todo]
  refine ⟨todo,rfl,htd,fun m=>⟨fun h=>⟨h,fun h2 => ?_⟩,fun h=>h.1⟩,Nat.le_succ _⟩
  have:=hti m h
  omega
end Go.Proofs.YtamaklnhjagifaaGreatDoor.V
namespace Go.Proofs.YtamaklnhjagifaaGreatDoor.V
open Go.RowKit Go.Proofs.Tryz
set_option linter.unusedVariables false
set_option maxRecDepth 100000
noncomputable def Zok:Mach prog Inv ZAq:=ZFE bas [(231,f231)] ⟨ZyS,trivial⟩ [(248,ZFA)] ⟨⟨ZK8,ZAa.callable ZmU⟩,trivial⟩ [] trivial [] trivial
/-! ### domino/varint.Size -/
@[reducible] def Zgh:List Ty:=[(.int .i64)]
def Zml:List Nat:=[231]
noncomputable def ZSY (a0:Int):Option (Int×Unit) :=
 ZAX (ZD3 a0) fun y1=>
 let b2:Bool:=(decide (y1.1≤(6:Int)))
 bif b2 then
  some ((1:Int),())
 else
  ZAX (ZD3 a0) fun y3=>
  let b4:Bool:=(decide (y3.1≤(14:Int)))
  bif b4 then
   some ((2:Int),())
  else
   ZAX (ZD3 a0) fun y5=>
   let b6:Bool:=(decide (y5.1≤(30:Int)))
   bif b6 then
    some ((4:Int),())
   else
    ZAX (ZD3 a0) fun y7=>
    let b8:Bool:=(decide (y7.1≤(62:Int)))
    bif b8 then
     some ((8:Int),())
    else
     some ((0:Int),())
theorem ZeA : ∃ f,f = @ZSY:=⟨_,rfl⟩
noncomputable def ZYl:=Classical.choose ZeA
theorem ZeB : @ZYl = @ZSY:=Classical.choose_spec ZeA
noncomputable def ZWN:Con:=⟨[(.int .u64)],Zgh,fun x=>ZSY x.1⟩
noncomputable def ZSZ:Con:=⟨[(.int .u64)],Zgh,fun x=>ZYl x.1⟩
theorem ZiD:ZWN.Sound prog Inv ZAq 231 :=
 ZAm (M:=Zok) ZBo (f:=f231) rfl Zml 100000 (X:=nowhere) (fun base S0 cs0 hn hf=>ZAH.nowhere) (by intro x;kernel_rfl)
theorem Zji:ZSZ.Sound prog Inv ZAq 231:=by
 have e:ZSZ=ZWN:=by unfold ZSZ ZWN;rw [ZeB]
 rw [e];exact ZiD
noncomputable def ZXs:Mach prog Inv ZAq:=ZFE bas [(250,f250)] ⟨Zyc,trivial⟩ [] trivial [] trivial [] trivial
/-! ### math/bits.RotateLeft64 -/
@[reducible] def ZMs:List Ty:=[(.int .u64)]
def ZWO:List Nat:=[250]
noncomputable def ZCx (a0:Int) (a1:Int):Option (Int×Unit) :=
 let n2:Int:=(Go.IntKind.wrap Go.IntKind.u64 a1)
 let n3:Int:=(bits Go.BinOp.and Go.IntKind.u64 n2 (63:Int))
 bif (decide ((0:Int)≤n3)) then
  let n4:Int:=(Go.IntKind.wrap Go.IntKind.u64 (a0*((2:Int) ^ (Min.min (Int.toNat n3) 64))))
  let n5:Int:=(Go.IntKind.wrap Go.IntKind.u64 ((64:Int) - n3))
  bif (decide ((0:Int)≤n5)) then
   let n6:Int:=(Int.fdiv a0 ((2:Int) ^ (Min.min (Int.toNat n5) 64)))
   let n7:Int:=(bits Go.BinOp.or Go.IntKind.u64 n4 n6)
   some (n7,())
  else none
 else none
theorem ZLj : ∃ f,f = @ZCx:=⟨_,rfl⟩
noncomputable def ZA5:=Classical.choose ZLj
theorem ZGc : @ZA5 = @ZCx:=Classical.choose_spec ZLj
noncomputable def ZGd:Con:=⟨[(.int .u64),(.int .i64)],ZMs,fun x=>ZCx x.1 x.2.1⟩
noncomputable def ZEG:Con:=⟨[(.int .u64),(.int .i64)],ZMs,fun x=>ZA5 x.1 x.2.1⟩
theorem ZSa:ZGd.Sound prog Inv ZAq 250 :=
 ZAm (M:=ZXs) ZBo (f:=f250) rfl ZWO 100000 (X:=nowhere) (fun base S0 cs0 hn hf=>ZAH.nowhere) (by intro x;kernel_rfl)
theorem ZTp:ZEG.Sound prog Inv ZAq 250:=by
 have e:ZEG=ZGd:=by unfold ZEG ZGd;rw [ZGc]
 rw [e];exact ZSa
noncomputable def Zmm:Mach prog Inv ZAq:=ZFE bas [(232,f232)] ⟨ZyT,trivial⟩ [(250,ZEG)] ⟨⟨ZTp,ZAa.callable Zyc⟩,trivial⟩ [] trivial [] trivial
/-! ### domino/varint.split -/
@[reducible] def ZeC:List Ty:=[Zt9]
def ZlO:List Nat:=[232]
noncomputable def ZP0 (a0:Int):Option (Zpy×Unit) :=
 ZAX (ZA5 a0 (8:Int)) fun y1=>
 let n2:Int:=(Go.IntKind.wrap Go.IntKind.u8 y1.1)
 ZAX (ZA5 a0 (16:Int)) fun y3=>
 let n4:Int:=(Go.IntKind.wrap Go.IntKind.u8 y3.1)
 ZAX (ZA5 a0 (24:Int)) fun y5=>
 let n6:Int:=(Go.IntKind.wrap Go.IntKind.u8 y5.1)
 ZAX (ZA5 a0 (32:Int)) fun y7=>
 let n8:Int:=(Go.IntKind.wrap Go.IntKind.u8 y7.1)
 ZAX (ZA5 a0 (40:Int)) fun y9=>
 let n10:Int:=(Go.IntKind.wrap Go.IntKind.u8 y9.1)
 ZAX (ZA5 a0 (48:Int)) fun y11=>
 let n12:Int:=(Go.IntKind.wrap Go.IntKind.u8 y11.1)
 ZAX (ZA5 a0 (56:Int)) fun y13=>
 let n14:Int:=(Go.IntKind.wrap Go.IntKind.u8 y13.1)
 ZAX (ZA5 a0 (64:Int)) fun y15=>
 let n16:Int:=(Go.IntKind.wrap Go.IntKind.u8 y15.1)
 some ((n2,(n4,(n6,(n8,(n10,(n12,(n14,(n16,())))))))),())
theorem Zbf : ∃ f,f = @ZP0:=⟨_,rfl⟩
noncomputable def ZVX:=Classical.choose Zbf
theorem Zbg : @ZVX = @ZP0:=Classical.choose_spec Zbf
noncomputable def ZTq:Con:=⟨[(.int .u64)],ZeC,fun x=>ZP0 x.1⟩
noncomputable def ZP1:Con:=⟨[(.int .u64)],ZeC,fun x=>ZVX x.1⟩
theorem Zgi:ZTq.Sound prog Inv ZAq 232 :=
 ZAm (M:=Zmm) ZBo (f:=f232) rfl ZlO 100000 (X:=nowhere) (fun base S0 cs0 hn hf=>ZAH.nowhere) (by intro x;kernel_rfl)
theorem ZiE:ZP1.Sound prog Inv ZAq 232:=by
 have e:ZP1=ZTq:=by unfold ZP1 ZTq;rw [Zbg]
 rw [e];exact Zgi
noncomputable def ZTr:Mach prog Inv ZAq:=ZFE bas [(251,f251)] ⟨Zyd,trivial⟩ [] trivial [] trivial [] trivial
/-! ### math/bits.TrailingZeros32 -/
@[reducible] def ZJh:List Ty:=[(.int .i64)]
def ZSb:List Nat:=[251]
noncomputable def ZFK (a0:Int):Option (Int×Unit) :=
 let b1:Bool:=(a0==(0:Int))
 bif b1 then
  some ((32:Int),())
 else
  let n2:Int:=(Go.IntKind.wrap Go.IntKind.u32 ((0:Int) - a0))
  let n3:Int:=(bits Go.BinOp.and Go.IntKind.u32 a0 n2)
  let n4:Int:=(Go.IntKind.wrap Go.IntKind.u32 (n3*(125613361:Int)))
  let n5:Int:=(Int.fdiv n4 (134217728:Int))
  bif (decide (((0:Int)≤n5)∧(n5<(32:Int)))) then
   let x6:Int:=(List.getD ((0:Int)::((1:Int)::((28:Int)::((2:Int)::((29:Int)::((14:Int)::((24:Int)::((3:Int)::((30:Int)::((22:Int)::((20:Int)::((15:Int)::((25:Int)::((17:Int)::((4:Int)::((8:Int)::((31:Int)::((27:Int)::((13:Int)::((23:Int)::((21:Int)::((19:Int)::((16:Int)::((7:Int)::((26:Int)::((12:Int)::((18:Int)::((6:Int)::((11:Int)::((5:Int)::((10:Int)::((9:Int)::([]:List Int))))))))))))))))))))))))))))))))) (Int.toNat n5) (0:Int))
   let n7:Int:=(Go.IntKind.wrap Go.IntKind.i64 x6)
   some (n7,())
  else none
theorem ZJI : ∃ f,f = @ZFK:=⟨_,rfl⟩
noncomputable def ZLk:=Classical.choose ZJI
theorem ZSc : @ZLk = @ZFK:=Classical.choose_spec ZJI
noncomputable def ZEo:Con:=⟨[(.int .u32)],ZJh,fun x=>ZFK x.1⟩
noncomputable def ZDH:Con:=⟨[(.int .u32)],ZJh,fun x=>ZLk x.1⟩
theorem ZPf:ZEo.Sound prog Inv ZAq 251 :=
 ZAm (M:=ZTr) ZBo (f:=f251) rfl ZSb 100000 (X:=nowhere) (fun base S0 cs0 hn hf=>ZAH.nowhere) (by intro x;kernel_rfl)
theorem ZQQ:ZDH.Sound prog Inv ZAq 251:=by
 have e:ZDH=ZEo:=by unfold ZDH ZEo;rw [ZSc]
 rw [e];exact ZPf
noncomputable def ZTs:Mach prog Inv ZAq:=ZFE bas [(252,f252)] ⟨Zye,trivial⟩ [] trivial [] trivial [] trivial
/-! ### math/bits.TrailingZeros64 -/
@[reducible] def ZJi:List Ty:=[(.int .i64)]
def ZSd:List Nat:=[252]
noncomputable def ZDI (a0:Int):Option (Int×Unit) :=
 let b1:Bool:=(a0==(0:Int))
 bif b1 then
  some ((64:Int),())
 else
  let n2:Int:=(Go.IntKind.wrap Go.IntKind.u64 ((0:Int) - a0))
  let n3:Int:=(bits Go.BinOp.and Go.IntKind.u64 a0 n2)
  let n4:Int:=(Go.IntKind.wrap Go.IntKind.u64 (n3*(285870213051353865:Int)))
  let n5:Int:=(Int.fdiv n4 (288230376151711744:Int))
  bif (decide (((0:Int)≤n5)∧(n5<(64:Int)))) then
   let x6:Int:=(List.getD ((0:Int)::((1:Int)::((56:Int)::((2:Int)::((57:Int)::((49:Int)::((28:Int)::((3:Int)::((61:Int)::((58:Int)::((42:Int)::((50:Int)::((38:Int)::((29:Int)::((17:Int)::((4:Int)::((62:Int)::((47:Int)::((59:Int)::((36:Int)::((45:Int)::((43:Int)::((51:Int)::((22:Int)::((53:Int)::((39:Int)::((33:Int)::((30:Int)::((24:Int)::((18:Int)::((12:Int)::((5:Int)::((63:Int)::((55:Int)::((48:Int)::((27:Int)::((60:Int)::((41:Int)::((37:Int)::((16:Int)::((46:Int)::((35:Int)::((44:Int)::((21:Int)::((52:Int)::((32:Int)::((23:Int)::((11:Int)::((54:Int)::((26:Int)::((40:Int)::((15:Int)::((34:Int)::((20:Int)::((31:Int)::((10:Int)::((25:Int)::((14:Int)::((19:Int)::((9:Int)::((13:Int)::((8:Int)::((7:Int)::((6:Int)::([]:List Int))))))))))))))))))))))))))))))))))))))))))))))))))))))))))))))))) (Int.toNat n5) (0:Int))
   let n7:Int:=(Go.IntKind.wrap Go.IntKind.i64 x6)
   some (n7,())
  else none
theorem ZJJ : ∃ f,f = @ZDI:=⟨_,rfl⟩
noncomputable def ZGe:=Classical.choose ZJJ
theorem ZJK : @ZGe = @ZDI:=Classical.choose_spec ZJJ
noncomputable def ZEp:Con:=⟨[(.int .u64)],ZJi,fun x=>ZDI x.1⟩
noncomputable def ZDJ:Con:=⟨[(.int .u64)],ZJi,fun x=>ZGe x.1⟩
theorem ZPg:ZEp.Sound prog Inv ZAq 252 :=
 ZAm (M:=ZTs) ZBo (f:=f252) rfl ZSd 100000 (X:=nowhere) (fun base S0 cs0 hn hf=>ZAH.nowhere) (by intro x;kernel_rfl)
theorem ZQR:ZDJ.Sound prog Inv ZAq 252:=by
 have e:ZDJ=ZEp:=by unfold ZDJ ZEp;rw [ZJK]
 rw [e];exact ZPg
noncomputable def ZWP:Mach prog Inv ZAq:=ZFE bas [(233,f233)] ⟨ZyU,trivial⟩ [(251,ZDH),(252,ZDJ)] ⟨⟨ZQQ,ZAa.callable Zyd⟩,⟨ZQR,ZAa.callable Zye⟩,trivial⟩ [] trivial [] trivial
/-! ### math/bits.TrailingZeros -/
@[reducible] def ZLl:List Ty:=[(.int .i64)]
def ZUm:List Nat:=[233]
noncomputable def ZDu (a0:Int):Option (Int×Unit) :=
 ZAX (ZGe a0) fun y1=>
 some y1
theorem ZKg : ∃ f,f = @ZDu:=⟨_,rfl⟩
noncomputable def ZBr:=Classical.choose ZKg
theorem ZKh : @ZBr = @ZDu:=Classical.choose_spec ZKg
noncomputable def ZFk:Con:=⟨[(.int .u64)],ZLl,fun x=>ZDu x.1⟩
noncomputable def ZDv:Con:=⟨[(.int .u64)],ZLl,fun x=>ZBr x.1⟩
theorem ZRR:ZFk.Sound prog Inv ZAq 233 :=
 ZAm (M:=ZWP) ZBo (f:=f233) rfl ZUm 100000 (X:=nowhere) (fun base S0 cs0 hn hf=>ZAH.nowhere) (by intro x;kernel_rfl)
theorem ZSe:ZDv.Sound prog Inv ZAq 233:=by
 have e:ZDv=ZFk:=by unfold ZDv ZFk;rw [ZKh]
 rw [e];exact ZRR
noncomputable def ZqL:Mach prog Inv ZAq:=ZFE bas [(212,f212)] ⟨ZyQ,trivial⟩ [(231,ZSZ),(232,ZP1),(233,ZDv)] ⟨⟨Zji,ZAa.callable ZyS⟩,⟨ZiE,ZAa.callable ZyT⟩,⟨ZSe,ZAa.callable ZyU⟩,trivial⟩ [] trivial [] trivial
/-! ### domino/varint.Put -/
@[reducible] def Zip:List Ty:=[.str,(.int .i64)]
def Zol:List Nat:=[212]
noncomputable def ZVY (a0:Int):Option (ByteArray×Int×Unit) :=
 let s1:ByteArray:=(ByteArray.mk (List.toArray ([]:List UInt8)))
 ZAX (ZYl a0) fun y2=>
 let b3:Bool:=(y2.1==(0:Int))
 bif b3 then
  let s4:ByteArray:=(ByteArray.mk (List.toArray ([]:List UInt8)))
  some (s4,((1:Int),()))
 else
  ZAX (ZVX a0) fun y5=>
  let n6:Int:=(Go.IntKind.wrap Go.IntKind.i64 ((8:Int) - y2.1))
  bif (decide (((List.length (y5.1.1::(y5.1.2.1::(y5.1.2.2.1::(y5.1.2.2.2.1::(y5.1.2.2.2.2.1::(y5.1.2.2.2.2.2.1::(y5.1.2.2.2.2.2.2.1::(y5.1.2.2.2.2.2.2.2.1::([]:List Int))))))))))=8)∧(((0:Int)≤n6)∧(n6<(8:Int))))) then
   let i7:Nat:=(Int.toNat n6)
   let n8:Int:=(List.getD (y5.1.1::(y5.1.2.1::(y5.1.2.2.1::(y5.1.2.2.2.1::(y5.1.2.2.2.2.1::(y5.1.2.2.2.2.2.1::(y5.1.2.2.2.2.2.2.1::(y5.1.2.2.2.2.2.2.2.1::([]:List Int))))))))) i7 (0:Int))
   let n9:Int:=(Go.IntKind.wrap Go.IntKind.u64 y2.1)
   ZAX (ZBr n9) fun y10=>
   let n11:Int:=(Go.IntKind.wrap Go.IntKind.u8 y10.1)
   let n12:Int:=(Go.IntKind.wrap Go.IntKind.u8 (n11*(64:Int)))
   let n13:Int:=(bits Go.BinOp.or Go.IntKind.u8 n8 n12)
   bif (decide (((List.length (y5.1.1::(y5.1.2.1::(y5.1.2.2.1::(y5.1.2.2.2.1::(y5.1.2.2.2.2.1::(y5.1.2.2.2.2.2.1::(y5.1.2.2.2.2.2.2.1::(y5.1.2.2.2.2.2.2.2.1::([]:List Int))))))))))=8)∧(((0:Int)≤n6)∧(n6<(8:Int))))) then
    let i14:Nat:=(Int.toNat n6)
    let l15:(List Int):=(List.set (y5.1.1::(y5.1.2.1::(y5.1.2.2.1::(y5.1.2.2.2.1::(y5.1.2.2.2.2.1::(y5.1.2.2.2.2.2.1::(y5.1.2.2.2.2.2.2.1::(y5.1.2.2.2.2.2.2.2.1::([]:List Int))))))))) i14 n13)
    bif (decide (((List.length l15)=8)∧(((0:Int)≤n6)∧((n6≤(8:Int))∧(((8:Int)≤(8:Int))∧(n6<(8:Int))))))) then
     let o16:Nat:=(Int.toNat n6)
     let k17:Nat:=(8 - (Int.toNat n6))
     let s18:ByteArray:=(ZCK (List.take k17 (List.drop o16 l15)))
     some (s18,((0:Int),()))
    else none
   else none
  else none
theorem Zgj : ∃ f,f = @ZVY:=⟨_,rfl⟩
noncomputable def Zc6:=Classical.choose Zgj
theorem Zgk : @Zc6 = @ZVY:=Classical.choose_spec Zgj
noncomputable def ZYm:Con:=⟨[(.int .u64)],Zip,fun x=>ZVY x.1⟩
noncomputable def ZVZ:Con:=⟨[(.int .u64)],Zip,fun x=>Zc6 x.1⟩
theorem Zjj:ZYm.Sound prog Inv ZAq 212 :=
 ZAm (M:=ZqL) ZBo (f:=f212) rfl Zol 100000 (X:=nowhere) (fun base S0 cs0 hn hf=>ZAH.nowhere) (by intro x;kernel_rfl)
theorem ZlP:ZVZ.Sound prog Inv ZAq 212:=by
 have e:ZVZ=ZYm:=by unfold ZVZ ZYm;rw [Zgk]
 rw [e];exact Zjj
noncomputable def ZQS:Mach prog Inv ZAq:=ZFE bas [(213,f213)] ⟨ZFe,trivial⟩ [] trivial [] trivial [] trivial
@[reducible] noncomputable def ZHM:List Pat:=[.ptr 0 0]
@[reducible] noncomputable def ZHN:List HPat:=[.cells 168 [.nilPtr,.nilSlice]]
/-! ### (*strings.Builder).copyCheck -/
abbrev ZD5:Type:=Unit
@[reducible] noncomputable def ZHO:List Pat:=[]
@[reducible] noncomputable def ZHP:List HPat:=[.cells 168 [.ptr 0 0,.nilSlice]]
def ZPh:List Nat:=[213]
noncomputable def ZD6:Option ZD5 :=
 some ()
theorem ZHQ : ∃ f,f = @ZD6:=⟨_,rfl⟩
noncomputable def ZJL:=Classical.choose ZHQ
theorem ZPi : @ZJL = @ZD6:=Classical.choose_spec ZHQ
noncomputable def ZDm:HCon:=HCon.mk0 ZHM ZHN ZHO ZHP ZD5 (fun x=>ZD6) (fun r=>((),(((),((),())),()))) (fun y=>(())) (fun _=>rfl)
noncomputable def ZAc:HCon:=HCon.mk0 ZHM ZHN ZHO ZHP ZD5 (fun x=>ZJL) (fun r=>((),(((),((),())),()))) (fun y=>(())) (fun _=>rfl)
theorem ZM6:ZDm.Sound prog Inv ZAq 213 :=
 ZF2 (M:=ZQS) (f:=f213) rfl ZPh 100000 (X:=nowhere) (fun base S0 cs0 hn hf=>ZAH.nowhere) (by intro x;kernel_rfl)
theorem ZAn:ZAc.Sound prog Inv ZAq 213:=by
 have e:ZAc=ZDm:=by unfold ZAc ZDm;rw [ZPi]
 rw [e];exact ZM6
noncomputable def ZQT:Mach prog Inv ZAq:=ZFE bas [(213,f213)] ⟨ZFe,trivial⟩ [] trivial [] trivial [] trivial
@[reducible] noncomputable def ZHR:List Pat:=[.ptr 0 0]
@[reducible] noncomputable def ZHS:List HPat:=[.cells 168 [.nos 0 0,.all 1],.row (.byt 5)]
/-! ### (*strings.Builder).copyCheck -/
abbrev ZD7:Type:=(List Int)×Unit
@[reducible] noncomputable def ZHT:List Pat:=[]
@[reducible] noncomputable def ZHU:List HPat:=[.cells 168 [.ptr 0 0,.all 1],.row (.byt 5)]
def ZHV:List Nat:=[213]
noncomputable def ZCc (l0:(List Int)):Option ZD7 :=
 some (l0,())
theorem ZHW : ∃ f,f = @ZCc:=⟨_,rfl⟩
noncomputable def ZEq:=Classical.choose ZHW
theorem ZHX : @ZEq = @ZCc:=Classical.choose_spec ZHW
noncomputable def ZBi:HCon:=HCon.mk0 ZHR ZHS ZHT ZHU ZD7 (fun x=>ZCc x.2.2.1) (fun r=>((),(((),((),())),(r.1,())))) (fun y=>(y.2.2.1,())) (fun _=>rfl)
noncomputable def ZAd:HCon:=HCon.mk0 ZHR ZHS ZHT ZHU ZD7 (fun x=>ZEq x.2.2.1) (fun r=>((),(((),((),())),(r.1,())))) (fun y=>(y.2.2.1,())) (fun _=>rfl)
theorem ZM7:ZBi.Sound prog Inv ZAq 213 :=
 Znb (M:=ZQT) (f:=f213) rfl fun x r hxy base S0 cs0 hn=>ZuE 0 0 0 0 rfl rfl rfl (ZIf (ZoT ZBi hn S0) ZAH.nowhere (Ks:=ZHV) (n:=1000) (by refine Eq.trans (Eq.symm ?_) hxy;kernel_rfl)) (ZIf (ZoT ZBi hn S0) ZAH.nowhere (Ks:=ZHV) (n:=1000) (by refine Eq.trans (Eq.symm ?_) hxy;kernel_rfl))
theorem ZAo:ZAd.Sound prog Inv ZAq 213:=by
 have e:ZAd=ZBi:=by unfold ZAd ZBi;rw [ZHX]
 rw [e];exact ZM7
noncomputable def ZYn:Mach prog Inv ZAq:=ZFE bas [(176,f176),(93,f93),(177,f177),(213,f213)] ⟨Zq9,Zz5,ZmT,ZFe,trivial⟩ [(212,ZVZ)] ⟨⟨ZlP,ZAa.callable ZyQ⟩,trivial⟩ [] trivial [(213,ZAc),(213,ZAd)] ⟨⟨ZAn,ZAa.callable ZFe⟩,⟨ZAo,ZAa.callable ZFe⟩,trivial⟩
/-! ### domino/varint.Puts -/
@[reducible] def ZGD:List Ty:=[.str,(.int .i64)]
def ZeD:List Nat:=[176,93,177,213]
abbrev ZSf (base:Base) (S0:Nat→Prop):=base.n=0∧FinOk (Zdd ZGD) base S0 (ZFg ZGD S0)
abbrev Zgl (base:Base) (S0:Nat→Prop) (cs0:List Go.Frame) (p:CPat) (J:ZC9 p→Option (ZFC ZGD)):=ZAb ZYn base S0 cs0 (ZFg ZGD S0) p J
abbrev Zom (base:Base) (S0:Nat→Prop) (cs0:List Go.Frame) (X:Cfg→Option (Option (ZFC ZGD))):=ZAH ZYn base S0 cs0 (ZFg ZGD S0) X
@[reducible] noncomputable def ZJj:CPat:=⟨⟨176,[1,1,0,1,0],none,[.any,.any,.any,.any,.ptr 0 0,.any,.any,.any,.any,.rows (.int .u64) false,.int .i64,.int .i64],15⟩,[],[.cells 168 [.nos 0 0,.all 1],.row (.byt 5)],0⟩
@[reducible] noncomputable def ZJk (k:(List Int)→Int→Int→(List Int)→Option (ByteArray×Int×Unit)):ZC9 ZJj→Option (ByteArray×Int×Unit):=fun x=>k x.1.2.2.2.2.2.2.2.2.2.1 x.1.2.2.2.2.2.2.2.2.2.2.1 x.1.2.2.2.2.2.2.2.2.2.2.2.1 x.2.2.2.1
noncomputable def ZTt (k0:(List Int)→Int→Int→(List Int)→Option (ByteArray×Int×Unit)) (l15:(List Int)) (i16:Int) (i17:Int) (l18:(List Int)):Option (ByteArray×Int×Unit) :=
 let b19:Bool:=(decide (i17<i16))
 bif b19 then
  bif (decide (((0:Int)≤i17)∧(i17<(((List.length l15):Nat):Int)))) then
   let x20:Int:=(List.getD l15 (Int.toNat i17) (0:Int))
   ZAX (Zc6 x20) fun y21=>
   let b22:Bool:=(y21.2.1 != (0:Int))
   bif b22 then
    let s26:ByteArray:=(ByteArray.mk (List.toArray ([]:List UInt8)))
    some (s26,y21.2)
   else
    ZAX (ZEq l18) fun y27=>
    bif (decide (((List.length y27.1)+(List.length (ZA0 y21.1)))≤4294967296)) then
     let l28:(List Int):=(y27.1++(ZA0 y21.1))
     let n29:Int:=(((ByteArray.size y21.1):Nat):Int)
     let n30:Int:=(Go.IntKind.wrap Go.IntKind.i64 (i17+(1:Int)))
     k0 l15 i16 n30 l28
    else none
  else none
 else
  let s23:ByteArray:=(ByteArray.mk (List.toArray ([]:List UInt8)))
  let n24:Int:=(((List.length l18):Nat):Int)
  bif (decide ((n24=(((List.length l18):Nat):Int))∧(n24≤(4294967296:Int)))) then
   let s25:ByteArray:=(ZCK l18)
   some (s25,((0:Int),()))
  else none
noncomputable def ZIP:Nat→(List Int)→Int→Int→(List Int)→Option (ByteArray×Int×Unit)
 | 0=>fun _ _ _ _=>none
 | m+1=>ZTt (ZIP m)
noncomputable def ZRS (l15:(List Int)) (i16:Int) (i17:Int) (l18:(List Int)):Option (ByteArray×Int×Unit):=ZIP (Int.toNat (i16 - i17)+2) l15 i16 i17 l18
theorem ZXt : ∃ f,f = @ZRS:=⟨_,rfl⟩
noncomputable def ZP2:=Classical.choose ZXt
theorem ZXu : @ZP2 = @ZRS:=Classical.choose_spec ZXt
theorem ZlQ {base S0 cs0} (hfin:ZSf base S0) : ∀ m,Zgl base S0 cs0 ZJj (ZJk (ZIP m)) :=
 ZAb.loop' hfin.2 ZeD 100000 ZJk (fun k0=>cut ZJj (ZJk k0) (nowhere)) (fun k0 h0=>ZAH.cut (ZAH.nowhere) (Nat.le_of_eq hfin.1) h0) (ZIP) (by intro x;rfl) (by intro m x;kernel_rfl)
theorem Zjk {base S0 cs0} (hfin:ZSf base S0):Zgl base S0 cs0 ZJj (ZJk (ZP2)):=by
 rw [ZXu];exact fun x r hx=>ZlQ hfin _ x r hx
noncomputable def Zbh:Cfg→Option (Option (ByteArray×Int×Unit)):=cut ZJj (ZJk (ZP2)) (nowhere)
theorem ZlR {base S0 cs0} (hfin:ZSf base S0):Zom base S0 cs0 (Zbh):=ZAH.cut (ZAH.nowhere) (Nat.le_of_eq hfin.1) (Zjk hfin)
noncomputable def ZSg (a0:(List Int)):Option (ByteArray×Int×Unit) :=
 let s1:ByteArray:=(ByteArray.mk (List.toArray ([]:List UInt8)))
 let n2:Int:=(((List.length a0):Nat):Int)
 ZP2 a0 n2 (0:Int) ([]:List Int)
theorem ZeE : ∃ f,f = @ZSg:=⟨_,rfl⟩
noncomputable def ZTu:=Classical.choose ZeE
theorem ZeF : @ZTu = @ZSg:=Classical.choose_spec ZeE
noncomputable def ZWQ:Con:=⟨[(.slice (.int .u64))],ZGD,fun x=>ZSg x.1⟩
noncomputable def ZEr:Con:=⟨[(.slice (.int .u64))],ZGD,fun x=>ZTu x.1⟩
theorem ZiF:ZWQ.Sound prog Inv ZAq 176 :=
 ZAm (M:=ZYn) ZBo (f:=f176) rfl ZeD 100000 (X:=Zbh) (fun base S0 cs0 hn hf=>have hfin:ZSf base S0:=⟨hn,hf⟩;ZlR hfin) (by intro x;kernel_rfl)
theorem ZFz:ZEr.Sound prog Inv ZAq 176:=by
 have e:ZEr=ZWQ:=by unfold ZEr ZWQ;rw [ZeF]
 rw [e];exact ZiF
end Go.Proofs.YtamaklnhjagifaaGreatDoor.V
namespace Go.Proofs.YtamaklnhjagifaaGreatDoor.V
open Go.RowKit
set_option linter.unusedVariables false
def ZvC (x:Nat):Int:=if x=0 then 0 else if x<2 then 1 else if x<4 then 2 else if x<8 then 3 else if x<16 then 4 else if x<32 then 5 else if x<64 then 6 else if x<128 then 7 else 8
set_option maxRecDepth 100000 in
theorem Zni : ∀ (x:_root_.Fin 256) (j:_root_.Fin 8),ZDi (((x.val:Nat):Int)) (((8*j.val:Nat):Int))=some (((8*j.val:Nat):Int)+ZvC x.val,()):=by decide +kernel
theorem ZuY (a:Int) (j:Nat) (h0:0≤a) (h1:a<65536) (hj:j<7) :
  ZE8 a (((8*j:Nat):Int))=some (if 256≤a then ((8*j:Nat):Int)+8+ZvC (a / 256).toNat else ((8*j:Nat):Int)+ZvC a.toNat,()):=by
 rw [ZRo]
 by_cases h:256≤a
 ·
  have e1:ZDi a ((8*j:Nat):Int)=ZDi (a / 256) (((8*(j+1):Nat):Int)):=by
   have hf:Int.fdiv a 256=a / 256:=Int.fdiv_eq_ediv_of_nonneg a (by omega)
   have hw:IntKind.wrap .i64 (((8*j:Nat):Int)+8)=((8*(j+1):Nat):Int):=by rw [wrap_i64 _ (by omega) (by omega)];omega
   have hge : ¬ (a / 256≥256):=by omega
   unfold ZDi
   simp only [ge_iff_le,h,decide_true,cond_true,hf,hw]
   simp only [ge_iff_le] at hge
   simp only [hge,decide_false,cond_false]
  rw [e1,if_pos h]
  have:=Zni ⟨(a / 256).toNat,by omega⟩ ⟨j+1,by omega⟩
  simp only at this
  rw [show (((a / 256).toNat:Nat):Int)=a / 256 by omega] at this
  rw [this]
  congr 2
 ·
  rw [if_neg h]
  have:=Zni ⟨a.toNat,by omega⟩ ⟨j,by omega⟩
  simp only at this
  rw [show ((a.toNat:Nat):Int)=a by omega] at this
  exact this
def Zon (a:Int):Int:=if 256≤a then 8+ZvC (a / 256).toNat else ZvC a.toNat
def ZlS (a:Int):Int:=if 65536≤a then 16+Zon (a / 65536) else Zon a
def ZrH (a:Int):Int:=if 4294967296≤a then 32+ZlS (a / 4294967296) else ZlS a
theorem ZuZ (a:Int) (j:Nat) (h0:0≤a) (h1:a<4294967296) (hj:j<5):ZE9 a (((8*j:Nat):Int))=some (((8*j:Nat):Int)+ZlS a,()):=by
 rw [ZRq,ZMQ]
 unfold ZlS Zon
 by_cases h:65536≤a
 ·
  have hf:Int.fdiv a 65536=a / 65536:=Int.fdiv_eq_ediv_of_nonneg a (by omega)
  have hw:IntKind.wrap .i64 (((8*j:Nat):Int)+16)=((8*(j+2):Nat):Int):=by rw [wrap_i64 _ (by omega) (by omega)];omega
  simp only [ge_iff_le,h,decide_true,cond_true,hf,hw,if_true]
  rw [ZuY _ _ (by omega) (by omega) (by omega)]
  congr 2
  split <;> omega
 ·
  simp only [ge_iff_le,h,decide_false,cond_false,if_false]
  rw [ZuY _ _ h0 (by omega) (by omega)]
  congr 2
  split <;> omega
theorem Zyq (a:Int) (h0:0≤a) (h1:a<18446744073709551616):ZD3 a=some (ZrH a,()):=by
 rw [ZU8,ZKO]
 unfold ZrH
 by_cases h:4294967296≤a
 ·
  have hf:Int.fdiv a 4294967296=a / 4294967296:=Int.fdiv_eq_ediv_of_nonneg a (by omega)
  simp only [ge_iff_le,h,decide_true,cond_true,hf,if_true]
  have:=ZuZ (a / 4294967296) 4 (by omega) (by omega) (by omega)
  exact this
 ·
  simp only [ge_iff_le,h,decide_false,cond_false,if_false]
  have:=ZuZ a 0 h0 (by omega) (by omega)
  simpa using this
theorem Zua (x:Nat):(0≤ZvC x∧ZvC x≤8)∧(ZvC x≤6↔x<64)∧(0<x→1≤ZvC x):=by unfold ZvC;omega
theorem Zr3 (a:Int) (h0:0≤a) (h1:a<65536):(0≤Zon a∧Zon a≤16)∧(Zon a≤6↔a<64)∧(Zon a≤14↔a<16384)∧(0<a→1≤Zon a):=by
 unfold Zon
 have h2:=Zua (a / 256).toNat
 have h3:=Zua a.toNat
 by_cases h:256≤a
 · rw [if_pos h];omega
 · rw [if_neg h];omega
theorem Zr4 (a:Int) (h0:0≤a) (h1:a<4294967296):(0≤ZlS a∧ZlS a≤32)∧(ZlS a≤6↔a<64)∧(ZlS a≤14↔a<16384)∧(ZlS a≤30↔a<1073741824)∧(0<a→1≤ZlS a):=by
 unfold ZlS
 by_cases h:65536≤a
 ·
  rw [if_pos h]
  have h2:=Zr3 (a / 65536) (by omega) (by omega)
  omega
 ·
  rw [if_neg h]
  have h2:=Zr3 a (by omega) (by omega)
  omega
theorem Zvu (a:Int) (h0:0≤a) (h1:a<18446744073709551616):(ZrH a≤6↔a<64)∧(ZrH a≤14↔a<16384)∧(ZrH a≤30↔a<1073741824)∧(ZrH a≤62↔a<4611686018427387904):=by
 unfold ZrH
 by_cases h:4294967296≤a
 ·
  rw [if_pos h]
  have h2:=Zr4 (a / 4294967296) (by omega) (by omega)
  omega
 ·
  rw [if_neg h]
  have h2:=Zr4 a (by omega) (by omega)
  omega
def ZxQ (n:Int):Int:=if n<64 then 1 else if n<16384 then 2 else if n<1073741824 then 4 else if n<4611686018427387904 then 8 else 0
theorem Zvv (n:Int) (h0:0≤n) (h1:n<18446744073709551616):ZYl n=some (ZxQ n,()):=by
 rw [ZeB,ZSY]
 obtain ⟨a,b,c,d⟩:=Zvu n h0 h1
 simp only [Zyq n h0 h1,ZAK,a,b,c,d,ZxQ]
 by_cases e1:n<64
 · simp only [e1,decide_true,cond_true,if_true]
 ·
  by_cases e2:n<16384
  · simp only [e1,e2,decide_true,cond_true,if_true,decide_false,cond_false,if_false]
  ·
   by_cases e3:n<1073741824
   · simp only [e1,e2,e3,decide_true,cond_true,if_true,decide_false,cond_false,if_false]
   ·
    by_cases e4:n<4611686018427387904
    · simp only [e1,e2,e3,e4,decide_true,cond_true,if_true,decide_false,cond_false,if_false]
    · simp only [e1,e2,e3,e4,decide_false,cond_false,if_false]
theorem ZfF (n:Int) (h0:0≤n) (h1:n<18446744073709551616) (k:Nat) (hk:1≤k∧k≤7) :
  ∃ r,ZA5 n ((8*k:Nat):Int)=some (r,())∧IntKind.wrap .u8 r=n / 2 ^ (64 - 8*k) % 256:=by
 rw [ZGc,ZCx]
 have w1:IntKind.wrap .u64 ((8*k:Nat):Int)=((8*k:Nat):Int):=ZAh _ (by omega) (by omega)
 have w2:bits .and .u64 ((8*k:Nat):Int) 63=((8*k:Nat):Int):=by
  rw [Zif _ _ (by omega) (by omega)]
  have : ∀ k:_root_.Fin 8,((8*k.val:Nat):Int).toNat &&& Int.toNat 63=8*k.val:=by decide
  rw [this ⟨k,by omega⟩]
 have w3:IntKind.wrap .u64 (64 - ((8*k:Nat):Int))=((64 - 8*k:Nat):Int):=by rw [ZAh _ (by omega) (by omega)];omega
 simp only [w1,w2,w3,Int.toNat_natCast]
 have g1:(0:Int)≤((8*k:Nat):Int):=by omega
 have g2:(0:Int)≤((64 - 8*k:Nat):Int):=by omega
 simp only [g1,g2,decide_true,cond_true]
 refine ⟨_,rfl,?_⟩
 have m1:min (8*k) 64=8*k:=by omega
 have m2:min (64 - 8*k) 64=64 - 8*k:=by omega
 rw [m1,m2,Zaw]
 have hp:(0:Int)<2 ^ (64 - 8*k):=Int.pow_pos (by omega)
 have hf:Int.fdiv n (2 ^ (64 - 8*k))=n / 2 ^ (64 - 8*k):=Int.fdiv_eq_ediv_of_nonneg n (Int.le_of_lt hp)
 rw [hf,ZJY]
 have hd:0≤n / 2 ^ (64 - 8*k):=Int.ediv_nonneg h0 (Int.le_of_lt hp)
 have hd2:n / 2 ^ (64 - 8*k)≤n:=Int.ediv_le_self _ h0
 rw [ZTK _ _ (by omega) (by omega)]
 have low:(n*2 ^ (8*k) % 18446744073709551616).toNat % 256=0:=by
  have hm:(n*2 ^ (8*k)) % 256=0:=by
   obtain ⟨j,rfl⟩ : ∃ j,k=j+1:=⟨k - 1,by omega⟩
   have:(2:Int) ^ (8*(j+1))=256*2 ^ (8*j):=by rw [Nat.mul_add,Int.pow_add,Int.mul_comm];rfl
   rw [this,Int.mul_left_comm,Int.mul_emod_right]
  omega
 generalize (n*2 ^ (8*k) % 18446744073709551616).toNat=x at low
 have or_mod:(x ||| (n / 2 ^ (64 - 8*k)).toNat) % 2 ^ 8=(x % 2 ^ 8) ||| ((n / 2 ^ (64 - 8*k)).toNat % 2 ^ 8):=Nat.or_mod_two_pow
 rw [show (2:Nat) ^ 8=256 from rfl,low,Nat.zero_or] at or_mod
 omega
theorem Zyr (n:Int) (h0:0≤n) (h1:n<18446744073709551616) : ∃ r,ZA5 n 64=some (r,())∧IntKind.wrap .u8 r=n % 256:=by
 rw [ZGc,ZCx]
 have w1:IntKind.wrap .u64 (64:Int)=64:=ZAh _ (by omega) (by omega)
 have w2:bits .and .u64 64 63=0:=by rw [Zif _ _ (by omega) (by omega)];decide
 have w3:IntKind.wrap .u64 (64 - (0:Int))=64:=ZAh _ (by omega) (by omega)
 simp only [w1,w2,w3]
 refine ⟨_,rfl,?_⟩
 rw [Zaw]
 have e1:IntKind.wrap .u64 (n*2 ^ min (Int.toNat 0) 64)=n:=by
  rw [show min (Int.toNat 0) 64=0 from rfl,ZJY];omega
 have e2:Int.fdiv n (2 ^ min (Int.toNat 64) 64)=0:=by
  rw [show min (Int.toNat 64) 64=64 from rfl,Int.fdiv_eq_ediv_of_nonneg n (by decide)]
  exact Int.ediv_eq_zero_of_lt h0 (by omega)
 rw [e1,e2,ZTK _ _ (by omega) (by omega)]
 simp
 omega
theorem Zvw (n:Int) (h0:0≤n) (h1:n<18446744073709551616):ZVX n =
  some ((n / 72057594037927936 % 256,n / 281474976710656 % 256,n / 1099511627776 % 256,n / 4294967296 % 256,n / 16777216 % 256,n / 65536 % 256,n / 256 % 256,n % 256,()),()):=by
 rw [Zbg,ZP0]
 obtain ⟨r1,e1,w1⟩:=ZfF n h0 h1 1 (by omega)
 obtain ⟨r2,e2,w2⟩:=ZfF n h0 h1 2 (by omega)
 obtain ⟨r3,e3,w3⟩:=ZfF n h0 h1 3 (by omega)
 obtain ⟨r4,e4,w4⟩:=ZfF n h0 h1 4 (by omega)
 obtain ⟨r5,e5,w5⟩:=ZfF n h0 h1 5 (by omega)
 obtain ⟨r6,e6,w6⟩:=ZfF n h0 h1 6 (by omega)
 obtain ⟨r7,e7,w7⟩:=ZfF n h0 h1 7 (by omega)
 obtain ⟨r8,e8,w8⟩:=Zyr n h0 h1
 simp only [show ((8*1:Nat):Int)=8 from rfl] at e1
 simp only [show ((8*2:Nat):Int)=16 from rfl] at e2
 simp only [show ((8*3:Nat):Int)=24 from rfl] at e3
 simp only [show ((8*4:Nat):Int)=32 from rfl] at e4
 simp only [show ((8*5:Nat):Int)=40 from rfl] at e5
 simp only [show ((8*6:Nat):Int)=48 from rfl] at e6
 simp only [show ((8*7:Nat):Int)=56 from rfl] at e7
 simp only [e1,e2,e3,e4,e5,e6,e7,e8,ZAK,w1,w2,w3,w4,w5,w6,w7,w8]
 rfl
theorem Zzl:ZBr 1=some (0,())∧ZBr 2=some (1,())∧ZBr 4=some (2,())∧ZBr 8=some (3,()):=by
 simp only [ZKh,ZDu,ZJK,ZDI,Zaq]
 decide +kernel
def vb (n:Int):List Int :=
 if n<64 then [n] else if n<16384 then [64+n / 256,n % 256] else if n<1073741824 then [128+n / 16777216,n / 65536 % 256,n / 256 % 256,n % 256]
 else [192+n / 72057594037927936,n / 281474976710656 % 256,n / 1099511627776 % 256,n / 4294967296 % 256,n / 16777216 % 256,n / 65536 % 256,n / 256 % 256,n % 256]
theorem ZSh (n:Int) (h0:0≤n) (h1:n<4611686018427387904) : ∀ x∈vb n,0≤x∧x≤255:=by
 unfold vb
 intro x hx
 split at hx
 · simp at hx;omega
 ·
  split at hx
  · simp at hx;omega
  ·
   split at hx
   · simp at hx;omega
   · simp at hx;omega
theorem Zys : ∀ (a:_root_.Fin 64) (t:_root_.Fin 4),a.val ||| t.val*64=t.val*64+a.val:=by decide +kernel
theorem Zoo (a t:Int) (h0:0≤a∧a<64) (h1:0≤t∧t<4):bits .or .u8 a (t*64)=t*64+a:=by
 rw [Zsf _ _ (by omega) (by omega)]
 have:=Zys ⟨a.toNat,by omega⟩ ⟨t.toNat,by omega⟩
 simp only at this
 rw [show (t*64).toNat=t.toNat*64 by omega,this]
 omega
theorem ZxR (n:Int) (h0:0≤n) (h1:n<18446744073709551616):Zc6 n=some (if n<4611686018427387904 then (ZCK (vb n),0,()) else (⟨#[]⟩,1,())):=by
 rw [Zgk,ZVY,Zvv n h0 h1,Zvw n h0 h1]
 simp only [ZAK]
 obtain ⟨t1,t2,t4,t8⟩:=Zzl
 unfold ZxQ vb
 by_cases e4:n<4611686018427387904
 ·
  rw [if_pos e4]
  by_cases e1:n<64
  ·
   rw [if_pos e1,if_pos e1]
   have k0:n % 256=n:=by omega
   have k1:=Zoo n 0 (by omega) (by omega)
   simp only [Int.zero_mul,Int.zero_add] at k1
   simp [t1,wrap_i64,ZJY,Zaw,k0,k1,e4]
  ·
   by_cases e2:n<16384
   ·
    rw [if_neg e1,if_pos e2,if_neg e1,if_pos e2]
    have k0:n / 256 % 256=n / 256:=by omega
    have k1:=Zoo (n / 256) 1 (by omega) (by omega)
    simp only [Int.one_mul] at k1
    simp [t2,wrap_i64,ZJY,Zaw,k0,k1,e4]
   ·
    by_cases e3:n<1073741824
    ·
     rw [if_neg e1,if_neg e2,if_pos e3,if_neg e1,if_neg e2,if_pos e3]
     have k0:n / 16777216 % 256=n / 16777216:=by omega
     have k1:=Zoo (n / 16777216) 2 (by omega) (by omega)
     simp only [Int.reduceMul] at k1
     simp [t4,wrap_i64,ZJY,Zaw,k0,k1,e4]
    ·
     rw [if_neg e1,if_neg e2,if_neg e3,if_pos e4,if_neg e1,if_neg e2,if_neg e3]
     have k0:n / 72057594037927936 % 256=n / 72057594037927936:=by omega
     have k1:=Zoo (n / 72057594037927936) 3 (by omega) (by omega)
     simp only [Int.reduceMul] at k1
     simp [t8,wrap_i64,ZJY,Zaw,k0,k1]
 ·
  rw [if_neg e4,if_neg (by omega),if_neg (by omega),if_neg (by omega),if_neg e4]
  rfl
def vbs (l:List Int):List Int:=l.flatMap vb
theorem ZZs (n:Int):1≤(vb n).length∧(vb n).length≤8:=by
 unfold vb;split <;> (try split)<;>(try split)<;>simp
theorem ZMV : ∀ (l:List Int),(vbs l).length≤8*l.length
 | []=>by simp [vbs]
 | x::l=>by
  have:=ZZs x
  have:=ZMV l
  simp only [vbs,List.flatMap_cons,List.length_append,List.length_cons] at *
  omega
theorem Zbi (l:List Int) (h : ∀ n∈l,0≤n∧n<4611686018427387904) : ∀ x∈vbs l,0≤x∧x≤255:=by
 intro x hx
 obtain ⟨n,hn,hx⟩:=List.mem_flatMap.mp hx
 exact ZSh n (h n hn).1 (h n hn).2 x hx
theorem Zub : ∀ (suf pre acc:List Int) (m:Nat),suf.length<m→(pre++suf).length≤4294967296→acc.length+8*suf.length≤4294967296→(∀ n∈suf,0≤n∧n<4611686018427387904) →
  ZIP m (pre++suf) (((pre++suf).length:Nat):Int) ((pre.length:Nat):Int) acc=some (ZCK (acc++vbs suf),0,()):=by
 intro suf
 induction suf with
 | nil=>
  intro pre acc m hm _ ha _
  obtain ⟨m,rfl⟩ : ∃ k,m=k+1:=⟨m - 1,by omega⟩
  have:((acc.length:Nat):Int)≤4294967296:=by simp at ha;omega
  simp only [ZIP,ZTt,List.append_nil,Int.lt_irrefl,decide_false,cond_false,this,and_self,decide_true,cond_true,vbs,List.flatMap_nil]
 | cons x suf ih=>
  intro pre acc m hm hl ha hr
  obtain ⟨m,rfl⟩ : ∃ k,m=k+1:=⟨m - 1,by omega⟩
  obtain ⟨x0,x1⟩:=hr x (by simp)
  simp only [ZIP,ZTt,ZLV,nn,and_true,decide_true,cond_true,ZDD,ZDC,ZxR x x0 (by omega),ZAK,x1,if_true,bne_self_eq_false,cond_false,
   ZHX,ZCc,ZHE (ZSh x x0 x1)]
  have hv:=ZZs x
  have:acc.length+(vb x).length≤4294967296:=by simp at ha;omega
  simp only [this,decide_true,cond_true]
  rw [ZJE pre x x suf hl,ZID,ih (pre++[x]) (acc++vb x) m (by simp at hm;omega) (by simpa using hl) (by simp at ha ⊢;omega) (fun n hn=>hr n (by simp [hn]))]
  simp [vbs,List.append_assoc]
theorem Zuc (l:List Int) (hl:l.length≤100000) (hr : ∀ n∈l,0≤n∧n<4611686018427387904):ZTu l=some (ZCK (vbs l),0,()):=by
 rw [ZeF,ZSg,ZXu,ZRS]
 exact Zub l [] [] _ (by simp) (by simp;omega) (by simp;omega) hr
end Go.Proofs.YtamaklnhjagifaaGreatDoor.V
namespace Go.Proofs.YtamaklnhjagifaaGreatDoor.V
set_option linter.unusedVariables false
instance q_runtime_errorAddressString:DecidableEq ZSN := @instDecidableEqProd _ _ inferInstance (@instDecidableEqProd _ _ inferInstance (inferInstance))
instance q_gather_Part:DecidableEq ZAE := @instDecidableEqProd _ _ inferInstance (@instDecidableEqProd _ _ inferInstance (inferInstance))
instance q_ranges_Range:DecidableEq ZAA := @instDecidableEqProd _ _ inferInstance (@instDecidableEqProd _ _ inferInstance (inferInstance))
instance q_ranges_edge:DecidableEq ZAI := @instDecidableEqProd _ _ inferInstance (@instDecidableEqProd _ _ inferInstance (inferInstance))
instance q_runtime_boundsError:DecidableEq Zaz := @instDecidableEqProd _ _ inferInstance (@instDecidableEqProd _ _ inferInstance (@instDecidableEqProd _ _ inferInstance (@instDecidableEqProd _ _ inferInstance (inferInstance))))
instance q_flow_Limits:DecidableEq ZYS := @instDecidableEqProd _ _ inferInstance (@instDecidableEqProd _ _ inferInstance (@instDecidableEqProd _ _ inferInstance (@instDecidableEqProd _ _ inferInstance (inferInstance))))
instance q_4_int:DecidableEq Zw3 := @instDecidableEqProd _ _ inferInstance (@instDecidableEqProd _ _ inferInstance (@instDecidableEqProd _ _ inferInstance (@instDecidableEqProd _ _ inferInstance (inferInstance))))
instance q_gather_State:DecidableEq ZAD := @instDecidableEqProd _ _ inferInstance (@instDecidableEqProd _ _ inferInstance (@instDecidableEqProd _ _ inferInstance (@instDecidableEqProd _ _ inferInstance (inferInstance))))
instance q_gather_cursor:DecidableEq Zk2 := @instDecidableEqProd _ _ inferInstance (inferInstance)
instance q_8_uint8:DecidableEq Zpy := @instDecidableEqProd _ _ inferInstance (@instDecidableEqProd _ _ inferInstance (@instDecidableEqProd _ _ inferInstance (@instDecidableEqProd _ _ inferInstance (@instDecidableEqProd _ _ inferInstance (@instDecidableEqProd _ _ inferInstance (@instDecidableEqProd _ _ inferInstance (@instDecidableEqProd _ _ inferInstance (inferInstance))))))))
instance q_8_uint64:DecidableEq Znd := @instDecidableEqProd _ _ inferInstance (@instDecidableEqProd _ _ inferInstance (@instDecidableEqProd _ _ inferInstance (@instDecidableEqProd _ _ inferInstance (@instDecidableEqProd _ _ inferInstance (@instDecidableEqProd _ _ inferInstance (@instDecidableEqProd _ _ inferInstance (@instDecidableEqProd _ _ inferInstance (inferInstance))))))))
instance q_sendq_State:DecidableEq ZAF := @instDecidableEqProd _ _ inferInstance (@instDecidableEqProd _ _ inferInstance (@instDecidableEqProd _ _ inferInstance (@instDecidableEqProd _ _ inferInstance (@instDecidableEqProd _ _ inferInstance (@instDecidableEqProd _ _ inferInstance (@instDecidableEqProd _ _ inferInstance (@instDecidableEqProd _ _ inferInstance (inferInstance))))))))
instance q_sendq_queue:DecidableEq ZoW := @instDecidableEqProd _ _ inferInstance (inferInstance)
instance q_frame_Frame:DecidableEq ZAC := @instDecidableEqProd _ _ inferInstance (@instDecidableEqProd _ _ inferInstance (@instDecidableEqProd _ _ inferInstance (@instDecidableEqProd _ _ inferInstance (@instDecidableEqProd _ _ inferInstance (@instDecidableEqProd _ _ inferInstance (@instDecidableEqProd _ _ inferInstance (@instDecidableEqProd _ _ inferInstance (@instDecidableEqProd _ _ inferInstance (@instDecidableEqProd _ _ inferInstance (@instDecidableEqProd _ _ inferInstance (@instDecidableEqProd _ _ inferInstance (@instDecidableEqProd _ _ inferInstance (inferInstance)))))))))))))
instance q_law16_Act:DecidableEq ZAR := @instDecidableEqProd _ _ inferInstance (@instDecidableEqProd _ _ inferInstance (@instDecidableEqProd _ _ inferInstance (@instDecidableEqProd _ _ inferInstance (inferInstance))))
instance q_stream_State:DecidableEq ZAB := @instDecidableEqProd _ _ inferInstance (@instDecidableEqProd _ _ inferInstance (@instDecidableEqProd _ _ inferInstance (@instDecidableEqProd _ _ inferInstance (@instDecidableEqProd _ _ inferInstance (@instDecidableEqProd _ _ inferInstance (@instDecidableEqProd _ _ inferInstance (@instDecidableEqProd _ _ inferInstance (@instDecidableEqProd _ _ inferInstance (@instDecidableEqProd _ _ inferInstance (@instDecidableEqProd _ _ inferInstance (@instDecidableEqProd _ _ inferInstance (@instDecidableEqProd _ _ inferInstance (@instDecidableEqProd _ _ inferInstance (@instDecidableEqProd _ _ inferInstance (inferInstance)))))))))))))))
instance q_flow_Item:DecidableEq Zk3 := @instDecidableEqProd _ _ inferInstance (@instDecidableEqProd _ _ inferInstance (inferInstance))
instance q_flow_State:DecidableEq Zpz := @instDecidableEqProd _ _ inferInstance (@instDecidableEqProd _ _ inferInstance (@instDecidableEqProd _ _ inferInstance (@instDecidableEqProd _ _ inferInstance (@instDecidableEqProd _ _ inferInstance (@instDecidableEqProd _ _ inferInstance (@instDecidableEqProd _ _ inferInstance (@instDecidableEqProd _ _ inferInstance (@instDecidableEqProd _ _ inferInstance (@instDecidableEqProd _ _ inferInstance (@instDecidableEqProd _ _ inferInstance (@instDecidableEqProd _ _ inferInstance (@instDecidableEqProd _ _ inferInstance (inferInstance)))))))))))))
end Go.Proofs.YtamaklnhjagifaaGreatDoor.V
namespace Go.Proofs.YtamaklnhjagifaaGreatDoor.V
open Go.RowKit Go.Proofs.Tryz
set_option linter.unusedVariables false
set_option maxRecDepth 100000
noncomputable def ZFL:Mach prog Inv ZAq:=ZFE bas [(106,f106)] ⟨Zx7,trivial⟩ [] trivial [] trivial [] trivial
/-! ### slices.Equal[domino/ranges.Set,domino/ranges.Range] -/
@[reducible] def ZBE:List Ty:=[.bool]
def ZJM:List Nat:=[106]
abbrev ZDK (base:Base) (S0:Nat→Prop):=base.n=0∧FinOk (Zdd ZBE) base S0 (ZFg ZBE S0)
abbrev ZJl (base:Base) (S0:Nat→Prop) (cs0:List Go.Frame) (p:CPat) (J:ZC9 p→Option (ZFC ZBE)):=ZAb ZFL base S0 cs0 (ZFg ZBE S0) p J
abbrev ZTv (base:Base) (S0:Nat→Prop) (cs0:List Go.Frame) (X:Cfg→Option (Option (ZFC ZBE))):=ZAH ZFL base S0 cs0 (ZFg ZBE S0) X
@[reducible] noncomputable def ZB0:CPat:=⟨⟨106,[1,1,0,1,0],none,[.rows ZAG false,.rows ZAG false,.any,.any,.any,.any,.any,.any,.any,.any,.any,.any,.int .i64,.int .i64],12⟩,[],[],0⟩
@[reducible] noncomputable def ZB1 (k:(List ZAA)→(List ZAA)→Int→Int→Option (Bool×Unit)):ZC9 ZB0→Option (Bool×Unit):=fun x=>k x.1.1 x.1.2.1 x.1.2.2.2.2.2.2.2.2.2.2.2.2.1 x.1.2.2.2.2.2.2.2.2.2.2.2.2.2.1
noncomputable def ZEZ (k0:(List ZAA)→(List ZAA)→Int→Int→Option (Bool×Unit)) (l13:(List ZAA)) (l14:(List ZAA)) (i15:Int) (i16:Int):Option (Bool×Unit) :=
 let b17:Bool:=(decide (i16<i15))
 bif b17 then
  bif (decide (((0:Int)≤i16)∧(i16<(((List.length l13):Nat):Int)))) then
   let x18:ZAA:=(List.getD l13 (Int.toNat i16) (Ty.dflt ZAG))
   bif (decide (((0:Int)≤i16)∧(i16<(((List.length l14):Nat):Int)))) then
    let x19:ZAA:=(List.getD l14 (Int.toNat i16) (Ty.dflt ZAG))
    let b20:Bool:=(!((x18.1==x19.1)&&((x18.2.1==x19.2.1)&&true)))
    bif b20 then
     some (false,())
    else
     let n21:Int:=(Go.IntKind.wrap Go.IntKind.i64 (i16+(1:Int)))
     k0 l13 l14 i15 n21
   else none
  else none
 else
  some (true,())
noncomputable def ZBN:Nat→(List ZAA)→(List ZAA)→Int→Int→Option (Bool×Unit)
 | 0=>fun _ _ _ _=>none
 | m+1=>ZEZ (ZBN m)
noncomputable def ZD8 (l13:(List ZAA)) (l14:(List ZAA)) (i15:Int) (i16:Int):Option (Bool×Unit):=ZBN (Int.toNat (i15 - i16)+2) l13 l14 i15 i16
theorem ZHY : ∃ f,f = @ZD8:=⟨_,rfl⟩
noncomputable def ZC5:=Classical.choose ZHY
theorem ZHZ : @ZC5 = @ZD8:=Classical.choose_spec ZHY
theorem ZRT {base S0 cs0} (hfin:ZDK base S0) : ∀ m,ZJl base S0 cs0 ZB0 (ZB1 (ZBN m)) :=
 ZAb.loop' hfin.2 ZJM 100000 ZB1 (fun k0=>cut ZB0 (ZB1 k0) (nowhere)) (fun k0 h0=>ZAH.cut (ZAH.nowhere) (Nat.le_of_eq hfin.1) h0) (ZBN) (by intro x;rfl) (by intro m x;kernel_rfl)
theorem ZQU {base S0 cs0} (hfin:ZDK base S0):ZJl base S0 cs0 ZB0 (ZB1 (ZC5)):=by
 rw [ZHZ];exact fun x r hx=>ZRT hfin _ x r hx
noncomputable def ZIj:Cfg→Option (Option (Bool×Unit)):=cut ZB0 (ZB1 (ZC5)) (nowhere)
theorem ZRU {base S0 cs0} (hfin:ZDK base S0):ZTv base S0 cs0 (ZIj):=ZAH.cut (ZAH.nowhere) (Nat.le_of_eq hfin.1) (ZQU hfin)
noncomputable def ZDL (a0:(List ZAA)) (a1:(List ZAA)):Option (Bool×Unit) :=
 let n2:Int:=(((List.length a0):Nat):Int)
 let n3:Int:=(((List.length a1):Nat):Int)
 let b4:Bool:=(n2 != n3)
 bif b4 then
  some (false,())
 else
  let n5:Int:=(((List.length a0):Nat):Int)
  ZC5 a0 a1 n5 (0:Int)
theorem ZJN : ∃ f,f = @ZDL:=⟨_,rfl⟩
noncomputable def ZDw:=Classical.choose ZJN
theorem ZJO : @ZDw = @ZDL:=Classical.choose_spec ZJN
noncomputable def ZEs:Con:=⟨[(.slice ZAG),(.slice ZAG)],ZBE,fun x=>ZDL x.1 x.2.1⟩
noncomputable def ZDM:Con:=⟨[(.slice ZAG),(.slice ZAG)],ZBE,fun x=>ZDw x.1 x.2.1⟩
theorem ZPj:ZEs.Sound prog Inv ZAq 106 :=
 ZAm (M:=ZFL) ZBo (f:=f106) rfl ZJM 100000 (X:=ZIj) (fun base S0 cs0 hn hf=>have hfin:ZDK base S0:=⟨hn,hf⟩;ZRU hfin) (by intro x;kernel_rfl)
theorem ZQV:ZDM.Sound prog Inv ZAq 106:=by
 have e:ZDM=ZEs:=by unfold ZDM ZEs;rw [ZJO]
 rw [e];exact ZPj
noncomputable def ZlT:Mach prog Inv ZAq:=ZFE bas [(107,f107)] ⟨Zx8,trivial⟩ [] trivial [] trivial [] trivial
/-! ### domino/frame.Same$1 -/
@[reducible] def Zbj:List Ty:=[Zsg]
def Zjl:List Nat:=[107]
noncomputable def ZNo (a0:ZAC):Option (Znd×Unit) :=
 some ((a0.1,(a0.2.1,(a0.2.2.1,(a0.2.2.2.1,(a0.2.2.2.2.1,(a0.2.2.2.2.2.1,(a0.2.2.2.2.2.2.1,(a0.2.2.2.2.2.2.2.1,())))))))),())
theorem ZZt : ∃ f,f = @ZNo:=⟨_,rfl⟩
noncomputable def ZSi:=Classical.choose ZZt
theorem ZZu : @ZSi = @ZNo:=Classical.choose_spec ZZt
noncomputable def ZRV:Con:=⟨[ZAN],Zbj,fun x=>ZNo x.1⟩
noncomputable def ZNp:Con:=⟨[ZAN],Zbj,fun x=>ZSi x.1⟩
theorem ZfG:ZRV.Sound prog Inv ZAq 107 :=
 ZAm (M:=ZlT) ZBo (f:=f107) rfl Zjl 100000 (X:=nowhere) (fun base S0 cs0 hn hf=>ZAH.nowhere) (by intro x;kernel_rfl)
theorem Zgm:ZNp.Sound prog Inv ZAq 107:=by
 have e:ZNp=ZRV:=by unfold ZNp ZRV;rw [ZZu]
 rw [e];exact ZfG
noncomputable def ZqM:Mach prog Inv ZAq:=ZFE bas [(32,f32)] ⟨ZzV,trivial⟩ [(106,ZDM),(107,ZNp)] ⟨⟨ZQV,ZAa.callable Zx7⟩,⟨Zgm,ZAa.callable Zx8⟩,trivial⟩ [] trivial [] trivial
/-! ### domino/frame.Same -/
@[reducible] def Ziq:List Ty:=[.bool]
def Zop:List Nat:=[32]
noncomputable def ZVa (a0:ZAC) (a1:ZAC):Option (Bool×Unit) :=
 ZAX (ZDw a0.2.2.2.2.2.2.2.2.2.2.2.2.1 a1.2.2.2.2.2.2.2.2.2.2.2.2.1) fun y2=>
 let b3:Bool:=(!y2.1)
 bif b3 then
  some (false,())
 else
  ZAX (ZSi a0) fun y4=>
  ZAX (ZSi a1) fun y5=>
  let b6:Bool:=((y4.1.1==y5.1.1)&&((y4.1.2.1==y5.1.2.1)&&((y4.1.2.2.1==y5.1.2.2.1)&&((y4.1.2.2.2.1==y5.1.2.2.2.1)&&((y4.1.2.2.2.2.1==y5.1.2.2.2.2.1)&&((y4.1.2.2.2.2.2.1==y5.1.2.2.2.2.2.1)&&((y4.1.2.2.2.2.2.2.1==y5.1.2.2.2.2.2.2.1)&&((y4.1.2.2.2.2.2.2.2.1==y5.1.2.2.2.2.2.2.2.1)&&true))))))))
  bif b6 then
   let b7:Bool:=(a0.2.2.2.2.2.2.2.2.1==a1.2.2.2.2.2.2.2.2.1)
   bif b7 then
    let b8:Bool:=((ByteArray.toList a0.2.2.2.2.2.2.2.2.2.1)==(ByteArray.toList a1.2.2.2.2.2.2.2.2.2.1))
    bif b8 then
     let b9:Bool:=((ByteArray.toList a0.2.2.2.2.2.2.2.2.2.2.1)==(ByteArray.toList a1.2.2.2.2.2.2.2.2.2.2.1))
     bif b9 then
      let b10:Bool:=((ByteArray.toList a0.2.2.2.2.2.2.2.2.2.2.2.1)==(ByteArray.toList a1.2.2.2.2.2.2.2.2.2.2.2.1))
      some (b10,())
     else
      some (false,())
    else
     some (false,())
   else
    some (false,())
  else
   some (false,())
theorem Zgn : ∃ f,f = @ZVa:=⟨_,rfl⟩
noncomputable def ZS5:=Classical.choose Zgn
theorem Zgo : @ZS5 = @ZVa:=Classical.choose_spec Zgn
noncomputable def ZYo:Con:=⟨[ZAN,ZAN],Ziq,fun x=>ZVa x.1 x.2.1⟩
noncomputable def ZQW:Con:=⟨[ZAN,ZAN],Ziq,fun x=>ZS5 x.1 x.2.1⟩
theorem Zjm:ZYo.Sound prog Inv ZAq 32 :=
 ZAm (M:=ZqM) ZBo (f:=f32) rfl Zop 100000 (X:=nowhere) (fun base S0 cs0 hn hf=>ZAH.nowhere) (by intro x;kernel_rfl)
theorem Zbk:ZQW.Sound prog Inv ZAq 32:=by
 have e:ZQW=ZYo:=by unfold ZQW ZYo;rw [Zgo]
 rw [e];exact Zjm
noncomputable def ZNq:Mach prog Inv ZAq:=ZFE bas [(172,f172)] ⟨ZyH,trivial⟩ [] trivial [] trivial [] trivial
/-! ### (domino/frame.Frame).only -/
@[reducible] def ZCd:List Ty:=[ZAN,.bool]
def ZFM:List Nat:=[172]
abbrev ZCF (base:Base) (S0:Nat→Prop):=base.n=0∧FinOk (Zdd ZCd) base S0 (ZFg ZCd S0)
abbrev ZJP (base:Base) (S0:Nat→Prop) (cs0:List Go.Frame) (p:CPat) (J:ZC9 p→Option (ZFC ZCd)):=ZAb ZNq base S0 cs0 (ZFg ZCd S0) p J
abbrev ZJQ (base:Base) (S0:Nat→Prop) (cs0:List Go.Frame) (X:Cfg→Option (Option (ZFC ZCd))):=ZAH ZNq base S0 cs0 (ZFg ZCd S0) X
@[reducible] noncomputable def ZLB:CPat:=⟨⟨172,[1,1,0,1,0,1,1,1,1,1,1,1,1,1,1,1,1,1,1,1,1,1,1,1,1,1],none,[.any,.ptr 0 0,.ptr 1 0,.any,.ptr 2 0,.any,.any,.any,.any,.int .u64,.any,.any,.any,.any,.any,.any,.any,.any,.any,.any,.any,.any,.any,.any,.any,.any,.any,.any,.any,.any,.any,.any,.any,.any,.any,.any,.any,.any,.any,.any,.any,.any,.any,.any,.any,.any,.any,.any,.any,.any,.any,.any,.any,.any,.any,.any,.any,.any,.any,.any,.any,.any,.any,.any,.any,.any,.any,.any,.any,.any,.any,.any,.any,.any,.any,.any,.any,.any,.any,.any,.any,.any,.any,.any,.any,.any,.any,.any,.any,.any,.any,.any,.any,.any,.any,.any,.any,.any,.any,.any,.any,.any,.bool],25⟩,[],[.dat 38 ZAN,.dat 38 ZAN,.dat 38 ZAN],0⟩
@[reducible] noncomputable def ZRw (k:Int→Bool→ZAC→ZAC→ZAC→Option (ZAC×Bool×Unit)):ZC9 ZLB→Option (ZAC×Bool×Unit):=fun x=>k x.1.2.2.2.2.2.2.2.2.2.1 x.1.2.2.2.2.2.2.2.2.2.2.2.2.2.2.2.2.2.2.2.2.2.2.2.2.2.2.2.2.2.2.2.2.2.2.2.2.2.2.2.2.2.2.2.2.2.2.2.2.2.2.2.2.2.2.2.2.2.2.2.2.2.2.2.2.2.2.2.2.2.2.2.2.2.2.2.2.2.2.2.2.2.2.2.2.2.2.2.2.2.2.2.2.2.2.2.2.2.2.2.2.2.2.1 x.2.2.1 x.2.2.2.1 x.2.2.2.2.1
noncomputable def ZLC (i39:Int) (b40:Bool) (d41:ZAC) (d42:ZAC) (d43:ZAC):Option (ZAC×Bool×Unit) :=
 bif b40 then
  some ((d43.1,(d43.2.1,(d43.2.2.1,(d43.2.2.2.1,(d43.2.2.2.2.1,(d43.2.2.2.2.2.1,(d43.2.2.2.2.2.2.1,(d43.2.2.2.2.2.2.2.1,(d43.2.2.2.2.2.2.2.2.1,(d43.2.2.2.2.2.2.2.2.2.1,(d43.2.2.2.2.2.2.2.2.2.2.1,(d41.2.2.2.2.2.2.2.2.2.2.2.1,d43.2.2.2.2.2.2.2.2.2.2.2.2)))))))))))),(true,()))
 else
  let b44:Bool:=(i39==(28:Int))
  bif b44 then
   some ((d43.1,(d43.2.1,(d43.2.2.1,(d43.2.2.2.1,(d41.2.2.2.2.1,(d43.2.2.2.2.2.1,(d43.2.2.2.2.2.2.1,(d41.2.2.2.2.2.2.2.1,(d43.2.2.2.2.2.2.2.2.1,(d41.2.2.2.2.2.2.2.2.2.1,d43.2.2.2.2.2.2.2.2.2.2)))))))))),(true,()))
  else
   let b45:Bool:=(i39==(29:Int))
   bif b45 then
    some ((d43.1,(d43.2.1,(d43.2.2.1,(d43.2.2.2.1,(d41.2.2.2.2.1,(d43.2.2.2.2.2.1,(d43.2.2.2.2.2.2.1,(d43.2.2.2.2.2.2.2.1,(d43.2.2.2.2.2.2.2.2.1,(d41.2.2.2.2.2.2.2.2.2.1,d43.2.2.2.2.2.2.2.2.2.2)))))))))),(true,()))
   else
    let s46:ByteArray:=(ByteArray.mk (List.toArray ([]:List UInt8)))
    some (((0:Int),((0:Int),((0:Int),((0:Int),((0:Int),((0:Int),((0:Int),((0:Int),(false,(s46,(s46,(s46,(([]:List ZAA),()))))))))))))),(false,()))
theorem ZQX : ∃ f,f = @ZLC:=⟨_,rfl⟩
noncomputable def ZGE:=Classical.choose ZQX
theorem ZQY : @ZGE = @ZLC:=Classical.choose_spec ZQX
theorem ZdS {base S0 cs0} (hfin:ZCF base S0):ZJP base S0 cs0 ZLB (ZRw (ZGE)) :=
 ZAb.join hfin.2 (ZAH.nowhere) ZFM 100000 (by rw [ZQY];intro x;kernel_rfl)
noncomputable def ZRx:Cfg→Option (Option (ZAC×Bool×Unit)):=cut ZLB (ZRw (ZGE)) (nowhere)
theorem ZRy {base S0 cs0} (hfin:ZCF base S0):ZJQ base S0 cs0 (ZRx):=ZAH.cut (ZAH.nowhere) (Nat.le_of_eq hfin.1) (ZdS hfin)
@[reducible] noncomputable def ZLD:CPat:=⟨⟨172,[1,1,0,1,0,1,1,1,1,1,1,1,1,1,1,1,1,1,1,1],none,[.any,.ptr 0 0,.ptr 1 0,.any,.ptr 2 0,.any,.any,.any,.any,.int .u64,.any,.any,.any,.any,.any,.any,.any,.any,.any,.any,.any,.any,.any,.any,.any,.any,.any,.any,.any,.any,.any,.any,.any,.any,.any,.any,.any,.any,.any,.any,.any,.any,.any,.any,.any,.any,.any,.any,.any,.any,.any,.any,.any,.any,.any,.any,.any,.any,.any,.any,.any,.any,.any,.any,.any,.any,.any,.any,.any,.any,.any,.any,.any,.any,.bool],53⟩,[],[.dat 38 ZAN,.dat 38 ZAN,.dat 38 ZAN],0⟩
@[reducible] noncomputable def ZRz (k:Int→Bool→ZAC→ZAC→ZAC→Option (ZAC×Bool×Unit)):ZC9 ZLD→Option (ZAC×Bool×Unit):=fun x=>k x.1.2.2.2.2.2.2.2.2.2.1 x.1.2.2.2.2.2.2.2.2.2.2.2.2.2.2.2.2.2.2.2.2.2.2.2.2.2.2.2.2.2.2.2.2.2.2.2.2.2.2.2.2.2.2.2.2.2.2.2.2.2.2.2.2.2.2.2.2.2.2.2.2.2.2.2.2.2.2.2.2.2.2.2.2.2.2.1 x.2.2.1 x.2.2.2.1 x.2.2.2.2.1
noncomputable def ZLE (i30:Int) (b31:Bool) (d32:ZAC) (d33:ZAC) (d34:ZAC):Option (ZAC×Bool×Unit) :=
 bif b31 then
  some ((d34.1,(d32.2.1,(d34.2.2.1,(d32.2.2.2.1,d34.2.2.2.2)))),(true,()))
 else
  let b35:Bool:=(i30==(24:Int))
  bif b35 then
   some ((d34.1,(d34.2.1,(d34.2.2.1,(d34.2.2.2.1,(d34.2.2.2.2.1,(d32.2.2.2.2.2.1,(d32.2.2.2.2.2.2.1,(d34.2.2.2.2.2.2.2.1,(d34.2.2.2.2.2.2.2.2.1,(d34.2.2.2.2.2.2.2.2.2.1,(d32.2.2.2.2.2.2.2.2.2.2.1,(d32.2.2.2.2.2.2.2.2.2.2.2.1,d34.2.2.2.2.2.2.2.2.2.2.2.2)))))))))))),(true,()))
  else
   let b36:Bool:=(i30==(25:Int))
   bif b36 then
    some ((d34.1,(d34.2.1,(d34.2.2.1,(d34.2.2.2.1,(d34.2.2.2.2.1,(d32.2.2.2.2.2.1,d34.2.2.2.2.2.2)))))),(true,()))
   else
    let b37:Bool:=(i30==(26:Int))
    bif b37 then
     ZGE i30 true d32 d33 d34
    else
     let b38:Bool:=(i30==(27:Int))
     ZGE i30 b38 d32 d33 d34
theorem ZQZ : ∃ f,f = @ZLE:=⟨_,rfl⟩
noncomputable def ZGF:=Classical.choose ZQZ
theorem ZQa : @ZGF = @ZLE:=Classical.choose_spec ZQZ
theorem ZdT {base S0 cs0} (hfin:ZCF base S0):ZJP base S0 cs0 ZLD (ZRz (ZGF)) :=
 ZAb.join hfin.2 (ZRy hfin) ZFM 100000 (by rw [ZQa];intro x;kernel_rfl)
noncomputable def ZR0:Cfg→Option (Option (ZAC×Bool×Unit)):=cut ZLD (ZRz (ZGF)) (ZRx)
theorem ZR1 {base S0 cs0} (hfin:ZCF base S0):ZJQ base S0 cs0 (ZR0):=ZAH.cut (ZRy hfin) (Nat.le_of_eq hfin.1) (ZdT hfin)
@[reducible] noncomputable def ZLF:CPat:=⟨⟨172,[1,1,0,1,0,1,1,1,1,1,1,1,1,1,1,1,1,1],none,[.any,.ptr 0 0,.ptr 1 0,.any,.ptr 2 0,.any,.any,.any,.any,.int .u64,.any,.any,.any,.any,.any,.any,.any,.any,.any,.any,.any,.any,.any,.any,.any,.any,.any,.any,.any,.any,.any,.any,.any,.any,.any,.any,.any,.any,.any,.any,.any,.any,.any,.any,.any,.any,.any,.any,.any,.any,.any,.any,.any,.any,.any,.any,.any,.any,.any,.any,.any,.any,.any,.any,.bool],63⟩,[],[.dat 38 ZAN,.dat 38 ZAN,.dat 38 ZAN],0⟩
@[reducible] noncomputable def ZR2 (k:Int→Bool→ZAC→ZAC→ZAC→Option (ZAC×Bool×Unit)):ZC9 ZLF→Option (ZAC×Bool×Unit):=fun x=>k x.1.2.2.2.2.2.2.2.2.2.1 x.1.2.2.2.2.2.2.2.2.2.2.2.2.2.2.2.2.2.2.2.2.2.2.2.2.2.2.2.2.2.2.2.2.2.2.2.2.2.2.2.2.2.2.2.2.2.2.2.2.2.2.2.2.2.2.2.2.2.2.2.2.2.2.2.2.1 x.2.2.1 x.2.2.2.1 x.2.2.2.2.1
noncomputable def ZLG (i23:Int) (b24:Bool) (d25:ZAC) (d26:ZAC) (d27:ZAC):Option (ZAC×Bool×Unit) :=
 bif b24 then
  some ((d27.1,(d27.2.1,(d27.2.2.1,(d25.2.2.2.1,d27.2.2.2.2)))),(true,()))
 else
  let b28:Bool:=(i23==(17:Int))
  bif b28 then
   ZGF i23 true d25 d26 d27
  else
   let b29:Bool:=(i23==(21:Int))
   ZGF i23 b29 d25 d26 d27
theorem ZQb : ∃ f,f = @ZLG:=⟨_,rfl⟩
noncomputable def ZCG:=Classical.choose ZQb
theorem ZQc : @ZCG = @ZLG:=Classical.choose_spec ZQb
theorem ZdU {base S0 cs0} (hfin:ZCF base S0):ZJP base S0 cs0 ZLF (ZR2 (ZCG)) :=
 ZAb.join hfin.2 (ZR1 hfin) ZFM 100000 (by rw [ZQc];intro x;kernel_rfl)
noncomputable def ZR3:Cfg→Option (Option (ZAC×Bool×Unit)):=cut ZLF (ZR2 (ZCG)) (ZR0)
theorem ZR4 {base S0 cs0} (hfin:ZCF base S0):ZJQ base S0 cs0 (ZR3):=ZAH.cut (ZR1 hfin) (Nat.le_of_eq hfin.1) (ZdU hfin)
@[reducible] noncomputable def ZLH:CPat:=⟨⟨172,[1,1,0,1,0,1],none,[.any,.ptr 0 0,.ptr 1 0,.any,.ptr 2 0,.any,.any,.any,.any,.int .u64,.any,.bool],116⟩,[],[.dat 38 ZAN,.dat 38 ZAN,.dat 38 ZAN],0⟩
@[reducible] noncomputable def ZR5 (k:Int→Bool→ZAC→ZAC→ZAC→Option (ZAC×Bool×Unit)):ZC9 ZLH→Option (ZAC×Bool×Unit):=fun x=>k x.1.2.2.2.2.2.2.2.2.2.1 x.1.2.2.2.2.2.2.2.2.2.2.2.1 x.2.2.1 x.2.2.2.1 x.2.2.2.2.1
noncomputable def ZLI (i7:Int) (b8:Bool) (d9:ZAC) (d10:ZAC) (d11:ZAC):Option (ZAC×Bool×Unit) :=
 bif b8 then
  some (d11,(true,()))
 else
  let b12:Bool:=(i7==(2:Int))
  bif b12 then
   some ((d11.1,(d11.2.1,(d11.2.2.1,(d11.2.2.2.1,(d11.2.2.2.2.1,(d11.2.2.2.2.2.1,(d11.2.2.2.2.2.2.1,(d9.2.2.2.2.2.2.2.1,(d11.2.2.2.2.2.2.2.2.1,(d11.2.2.2.2.2.2.2.2.2.1,(d11.2.2.2.2.2.2.2.2.2.2.1,(d11.2.2.2.2.2.2.2.2.2.2.2.1,d9.2.2.2.2.2.2.2.2.2.2.2.2)))))))))))),(true,()))
  else
   let b13:Bool:=(i7==(4:Int))
   bif b13 then
    some ((d11.1,(d9.2.1,(d11.2.2.1,(d9.2.2.2.1,(d9.2.2.2.2.1,d11.2.2.2.2.2))))),(true,()))
   else
    let b14:Bool:=(i7==(5:Int))
    bif b14 then
     some ((d11.1,(d9.2.1,(d11.2.2.1,(d11.2.2.2.1,(d9.2.2.2.2.1,d11.2.2.2.2.2))))),(true,()))
    else
     let b15:Bool:=(i7==(6:Int))
     bif b15 then
      some ((d11.1,(d11.2.1,(d9.2.2.1,(d11.2.2.2.1,(d11.2.2.2.2.1,(d11.2.2.2.2.2.1,(d11.2.2.2.2.2.2.1,(d11.2.2.2.2.2.2.2.1,(d11.2.2.2.2.2.2.2.2.1,(d9.2.2.2.2.2.2.2.2.2.1,d11.2.2.2.2.2.2.2.2.2.2)))))))))),(true,()))
     else
      let b16:Bool:=(i7==(8:Int))
      bif b16 then
       some ((d11.1,(d9.2.1,(d9.2.2.1,(d11.2.2.2.1,(d11.2.2.2.2.1,(d11.2.2.2.2.2.1,(d11.2.2.2.2.2.2.1,(d11.2.2.2.2.2.2.2.1,(d9.2.2.2.2.2.2.2.2.1,(d9.2.2.2.2.2.2.2.2.2.1,d11.2.2.2.2.2.2.2.2.2.2)))))))))),(true,()))
      else
       let b17:Bool:=(i7==(16:Int))
       bif b17 then
        ZCG i7 true d9 d10 d11
       else
        let b18:Bool:=(i7==(18:Int))
        bif b18 then
         ZCG i7 true d9 d10 d11
        else
         let b19:Bool:=(i7==(19:Int))
         bif b19 then
          ZCG i7 true d9 d10 d11
         else
          let b20:Bool:=(i7==(20:Int))
          bif b20 then
           ZCG i7 true d9 d10 d11
          else
           let b21:Bool:=(i7==(22:Int))
           bif b21 then
            ZCG i7 true d9 d10 d11
           else
            let b22:Bool:=(i7==(23:Int))
            ZCG i7 b22 d9 d10 d11
theorem ZQd : ∃ f,f = @ZLI:=⟨_,rfl⟩
noncomputable def ZEH:=Classical.choose ZQd
theorem ZQe : @ZEH = @ZLI:=Classical.choose_spec ZQd
theorem ZdV {base S0 cs0} (hfin:ZCF base S0):ZJP base S0 cs0 ZLH (ZR5 (ZEH)) :=
 ZAb.join hfin.2 (ZR4 hfin) ZFM 100000 (by rw [ZQe];intro x;kernel_rfl)
noncomputable def ZR6:Cfg→Option (Option (ZAC×Bool×Unit)):=cut ZLH (ZR5 (ZEH)) (ZR3)
theorem ZdW {base S0 cs0} (hfin:ZCF base S0):ZJQ base S0 cs0 (ZR6):=ZAH.cut (ZR4 hfin) (Nat.le_of_eq hfin.1) (ZdV hfin)
noncomputable def ZJR (a0:ZAC):Option (ZAC×Bool×Unit) :=
 let s1:ByteArray:=(ByteArray.mk (List.toArray ([]:List UInt8)))
 let s2:ByteArray:=(ByteArray.mk (List.toArray ([]:List UInt8)))
 let s3:ByteArray:=(ByteArray.mk (List.toArray ([]:List UInt8)))
 let b4:Bool:=(a0.1==(0:Int))
 bif b4 then
  ZEH a0.1 true a0 ((0:Int),((0:Int),((0:Int),((0:Int),((0:Int),((0:Int),((0:Int),((0:Int),(false,(s1,(s1,(s1,(([]:List ZAA),()))))))))))))) (a0.1,((0:Int),((0:Int),((0:Int),((0:Int),((0:Int),((0:Int),((0:Int),(false,(s2,(s2,(s2,(([]:List ZAA),())))))))))))))
 else
  let b5:Bool:=(a0.1==(1:Int))
  bif b5 then
   ZEH a0.1 true a0 ((0:Int),((0:Int),((0:Int),((0:Int),((0:Int),((0:Int),((0:Int),((0:Int),(false,(s1,(s1,(s1,(([]:List ZAA),()))))))))))))) (a0.1,((0:Int),((0:Int),((0:Int),((0:Int),((0:Int),((0:Int),((0:Int),(false,(s2,(s2,(s2,(([]:List ZAA),())))))))))))))
  else
   let b6:Bool:=(a0.1==(30:Int))
   ZEH a0.1 b6 a0 ((0:Int),((0:Int),((0:Int),((0:Int),((0:Int),((0:Int),((0:Int),((0:Int),(false,(s1,(s1,(s1,(([]:List ZAA),()))))))))))))) (a0.1,((0:Int),((0:Int),((0:Int),((0:Int),((0:Int),((0:Int),((0:Int),(false,(s2,(s2,(s2,(([]:List ZAA),())))))))))))))
theorem ZTw : ∃ f,f = @ZJR:=⟨_,rfl⟩
noncomputable def ZMF:=Classical.choose ZTw
theorem ZTx : @ZMF = @ZJR:=Classical.choose_spec ZTw
noncomputable def ZMW:Con:=⟨[ZAN],ZCd,fun x=>ZJR x.1⟩
noncomputable def ZJS:Con:=⟨[ZAN],ZCd,fun x=>ZMF x.1⟩
theorem ZaS:ZMW.Sound prog Inv ZAq 172 :=
 ZAm (M:=ZNq) ZBo (f:=f172) rfl ZFM 100000 (X:=ZR6) (fun base S0 cs0 hn hf=>have hfin:ZCF base S0:=⟨hn,hf⟩;ZdW hfin) (by intro x;kernel_rfl)
theorem Zbl:ZJS.Sound prog Inv ZAq 172:=by
 have e:ZJS=ZMW:=by unfold ZJS ZMW;rw [ZTx]
 rw [e];exact ZaS
noncomputable def ZMX:Mach prog Inv ZAq:=ZFE bas [(173,f173)] ⟨ZyI,trivial⟩ [] trivial [] trivial [] trivial
/-! ### slices.Max[[]uint64,uint64] -/
@[reducible] def ZCN:List Ty:=[(.int .u64)]
def ZR7:List Nat:=[173]
abbrev ZIQ (base:Base) (S0:Nat→Prop):=base.n=0∧FinOk (Zdd ZCN) base S0 (ZFg ZCN S0)
abbrev ZTy (base:Base) (S0:Nat→Prop) (cs0:List Go.Frame) (p:CPat) (J:ZC9 p→Option (ZFC ZCN)):=ZAb ZMX base S0 cs0 (ZFg ZCN S0) p J
abbrev ZfH (base:Base) (S0:Nat→Prop) (cs0:List Go.Frame) (X:Cfg→Option (Option (ZFC ZCN))):=ZAH ZMX base S0 cs0 (ZFg ZCN S0) X
@[reducible] noncomputable def ZD9:CPat:=⟨⟨173,[1,1,1,0,1,0],none,[.rows (.int .u64) false,.any,.any,.int .u64,.int .i64],20⟩,[],[],0⟩
@[reducible] noncomputable def ZEA (k:(List Int)→Int→Int→Option (Int×Unit)):ZC9 ZD9→Option (Int×Unit):=fun x=>k x.1.1 x.1.2.2.2.1 x.1.2.2.2.2.1
noncomputable def ZJm (k0:(List Int)→Int→Int→Option (Int×Unit)) (l11:(List Int)) (i12:Int) (i13:Int):Option (Int×Unit) :=
 let n14:Int:=(((List.length l11):Nat):Int)
 let b15:Bool:=(decide (i13<n14))
 bif b15 then
  bif (decide (((0:Int)≤i13)∧(i13<(((List.length l11):Nat):Int)))) then
   let x16:Int:=(List.getD l11 (Int.toNat i13) (0:Int))
   let n17:Int:=(if (x16>i12) then x16 else i12)
   let n18:Int:=(Go.IntKind.wrap Go.IntKind.i64 (i13+(1:Int)))
   k0 l11 n17 n18
  else none
 else
  some (i12,())
noncomputable def ZCp:Nat→(List Int)→Int→Int→Option (Int×Unit)
 | 0=>fun _ _ _=>none
 | m+1=>ZJm (ZCp m)
noncomputable def ZIy (l11:(List Int)) (i12:Int) (i13:Int):Option (Int×Unit):=ZCp (Int.toNat ((((List.length l11):Nat):Int) - i13)+2) l11 i12 i13
theorem ZNr : ∃ f,f = @ZIy:=⟨_,rfl⟩
noncomputable def ZG8:=Classical.choose ZNr
theorem ZNs : @ZG8 = @ZIy:=Classical.choose_spec ZNr
theorem Zbm {base S0 cs0} (hfin:ZIQ base S0) : ∀ m,ZTy base S0 cs0 ZD9 (ZEA (ZCp m)) :=
 ZAb.loop' hfin.2 ZR7 100000 ZEA (fun k0=>cut ZD9 (ZEA k0) (nowhere)) (fun k0 h0=>ZAH.cut (ZAH.nowhere) (Nat.le_of_eq hfin.1) h0) (ZCp) (by intro x;rfl) (by intro m x;kernel_rfl)
theorem ZaT {base S0 cs0} (hfin:ZIQ base S0):ZTy base S0 cs0 ZD9 (ZEA (ZG8)):=by
 rw [ZNs];exact fun x r hx=>Zbm hfin _ x r hx
noncomputable def ZQf:Cfg→Option (Option (Int×Unit)):=cut ZD9 (ZEA (ZG8)) (nowhere)
theorem Zbn {base S0 cs0} (hfin:ZIQ base S0):ZfH base S0 cs0 (ZQf):=ZAH.cut (ZAH.nowhere) (Nat.le_of_eq hfin.1) (ZaT hfin)
noncomputable def ZIR (a0:(List Int)):Option (Int×Unit) :=
 let n1:Int:=(((List.length a0):Nat):Int)
 let b2:Bool:=(decide (n1<(1:Int)))
 bif b2 then
  let s3:ByteArray:=(ByteArray.mk (List.toArray ((115:UInt8)::((108:UInt8)::((105:UInt8)::((99:UInt8)::((101:UInt8)::((115:UInt8)::((46:UInt8)::((77:UInt8)::((97:UInt8)::((120:UInt8)::((58:UInt8)::((32:UInt8)::((101:UInt8)::((109:UInt8)::((112:UInt8)::((116:UInt8)::((121:UInt8)::((32:UInt8)::((108:UInt8)::((105:UInt8)::((115:UInt8)::((116:UInt8)::([]:List UInt8)))))))))))))))))))))))))
  none
 else
  bif (decide (((0:Int)≤(0:Int))∧((0:Int)<(((List.length a0):Nat):Int)))) then
   let x4:Int:=(List.getD a0 0 (0:Int))
   ZG8 a0 x4 (1:Int)
  else none
theorem ZR8 : ∃ f,f = @ZIR:=⟨_,rfl⟩
noncomputable def ZKY:=Classical.choose ZR8
theorem ZR9 : @ZKY = @ZIR:=Classical.choose_spec ZR8
noncomputable def ZLJ:Con:=⟨[(.slice (.int .u64))],ZCN,fun x=>ZIR x.1⟩
noncomputable def ZIS:Con:=⟨[(.slice (.int .u64))],ZCN,fun x=>ZKY x.1⟩
theorem ZYp:ZLJ.Sound prog Inv ZAq 173 :=
 ZAm (M:=ZMX) ZBo (f:=f173) rfl ZR7 100000 (X:=ZQf) (fun base S0 cs0 hn hf=>have hfin:ZIQ base S0:=⟨hn,hf⟩;Zbn hfin) (by intro x;kernel_rfl)
theorem ZaU:ZIS.Sound prog Inv ZAq 173:=by
 have e:ZIS=ZLJ:=by unfold ZIS ZLJ;rw [ZR9]
 rw [e];exact ZYp
noncomputable def Zbo:Mach prog Inv ZAq:=ZFE bas [(174,f174)] ⟨ZyJ,trivial⟩ [(210,ZEb)] ⟨⟨ZNL,ZAa.callable ZxA⟩,trivial⟩ [] trivial [] trivial
/-! ### domino/ranges.May -/
@[reducible] def ZH5:List Ty:=[.bool]
def Zgp:List Nat:=[174]
abbrev ZVb (base:Base) (S0:Nat→Prop):=base.n=0∧FinOk (Zdd ZH5) base S0 (ZFg ZH5 S0)
abbrev Zir (base:Base) (S0:Nat→Prop) (cs0:List Go.Frame) (p:CPat) (J:ZC9 p→Option (ZFC ZH5)):=ZAb Zbo base S0 cs0 (ZFg ZH5 S0) p J
abbrev ZqN (base:Base) (S0:Nat→Prop) (cs0:List Go.Frame) (X:Cfg→Option (Option (ZFC ZH5))):=ZAH Zbo base S0 cs0 (ZFg ZH5 S0) X
@[reducible] noncomputable def ZLm:CPat:=⟨⟨174,[1,1,0,1,0],none,[.any,.any,.any,.int .u64,.any,.any,.rows ZAG false,.int .i64,.int .i64],20⟩,[],[],0⟩
@[reducible] noncomputable def ZLn (k:Int→(List ZAA)→Int→Int→Option (Bool×Unit)):ZC9 ZLm→Option (Bool×Unit):=fun x=>k x.1.2.2.2.1 x.1.2.2.2.2.2.2.1 x.1.2.2.2.2.2.2.2.1 x.1.2.2.2.2.2.2.2.2.1
noncomputable def ZWR (k0:Int→(List ZAA)→Int→Int→Option (Bool×Unit)) (i10:Int) (l11:(List ZAA)) (i12:Int) (i13:Int):Option (Bool×Unit) :=
 let b14:Bool:=(decide (i13<i12))
 bif b14 then
  bif (decide (((0:Int)≤i13)∧(i13<(((List.length l11):Nat):Int)))) then
   let x15:ZAA:=(List.getD l11 (Int.toNat i13) (Ty.dflt ZAG))
   ZAX (ZF4 x15) fun y16=>
   bif y16.1 then
    some (false,())
   else
    let b17:Bool:=(decide (x15.2.1≥(9223372036854775808:Int)))
    bif b17 then
     some (false,())
    else
     let b18:Bool:=(decide (x15.1<i10))
     bif b18 then
      some (false,())
     else
      let n19:Int:=(Go.IntKind.wrap Go.IntKind.u64 (x15.2.1+(2:Int)))
      let n20:Int:=(Go.IntKind.wrap Go.IntKind.i64 (i13+(1:Int)))
      k0 n19 l11 i12 n20
  else none
 else
  some (true,())
noncomputable def ZJn:Nat→Int→(List ZAA)→Int→Int→Option (Bool×Unit)
 | 0=>fun _ _ _ _=>none
 | m+1=>ZWR (ZJn m)
noncomputable def ZTz (i10:Int) (l11:(List ZAA)) (i12:Int) (i13:Int):Option (Bool×Unit):=ZJn (Int.toNat (i12 - i13)+2) i10 l11 i12 i13
theorem ZZv : ∃ f,f = @ZTz:=⟨_,rfl⟩
noncomputable def ZSj:=Classical.choose ZZv
theorem ZZw : @ZSj = @ZTz:=Classical.choose_spec ZZv
theorem Zmn {base S0 cs0} (hfin:ZVb base S0) : ∀ m,Zir base S0 cs0 ZLm (ZLn (ZJn m)) :=
 ZAb.loop' hfin.2 Zgp 100000 ZLn (fun k0=>cut ZLm (ZLn k0) (nowhere)) (fun k0 h0=>ZAH.cut (ZAH.nowhere) (Nat.le_of_eq hfin.1) h0) (ZJn) (by intro x;rfl) (by intro m x;kernel_rfl)
theorem ZlU {base S0 cs0} (hfin:ZVb base S0):Zir base S0 cs0 ZLm (ZLn (ZSj)):=by
 rw [ZZw];exact fun x r hx=>Zmn hfin _ x r hx
noncomputable def ZeG:Cfg→Option (Option (Bool×Unit)):=cut ZLm (ZLn (ZSj)) (nowhere)
theorem Zmo {base S0 cs0} (hfin:ZVb base S0):ZqN base S0 cs0 (ZeG):=ZAH.cut (ZAH.nowhere) (Nat.le_of_eq hfin.1) (ZlU hfin)
noncomputable def ZVc (a0:(List ZAA)):Option (Bool×Unit) :=
 let n1:Int:=(((List.length a0):Nat):Int)
 ZSj (0:Int) a0 n1 (0:Int)
theorem Zgq : ∃ f,f = @ZVc:=⟨_,rfl⟩
noncomputable def Zc7:=Classical.choose Zgq
theorem Zgr : @Zc7 = @ZVc:=Classical.choose_spec Zgq
noncomputable def ZYq:Con:=⟨[(.slice ZAG)],ZH5,fun x=>ZVc x.1⟩
noncomputable def ZVd:Con:=⟨[(.slice ZAG)],ZH5,fun x=>Zc7 x.1⟩
theorem Zjn:ZYq.Sound prog Inv ZAq 174 :=
 ZAm (M:=Zbo) ZBo (f:=f174) rfl Zgp 100000 (X:=ZeG) (fun base S0 cs0 hn hf=>have hfin:ZVb base S0:=⟨hn,hf⟩;Zmo hfin) (by intro x;kernel_rfl)
theorem ZlV:ZVd.Sound prog Inv ZAq 174:=by
 have e:ZVd=ZYq:=by unfold ZVd ZYq;rw [Zgr]
 rw [e];exact Zjn
noncomputable def ZfI:Mach prog Inv ZAq:=ZFE bas [(89,f89)] ⟨Zz4,trivial⟩ [(32,ZQW),(172,ZJS),(173,ZIS),(174,ZVd)] ⟨⟨Zbk,ZAa.callable ZzV⟩,⟨Zbl,ZAa.callable ZyH⟩,⟨ZaU,ZAa.callable ZyI⟩,⟨ZlV,ZAa.callable ZyJ⟩,trivial⟩ [] trivial [] trivial
/-! ### domino/frame.May -/
@[reducible] def ZJo:List Ty:=[.bool]
def ZVe:List Nat:=[89]
abbrev ZMY (base:Base) (S0:Nat→Prop):=base.n=0∧FinOk (Zdd ZJo) base S0 (ZFg ZJo S0)
abbrev ZfJ (base:Base) (S0:Nat→Prop) (cs0:List Go.Frame) (p:CPat) (J:ZC9 p→Option (ZFC ZJo)):=ZAb ZfI base S0 cs0 (ZFg ZJo S0) p J
abbrev ZfK (base:Base) (S0:Nat→Prop) (cs0:List Go.Frame) (X:Cfg→Option (Option (ZFC ZJo))):=ZAH ZfI base S0 cs0 (ZFg ZJo S0) X
@[reducible] noncomputable def ZYr:CPat:=⟨⟨89,[1,1,1,0,1,1,0,1,1,1,1,1,1,1,1,1],none,[.any,.ptr 0 0,.any,.any,.any,.any,.any,.any,.any,.any,.any,.any,.any,.any,.any,.any,.any,.any,.any,.any,.any,.any,.any,.any,.any,.any,.any,.any,.any,.any,.any,.any,.any,.any,.any,.any,.any,.any,.any,.any,.any,.any,.any,.any,.any,.any,.any,.any,.any,.any,.any,.any,.any,.any,.any,.any,.any,.any,.any,.any,.any,.any,.any,.any,.any,.any,.any,.any,.any,.any,.any,.any,.any,.any,.any,.any,.any,.any,.any,.any,.any,.any,.any,.any,.any,.any,.any,.any,.any,.any,.any,.any,.any,.any,.any,.any,.any,.any,.any,.any,.any,.any,.any,.any,.any,.any,.any,.any,.any,.bool],7⟩,[],[.dat 38 ZAN],0⟩
@[reducible] noncomputable def Zgs (k:Bool→ZAC→Option (Bool×Unit)):ZC9 ZYr→Option (Bool×Unit):=fun x=>k x.1.2.2.2.2.2.2.2.2.2.2.2.2.2.2.2.2.2.2.2.2.2.2.2.2.2.2.2.2.2.2.2.2.2.2.2.2.2.2.2.2.2.2.2.2.2.2.2.2.2.2.2.2.2.2.2.2.2.2.2.2.2.2.2.2.2.2.2.2.2.2.2.2.2.2.2.2.2.2.2.2.2.2.2.2.2.2.2.2.2.2.2.2.2.2.2.2.2.2.2.2.2.2.2.2.2.2.2.2.2.1 x.2.2.1
noncomputable def ZYs (b44:Bool) (d45:ZAC):Option (Bool×Unit) :=
 bif b44 then
  let b46:Bool:=(decide (d45.2.2.2.1≤(1152921504606846976:Int)))
  some (b46,())
 else
  some (true,())
theorem ZeH : ∃ f,f = @ZYs:=⟨_,rfl⟩
noncomputable def ZMZ:=Classical.choose ZeH
theorem ZeI : @ZMZ = @ZYs:=Classical.choose_spec ZeH
theorem Zoq {base S0 cs0} (hfin:ZMY base S0):ZfJ base S0 cs0 ZYr (Zgs (ZMZ)) :=
 ZAb.join hfin.2 (ZAH.nowhere) ZVe 100000 (by rw [ZeI];intro x;kernel_rfl)
noncomputable def Zgt:Cfg→Option (Option (Bool×Unit)):=cut ZYr (Zgs (ZMZ)) (nowhere)
theorem Zgu {base S0 cs0} (hfin:ZMY base S0):ZfK base S0 cs0 (Zgt):=ZAH.cut (ZAH.nowhere) (Nat.le_of_eq hfin.1) (Zoq hfin)
@[reducible] noncomputable def ZYt:CPat:=⟨⟨89,[1,1,1,0,1,1,0,1,1,1,1,1,1,1],none,[.any,.ptr 0 0,.any,.any,.any,.any,.any,.any,.any,.any,.any,.any,.any,.any,.any,.any,.any,.any,.any,.any,.any,.any,.any,.any,.any,.any,.any,.any,.any,.any,.any,.any,.any,.any,.any,.any,.any,.any,.any,.any,.any,.any,.any,.any,.any,.any,.any,.any,.int .u64,.any,.any,.any,.any,.any,.any,.any,.any,.any,.any,.any,.any,.any,.any,.any,.any,.any,.any,.any,.any,.any,.any,.any,.any,.any,.any,.any,.any,.any,.any,.any,.any,.any,.any,.any,.any,.any,.any,.any,.any,.any,.any,.any,.any,.any,.any,.any,.any,.any,.any,.any,.any,.any,.bool],14⟩,[],[.dat 38 ZAN],0⟩
@[reducible] noncomputable def Zgv (k:Int→Bool→ZAC→Option (Bool×Unit)):ZC9 ZYt→Option (Bool×Unit):=fun x=>k x.1.2.2.2.2.2.2.2.2.2.2.2.2.2.2.2.2.2.2.2.2.2.2.2.2.2.2.2.2.2.2.2.2.2.2.2.2.2.2.2.2.2.2.2.2.2.2.2.2.1 x.1.2.2.2.2.2.2.2.2.2.2.2.2.2.2.2.2.2.2.2.2.2.2.2.2.2.2.2.2.2.2.2.2.2.2.2.2.2.2.2.2.2.2.2.2.2.2.2.2.2.2.2.2.2.2.2.2.2.2.2.2.2.2.2.2.2.2.2.2.2.2.2.2.2.2.2.2.2.2.2.2.2.2.2.2.2.2.2.2.2.2.2.2.2.2.2.2.2.2.2.2.2.2.1 x.2.2.1
noncomputable def ZYu (i35:Int) (b36:Bool) (d37:ZAC):Option (Bool×Unit) :=
 bif b36 then
  let n38:Int:=(((ByteArray.size d37.2.2.2.2.2.2.2.2.2.2.2.1):Nat):Int)
  let b39:Bool:=(n38==(8:Int))
  some (b39,())
 else
  let b40:Bool:=(i35==(18:Int))
  bif b40 then
   ZMZ true d37
  else
   let b41:Bool:=(i35==(19:Int))
   bif b41 then
    ZMZ true d37
   else
    let b42:Bool:=(i35==(22:Int))
    bif b42 then
     ZMZ true d37
    else
     let b43:Bool:=(i35==(23:Int))
     ZMZ b43 d37
theorem ZeJ : ∃ f,f = @ZYu:=⟨_,rfl⟩
noncomputable def ZT0:=Classical.choose ZeJ
theorem ZeK : @ZT0 = @ZYu:=Classical.choose_spec ZeJ
theorem Zor {base S0 cs0} (hfin:ZMY base S0):ZfJ base S0 cs0 ZYt (Zgv (ZT0)) :=
 ZAb.join hfin.2 (Zgu hfin) ZVe 100000 (by rw [ZeK];intro x;kernel_rfl)
noncomputable def Zgw:Cfg→Option (Option (Bool×Unit)):=cut ZYt (Zgv (ZT0)) (Zgt)
theorem Zgx {base S0 cs0} (hfin:ZMY base S0):ZfK base S0 cs0 (Zgw):=ZAH.cut (Zgu hfin) (Nat.le_of_eq hfin.1) (Zor hfin)
@[reducible] noncomputable def ZYv:CPat:=⟨⟨89,[1,1,1,0,1,1,0,1,1,1],none,[.any,.ptr 0 0,.any,.any,.any,.any,.any,.any,.any,.any,.any,.any,.any,.any,.any,.any,.any,.any,.any,.any,.any,.any,.any,.any,.any,.any,.any,.any,.any,.any,.any,.any,.any,.any,.any,.any,.any,.any,.any,.any,.any,.any,.any,.any,.any,.any,.any,.any,.int .u64,.any,.any,.any,.any,.any,.any,.any,.any,.any,.any,.any,.any,.any,.any,.any,.any,.any,.any,.any,.any,.any,.any,.any,.bool],44⟩,[],[.dat 38 ZAN],0⟩
@[reducible] noncomputable def Zgy (k:Int→Bool→ZAC→Option (Bool×Unit)):ZC9 ZYv→Option (Bool×Unit):=fun x=>k x.1.2.2.2.2.2.2.2.2.2.2.2.2.2.2.2.2.2.2.2.2.2.2.2.2.2.2.2.2.2.2.2.2.2.2.2.2.2.2.2.2.2.2.2.2.2.2.2.2.1 x.1.2.2.2.2.2.2.2.2.2.2.2.2.2.2.2.2.2.2.2.2.2.2.2.2.2.2.2.2.2.2.2.2.2.2.2.2.2.2.2.2.2.2.2.2.2.2.2.2.2.2.2.2.2.2.2.2.2.2.2.2.2.2.2.2.2.2.2.2.2.2.2.2.1 x.2.2.1
noncomputable def ZYw (i20:Int) (b21:Bool) (d22:ZAC):Option (Bool×Unit) :=
 bif b21 then
  let n23:Int:=(((ByteArray.size d22.2.2.2.2.2.2.2.2.2.1):Nat):Int)
  let n24:Int:=(Go.IntKind.wrap Go.IntKind.u64 n23)
  let n25:Int:=(Go.IntKind.wrap Go.IntKind.u64 (d22.2.2.1+n24))
  let b26:Bool:=(decide (n25≤(4611686018427387903:Int)))
  some (b26,())
 else
  let b27:Bool:=(i20==(24:Int))
  bif b27 then
   let b28:Bool:=(decide (d22.2.2.2.2.2.2.1≤d22.2.2.2.2.2.1))
   bif b28 then
    let n29:Int:=(((ByteArray.size d22.2.2.2.2.2.2.2.2.2.2.1):Nat):Int)
    let b30:Bool:=(n29==(8:Int))
    bif b30 then
     let n31:Int:=(((ByteArray.size d22.2.2.2.2.2.2.2.2.2.2.2.1):Nat):Int)
     let b32:Bool:=(n31==(16:Int))
     some (b32,())
    else
     some (false,())
   else
    some (false,())
  else
   let b33:Bool:=(i20==(26:Int))
   bif b33 then
    ZT0 i20 true d22
   else
    let b34:Bool:=(i20==(27:Int))
    ZT0 i20 b34 d22
theorem ZeL : ∃ f,f = @ZYw:=⟨_,rfl⟩
noncomputable def ZT1:=Classical.choose ZeL
theorem ZeM : @ZT1 = @ZYw:=Classical.choose_spec ZeL
theorem Zos {base S0 cs0} (hfin:ZMY base S0):ZfJ base S0 cs0 ZYv (Zgy (ZT1)) :=
 ZAb.join hfin.2 (Zgx hfin) ZVe 100000 (by rw [ZeM];intro x;kernel_rfl)
noncomputable def Zgz:Cfg→Option (Option (Bool×Unit)):=cut ZYv (Zgy (ZT1)) (Zgw)
theorem Zot {base S0 cs0} (hfin:ZMY base S0):ZfK base S0 cs0 (Zgz):=ZAH.cut (Zgx hfin) (Nat.le_of_eq hfin.1) (Zos hfin)
noncomputable def ZYx (a0:ZAC):Option (Bool×Unit) :=
 ZAX (ZMF a0) fun y1=>
 let s2:ByteArray:=(ByteArray.mk (List.toArray ([]:List UInt8)))
 let b3:Bool:=(!y1.2.1)
 bif b3 then
  some (false,())
 else
  ZAX (ZS5 a0 y1.1) fun y4=>
  let b5:Bool:=(!y4.1)
  bif b5 then
   some (false,())
  else
   ZAX (ZKY (a0.2.1::(a0.2.2.1::(a0.2.2.2.1::(a0.2.2.2.2.1::(a0.2.2.2.2.2.1::(a0.2.2.2.2.2.2.1::(a0.2.2.2.2.2.2.2.1::([]:List Int))))))))) fun y6=>
   let b7:Bool:=(decide (y6.1>(4611686018427387903:Int)))
   bif b7 then
    some (false,())
   else
    let n8:Int:=(((ByteArray.size a0.2.2.2.2.2.2.2.2.2.1):Nat):Int)
    let b9:Bool:=(decide (n8>(1200:Int)))
    bif b9 then
     some (false,())
    else
     let n10:Int:=(((List.length a0.2.2.2.2.2.2.2.2.2.2.2.2.1):Nat):Int)
     let b11:Bool:=(a0.1==(2:Int))
     bif b11 then
      ZAX (Zc7 a0.2.2.2.2.2.2.2.2.2.2.2.2.1) fun y12=>
      bif y12.1 then
       let b13:Bool:=(decide (n10>(0:Int)))
       bif b13 then
        let b14:Bool:=(decide (n10≤(32:Int)))
        bif b14 then
         let n15:Int:=(Go.IntKind.wrap Go.IntKind.i64 (n10 - (1:Int)))
         bif (decide (((0:Int)≤n15)∧(n15<(((List.length a0.2.2.2.2.2.2.2.2.2.2.2.2.1):Nat):Int)))) then
          let x16:ZAA:=(List.getD a0.2.2.2.2.2.2.2.2.2.2.2.2.1 (Int.toNat n15) (Ty.dflt ZAG))
          let b17:Bool:=(decide (x16.2.1≤(4611686018427387903:Int)))
          some (b17,())
         else none
        else
         some (false,())
       else
        some (false,())
      else
       some (false,())
     else
      let b18:Bool:=(a0.1==(6:Int))
      bif b18 then
       ZT1 a0.1 true a0
      else
       let b19:Bool:=(a0.1==(8:Int))
       ZT1 a0.1 b19 a0
theorem Zis : ∃ f,f = @ZYx:=⟨_,rfl⟩
noncomputable def Zg0:=Classical.choose Zis
theorem Zit : @Zg0 = @ZYx:=Classical.choose_spec Zis
noncomputable def Zbp:Con:=⟨[ZAN],ZJo,fun x=>ZYx x.1⟩
noncomputable def ZYy:Con:=⟨[ZAN],ZJo,fun x=>Zg0 x.1⟩
theorem ZlW:Zbp.Sound prog Inv ZAq 89 :=
 ZAm (M:=ZfI) ZBo (f:=f89) rfl ZVe 100000 (X:=Zgz) (fun base S0 cs0 hn hf=>have hfin:ZMY base S0:=⟨hn,hf⟩;Zot hfin) (by intro x;kernel_rfl)
theorem Zmp:ZYy.Sound prog Inv ZAq 89:=by
 have e:ZYy=Zbp:=by unfold ZYy Zbp;rw [Zit]
 rw [e];exact ZlW
end Go.Proofs.YtamaklnhjagifaaGreatDoor.V
namespace Go.Proofs.YtamaklnhjagifaaGreatDoor.V
open Go.RowKit
set_option linter.unusedVariables false
theorem Zsk : ∀ (s1 s2 p1 p2:List ZAA) (m:Nat),s1.length<m→p1.length=p2.length→s1.length=s2.length→(p1++s1).length≤9223372036854775807 →
  ZBN m (p1++s1) (p2++s2) (((p1++s1).length:Nat):Int) ((p1.length:Nat):Int)=some (decide (s1=s2),()):=by
 intro s1
 induction s1 with
 | nil=>
  intro s2 p1 p2 m hm _ h2 _
  obtain ⟨m,rfl⟩ : ∃ k,m=k+1:=⟨m - 1,by omega⟩
  obtain rfl:s2=[]:=List.eq_nil_of_length_eq_zero (by simpa using h2.symm)
  simp only [ZBN,ZEZ,Zq4,decide_false,cond_false,decide_true]
 | cons x s1 ih=>
  intro s2 p1 p2 m hm h1 h2 hl
  obtain ⟨m,rfl⟩ : ∃ k,m=k+1:=⟨m - 1,by omega⟩
  obtain ⟨y,s2,rfl⟩ : ∃ y t,s2=y::t:=by
   cases s2 with
   | nil=>simp at h2
   | cons y t=>exact ⟨y,t,rfl⟩
  have e:((p1.length:Nat):Int)=((p2.length:Nat):Int):=by rw [h1]
  have g2:((p1.length:Nat):Int)<(((p2++y::s2).length:Nat):Int):=by rw [h1];simp;omega
  have g3:(p2++y::s2).getD p1.length (Ty.dflt ZAG)=y:=by rw [h1,ZDC]
  simp only [ZBN,ZEZ,ZLV,nn,and_true,decide_true,cond_true,ZDD,ZDC,g2,g3]
  obtain ⟨a,b,⟨⟩⟩:=x
  obtain ⟨c,d,⟨⟩⟩:=y
  by_cases hx:a=c∧b=d
  ·
   obtain ⟨rfl,rfl⟩:=hx
   simp only [beq_self_eq_true,Bool.and_self,Bool.not_true,cond_false]
   rw [Zk0 p1 (a,b,()) (a,b,()) s1 hl,ZID p1,ZID p2,ih s2 (p1++[(a,b,())]) (p2++[(a,b,())]) m (by simp at hm;omega) (by simp [h1]) (by simpa using h2) (by simpa using hl)]
   simp
  ·
   have:((a==c)&&((b==d)&&true))=false:=by
    simp only [Bool.and_true,Bool.and_eq_false_iff,beq_eq_false_iff_ne]
    by_cases e:a=c
    · exact .inr fun e2=>hx ⟨e,e2⟩
    · exact .inl e
   simp only [this,Bool.not_false,cond_true]
   rw [decide_eq_false]
   intro e
   simp only [List.cons.injEq,Prod.mk.injEq,and_true] at e
   exact hx e.1
theorem Zvx (a b:List ZAA) (ha:a.length≤9223372036854775807):ZDw a b=some (decide (a=b),()):=by
 rw [ZJO,ZDL]
 by_cases h:a.length=b.length
 ·
  have:(((a.length:Nat):Int) != ((b.length:Nat):Int))=false:=by rw [h];simp
  simp only [this,cond_false]
  rw [ZHZ,ZD8]
  exact Zsk a b [] [] _ (by simp) rfl h (by simp;omega)
 ·
  have:(((a.length:Nat):Int) != ((b.length:Nat):Int))=true:=by simp;omega
  simp only [this,cond_true]
  rw [decide_eq_false (fun e=>h (by rw [e]))]
theorem Zzm (a b c:Bool):(bif a then bif b then (some (c,()):Option (Bool×Unit)) else some (false,()) else some (false,()))=some (a&&b&&c,()):=by
 cases a <;> cases b <;> rfl
theorem Zud (f g:ZAC) (hf:f.2.2.2.2.2.2.2.2.2.2.2.2.1.length≤9223372036854775807):ZS5 f g=some (decide (f=g),()):=by
 rw [Zgo,ZVa,Zvx _ _ hf]
 simp only [ZAK,ZZu,ZNo,Zcz]
 obtain ⟨a1,a2,a3,a4,a5,a6,a7,a8,a9,a10,a11,a12,a13,⟨⟩⟩:=f
 obtain ⟨b1,b2,b3,b4,b5,b6,b7,b8,b9,b10,b11,b12,b13,⟨⟩⟩:=g
 simp only [Prod.mk.injEq,and_true]
 have e : ∀ x y:Int,(x==y)=decide (x=y):=fun x y=>by by_cases h:x=y <;> simp [h]
 have e2 : ∀ x y:Bool,(x==y)=decide (x=y):=fun x y=>by cases x <;> cases y <;> rfl
 simp only [e,e2,Bool.and_true]
 by_cases h13:a13=b13
 ·
  simp only [h13,decide_true,Bool.not_true,cond_false,and_true]
  by_cases h1:a1=b1∧a2=b2∧a3=b3∧a4=b4∧a5=b5∧a6=b6∧a7=b7∧a8=b8
  ·
   obtain ⟨rfl,rfl,rfl,rfl,rfl,rfl,rfl,rfl⟩:=h1
   simp only [decide_true,Bool.and_self,cond_true,true_and]
   by_cases h9:a9=b9
   ·
    by_cases h10:a10=b10
    ·
     by_cases h11:a11=b11
     · simp only [h9,h10,h11,decide_true,cond_true,true_and]
     · simp only [h9,h10,h11,decide_true,decide_false,cond_true,cond_false,true_and,false_and]
    · simp only [h9,h10,decide_true,decide_false,cond_true,cond_false,true_and,false_and]
   · simp only [h9,decide_false,cond_false,false_and]
  ·
   have:(decide (a1=b1)&&(decide (a2=b2)&&(decide (a3=b3)&&(decide (a4=b4)&&(decide (a5=b5)&&(decide (a6=b6)&&(decide (a7=b7)&&decide (a8=b8))))))))=false:=by
    rw [Bool.eq_false_iff]
    intro h
    simp only [Bool.and_eq_true,decide_eq_true_eq] at h
    exact h1 h
   simp only [this,cond_false]
   rw [eq_comm]
   simp only [Option.some.injEq,Prod.mk.injEq,decide_eq_false_iff_not,and_true]
   exact fun h=>h1 ⟨h.1,h.2.1,h.2.2.1,h.2.2.2.1,h.2.2.2.2.1,h.2.2.2.2.2.1,h.2.2.2.2.2.2.1,h.2.2.2.2.2.2.2.1⟩
 · simp only [h13,decide_false,Bool.not_false,cond_true,and_false]
/-! which parts a kind has -/
def ZlX (k:Int):Bool:=[0,1,2,4,5,6,8,16,17,18,19,20,21,22,23,24,25,26,27,28,29,30].contains k
def Zzn (k:Int):Bool:=[4,5,8,17,21].contains k
def Zyt (k:Int):Bool:=[6,8].contains k
def Zyu (k:Int):Bool:=[4,16,17,18,19,20,21,22,23].contains k
def ZxS (k:Int):Bool:=[4,5,28,29].contains k
def Zyv (k:Int):Bool:=[24,25].contains k
def Zvy (k:Int):Bool:=[24].contains k
def Zvz (k:Int):Bool:=[2,28].contains k
def Zyw (k:Int):Bool:=[8].contains k
def ZxT (k:Int):Bool:=[6,8,28,29].contains k
def Zyx (k:Int):Bool:=[24].contains k
def Zv0 (k:Int):Bool:=[24,26,27].contains k
def Zyy (k:Int):Bool:=[2].contains k
def Zue (f:ZAC):ZAC :=
 let k:=f.1
 (k,bif Zzn k then f.2.1 else 0,bif Zyt k then f.2.2.1 else 0,bif Zyu k then f.2.2.2.1 else 0,bif ZxS k then f.2.2.2.2.1 else 0,bif Zyv k then f.2.2.2.2.2.1 else 0,
  bif Zvy k then f.2.2.2.2.2.2.1 else 0,bif Zvz k then f.2.2.2.2.2.2.2.1 else 0,bif Zyw k then f.2.2.2.2.2.2.2.2.1 else false,bif ZxT k then f.2.2.2.2.2.2.2.2.2.1 else ⟨#[]⟩,
  bif Zyx k then f.2.2.2.2.2.2.2.2.2.2.1 else ⟨#[]⟩,bif Zv0 k then f.2.2.2.2.2.2.2.2.2.2.2.1 else ⟨#[]⟩,bif Zyy k then f.2.2.2.2.2.2.2.2.2.2.2.2.1 else [],())
theorem Zsl {k:Int} (h:ZlX k=true):k=0∨k=1∨k=2∨k=4∨k=5∨k=6∨k=8∨k=16∨k=17∨k=18∨k=19∨k=20∨k=21∨k=22∨k=23∨k=24∨k=25∨k=26∨k=27∨k=28∨k=29∨k=30:=by
 simpa [ZlX] using h
theorem Zyz {k:Int} (h:ZlX k=false):k≠0∧k≠1∧k≠2∧k≠4∧k≠5∧k≠6∧k≠8∧k≠16∧k≠17∧k≠18∧k≠19∧k≠20∧k≠21∧k≠22∧k≠23∧k≠24∧k≠25∧k≠26∧k≠27∧k≠28∧k≠29∧k≠30:=by
 simpa [ZlX] using h
theorem ZxU (f:ZAC):ZMF f=some (bif ZlX f.1 then Zue f else (0,0,0,0,0,0,0,0,false,⟨#[]⟩,⟨#[]⟩,⟨#[]⟩,[],()),ZlX f.1,()):=by
 obtain ⟨k,a2,a3,a4,a5,a6,a7,a8,a9,a10,a11,a12,a13,⟨⟩⟩:=f
 simp only [ZTx,ZJR,ZQe,ZLI,ZQc,ZLG,ZQa,ZLE,ZQY,ZLC]
 cases h:ZlX k with
 | true=>
  rcases Zsl h with rfl | rfl | rfl | rfl | rfl | rfl | rfl | rfl | rfl | rfl | rfl | rfl | rfl | rfl | rfl | rfl | rfl | rfl | rfl | rfl | rfl | rfl <;> rfl
 | false=>
  obtain ⟨h0,h1,h2,h4,h5,h6,h8,h16,h17,h18,h19,h20,h21,h22,h23,h24,h25,h26,h27,h28,h29,h30⟩:=Zyz h
  simp only [beq_false_of_ne h0,beq_false_of_ne h1,beq_false_of_ne h2,beq_false_of_ne h4,beq_false_of_ne h5,beq_false_of_ne h6,beq_false_of_ne h8,beq_false_of_ne h16,beq_false_of_ne h17,beq_false_of_ne h18,beq_false_of_ne h19,
   beq_false_of_ne h20,beq_false_of_ne h21,beq_false_of_ne h22,beq_false_of_ne h23,beq_false_of_ne h24,beq_false_of_ne h25,beq_false_of_ne h26,beq_false_of_ne h27,beq_false_of_ne h28,beq_false_of_ne h29,beq_false_of_ne h30,cond_false]
def ZvD:Int→List ZAA→Bool
 | _,[]=>true
 | e,r::l=>decide (r.1≤r.2.1)&&decide (r.2.1<9223372036854775808)&&decide (e≤r.1)&&ZvD (r.2.1+2) l
theorem Zuf : ∀ (suf pre:List ZAA) (e:Int) (m:Nat),suf.length<m→(pre++suf).length≤9223372036854775807→(∀ r∈suf,0≤r.2.1) →
  ZJn m e (pre++suf) (((pre++suf).length:Nat):Int) ((pre.length:Nat):Int)=some (ZvD e suf,()):=by
 intro suf
 induction suf with
 | nil=>
  intro pre e m hm _ _
  obtain ⟨m,rfl⟩ : ∃ k,m=k+1:=⟨m - 1,by omega⟩
  simp only [ZJn,ZWR,Zq4,decide_false,cond_false,ZvD]
 | cons x suf ih=>
  intro pre e m hm hl hr
  obtain ⟨m,rfl⟩ : ∃ k,m=k+1:=⟨m - 1,by omega⟩
  have h0:=hr x (by simp)
  simp only [ZJn,ZWR,ZLV,nn,and_true,decide_true,cond_true,ZDD,ZDC,ZJZ,ZEa,ZAK,ZvD]
  by_cases h1:x.2.1<x.1
  ·
   have : ¬ x.1≤x.2.1:=by omega
   simp only [h1,this,decide_true,cond_true,decide_false,Bool.false_and]
  ·
   have h1':x.1≤x.2.1:=by omega
   simp only [h1,h1',decide_false,cond_false,decide_true,Bool.true_and]
   by_cases h2:x.2.1<9223372036854775808
   ·
    have : ¬ x.2.1≥9223372036854775808:=by omega
    simp only [h2,this,decide_false,cond_false,decide_true,Bool.true_and]
    by_cases h3:x.1<e
    ·
     have : ¬ e≤x.1:=by omega
     simp only [h3,this,decide_true,cond_true,decide_false,Bool.false_and]
    ·
     have h3':e≤x.1:=by omega
     simp only [h3,h3',decide_false,cond_false,decide_true,Bool.true_and]
     rw [ZAh _ (by omega) (by omega),Zk0 pre x x suf hl,ZID,ih (pre++[x]) _ m (by simp at hm;omega) (by simpa using hl) (fun r h=>hr r (by simp [h]))]
   ·
    have:x.2.1≥9223372036854775808:=by omega
    simp only [h2,this,decide_true,cond_true,decide_false,Bool.false_and]
theorem ZxV (l:List ZAA) (hl:l.length≤9223372036854775807) (hr : ∀ r∈l,0≤r.2.1):Zc7 l=some (ZvD 0 l,()):=by
 rw [Zgr,ZVc,ZZw,ZTz]
 exact Zuf l [] 0 _ (by simp) (by simp;omega) hr
theorem Zv1 : ∀ (suf pre:List Int) (x:Int) (m:Nat),suf.length<m→(pre++suf).length≤4294967296 →
  ZCp m (pre++suf) x ((pre.length:Nat):Int)=some (suf.foldl (fun a b=>if b>a then b else a) x,()):=by
 intro suf
 induction suf with
 | nil=>
  intro pre x m hm _
  obtain ⟨m,rfl⟩ : ∃ k,m=k+1:=⟨m - 1,by omega⟩
  simp only [ZCp,ZJm,Zq4,decide_false,cond_false,List.foldl_nil]
 | cons y suf ih=>
  intro pre x m hm hl
  obtain ⟨m,rfl⟩ : ∃ k,m=k+1:=⟨m - 1,by omega⟩
  simp only [ZCp,ZJm,ZLV,nn,and_true,decide_true,cond_true,ZDD,ZDC,List.foldl_cons]
  rw [ZJE pre y y suf hl,ZID,ih (pre++[y]) _ m (by simp at hm;omega) (by simpa using hl)]
theorem Zug (b:Int) : ∀ (l:List Int) (x:Int),l.foldl (fun a b=>if b>a then b else a) x≤b↔x≤b ∧ ∀ y∈l,y≤b
 | [],x=>by simp
 | y::l,x=>by
  rw [List.foldl_cons,Zug b l]
  simp only [List.mem_cons,forall_eq_or_imp]
  constructor
  · rintro ⟨h1,h2⟩;refine ⟨?_,?_,h2⟩ <;> split at h1 <;> omega
  · rintro ⟨h1,h2,h3⟩;refine ⟨?_,h3⟩;split <;> omega
theorem Zy0 (x:Int) (l:List Int) (hl:l.length≤1000) : ∃ y,ZKY (x::l)=some (y,()) ∧ ∀ b,y≤b↔x≤b ∧ ∀ z∈l,z≤b:=by
 refine ⟨_,?_,fun b=>Zug b l x⟩
 rw [ZR9,ZIR]
 have h1 : ¬ ((((x::l).length:Nat):Int)<1):=by simp;omega
 have h2:(0:Int)<(((x::l).length:Nat):Int):=by simp
 simp only [h1,h2,decide_false,cond_false,Int.le_refl,and_true,decide_true,cond_true,List.getD_cons_zero]
 rw [ZNs,ZIy]
 exact Zv1 l [x] x _ (by simp) (by simp;omega)
def Znj (l:List ZAA):Int:=(l.getD (l.length - 1) (Ty.dflt ZAG)).2.1
def Zbq (f:ZAC):Bool :=
 let k:=f.1
 bif k==2 then ZvD 0 f.2.2.2.2.2.2.2.2.2.2.2.2.1&&decide (0<f.2.2.2.2.2.2.2.2.2.2.2.2.1.length)&&decide (f.2.2.2.2.2.2.2.2.2.2.2.2.1.length≤32)&&decide (Znj f.2.2.2.2.2.2.2.2.2.2.2.2.1≤4611686018427387903)
 else bif k==6||k==8 then decide (f.2.2.1+((f.2.2.2.2.2.2.2.2.2.1.size:Nat):Int)≤4611686018427387903)
 else bif k==24 then decide (f.2.2.2.2.2.2.1≤f.2.2.2.2.2.1)&&(((f.2.2.2.2.2.2.2.2.2.2.1.size:Nat):Int)==8)&&(((f.2.2.2.2.2.2.2.2.2.2.2.1.size:Nat):Int)==16)
 else bif k==26||k==27 then (((f.2.2.2.2.2.2.2.2.2.2.2.1.size:Nat):Int)==8)
 else bif k==18||k==19||k==22||k==23 then decide (f.2.2.2.1≤1152921504606846976)
 else true
def Ziu (f:ZAC):Bool:=decide (f.2.1≤4611686018427387903∧f.2.2.1≤4611686018427387903∧f.2.2.2.1≤4611686018427387903∧f.2.2.2.2.1≤4611686018427387903∧f.2.2.2.2.2.1≤4611686018427387903∧f.2.2.2.2.2.2.1≤4611686018427387903∧f.2.2.2.2.2.2.2.1≤4611686018427387903)
def ZiG (f:ZAC):Bool:=ZlX f.1&&decide (f=Zue f)&&Ziu f&&decide (f.2.2.2.2.2.2.2.2.2.1.size≤1200)&&Zbq f
structure FrOk (f:ZAC):Prop where
 kind:0≤f.1∧f.1<18446744073709551616
 id:0≤f.2.1∧f.2.1<18446744073709551616
 off:0≤f.2.2.1∧f.2.2.1<18446744073709551616
 max:0≤f.2.2.2.1∧f.2.2.2.1<18446744073709551616
 code:0≤f.2.2.2.2.1∧f.2.2.2.2.1<18446744073709551616
 seq:0≤f.2.2.2.2.2.1∧f.2.2.2.2.2.1<18446744073709551616
 prior:0≤f.2.2.2.2.2.2.1∧f.2.2.2.2.2.2.1<18446744073709551616
 delay:0≤f.2.2.2.2.2.2.2.1∧f.2.2.2.2.2.2.2.1<18446744073709551616
 set : ∀ r∈f.2.2.2.2.2.2.2.2.2.2.2.2.1,(0≤r.1∧r.1<18446744073709551616)∧(0≤r.2.1∧r.2.1<18446744073709551616)
 few:f.2.2.2.2.2.2.2.2.2.2.2.2.1.length≤9223372036854775807
theorem Zuh (f:ZAC) (h:FrOk f):Zg0 f=some (ZiG f,()):=by
 rw [Zit,ZYx,ZxU]
 simp only [ZAK,ZiG]
 cases hk:ZlX f.1 with
 | false=>simp only [Bool.not_false,cond_true,Bool.false_and]
 | true=>
  simp only [Bool.not_true,cond_false,cond_true,Bool.true_and,Zud f _ h.few,ZAK]
  by_cases ho:f=Zue f
  ·
   simp only [← ho,decide_true,Bool.not_true,cond_false,Bool.true_and]
   obtain ⟨y,ey,hy⟩:=Zy0 f.2.1 [f.2.2.1,f.2.2.2.1,f.2.2.2.2.1,f.2.2.2.2.2.1,f.2.2.2.2.2.2.1,f.2.2.2.2.2.2.2.1] (by simp)
   simp only [ey,ZAK]
   have hn:Ziu f=decide (y≤4611686018427387903):=by
    unfold Ziu
    rw [decide_eq_decide,hy]
    simp
   rw [hn]
   by_cases h1:y≤4611686018427387903
   ·
    have : ¬ y>4611686018427387903:=by omega
    simp only [h1,this,decide_true,decide_false,cond_false,Bool.true_and]
    by_cases h2:f.2.2.2.2.2.2.2.2.2.1.size≤1200
    ·
     have : ¬ ((f.2.2.2.2.2.2.2.2.2.1.size:Nat):Int)>1200:=by omega
     simp only [h2,this,decide_true,decide_false,cond_false,Bool.true_and]
     have hoff:=(hy 4611686018427387903).mp h1
     have ho1:f.2.2.1≤4611686018427387903:=hoff.2 _ (by simp)
     have w1:IntKind.wrap .u64 ((f.2.2.2.2.2.2.2.2.2.1.size:Nat):Int)=((f.2.2.2.2.2.2.2.2.2.1.size:Nat):Int):=ZAh _ (by omega) (by omega)
     have w2:IntKind.wrap .u64 (f.2.2.1+((f.2.2.2.2.2.2.2.2.2.1.size:Nat):Int))=f.2.2.1+((f.2.2.2.2.2.2.2.2.2.1.size:Nat):Int):=ZAh _ (by have:=h.off;omega) (by omega)
     simp only [ZeM,ZYw,ZeK,ZYu,ZeI,ZYs,w1,w2,Zbq]
     by_cases e2:f.1=2
     ·
      simp only [e2,beq_self_eq_true,cond_true]
      rw [ZxV _ h.few (fun r hr=>(h.set r hr).2.1)]
      simp only [ZAK]
      cases ZvD 0 f.2.2.2.2.2.2.2.2.2.2.2.2.1 with
      | false=>simp only [cond_false,Bool.false_and]
      | true=>
       simp only [cond_true,Bool.true_and]
       have hfew:=h.few
       unfold Znj
       generalize f.2.2.2.2.2.2.2.2.2.2.2.2.1=l at *
       by_cases l0:0<l.length
       ·
        by_cases l1:l.length≤32
        ·
         have c0:((l.length:Nat):Int)>0:=by omega
         have c1:((l.length:Nat):Int)≤32:=by omega
         have c2:IntKind.wrap .i64 (((l.length:Nat):Int) - 1)=((l.length - 1:Nat):Int):=by rw [wrap_i64 _ (by omega) (by omega)];omega
         have c3:(0:Int)≤((l.length - 1:Nat):Int)∧((l.length - 1:Nat):Int)<((l.length:Nat):Int):=by omega
         simp only [c0,c1,c2,c3,and_self,l0,l1,decide_true,cond_true,Bool.true_and,Int.toNat_natCast]
        ·
         have c0:((l.length:Nat):Int)>0:=by omega
         have c1 : ¬ ((l.length:Nat):Int)≤32:=by omega
         simp only [c0,c1,l0,l1,decide_true,decide_false,cond_true,cond_false,Bool.true_and,Bool.false_and]
       ·
        have c0 : ¬ ((l.length:Nat):Int)>0:=by omega
        simp only [c0,l0,decide_false,cond_false,Bool.false_and]
     ·
      have b2:=beq_false_of_ne e2
      simp only [b2,cond_false]
      rcases Zsl hk with e | e | e | e | e | e | e | e | e | e | e | e | e | e | e | e | e | e | e | e | e | e <;> rw [e] <;> (try rfl)
      exact Zzm _ _ _
    ·
     have:((f.2.2.2.2.2.2.2.2.2.1.size:Nat):Int)>1200:=by omega
     simp only [h2,this,decide_true,decide_false,cond_true,Bool.false_and]
   ·
    have:y>4611686018427387903:=by omega
    simp only [h1,this,decide_true,decide_false,cond_true,Bool.false_and]
  · simp only [ho,decide_false,Bool.not_false,cond_true,Bool.false_and]
end Go.Proofs.YtamaklnhjagifaaGreatDoor.V
namespace Go.Proofs.YtamaklnhjagifaaGreatDoor.V
open Go.RowKit Go.Proofs.Tryz
set_option linter.unusedVariables false
set_option maxRecDepth 100000
noncomputable def ZBF:Mach prog Inv ZAq:=ZFE bas [(178,f178)] ⟨Zw7,trivial⟩ [] trivial [] trivial [] trivial
/-! ### slices.Clone: a row of the caller's own -/
@[reducible] def ZAS:Ty:=ZAG
def ZBW (l:List ZAS.den):Option (List ZAS.den):=bif decide (l.length≤4294967296) then some l else none
noncomputable def ZDN:OCon:=⟨[.slice ZAS],ZAS,fun x=>ZBW x.1⟩
@[reducible] noncomputable def ZAg:CPat:=⟨⟨178,[1,0,0],some 1,[.rows ZAS false,.any,.nilSlice,.rows ZAS false],4⟩,[],[],0⟩
def ZBO (a b:List ZAS.den):Option (List ZAS.den):=match b with
 | []=>match a with
  | []=>some []
  | _::_=>none
 | _::_=>ZBW a
theorem ZT2 (x:ZC9 ZAg):ZnY ZBF (Zpo ZAS) [178] nowhere 1000 (adv (ZTJ ZAg x) 1 (some 4) (.val (.bool true)) (ZTJ ZAg x).H ⟨[],[],[]⟩)=some []:=by kernel_rfl
theorem ZT3 (x:ZC9 ZAg):ZnY ZBF (Zpo ZAS) [178] nowhere 1000 (adv (ZTJ ZAg x) 1 (some 4) (.val (.bool false)) (ZTJ ZAg x).H ⟨[],[],[]⟩)=bif decide (0+x.1.1.length≤4294967296) then some x.1.1 else none:=by kernel_rfl
theorem ZT4 {base S0 cs0} (hfin:FinOk (Zpo ZAS) base S0 (Zky ZAS base S0)):ZAb ZBF base S0 cs0 (Zky ZAS base S0) ZAg (fun x=>ZBO x.1.1 x.1.2.2.2.1):=by
 intro x r h
 change ZBO x.1.1 x.1.2.2.2.1=some r at h
 have yes:x.1.2.2.2.1=[]→ZBO x.1.1 x.1.2.2.2.1=some r→ZnY ZBF (Zpo ZAS) [178] nowhere 1000 (adv (ZTJ ZAg x) 1 (some 4) (.val (.bool true)) (ZTJ ZAg x).H ⟨[],[],[]⟩)=some r:=by
  intro hb hj
  rw [hb] at hj
  have e:=ZT2 x
  rw [e]
  generalize x.1.1=a at hj
  cases a with
  | nil=>exact hj
  | cons _ _=>cases hj
 have no:ZnY ZBF (Zpo ZAS) [178] nowhere 1000 (adv (ZTJ ZAg x) 1 (some 4) (.val (.bool false)) (ZTJ ZAg x).H ⟨[],[],[]⟩)=some r:=by
  have e:=ZT3 x
  rw [e,Nat.zero_add]
  show ZBW x.1.1=some r
  generalize x.1.1=a at *
  generalize x.1.2.2.2.1=b at *
  cases b with
  | nil=>cases a with
   | nil=>rw [← h];rfl
   | cons _ _=>cases h
  | cons _ _=>exact h
 exact ZqC (M:=ZBF) (f:=f178) (T:=28) (e:=157) (x := .tmp 3) (t:=ZAS) (l:=x.1.2.2.2.1) (cl:=false) rfl rfl rfl rfl rfl rfl rfl rfl underlying28 rfl
  (fun hb=>ZIf hfin ZAH.nowhere (yes hb h)) (ZIf hfin ZAH.nowhere no)
theorem ZH6:ZDN.Sound prog Inv ZAq 178:=by
 refine Zhm (M:=ZBF) ZBo (f:=f178) rfl fun x y h base S0 cs0 hn => ?_
 have hfin:=Zqx ZAS base S0
 refine ZIf hfin (X:=cut ZAg (fun x=>ZBO x.1.1 x.1.2.2.2.1) nowhere) (ZAH.cut ZAH.nowhere (Nat.le_of_eq hn) (ZT4 hfin)) (Ks:=[178]) (n:=1000) ?_
 have e:ZnY ZBF (Zpo ZAS) [178] (cut ZAg (fun x=>ZBO x.1.1 x.1.2.2.2.1) nowhere) 1000 (Zkx 178 f178.ntmps (Zfh ZDN.params x))=ZBO x.1 x.1:=by kernel_rfl
 refine e.trans (Eq.trans ?_ h)
 show ZBO x.1 x.1=ZBW x.1
 generalize x.1=l
 cases l with
 | nil=>rfl
 | cons _ _=>rfl
noncomputable def ZQg:Mach prog Inv ZAq:=ZFE bas [(213,f213)] ⟨ZFe,trivial⟩ [] trivial [] trivial [] trivial
@[reducible] noncomputable def ZHa:List Pat:=[.ptr 0 0]
@[reducible] noncomputable def ZHb:List HPat:=[.cells 170 [.nilPtr,.nilSlice]]
/-! ### (*strings.Builder).copyCheck -/
abbrev ZEB:Type:=Unit
@[reducible] noncomputable def ZHc:List Pat:=[]
@[reducible] noncomputable def ZHd:List HPat:=[.cells 170 [.ptr 0 0,.nilSlice]]
def ZPk:List Nat:=[213]
noncomputable def ZCe:Option ZEB :=
 some ()
theorem ZHe : ∃ f,f = @ZCe:=⟨_,rfl⟩
noncomputable def ZEt:=Classical.choose ZHe
theorem ZHf : @ZEt = @ZCe:=Classical.choose_spec ZHe
noncomputable def ZDn:HCon:=HCon.mk0 ZHa ZHb ZHc ZHd ZEB (fun x=>ZCe) (fun r=>((),(((),((),())),()))) (fun y=>(())) (fun _=>rfl)
noncomputable def ZAi:HCon:=HCon.mk0 ZHa ZHb ZHc ZHd ZEB (fun x=>ZEt) (fun r=>((),(((),((),())),()))) (fun y=>(())) (fun _=>rfl)
theorem ZM8:ZDn.Sound prog Inv ZAq 213 :=
 ZF2 (M:=ZQg) (f:=f213) rfl ZPk 100000 (X:=nowhere) (fun base S0 cs0 hn hf=>ZAH.nowhere) (by intro x;kernel_rfl)
theorem ZAw:ZAi.Sound prog Inv ZAq 213:=by
 have e:ZAi=ZDn:=by unfold ZAi ZDn;rw [ZHf]
 rw [e];exact ZM8
noncomputable def ZWS:Mach prog Inv ZAq:=ZFE bas [(91,f91),(177,f177),(213,f213)] ⟨Zry,ZmT,ZFe,trivial⟩ [(176,ZEr)] ⟨⟨ZFz,ZAa.callable Zq9⟩,trivial⟩ [] trivial [(213,ZAc),(213,ZAd),(213,ZAi)] ⟨⟨ZAn,ZAa.callable ZFe⟩,⟨ZAo,ZAa.callable ZFe⟩,⟨ZAw,ZAa.callable ZFe⟩,trivial⟩
@[reducible] noncomputable def ZKi:List Pat:=[.ptr 0 0,.all 1]
@[reducible] noncomputable def ZKj:List HPat:=[.cells 170 [.nilPtr,.nilSlice],.row (.int .u64)]
/-! ### (*domino/frame.writer).numbers -/
abbrev ZGf:Type:=(List Int)×(List Int)×Unit
@[reducible] noncomputable def ZKk:List Pat:=[]
@[reducible] noncomputable def ZKl:List HPat:=[.cells 170 [.ptr 0 0,.all 2],.fro (.int .u64),.row (.byt 5)]
def ZUn:List Nat:=[91,177,213]
noncomputable def ZDx (l0:(List Int)):Option ZGf :=
 ZAX (ZTu l0) fun y1=>
 ZAX ZEt fun y2=>
 bif (decide ((List.length (ZA0 y1.1))≤4294967296)) then
  let l3:(List Int):=(ZA0 y1.1)
  let n4:Int:=(((ByteArray.size y1.1):Nat):Int)
  some (l0,(l3,()))
 else none
theorem ZKm : ∃ f,f = @ZDx:=⟨_,rfl⟩
noncomputable def ZBs:=Classical.choose ZKm
theorem ZKn : @ZBs = @ZDx:=Classical.choose_spec ZKm
noncomputable def ZFl:HCon:=HCon.mk0 ZKi ZKj ZKk ZKl ZGf (fun x=>ZDx x.2.2.1) (fun r=>((),(((),((),())),(r.1,(r.2.1,()))))) (fun y=>(y.2.2.1,y.2.2.2.1,())) (fun _=>rfl)
noncomputable def ZBX:HCon:=HCon.mk0 ZKi ZKj ZKk ZKl ZGf (fun x=>ZBs x.2.2.1) (fun r=>((),(((),((),())),(r.1,(r.2.1,()))))) (fun y=>(y.2.2.1,y.2.2.2.1,())) (fun _=>rfl)
theorem ZRW:ZFl.Sound prog Inv ZAq 91 :=
 ZF2 (M:=ZWS) (f:=f91) rfl ZUn 100000 (X:=nowhere) (fun base S0 cs0 hn hf=>ZAH.nowhere) (by intro x;kernel_rfl)
theorem ZC6:ZBX.Sound prog Inv ZAq 91:=by
 have e:ZBX=ZFl:=by unfold ZBX ZFl;rw [ZKn]
 rw [e];exact ZRW
noncomputable def ZQh:Mach prog Inv ZAq:=ZFE bas [(213,f213)] ⟨ZFe,trivial⟩ [] trivial [] trivial [] trivial
@[reducible] noncomputable def ZHg:List Pat:=[.ptr 0 0]
@[reducible] noncomputable def ZHh:List HPat:=[.cells 170 [.ptr 0 0,.all 1],.row (.byt 5)]
/-! ### (*strings.Builder).copyCheck -/
abbrev ZEC:Type:=(List Int)×Unit
@[reducible] noncomputable def ZHi:List Pat:=[]
@[reducible] noncomputable def ZHj:List HPat:=[.cells 170 [.ptr 0 0,.all 1],.row (.byt 5)]
def ZPl:List Nat:=[213]
noncomputable def ZBG (l0:(List Int)):Option ZEC :=
 some (l0,())
theorem ZHk : ∃ f,f = @ZBG:=⟨_,rfl⟩
noncomputable def ZBa:=Classical.choose ZHk
theorem ZBj : @ZBa = @ZBG:=Classical.choose_spec ZHk
noncomputable def ZDo:HCon:=HCon.mk0 ZHg ZHh ZHi ZHj ZEC (fun x=>ZBG x.2.2.1) (fun r=>((),(((),((),())),(r.1,())))) (fun y=>(y.2.2.1,())) (fun _=>rfl)
noncomputable def ZAp:HCon:=HCon.mk0 ZHg ZHh ZHi ZHj ZEC (fun x=>ZBa x.2.2.1) (fun r=>((),(((),((),())),(r.1,())))) (fun y=>(y.2.2.1,())) (fun _=>rfl)
theorem ZM9:ZDo.Sound prog Inv ZAq 213 :=
 ZF2 (M:=ZQh) (f:=f213) rfl ZPl 100000 (X:=nowhere) (fun base S0 cs0 hn hf=>ZAH.nowhere) (by intro x;kernel_rfl)
theorem ZA8:ZAp.Sound prog Inv ZAq 213:=by
 have e:ZAp=ZDo:=by unfold ZAp ZDo;rw [ZBj]
 rw [e];exact ZM9
noncomputable def ZWT:Mach prog Inv ZAq:=ZFE bas [(91,f91),(177,f177),(213,f213)] ⟨Zry,ZmT,ZFe,trivial⟩ [(176,ZEr)] ⟨⟨ZFz,ZAa.callable Zq9⟩,trivial⟩ [] trivial [(213,ZAc),(213,ZAd),(213,ZAi),(213,ZAp)] ⟨⟨ZAn,ZAa.callable ZFe⟩,⟨ZAo,ZAa.callable ZFe⟩,⟨ZAw,ZAa.callable ZFe⟩,⟨ZA8,ZAa.callable ZFe⟩,trivial⟩
@[reducible] noncomputable def ZKo:List Pat:=[.ptr 0 0,.all 1]
@[reducible] noncomputable def ZKp:List HPat:=[.cells 170 [.ptr 0 0,.all 2],.row (.int .u64),.row (.byt 5)]
/-! ### (*domino/frame.writer).numbers -/
abbrev ZGg:Type:=(List Int)×(List Int)×Unit
@[reducible] noncomputable def ZKq:List Pat:=[]
@[reducible] noncomputable def ZKr:List HPat:=[.cells 170 [.ptr 0 0,.all 3],.fro (.int .u64),.dead,.row (.byt 5)]
def ZUo:List Nat:=[91,177,213]
noncomputable def ZDy (l0:(List Int)) (l1:(List Int)):Option ZGg :=
 ZAX (ZTu l0) fun y2=>
 ZAX (ZBa l1) fun y3=>
 bif (decide (((List.length y3.1)+(List.length (ZA0 y2.1)))≤4294967296)) then
  let l4:(List Int):=(y3.1++(ZA0 y2.1))
  let n5:Int:=(((ByteArray.size y2.1):Nat):Int)
  some (l0,(l4,()))
 else none
theorem ZKs : ∃ f,f = @ZDy:=⟨_,rfl⟩
noncomputable def ZAU:=Classical.choose ZKs
theorem ZKt : @ZAU = @ZDy:=Classical.choose_spec ZKs
noncomputable def ZFm:HCon:=HCon.mk0 ZKo ZKp ZKq ZKr ZGg (fun x=>ZDy x.2.2.1 x.2.2.2.1) (fun r=>((),(((),((),())),(r.1,((),(r.2.1,())))))) (fun y=>(y.2.2.1,y.2.2.2.2.1,())) (fun _=>rfl)
noncomputable def ZBY:HCon:=HCon.mk0 ZKo ZKp ZKq ZKr ZGg (fun x=>ZAU x.2.2.1 x.2.2.2.1) (fun r=>((),(((),((),())),(r.1,((),(r.2.1,())))))) (fun y=>(y.2.2.1,y.2.2.2.2.1,())) (fun _=>rfl)
theorem ZRX:ZFm.Sound prog Inv ZAq 91 :=
 ZF2 (M:=ZWT) (f:=f91) rfl ZUo 100000 (X:=nowhere) (fun base S0 cs0 hn hf=>ZAH.nowhere) (by intro x;kernel_rfl)
theorem ZC7:ZBY.Sound prog Inv ZAq 91:=by
 have e:ZBY=ZFm:=by unfold ZBY ZFm;rw [ZKt]
 rw [e];exact ZRX
noncomputable def ZaV:Mach prog Inv ZAq:=ZFE bas [(175,f175),(91,f91),(177,f177),(213,f213)] ⟨Zq8,Zry,ZmT,ZFe,trivial⟩ [(176,ZEr)] ⟨⟨ZFz,ZAa.callable Zq9⟩,trivial⟩ [] trivial [(213,ZAc),(213,ZAd),(213,ZAi),(91,ZBX),(213,ZAp),(91,ZBY)] ⟨⟨ZAn,ZAa.callable ZFe⟩,⟨ZAo,ZAa.callable ZFe⟩,⟨ZAw,ZAa.callable ZFe⟩,⟨ZC6,ZAa.callable Zry⟩,⟨ZA8,ZAa.callable ZFe⟩,⟨ZC7,ZAa.callable Zry⟩,trivial⟩
@[reducible] noncomputable def ZNt:List Pat:=[.ptr 0 0,.str]
@[reducible] noncomputable def ZNu:List HPat:=[.cells 170 [.ptr 0 0,.all 1],.row (.byt 5)]
/-! ### (*domino/frame.writer).long -/
abbrev ZIz:Type:=(List Int)×Unit
@[reducible] noncomputable def ZNv:List Pat:=[]
@[reducible] noncomputable def ZNw:List HPat:=[.cells 170 [.ptr 0 0,.all 2],.dead,.row (.byt 5)]
def ZYz:List Nat:=[175,91,177,213]
noncomputable def ZFb (s0:ByteArray) (l1:(List Int)):Option ZIz :=
 let n2:Int:=(((ByteArray.size s0):Nat):Int)
 let n3:Int:=(Go.IntKind.wrap Go.IntKind.u64 n2)
 ZAX (ZAU (n3::([]:List Int)) l1) fun y4=>
 ZAX (ZBa y4.2.1) fun y5=>
 bif (decide (((List.length y5.1)+(List.length (ZA0 s0)))≤4294967296)) then
  let l6:(List Int):=(y5.1++(ZA0 s0))
  let n7:Int:=(((ByteArray.size s0):Nat):Int)
  some (l6,())
 else none
theorem ZNx : ∃ f,f = @ZFb:=⟨_,rfl⟩
noncomputable def ZBI:=Classical.choose ZNx
theorem ZNy : @ZBI = @ZFb:=Classical.choose_spec ZNx
noncomputable def ZIT:HCon:=HCon.mk0 ZNt ZNu ZNv ZNw ZIz (fun x=>ZFb x.1.2.1 x.2.2.1) (fun r=>((),(((),((),())),((),(r.1,()))))) (fun y=>(y.2.2.2.1,())) (fun _=>rfl)
noncomputable def ZCg:HCon:=HCon.mk0 ZNt ZNu ZNv ZNw ZIz (fun x=>ZBI x.1.2.1 x.2.2.1) (fun r=>((),(((),((),())),((),(r.1,()))))) (fun y=>(y.2.2.2.1,())) (fun _=>rfl)
theorem ZUp:ZIT.Sound prog Inv ZAq 175 :=
 ZF2 (M:=ZaV) (f:=f175) rfl ZYz 100000 (X:=nowhere) (fun base S0 cs0 hn hf=>ZAH.nowhere) (by intro x;kernel_rfl)
theorem ZGh:ZCg.Sound prog Inv ZAq 175:=by
 have e:ZCg=ZIT:=by unfold ZCg ZIT;rw [ZNy]
 rw [e];exact ZUp
noncomputable def ZHl:Mach prog Inv ZAq:=ZFE bas [(90,f90),(91,f91),(175,f175),(177,f177),(213,f213)] ⟨ZzY,Zry,Zq8,ZmT,ZFe,trivial⟩ [(176,ZEr)] ⟨⟨ZFz,ZAa.callable Zq9⟩,trivial⟩ [] trivial [(213,ZAc),(213,ZAd),(213,ZAi),(91,ZBX),(213,ZAp),(91,ZBY),(175,ZCg)] ⟨⟨ZAn,ZAa.callable ZFe⟩,⟨ZAo,ZAa.callable ZFe⟩,⟨ZAw,ZAa.callable ZFe⟩,⟨ZC6,ZAa.callable Zry⟩,⟨ZA8,ZAa.callable ZFe⟩,⟨ZC7,ZAa.callable Zry⟩,⟨ZGh,ZAa.callable Zq8⟩,trivial⟩
@[reducible] noncomputable def ZGi:List Pat:=[.ptr 0 0,.dat ZAN]
@[reducible] noncomputable def ZGj:List HPat:=[.cells 170 [.nilPtr,.nilSlice]]
/-! ### (*domino/frame.writer).stream -/
abbrev ZAY:Type:=(List Int)×Unit
@[reducible] noncomputable def ZGk:List Pat:=[]
@[reducible] noncomputable def ZGl:List HPat:=[.cells 170 [.ptr 0 0,.all 1],.row (.byt 5)]
noncomputable def ZEI:HCon:=HCon.mk0 ZGi ZGj ZGk ZGl ZAY (fun _=>none) (fun r=>((),(((),((),())),(r.1,())))) (fun y=>(y.2.2.1,())) (fun _=>rfl)
def ZDz:List Nat:=[90,91,175,177,213]
abbrev ZBk (base:Base) (S0:Nat→Prop):=base.n=1∧FinOk (Zwy ZEI) base S0 (Zhn ZEI base S0)
abbrev ZHm (base:Base) (S0:Nat→Prop) (cs0:List Go.Frame) (p:CPat) (J:ZC9 p→Option ZAY):=ZAb ZHl base S0 cs0 (Zhn ZEI base S0) p J
abbrev ZHn (base:Base) (S0:Nat→Prop) (cs0:List Go.Frame) (X:Cfg→Option (Option ZAY)):=ZAH ZHl base S0 cs0 (Zhn ZEI base S0) X
@[reducible] noncomputable def ZFn:CPat:=⟨⟨90,[1,1,1,1,1,1],none,[.ptr 0 0,.any,.any,.ptr 1 0],28⟩,[],[.cells 170 [.ptr 0 0,.all 2],.dat 38 ZAN,.row (.byt 5)],1⟩
@[reducible] noncomputable def ZKu (k:ZAC→(List Int)→Option ZAY):ZC9 ZFn→Option ZAY:=fun x=>k x.2.2.2.1 x.2.2.2.2.1
noncomputable def ZFo (d14:ZAC) (l15:(List Int)):Option ZAY :=
 ZAX (ZBI d14.2.2.2.2.2.2.2.2.2.1 l15) fun y16=>
 some (y16.1,())
theorem ZJp : ∃ f,f = @ZFo:=⟨_,rfl⟩
noncomputable def ZCy:=Classical.choose ZJp
theorem ZJq : @ZCy = @ZFo:=Classical.choose_spec ZJp
theorem ZUq {base S0 cs0} (hfin:ZBk base S0):ZHm base S0 cs0 ZFn (ZKu (ZCy)) :=
 ZAb.join hfin.2 (ZAH.nowhere) ZDz 100000 (by rw [ZJq];intro x;kernel_rfl)
noncomputable def ZKv:Cfg→Option (Option ZAY):=cut ZFn (ZKu (ZCy)) (nowhere)
theorem ZKw {base S0 cs0} (hfin:ZBk base S0):ZHn base S0 cs0 (ZKv):=ZAH.cut (ZAH.nowhere) (Nat.le_of_eq hfin.1) (ZUq hfin)
@[reducible] noncomputable def ZFp:CPat:=⟨⟨90,[1,1,1,1],none,[.ptr 0 0,.any,.any,.ptr 1 0,.int .u64],27⟩,[],[.cells 170 [.nilPtr,.nilSlice],.dat 38 ZAN],1⟩
@[reducible] noncomputable def ZKx (k:Int→ZAC→Option ZAY):ZC9 ZFp→Option ZAY:=fun x=>k x.1.2.2.2.2.1 x.2.2.2.1
noncomputable def ZFq (i8:Int) (d9:ZAC):Option ZAY :=
 ZAX (ZBs (i8::(d9.2.1::([]:List Int)))) fun y10=>
 let b11:Bool:=(d9.2.2.1 != (0:Int))
 bif b11 then
  ZAX (ZAU (d9.2.2.1::([]:List Int)) y10.2.1) fun y12=>
  ZCy d9 y12.2.1
 else
  ZCy d9 y10.2.1
theorem ZJr : ∃ f,f = @ZFq:=⟨_,rfl⟩
noncomputable def ZCz:=Classical.choose ZJr
theorem ZJs : @ZCz = @ZFq:=Classical.choose_spec ZJr
theorem ZUr {base S0 cs0} (hfin:ZBk base S0):ZHm base S0 cs0 ZFp (ZKx (ZCz)) :=
 ZAb.join hfin.2 (ZKw hfin) ZDz 100000 (by rw [ZJs];intro x;kernel_rfl)
noncomputable def ZKy:Cfg→Option (Option ZAY):=cut ZFp (ZKx (ZCz)) (ZKv)
theorem ZKz {base S0 cs0} (hfin:ZBk base S0):ZHn base S0 cs0 (ZKy):=ZAH.cut (ZKw hfin) (Nat.le_of_eq hfin.1) (ZUr hfin)
@[reducible] noncomputable def ZFr:CPat:=⟨⟨90,[1,1,1],none,[.ptr 0 0,.any,.any,.ptr 1 0,.int .u64],27⟩,[],[.cells 170 [.nilPtr,.nilSlice],.dat 38 ZAN],1⟩
@[reducible] noncomputable def ZK0 (k:Int→ZAC→Option ZAY):ZC9 ZFr→Option ZAY:=fun x=>k x.1.2.2.2.2.1 x.2.2.2.1
noncomputable def ZFs (i3:Int) (d4:ZAC):Option ZAY :=
 bif d4.2.2.2.2.2.2.2.2.1 then
  let n5:Int:=(bits Go.BinOp.or Go.IntKind.u64 i3 (1:Int))
  ZCz n5 d4
 else
  ZCz i3 d4
theorem ZJt : ∃ f,f = @ZFs:=⟨_,rfl⟩
noncomputable def ZC0:=Classical.choose ZJt
theorem ZJu : @ZC0 = @ZFs:=Classical.choose_spec ZJt
theorem ZUs {base S0 cs0} (hfin:ZBk base S0):ZHm base S0 cs0 ZFr (ZK0 (ZC0)) :=
 ZAb.join hfin.2 (ZKz hfin) ZDz 100000 (by rw [ZJu];intro x;kernel_rfl)
noncomputable def ZK1:Cfg→Option (Option ZAY):=cut ZFr (ZK0 (ZC0)) (ZKy)
theorem ZUt {base S0 cs0} (hfin:ZBk base S0):ZHn base S0 cs0 (ZK1):=ZAH.cut (ZKz hfin) (Nat.le_of_eq hfin.1) (ZUs hfin)
noncomputable def ZEJ (d0:ZAC):Option ZAY :=
 let b1:Bool:=(d0.2.2.1 != (0:Int))
 bif b1 then
  let n2:Int:=(bits Go.BinOp.or Go.IntKind.u64 (10:Int) (4:Int))
  ZC0 n2 d0
 else
  ZC0 (10:Int) d0
theorem ZLo : ∃ f,f = @ZEJ:=⟨_,rfl⟩
noncomputable def ZFc:=Classical.choose ZLo
theorem ZLp : @ZFc = @ZEJ:=Classical.choose_spec ZLo
noncomputable def ZGm:HCon:=HCon.mk0 ZGi ZGj ZGk ZGl ZAY (fun x=>ZEJ x.1.2.1) (fun r=>((),(((),((),())),(r.1,())))) (fun y=>(y.2.2.1,())) (fun _=>rfl)
noncomputable def ZEK:HCon:=HCon.mk0 ZGi ZGj ZGk ZGl ZAY (fun x=>ZFc x.1.2.1) (fun r=>((),(((),((),())),(r.1,())))) (fun y=>(y.2.2.1,())) (fun _=>rfl)
theorem ZSk:ZGm.Sound prog Inv ZAq 90 :=
 ZF2 (M:=ZHl) (f:=f90) rfl ZDz 100000 (X:=ZK1) (fun base S0 cs0 hn hf=>have hfin:ZBk base S0:=⟨hn,hf⟩;ZUt hfin) (by intro x;kernel_rfl)
theorem ZT5:ZEK.Sound prog Inv ZAq 90:=by
 have e:ZEK=ZGm:=by unfold ZEK ZGm;rw [ZLp]
 rw [e];exact ZSk
noncomputable def ZOe:Mach prog Inv ZAq:=ZFE bas [(177,f177),(213,f213)] ⟨ZmT,ZFe,trivial⟩ [] trivial [] trivial [(213,ZAc),(213,ZAd),(213,ZAi),(213,ZAp)] ⟨⟨ZAn,ZAa.callable ZFe⟩,⟨ZAo,ZAa.callable ZFe⟩,⟨ZAw,ZAa.callable ZFe⟩,⟨ZA8,ZAa.callable ZFe⟩,trivial⟩
@[reducible] noncomputable def ZGG:List Pat:=[.ptr 0 0,.str]
@[reducible] noncomputable def ZGH:List HPat:=[.cells 170 [.ptr 0 0,.all 1],.row (.byt 5)]
/-! ### (*strings.Builder).WriteString -/
abbrev ZDa:Type:=Int×(List Int)×Unit
@[reducible] noncomputable def ZGI:List Pat:=[.int .i64,.nilIface]
@[reducible] noncomputable def ZGJ:List HPat:=[.cells 170 [.ptr 0 0,.all 2],.dead,.row (.byt 5)]
def ZNz:List Nat:=[177,213]
noncomputable def ZCL (s0:ByteArray) (l1:(List Int)):Option ZDa :=
 ZAX (ZBa l1) fun y2=>
 bif (decide (((List.length y2.1)+(List.length (ZA0 s0)))≤4294967296)) then
  let l3:(List Int):=(y2.1++(ZA0 s0))
  let n4:Int:=(((ByteArray.size s0):Nat):Int)
  some (n4,(l3,()))
 else none
theorem ZGK : ∃ f,f = @ZCL:=⟨_,rfl⟩
noncomputable def ZA7:=Classical.choose ZGK
theorem ZGL : @ZA7 = @ZCL:=Classical.choose_spec ZGK
noncomputable def ZDO:HCon:=HCon.mk0 ZGG ZGH ZGI ZGJ ZDa (fun x=>ZCL x.1.2.1 x.2.2.1) (fun r=>((r.1,((),())),(((),((),())),((),(r.2.1,()))))) (fun y=>(y.1.1,y.2.2.2.1,())) (fun _=>rfl)
noncomputable def ZBc:HCon:=HCon.mk0 ZGG ZGH ZGI ZGJ ZDa (fun x=>ZA7 x.1.2.1 x.2.2.1) (fun r=>((r.1,((),())),(((),((),())),((),(r.2.1,()))))) (fun y=>(y.1.1,y.2.2.2.1,())) (fun _=>rfl)
theorem ZLq:ZDO.Sound prog Inv ZAq 177 :=
 ZF2 (M:=ZOe) (f:=f177) rfl ZNz 100000 (X:=nowhere) (fun base S0 cs0 hn hf=>ZAH.nowhere) (by intro x;kernel_rfl)
theorem ZFN:ZBc.Sound prog Inv ZAq 177:=by
 have e:ZBc=ZDO:=by unfold ZBc ZDO;rw [ZGL]
 rw [e];exact ZLq
noncomputable def ZQi:Mach prog Inv ZAq:=ZFE bas [(180,f180),(213,f213)] ⟨ZuB,ZFe,trivial⟩ [] trivial [] trivial [(213,ZAc),(213,ZAd),(213,ZAi),(213,ZAp)] ⟨⟨ZAn,ZAa.callable ZFe⟩,⟨ZAo,ZAa.callable ZFe⟩,⟨ZAw,ZAa.callable ZFe⟩,⟨ZA8,ZAa.callable ZFe⟩,trivial⟩
@[reducible] noncomputable def ZHo:List Pat:=[.ptr 0 0,.int .u8]
@[reducible] noncomputable def ZHp:List HPat:=[.cells 170 [.ptr 0 0,.all 1],.row (.byt 5)]
/-! ### (*strings.Builder).WriteByte -/
abbrev ZED:Type:=(List Int)×Unit
@[reducible] noncomputable def ZHq:List Pat:=[.nilIface]
@[reducible] noncomputable def ZHr:List HPat:=[.cells 170 [.ptr 0 0,.all 2],.dead,.row (.byt 5)]
def ZPm:List Nat:=[180,213]
noncomputable def ZCf (i0:Int) (l1:(List Int)):Option ZED :=
 ZAX (ZBa l1) fun y2=>
 bif (decide (((List.length y2.1)+(List.length (i0::([]:List Int))))≤4294967296)) then
  let l3:(List Int):=(y2.1++(i0::([]:List Int)))
  some (l3,())
 else none
theorem ZHs : ∃ f,f = @ZCf:=⟨_,rfl⟩
noncomputable def ZCH:=Classical.choose ZHs
theorem ZHt : @ZCH = @ZCf:=Classical.choose_spec ZHs
noncomputable def ZDp:HCon:=HCon.mk0 ZHo ZHp ZHq ZHr ZED (fun x=>ZCf x.1.2.1 x.2.2.1) (fun r=>(((),()),(((),((),())),((),(r.1,()))))) (fun y=>(y.2.2.2.1,())) (fun _=>rfl)
noncomputable def ZBq:HCon:=HCon.mk0 ZHo ZHp ZHq ZHr ZED (fun x=>ZCH x.1.2.1 x.2.2.1) (fun r=>(((),()),(((),((),())),((),(r.1,()))))) (fun y=>(y.2.2.2.1,())) (fun _=>rfl)
theorem ZNA:ZDp.Sound prog Inv ZAq 180 :=
 ZF2 (M:=ZQi) (f:=f180) rfl ZPm 100000 (X:=nowhere) (fun base S0 cs0 hn hf=>ZAH.nowhere) (by intro x;kernel_rfl)
theorem ZGM:ZBq.Sound prog Inv ZAq 180:=by
 have e:ZBq=ZDp:=by unfold ZBq ZDp;rw [ZHt]
 rw [e];exact ZNA
noncomputable def ZIU:Mach prog Inv ZAq:=ZFE bas [(92,f92),(91,f91),(175,f175),(177,f177),(179,f179),(180,f180),(213,f213)] ⟨ZzZ,Zry,Zq8,ZmT,ZyK,ZuB,ZFe,trivial⟩ [(176,ZEr)] ⟨⟨ZFz,ZAa.callable Zq9⟩,trivial⟩ [(178,ZDN)] ⟨⟨ZH6,ZAa.callable Zw7⟩,trivial⟩ [(213,ZAc),(213,ZAd),(213,ZAi),(91,ZBX),(213,ZAp),(91,ZBY),(175,ZCg),(177,ZBc),(180,ZBq)] ⟨⟨ZAn,ZAa.callable ZFe⟩,⟨ZAo,ZAa.callable ZFe⟩,⟨ZAw,ZAa.callable ZFe⟩,⟨ZC6,ZAa.callable Zry⟩,⟨ZA8,ZAa.callable ZFe⟩,⟨ZC7,ZAa.callable Zry⟩,⟨ZGh,ZAa.callable Zq8⟩,⟨ZFN,ZAa.callable ZmT⟩,⟨ZGM,ZAa.callable ZuB⟩,trivial⟩
@[reducible] noncomputable def ZHu:List Pat:=[.ptr 0 0,.dat ZAN]
@[reducible] noncomputable def ZHv:List HPat:=[.cells 170 [.ptr 0 0,.all 1],.row (.byt 5)]
/-! ### (*domino/frame.writer).parts -/
abbrev ZAL:Type:=(List Int)×Unit
@[reducible] noncomputable def ZHw:List Pat:=[]
@[reducible] noncomputable def ZHx:List HPat:=[.cells 170 [.ptr 0 0,.all 2],.dead,.row (.byt 5)]
noncomputable def ZEu:HCon:=HCon.mk0 ZHu ZHv ZHw ZHx ZAL (fun _=>none) (fun r=>((),(((),((),())),((),(r.1,()))))) (fun y=>(y.2.2.2.1,())) (fun _=>rfl)
def ZCJ:List Nat:=[92,91,175,177,179,180,213]
abbrev ZAs (base:Base) (S0:Nat→Prop):=base.n=2∧FinOk (Zwy ZEu) base S0 (Zhn ZEu base S0)
abbrev ZBt (base:Base) (S0:Nat→Prop) (cs0:List Go.Frame) (p:CPat) (J:ZC9 p→Option ZAL):=ZAb ZIU base S0 cs0 (Zhn ZEu base S0) p J
abbrev ZDP (base:Base) (S0:Nat→Prop) (cs0:List Go.Frame) (X:Cfg→Option (Option ZAL)):=ZAH ZIU base S0 cs0 (Zhn ZEu base S0) X
@[reducible] noncomputable def ZGn:CPat:=⟨⟨92,[1,1,0,1,1,1,1,1,1,1,1,1,1,1,1,1,1,1,1,1],none,[.ptr 0 0,.any,.any,.ptr 2 0,.any,.any,.any,.any,.int .u64,.any,.any,.any,.any,.any,.any,.any,.any,.any,.any,.any,.any,.any,.any,.any,.any,.any,.any,.any,.any,.any,.any,.any,.any,.any,.any,.any,.any,.any,.any,.any,.any,.any,.any,.any,.any,.any,.any,.any,.any,.any,.any,.any,.any,.any,.any,.any,.any,.any,.any,.any,.any,.any,.any,.any,.any,.any,.any,.any,.any,.any,.any,.any,.any,.any,.any,.any,.any,.any,.any,.any,.any,.any,.any,.any,.any,.any,.any,.any,.any,.any,.any,.any,.any,.any,.any,.any,.any,.any,.any,.any,.any,.any,.any,.any,.any,.any,.any,.any,.any,.any,.any,.any,.any,.any,.any,.any,.any,.any,.any,.any,.any,.any,.any,.any,.any,.any,.any,.any,.any,.any,.any,.any,.any,.any,.any,.any,.any,.any,.any,.any,.any,.any,.any,.any,.any,.any,.any,.any,.any,.any,.bool],32⟩,[],[.cells 170 [.ptr 0 0,.all 1],.row (.byt 5),.dat 38 ZAN],2⟩
@[reducible] noncomputable def ZLr (k:Int→Bool→(List Int)→ZAC→Option ZAL):ZC9 ZGn→Option ZAL:=fun x=>k x.1.2.2.2.2.2.2.2.2.1 x.1.2.2.2.2.2.2.2.2.2.2.2.2.2.2.2.2.2.2.2.2.2.2.2.2.2.2.2.2.2.2.2.2.2.2.2.2.2.2.2.2.2.2.2.2.2.2.2.2.2.2.2.2.2.2.2.2.2.2.2.2.2.2.2.2.2.2.2.2.2.2.2.2.2.2.2.2.2.2.2.2.2.2.2.2.2.2.2.2.2.2.2.2.2.2.2.2.2.2.2.2.2.2.2.2.2.2.2.2.2.2.2.2.2.2.2.2.2.2.2.2.2.2.2.2.2.2.2.2.2.2.2.2.2.2.2.2.2.2.2.2.2.2.2.2.2.2.2.2.2.2.1 x.2.2.2.1 x.2.2.2.2.1
noncomputable def ZGo (i125:Int) (b126:Bool) (l127:(List Int)) (d128:ZAC):Option ZAL :=
 bif b126 then
  ZAX (ZA7 d128.2.2.2.2.2.2.2.2.2.2.2.1 l127) fun y129=>
  some (y129.2.1,())
 else
  let b130:Bool:=(i125==(28:Int))
  bif b130 then
   ZAX (ZAU (d128.2.2.2.2.1::(d128.2.2.2.2.2.2.2.1::([]:List Int))) l127) fun y131=>
   ZAX (ZBI d128.2.2.2.2.2.2.2.2.2.1 y131.2.1) fun y132=>
   some (y132.1,())
  else
   let b133:Bool:=(i125==(29:Int))
   bif b133 then
    ZAX (ZAU (d128.2.2.2.2.1::([]:List Int)) l127) fun y134=>
    ZAX (ZBI d128.2.2.2.2.2.2.2.2.2.1 y134.2.1) fun y135=>
    some (y135.1,())
   else
    some (l127,())
theorem ZK2 : ∃ f,f = @ZGo:=⟨_,rfl⟩
noncomputable def ZDQ:=Classical.choose ZK2
theorem ZK3 : @ZDQ = @ZGo:=Classical.choose_spec ZK2
theorem ZWU {base S0 cs0} (hfin:ZAs base S0):ZBt base S0 cs0 ZGn (ZLr (ZDQ)) :=
 ZAb.join hfin.2 (ZAH.nowhere) ZCJ 100000 (by rw [ZK3];intro x;kernel_rfl)
noncomputable def ZLs:Cfg→Option (Option ZAL):=cut ZGn (ZLr (ZDQ)) (nowhere)
theorem ZLt {base S0 cs0} (hfin:ZAs base S0):ZDP base S0 cs0 (ZLs):=ZAH.cut (ZAH.nowhere) (Nat.le_of_eq hfin.1) (ZWU hfin)
@[reducible] noncomputable def ZGp:CPat:=⟨⟨92,[1,1,0,1,1,1,1,1,1,1,1,1,1,1],none,[.ptr 0 0,.any,.any,.ptr 2 0,.any,.any,.any,.any,.int .u64,.any,.any,.any,.any,.any,.any,.any,.any,.any,.any,.any,.any,.any,.any,.any,.any,.any,.any,.any,.any,.any,.any,.any,.any,.any,.any,.any,.any,.any,.any,.any,.any,.any,.any,.any,.any,.any,.any,.any,.any,.any,.any,.any,.any,.any,.any,.any,.any,.any,.any,.any,.any,.any,.any,.any,.any,.any,.any,.any,.any,.any,.any,.any,.any,.any,.any,.any,.any,.any,.any,.any,.any,.any,.any,.any,.any,.any,.any,.any,.any,.any,.any,.any,.any,.any,.any,.any,.any,.any,.any,.any,.any,.any,.any,.any,.any,.any,.any,.bool],75⟩,[],[.cells 170 [.ptr 0 0,.all 1],.row (.byt 5),.dat 38 ZAN],2⟩
@[reducible] noncomputable def ZLu (k:Int→Bool→(List Int)→ZAC→Option ZAL):ZC9 ZGp→Option ZAL:=fun x=>k x.1.2.2.2.2.2.2.2.2.1 x.1.2.2.2.2.2.2.2.2.2.2.2.2.2.2.2.2.2.2.2.2.2.2.2.2.2.2.2.2.2.2.2.2.2.2.2.2.2.2.2.2.2.2.2.2.2.2.2.2.2.2.2.2.2.2.2.2.2.2.2.2.2.2.2.2.2.2.2.2.2.2.2.2.2.2.2.2.2.2.2.2.2.2.2.2.2.2.2.2.2.2.2.2.2.2.2.2.2.2.2.2.2.2.2.2.2.2.2.1 x.2.2.2.1 x.2.2.2.2.1
noncomputable def ZGq (i109:Int) (b110:Bool) (l111:(List Int)) (d112:ZAC):Option ZAL :=
 bif b110 then
  ZAX (ZAU (d112.2.1::(d112.2.2.2.1::([]:List Int))) l111) fun y113=>
  some (y113.2.1,())
 else
  let b114:Bool:=(i109==(24:Int))
  bif b114 then
   ZAX (ZAU (d112.2.2.2.2.2.1::(d112.2.2.2.2.2.2.1::([]:List Int))) l111) fun y115=>
   let n116:Int:=(((ByteArray.size d112.2.2.2.2.2.2.2.2.2.2.1):Nat):Int)
   let n117:Int:=(Go.IntKind.wrap Go.IntKind.u8 n116)
   ZAX (ZCH n117 y115.2.1) fun y118=>
   bif (decide (((ByteArray.size d112.2.2.2.2.2.2.2.2.2.2.1)+(ByteArray.size d112.2.2.2.2.2.2.2.2.2.2.2.1))≤9223372036854775807)) then
    let s119:ByteArray:=(d112.2.2.2.2.2.2.2.2.2.2.1++d112.2.2.2.2.2.2.2.2.2.2.2.1)
    ZAX (ZA7 s119 y118.1) fun y120=>
    some (y120.2.1,())
   else none
  else
   let b121:Bool:=(i109==(25:Int))
   bif b121 then
    ZAX (ZAU (d112.2.2.2.2.2.1::([]:List Int)) l111) fun y122=>
    some (y122.2.1,())
   else
    let b123:Bool:=(i109==(26:Int))
    bif b123 then
     ZDQ i109 true l111 d112
    else
     let b124:Bool:=(i109==(27:Int))
     ZDQ i109 b124 l111 d112
theorem ZK4 : ∃ f,f = @ZGq:=⟨_,rfl⟩
noncomputable def ZDR:=Classical.choose ZK4
theorem ZK5 : @ZDR = @ZGq:=Classical.choose_spec ZK4
theorem ZWV {base S0 cs0} (hfin:ZAs base S0):ZBt base S0 cs0 ZGp (ZLu (ZDR)) :=
 ZAb.join hfin.2 (ZLt hfin) ZCJ 100000 (by rw [ZK5];intro x;kernel_rfl)
noncomputable def ZLv:Cfg→Option (Option ZAL):=cut ZGp (ZLu (ZDR)) (ZLs)
theorem ZLw {base S0 cs0} (hfin:ZAs base S0):ZDP base S0 cs0 (ZLv):=ZAH.cut (ZLt hfin) (Nat.le_of_eq hfin.1) (ZWV hfin)
@[reducible] noncomputable def ZGr:CPat:=⟨⟨92,[1,1,0,1,1,1,1,1,1,1,1,1],none,[.ptr 0 0,.any,.any,.ptr 2 0,.any,.any,.any,.any,.int .u64,.any,.any,.any,.any,.any,.any,.any,.any,.any,.any,.any,.any,.any,.any,.any,.any,.any,.any,.any,.any,.any,.any,.any,.any,.any,.any,.any,.any,.any,.any,.any,.any,.any,.any,.any,.any,.any,.any,.any,.any,.any,.any,.any,.any,.any,.any,.any,.any,.any,.any,.any,.any,.any,.any,.any,.any,.any,.any,.any,.any,.any,.any,.any,.any,.any,.any,.any,.any,.any,.any,.any,.any,.any,.any,.any,.any,.any,.any,.any,.any,.any,.any,.any,.any,.any,.any,.bool],87⟩,[],[.cells 170 [.ptr 0 0,.all 1],.row (.byt 5),.dat 38 ZAN],2⟩
@[reducible] noncomputable def ZLx (k:Int→Bool→(List Int)→ZAC→Option ZAL):ZC9 ZGr→Option ZAL:=fun x=>k x.1.2.2.2.2.2.2.2.2.1 x.1.2.2.2.2.2.2.2.2.2.2.2.2.2.2.2.2.2.2.2.2.2.2.2.2.2.2.2.2.2.2.2.2.2.2.2.2.2.2.2.2.2.2.2.2.2.2.2.2.2.2.2.2.2.2.2.2.2.2.2.2.2.2.2.2.2.2.2.2.2.2.2.2.2.2.2.2.2.2.2.2.2.2.2.2.2.2.2.2.2.2.2.2.2.2.2.1 x.2.2.2.1 x.2.2.2.2.1
noncomputable def ZGs (i102:Int) (b103:Bool) (l104:(List Int)) (d105:ZAC):Option ZAL :=
 bif b103 then
  ZAX (ZAU (d105.2.2.2.1::([]:List Int)) l104) fun y106=>
  some (y106.2.1,())
 else
  let b107:Bool:=(i102==(17:Int))
  bif b107 then
   ZDR i102 true l104 d105
  else
   let b108:Bool:=(i102==(21:Int))
   ZDR i102 b108 l104 d105
theorem ZK6 : ∃ f,f = @ZGs:=⟨_,rfl⟩
noncomputable def ZBK:=Classical.choose ZK6
theorem ZK7 : @ZBK = @ZGs:=Classical.choose_spec ZK6
theorem ZWW {base S0 cs0} (hfin:ZAs base S0):ZBt base S0 cs0 ZGr (ZLx (ZBK)) :=
 ZAb.join hfin.2 (ZLw hfin) ZCJ 100000 (by rw [ZK7];intro x;kernel_rfl)
noncomputable def ZGt:Cfg→Option (Option ZAL):=cut ZGr (ZLx (ZBK)) (ZLv)
theorem ZLy {base S0 cs0} (hfin:ZAs base S0):ZDP base S0 cs0 (ZGt):=ZAH.cut (ZLw hfin) (Nat.le_of_eq hfin.1) (ZWW hfin)
@[reducible] noncomputable def ZCi:CPat:=⟨⟨92,[1,1,0,1,0,1,1,1,1,0],none,[.ptr 0 0,.any,.any,.any,.all 2,.any,.any,.any,.any,.any,.any,.any,.any,.any,.any,.any,.any,.any,.any,.any,.any,.any,.any,.any,.any,.any,.any,.any,.any,.any,.any,.any,.any,.any,.any,.any,.any,.any,.any,.sl 2,.int .i64,.int .i64],141⟩,[],[.cells 170 [.ptr 0 0,.all 3],.dead,.row ZAG,.row (.byt 5)],2⟩
@[reducible] noncomputable def ZCj (k:Nat→Nat→Int→Int→(List ZAA)→(List Int)→Option ZAL):ZC9 ZCi→Option ZAL:=fun x=>k x.1.2.2.2.2.2.2.2.2.2.2.2.2.2.2.2.2.2.2.2.2.2.2.2.2.2.2.2.2.2.2.2.2.2.2.2.2.2.2.2.1.1 x.1.2.2.2.2.2.2.2.2.2.2.2.2.2.2.2.2.2.2.2.2.2.2.2.2.2.2.2.2.2.2.2.2.2.2.2.2.2.2.2.1.2 x.1.2.2.2.2.2.2.2.2.2.2.2.2.2.2.2.2.2.2.2.2.2.2.2.2.2.2.2.2.2.2.2.2.2.2.2.2.2.2.2.2.1 x.1.2.2.2.2.2.2.2.2.2.2.2.2.2.2.2.2.2.2.2.2.2.2.2.2.2.2.2.2.2.2.2.2.2.2.2.2.2.2.2.2.2.1 x.2.2.2.2.1 x.2.2.2.2.2.1
noncomputable def ZGu (k1:Nat→Nat→Int→Int→(List ZAA)→(List Int)→Option ZAL) (o72:Nat) (k73:Nat) (i74:Int) (i75:Int) (l76:(List ZAA)) (l77:(List Int)):Option ZAL :=
 let b78:Bool:=(decide (i75<i74))
 bif b78 then
  bif (decide (((0:Int)≤i75)∧(i75<((k73:Nat):Int)))) then
   let i79:Nat:=(o72+(Int.toNat i75))
   let n80:Int:=(List.getD l76 i79 (Ty.dflt ZAG)).1
   let n81:Int:=(List.getD l76 i79 (Ty.dflt ZAG)).2.1
   bif (decide (((0:Int)≤i75)∧(i75<(((List.length l76):Nat):Int)))) then
    let i82:Nat:=(Int.toNat i75)
    let n83:Int:=(List.getD l76 i82 (Ty.dflt ZAG)).1
    let n84:Int:=(Go.IntKind.wrap Go.IntKind.u64 (n83 - n81))
    let n85:Int:=(Go.IntKind.wrap Go.IntKind.u64 (n84 - (2:Int)))
    let n86:Int:=(Go.IntKind.wrap Go.IntKind.u64 (n81 - n80))
    ZAX (ZAU (n85::(n86::([]:List Int))) l77) fun y87=>
    let n88:Int:=(Go.IntKind.wrap Go.IntKind.i64 (i75+(1:Int)))
    k1 o72 k73 i74 n88 l76 y87.2.1
   else none
  else none
 else
  some (l77,())
noncomputable def ZBu:Nat→Nat→Nat→Int→Int→(List ZAA)→(List Int)→Option ZAL
 | 0=>fun _ _ _ _ _ _=>none
 | m+1=>ZGu (ZBu m)
noncomputable def ZFt (o72:Nat) (k73:Nat) (i74:Int) (i75:Int) (l76:(List ZAA)) (l77:(List Int)):Option ZAL:=ZBu (Int.toNat (i74 - i75)+2) o72 k73 i74 i75 l76 l77
theorem ZJv : ∃ f,f = @ZFt:=⟨_,rfl⟩
noncomputable def ZEL:=Classical.choose ZJv
theorem ZJw : @ZEL = @ZFt:=Classical.choose_spec ZJv
theorem ZWX {base S0 cs0} (hfin:ZAs base S0) : ∀ m,ZBt base S0 cs0 ZCi (ZCj (ZBu m)) :=
 ZAb.loop' hfin.2 ZCJ 100000 ZCj (fun k1=>cut ZCi (ZCj k1) (ZGt)) (fun k1 h1=>ZAH.cut (ZLy hfin) (Nat.le_of_eq hfin.1) h1) (ZBu) (by intro x;rfl) (by intro m x;kernel_rfl)
theorem ZUu {base S0 cs0} (hfin:ZAs base S0):ZBt base S0 cs0 ZCi (ZCj (ZEL)):=by
 rw [ZJw];exact fun x r hx=>ZWX hfin _ x r hx
noncomputable def ZGv:Cfg→Option (Option ZAL):=cut ZCi (ZCj (ZEL)) (ZGt)
theorem ZLz {base S0 cs0} (hfin:ZAs base S0):ZDP base S0 cs0 (ZGv):=ZAH.cut (ZLy hfin) (Nat.le_of_eq hfin.1) (ZUu hfin)
@[reducible] noncomputable def ZCk:CPat:=⟨⟨179,[1,0],none,[.all 2,.any,.int .i64,.int .i64],24⟩,[⟨92,[1,1,0,1,0,1,0],(some 1),[.ptr 0 0,.any,.any,.ptr 3 0,.all 2],178⟩],[.cells 170 [.ptr 0 0,.all 1],.row (.byt 5),.row ZAG,.dat 38 ZAN],2⟩
@[reducible] noncomputable def ZCl (k:Int→Int→(List Int)→(List ZAA)→ZAC→Option ZAL):ZC9 ZCk→Option ZAL:=fun x=>k x.1.2.2.1 x.1.2.2.2.1 x.2.2.2.1 x.2.2.2.2.1 x.2.2.2.2.2.1
noncomputable def ZD0 (k0:Int→Int→(List Int)→(List ZAA)→ZAC→Option ZAL) (i30:Int) (i31:Int) (l32:(List Int)) (l33:(List ZAA)) (d34:ZAC):Option ZAL :=
 let b35:Bool:=(decide (i30<i31))
 bif b35 then
  bif (decide (((0:Int)≤i31)∧(i31<(((List.length l33):Nat):Int)))) then
   let i36:Nat:=(Int.toNat i31)
   let n37:Int:=(List.getD l33 i36 (Ty.dflt ZAG)).1
   let n38:Int:=(List.getD l33 i36 (Ty.dflt ZAG)).2.1
   bif (decide (((0:Int)≤i30)∧(i30<(((List.length l33):Nat):Int)))) then
    let i39:Nat:=(Int.toNat i30)
    let n40:Int:=(List.getD l33 i39 (Ty.dflt ZAG)).1
    let n41:Int:=(List.getD l33 i39 (Ty.dflt ZAG)).2.1
    bif (decide (((0:Int)≤i30)∧(i30<(((List.length l33):Nat):Int)))) then
     let i42:Nat:=(Int.toNat i30)
     let l43:(List ZAA):=(List.set l33 i42 (n37,(n38,())))
     bif (decide (((0:Int)≤i31)∧(i31<(((List.length l43):Nat):Int)))) then
      let i44:Nat:=(Int.toNat i31)
      let l45:(List ZAA):=(List.set l43 i44 (n40,(n41,())))
      let n46:Int:=(Go.IntKind.wrap Go.IntKind.i64 (i30+(1:Int)))
      let n47:Int:=(Go.IntKind.wrap Go.IntKind.i64 (i31 - (1:Int)))
      k0 n46 n47 l32 l45 d34
     else none
    else none
   else none
  else none
 else
  bif (decide (((0:Int)≤(0:Int))∧((0:Int)<(((List.length l33):Nat):Int)))) then
   let n48:Int:=(List.getD l33 0 (Ty.dflt ZAG)).2.1
   let n49:Int:=(((List.length l33):Nat):Int)
   let n50:Int:=(Go.IntKind.wrap Go.IntKind.i64 (n49 - (1:Int)))
   let n51:Int:=(Go.IntKind.wrap Go.IntKind.u64 n50)
   bif (decide (((0:Int)≤(0:Int))∧((0:Int)<(((List.length l33):Nat):Int)))) then
    let n52:Int:=(List.getD l33 0 (Ty.dflt ZAG)).2.1
    bif (decide (((0:Int)≤(0:Int))∧((0:Int)<(((List.length l33):Nat):Int)))) then
     let n53:Int:=(List.getD l33 0 (Ty.dflt ZAG)).1
     let n54:Int:=(Go.IntKind.wrap Go.IntKind.u64 (n52 - n53))
     ZAX (ZAU (n48::(d34.2.2.2.2.2.2.2.1::(n51::(n54::([]:List Int))))) l32) fun y55=>
     bif (decide (((0:Int)≤(1:Int))∧(((1:Int)≤(((List.length l33):Nat):Int))∧((((List.length l33):Nat):Int)≤(((List.length l33):Nat):Int))))) then
      let k56:Nat:=((Int.toNat (((List.length l33):Nat):Int)) - 1)
      let n57:Int:=((k56:Nat):Int)
      ZEL 1 k56 n57 (0:Int) l33 y55.2.1
     else none
    else none
   else none
  else none
noncomputable def ZBL:Nat→Int→Int→(List Int)→(List ZAA)→ZAC→Option ZAL
 | 0=>fun _ _ _ _ _=>none
 | m+1=>ZD0 (ZBL m)
noncomputable def ZFu (i30:Int) (i31:Int) (l32:(List Int)) (l33:(List ZAA)) (d34:ZAC):Option ZAL:=ZBL (Int.toNat (i31 - i30)+2) i30 i31 l32 l33 d34
theorem ZJx : ∃ f,f = @ZFu:=⟨_,rfl⟩
noncomputable def ZEM:=Classical.choose ZJx
theorem ZJy : @ZEM = @ZFu:=Classical.choose_spec ZJx
theorem ZWY {base S0 cs0} (hfin:ZAs base S0) : ∀ m,ZBt base S0 cs0 ZCk (ZCl (ZBL m)) :=
 ZAb.loop' hfin.2 ZCJ 100000 ZCl (fun k0=>cut ZCk (ZCl k0) (ZGv)) (fun k0 h0=>ZAH.cut (ZLz hfin) (Nat.le_of_eq hfin.1) h0) (ZBL) (by intro x;rfl) (by intro m x;kernel_rfl)
theorem ZUv {base S0 cs0} (hfin:ZAs base S0):ZBt base S0 cs0 ZCk (ZCl (ZEM)):=by
 rw [ZJy];exact fun x r hx=>ZWY hfin _ x r hx
noncomputable def ZL0:Cfg→Option (Option ZAL):=cut ZCk (ZCl (ZEM)) (ZGv)
theorem ZWZ {base S0 cs0} (hfin:ZAs base S0):ZDP base S0 cs0 (ZL0):=ZAH.cut (ZLz hfin) (Nat.le_of_eq hfin.1) (ZUv hfin)
noncomputable def ZEv (d0:ZAC) (l1:(List Int)):Option ZAL :=
 let b2:Bool:=(d0.1==(2:Int))
 bif b2 then
  ZAX (ZBW d0.2.2.2.2.2.2.2.2.2.2.2.2.1) fun y3=>
  let n4:Int:=(((List.length y3):Nat):Int)
  let n5:Int:=(Go.IntKind.wrap Go.IntKind.i64 (n4 - (1:Int)))
  ZEM (0:Int) n5 l1 y3 d0
 else
  let b89:Bool:=(d0.1==(4:Int))
  bif b89 then
   ZAX (ZAU (d0.2.1::(d0.2.2.2.2.1::(d0.2.2.2.1::([]:List Int)))) l1) fun y90=>
   some (y90.2.1,())
  else
   let b91:Bool:=(d0.1==(5:Int))
   bif b91 then
    ZAX (ZAU (d0.2.1::(d0.2.2.2.2.1::([]:List Int))) l1) fun y92=>
    some (y92.2.1,())
   else
    let b93:Bool:=(d0.1==(6:Int))
    bif b93 then
     ZAX (ZAU (d0.2.2.1::([]:List Int)) l1) fun y94=>
     ZAX (ZBI d0.2.2.2.2.2.2.2.2.2.1 y94.2.1) fun y95=>
     some (y95.1,())
    else
     let b96:Bool:=(d0.1==(16:Int))
     bif b96 then
      ZBK d0.1 true l1 d0
     else
      let b97:Bool:=(d0.1==(18:Int))
      bif b97 then
       ZBK d0.1 true l1 d0
      else
       let b98:Bool:=(d0.1==(19:Int))
       bif b98 then
        ZBK d0.1 true l1 d0
       else
        let b99:Bool:=(d0.1==(20:Int))
        bif b99 then
         ZBK d0.1 true l1 d0
        else
         let b100:Bool:=(d0.1==(22:Int))
         bif b100 then
          ZBK d0.1 true l1 d0
         else
          let b101:Bool:=(d0.1==(23:Int))
          ZBK d0.1 b101 l1 d0
theorem ZMt : ∃ f,f = @ZEv:=⟨_,rfl⟩
noncomputable def ZGN:=Classical.choose ZMt
theorem ZMu : @ZGN = @ZEv:=Classical.choose_spec ZMt
noncomputable def ZHy:HCon:=HCon.mk0 ZHu ZHv ZHw ZHx ZAL (fun x=>ZEv x.1.2.1 x.2.2.1) (fun r=>((),(((),((),())),((),(r.1,()))))) (fun y=>(y.2.2.2.1,())) (fun _=>rfl)
noncomputable def ZEw:HCon:=HCon.mk0 ZHu ZHv ZHw ZHx ZAL (fun x=>ZGN x.1.2.1 x.2.2.1) (fun r=>((),(((),((),())),((),(r.1,()))))) (fun y=>(y.2.2.2.1,())) (fun _=>rfl)
theorem ZT6:ZHy.Sound prog Inv ZAq 92 :=
 ZF2 (M:=ZIU) (f:=f92) rfl ZCJ 100000 (X:=ZL0) (fun base S0 cs0 hn hf=>have hfin:ZAs base S0:=⟨hn,hf⟩;ZWZ hfin) (by intro x;kernel_rfl)
theorem ZUw:ZEw.Sound prog Inv ZAq 92:=by
 have e:ZEw=ZHy:=by unfold ZEw ZHy;rw [ZMu]
 rw [e];exact ZT6
noncomputable def ZrI:Mach prog Inv ZAq:=ZFE bas [(26,f26),(90,f90),(91,f91),(92,f92),(93,f93),(175,f175),(177,f177),(179,f179),(180,f180),(213,f213)] ⟨ZzU,ZzY,Zry,ZzZ,Zz5,Zq8,ZmT,ZyK,ZuB,ZFe,trivial⟩ [(89,ZYy),(176,ZEr)] ⟨⟨Zmp,ZAa.callable Zz4⟩,⟨ZFz,ZAa.callable Zq9⟩,trivial⟩ [(178,ZDN)] ⟨⟨ZH6,ZAa.callable Zw7⟩,trivial⟩ [(213,ZAc),(213,ZAd),(213,ZAi),(91,ZBX),(213,ZAp),(91,ZBY),(175,ZCg),(90,ZEK),(177,ZBc),(180,ZBq),(92,ZEw)] ⟨⟨ZAn,ZAa.callable ZFe⟩,⟨ZAo,ZAa.callable ZFe⟩,⟨ZAw,ZAa.callable ZFe⟩,⟨ZC6,ZAa.callable Zry⟩,⟨ZA8,ZAa.callable ZFe⟩,⟨ZC7,ZAa.callable Zry⟩,⟨ZGh,ZAa.callable Zq8⟩,⟨ZT5,ZAa.callable ZzY⟩,⟨ZFN,ZAa.callable ZmT⟩,⟨ZGM,ZAa.callable ZuB⟩,⟨ZUw,ZAa.callable ZzZ⟩,trivial⟩
/-! ### domino/frame.Put -/
@[reducible] def ZlY:List Ty:=[.str,(.int .i64)]
def ZqO:List Nat:=[26,90,91,92,93,175,177,179,180,213]
noncomputable def ZY0 (a0:ZAC):Option (ByteArray×Int×Unit) :=
 let s1:ByteArray:=(ByteArray.mk (List.toArray ([]:List UInt8)))
 ZAX (Zg0 a0) fun y2=>
 let b3:Bool:=(!y2.1)
 bif b3 then
  let s4:ByteArray:=(ByteArray.mk (List.toArray ([]:List UInt8)))
  some (s4,((1:Int),()))
 else
  let b5:Bool:=(a0.1==(8:Int))
  bif b5 then
   ZAX (ZFc a0) fun y6=>
   let s15:ByteArray:=(ByteArray.mk (List.toArray ([]:List UInt8)))
   let n16:Int:=(((List.length y6.1):Nat):Int)
   bif (decide ((n16=(((List.length y6.1):Nat):Int))∧(n16≤(4294967296:Int)))) then
    let s17:ByteArray:=(ZCK y6.1)
    some (s17,((0:Int),()))
   else none
  else
   ZAX (ZBs (a0.1::([]:List Int))) fun y7=>
   ZAX (ZGN a0 y7.2.1) fun y8=>
   let s12:ByteArray:=(ByteArray.mk (List.toArray ([]:List UInt8)))
   let n13:Int:=(((List.length y8.1):Nat):Int)
   bif (decide ((n13=(((List.length y8.1):Nat):Int))∧(n13≤(4294967296:Int)))) then
    let s14:ByteArray:=(ZCK y8.1)
    some (s14,((0:Int),()))
   else none
theorem Ziv : ∃ f,f = @ZY0:=⟨_,rfl⟩
noncomputable def ZXv:=Classical.choose Ziv
theorem Ziw : @ZXv = @ZY0:=Classical.choose_spec Ziv
noncomputable def Zbr:Con:=⟨[ZAN],ZlY,fun x=>ZY0 x.1⟩
noncomputable def ZT7:Con:=⟨[ZAN],ZlY,fun x=>ZXv x.1⟩
theorem ZlZ:Zbr.Sound prog Inv ZAq 26 :=
 ZAm (M:=ZrI) ZBo (f:=f26) rfl ZqO 100000 (X:=nowhere) (fun base S0 cs0 hn hf=>ZAH.nowhere) (by intro x;kernel_rfl)
theorem ZeN:ZT7.Sound prog Inv ZAq 26:=by
 have e:ZT7=Zbr:=by unfold ZT7 Zbr;rw [Ziw]
 rw [e];exact ZlZ
end Go.Proofs.YtamaklnhjagifaaGreatDoor.V
namespace Go.Proofs.YtamaklnhjagifaaGreatDoor.V
open Go.RowKit
set_option linter.unusedVariables false
def ZT8 (n:Int):Prop:=0≤n∧n<4611686018427387904
theorem Zui (l:List Int) (hl:l.length≤1000) (h : ∀ n∈l,ZT8 n):ZBs l=some (l,vbs l,()):=by
 rw [ZKn,ZDx,Zuc l (by omega) h]
 simp only [ZAK,ZHf,ZCe,ZHE (Zbi l h)]
 have:=ZMV l
 have:(vbs l).length≤4294967296:=by omega
 simp only [this,decide_true,cond_true]
theorem ZfL (l acc:List Int) (hl:l.length≤1000) (ha:acc.length≤1000000) (h : ∀ n∈l,ZT8 n):ZAU l acc=some (l,acc++vbs l,()):=by
 rw [ZKt,ZDy,Zuc l (by omega) h]
 simp only [ZAK,ZBj,ZBG,ZHE (Zbi l h)]
 have:=ZMV l
 have:acc.length+(vbs l).length≤4294967296:=by omega
 simp only [this,decide_true,cond_true]
def ZaW (s:ByteArray):List Int:=vb ((s.size:Nat):Int)++ZA0 s
theorem Zou (s:ByteArray) (acc:List Int) (hs:s.size≤100000) (ha:acc.length≤900000):ZBI s acc=some (acc++ZaW s,()):=by
 rw [ZNy,ZFb]
 rw [ZAh _ (by omega) (by omega),ZfL _ _ (by simp) (by omega) (by intro n hn;simp at hn;subst hn;unfold ZT8;omega)]
 simp only [ZAK,ZBj,ZBG]
 have h1:=ZMV [((s.size:Nat):Int)]
 have h2:=ZF3 s
 simp only [List.length_cons,List.length_nil] at h1
 have:(acc++vbs [((s.size:Nat):Int)]).length+(ZA0 s).length≤4294967296:=by rw [List.length_append];omega
 simp only [this,decide_true,cond_true]
 simp only [ZaW,vbs,List.flatMap_cons,List.flatMap_nil,List.append_nil,List.append_assoc]
theorem ZrJ (s:ByteArray) (acc:List Int) (hs:s.size≤100000) (ha:acc.length≤1000000):ZA7 s acc=some (((s.size:Nat):Int),acc++ZA0 s,()):=by
 rw [ZGL,ZCL]
 simp only [ZAK,ZBj,ZBG]
 have h2:=ZF3 s
 have:acc.length+(ZA0 s).length≤4294967296:=by omega
 simp only [this,decide_true,cond_true]
theorem Zv2 (n:Int) (acc:List Int) (ha:acc.length≤1000000):ZCH n acc=some (acc++[n],()):=by
 rw [ZHt,ZCf]
 simp only [ZAK,ZBj,ZBG]
 have:acc.length+[n].length≤4294967296:=by simp;omega
 simp only [this,decide_true,cond_true]
/-! ### an Ack's ranges -/
def Zov:Int→List ZAA→Prop
 | _,[]=>True
 | lo,r::l=>0≤r.1∧r.1≤r.2.1∧r.2.1+2≤lo∧Zov r.1 l
theorem Zov.mono {a b:Int} (h:a≤b) : ∀ {l:List ZAA},Zov a l→Zov b l
 | [],_=>trivial
 | r::l,k=>⟨k.1,k.2.1,by have:=k.2.2.1;omega,k.2.2.2⟩
def Zxn:Int→List ZAA→Int
 | e,[]=>e
 | _,r::l=>Zxn (r.2.1+2) l
theorem Zow : ∀ (l acc:List ZAA) (e:Int),ZvD e l=true→0≤e→(∀ r∈l,0≤r.1)→Zov e acc→Zov (Zxn e l) (l.reverse++acc)
 | [],acc,e,_,_,_,h=>h
 | r::l,acc,e,hm,he,h0,h=>by
  simp only [ZvD,Bool.and_eq_true,decide_eq_true_eq] at hm
  obtain ⟨⟨⟨m1,m2⟩,m3⟩,m4⟩:=hm
  have hr:=h0 r (by simp)
  have:=Zow l (r::acc) (r.2.1+2) m4 (by omega) (fun x hx=>h0 x (by simp [hx])) ⟨hr,m1,by omega,h.mono m3⟩
  simpa [Zxn] using this
theorem Zla : ∀ (l:List ZAA) (e:Int),l≠[]→Zxn e l=Znj l+2
 | [],_,h=>absurd rfl h
 | [r],_,_=>by simp [Zxn,Znj]
 | r::s::l,e,_=>by
  have:=Zla (s::l) (r.2.1+2) (by simp)
  simp only [Zxn] at this ⊢
  rw [this]
  simp [Znj]
def ZT9:Int→List ZAA→List Int
 | _,[]=>[]
 | lo,r::l=>vb (lo - r.2.1 - 2)++vb (r.2.1 - r.1)++ZT9 r.1 l
theorem Zlb : ∀ (l:List ZAA) (lo:Int),(ZT9 lo l).length≤16*l.length
 | [],_=>by simp [ZT9]
 | r::l,lo=>by
  have:=Zlb l r.1
  have:=ZZs (lo - r.2.1 - 2)
  have:=ZZs (r.2.1 - r.1)
  simp only [ZT9,List.length_append,List.length_cons]
  omega
def Zzo (delay:Int):List ZAA→List Int
 | []=>[]
 | r::l=>vb r.2.1++vb delay++vb ((l.length:Nat):Int)++vb (r.2.1 - r.1)++ZT9 r.1 l
theorem Zuj {α:Type} (pre:List α) (x y:α) (suf:List α) (d:α):(pre++x::y::suf).getD (1+pre.length) d=y:=by
 rw [show pre++x::y::suf=(pre++[x])++y::suf by simp,show 1+pre.length=(pre++[x]).length by simp;omega,ZDC]
theorem Zuk : ∀ (suf pre:List ZAA) (a:ZAA) (acc:List Int) (m k:Nat),suf.length<m→(pre++a::suf).length≤1000→acc.length+16*suf.length≤100000→Zov a.1 suf→a.1<4611686018427387904→k=pre.length+suf.length →
  ZBu m 1 k ((k:Nat):Int) ((pre.length:Nat):Int) (pre++a::suf) acc=some (acc++ZT9 a.1 suf,()):=by
 intro suf
 induction suf with
 | nil=>
  intro pre a acc m k hm _ _ _ _ hk
  obtain ⟨m,rfl⟩ : ∃ k,m=k+1:=⟨m - 1,by omega⟩
  have : ¬ ((pre.length:Nat):Int)<((k:Nat):Int):=by subst hk;simp
  simp only [ZBu,ZGu,this,decide_false,cond_false,ZT9,List.append_nil]
 | cons r suf ih=>
  intro pre a acc m k hm hl ha hd hlt hk
  obtain ⟨m,rfl⟩ : ∃ k,m=k+1:=⟨m - 1,by omega⟩
  obtain ⟨d1,d2,d3,d4⟩:=hd
  have c1:((pre.length:Nat):Int)<((k:Nat):Int):=by subst hk;simp;omega
  simp only [ZBu,ZGu,c1,nn,and_true,ZLV,decide_true,cond_true,ZDD,ZDC,Zuj]
  rw [ZAh (a.1 - r.2.1) (by omega) (by omega),ZAh (a.1 - r.2.1 - 2) (by omega) (by omega),ZAh (r.2.1 - r.1) (by omega) (by omega)]
  rw [ZfL _ _ (by simp) (by omega) (by intro n hn;simp at hn;unfold ZT8;omega)]
  simp only [ZAK]
  have hv:=ZMV [a.1 - r.2.1 - 2,r.2.1 - r.1]
  simp only [List.length_cons,List.length_nil] at hv
  rw [ZJE pre a a (r::suf) (by omega),ZID pre a (r::suf),ih (pre++[a]) r _ m k (by simp at hm;omega) (by simpa using hl) (by simp at ha ⊢;omega) d4 (by omega) (by subst hk;simp;omega)]
  simp [ZT9,vbs]
theorem Zv3 {α:Type} (pre m:List α) (x y z:α) (suf:List α):(pre++x::(m++y::suf)).set (pre.length+1+m.length) z=pre++x::(m++z::suf):=by
 rw [show pre++x::(m++y::suf)=(pre++x::m)++y::suf by simp,show pre.length+1+m.length=(pre++x::m).length by simp;omega,Zq3];simp
theorem Zul {α:Type} (pre m:List α) (x y:α) (suf:List α) (d:α):(pre++x::(m++y::suf)).getD (pre.length+1+m.length) d=y:=by
 rw [show pre++x::(m++y::suf)=(pre++x::m)++y::suf by simp,show pre.length+1+m.length=(pre++x::m).length by simp;omega,ZDC]
theorem Zv4 (acc:List Int) (f:ZAC) : ∀ (n:Nat) (mid pre suf:List ZAA) (m:Nat),mid.length≤n→n<m→(pre++(mid++suf)).length≤1000 →
  ZBL m ((pre.length:Nat):Int) (((pre.length:Nat):Int)+((mid.length:Nat):Int) - 1) acc (pre++(mid++suf)) f=ZBL 1 0 0 acc (pre++(mid.reverse++suf)) f:=by
 intro n
 induction n using Nat.strongRecOn with
 | _ n ih=>
  intro mid pre suf m hn hm hl
  obtain ⟨m,rfl⟩ : ∃ k,m=k+1:=⟨m - 1,by omega⟩
  have done:mid.length≤1→mid.reverse=mid:=by
   intro h
   match mid,h with
   | [],_=>rfl
   | [x],_=>rfl
  by_cases h1:mid.length≤1
  ·
   have c : ¬ ((pre.length:Nat):Int)<((pre.length:Nat):Int)+((mid.length:Nat):Int) - 1:=by omega
   rw [done h1]
   simp only [ZBL,ZD0,c,decide_false,cond_false,Int.lt_irrefl]
  ·
   obtain ⟨x,r,rfl⟩ : ∃ x r,mid=x::r:=by
    cases mid with
    | nil=>simp at h1
    | cons x r=>exact ⟨x,r,rfl⟩
   obtain ⟨md,y,rfl⟩ : ∃ md y,r=md++[y]:=by
    rcases List.eq_nil_or_concat r with e | ⟨md,y,e⟩
    · subst e;simp at h1
    · exact ⟨md,y,by simpa using e⟩
   have ej:((pre.length:Nat):Int)+(((x::(md++[y])).length:Nat):Int) - 1=((pre.length+1+md.length:Nat):Int):=by simp;omega
   have eL:pre++((x::(md++[y]))++suf)=pre++x::(md++y::suf):=by simp
   rw [ej,eL]
   have c:((pre.length:Nat):Int)<((pre.length+1+md.length:Nat):Int):=by omega
   have c1:((pre.length+1+md.length:Nat):Int)<(((pre++x::(md++y::suf)).length:Nat):Int):=by simp;omega
   have c2:((pre.length+1+md.length:Nat):Int)<(((pre++y::(md++y::suf)).length:Nat):Int):=by simp;omega
   have ey:((y.1,(y.2.1,())):ZAA)=y:=rfl
   have ex:((x.1,(x.2.1,())):ZAA)=x:=rfl
   rw [ZBL]
   simp only [ZD0,c,c1,c2,ZLV,nn,and_self,decide_true,cond_true,Int.toNat_natCast,ZDC,Zul,Zq3,Zv3,ey,ex]
   have w1:IntKind.wrap .i64 (((pre.length:Nat):Int)+1)=(((pre++[y]).length:Nat):Int):=by rw [wrap_i64 _ (by simp at hl;omega) (by simp at hl;omega)];simp
   have w2:IntKind.wrap .i64 (((pre.length+1+md.length:Nat):Int) - 1)=(((pre++[y]).length:Nat):Int)+((md.length:Nat):Int) - 1:=by rw [wrap_i64 _ (by simp at hl;omega) (by simp at hl;omega)];simp
   rw [w1,w2,show pre++y::(md++x::suf)=(pre++[y])++(md++(x::suf)) by simp]
   simp at hn
   rw [ih (n - 2) (by omega) md (pre++[y]) (x::suf) m (by omega) (by omega) (by simp at hl ⊢;omega)]
   simp
/-! ### the parts of a frame -/
def ZOk (f:ZAC):List Int :=
 let k:=f.1
 bif k==2 then Zzo f.2.2.2.2.2.2.2.1 f.2.2.2.2.2.2.2.2.2.2.2.2.1.reverse
 else bif k==4 then vbs [f.2.1,f.2.2.2.2.1,f.2.2.2.1]
 else bif k==5 then vbs [f.2.1,f.2.2.2.2.1]
 else bif k==6 then vbs [f.2.2.1]++ZaW f.2.2.2.2.2.2.2.2.2.1
 else bif k==16||k==18||k==19||k==20||k==22||k==23 then vbs [f.2.2.2.1]
 else bif k==17||k==21 then vbs [f.2.1,f.2.2.2.1]
 else bif k==24 then vbs [f.2.2.2.2.2.1,f.2.2.2.2.2.2.1]++[8]++(ZA0 f.2.2.2.2.2.2.2.2.2.2.1++ZA0 f.2.2.2.2.2.2.2.2.2.2.2.1)
 else bif k==25 then vbs [f.2.2.2.2.2.1]
 else bif k==26||k==27 then ZA0 f.2.2.2.2.2.2.2.2.2.2.2.1
 else bif k==28 then vbs [f.2.2.2.2.1,f.2.2.2.2.2.2.2.1]++ZaW f.2.2.2.2.2.2.2.2.2.1
 else bif k==29 then vbs [f.2.2.2.2.1]++ZaW f.2.2.2.2.2.2.2.2.2.1
 else []
def Zlc (f:ZAC):Int:=10+(bif f.2.2.1==0 then 0 else 4)+(bif f.2.2.2.2.2.2.2.2.1 then 1 else 0)
def Zr5 (f:ZAC):List Int :=
 bif f.1==8 then vbs [Zlc f,f.2.1]++(bif f.2.2.1==0 then [] else vbs [f.2.2.1])++ZaW f.2.2.2.2.2.2.2.2.2.1
 else vbs [f.1]++ZOk f
theorem Zum {f:ZAC} (h:FrOk f) (hn:Ziu f=true):ZT8 f.2.1∧ZT8 f.2.2.1∧ZT8 f.2.2.2.1∧ZT8 f.2.2.2.2.1∧ZT8 f.2.2.2.2.2.1∧ZT8 f.2.2.2.2.2.2.1∧ZT8 f.2.2.2.2.2.2.2.1:=by
 simp only [Ziu,decide_eq_true_eq] at hn
 obtain ⟨n1,n2,n3,n4,n5,n6,n7⟩:=hn
 have a1:=h.id;have a2:=h.off;have a3:=h.max;have a4:=h.code;have a5:=h.seq;have a6:=h.prior;have a7:=h.delay
 unfold ZT8
 refine ⟨?_,?_,?_,?_,?_,?_,?_⟩ <;> omega
theorem ZY1 {f:ZAC} (h:ZiG f=true):ZlX f.1=true∧f=Zue f∧Ziu f=true∧f.2.2.2.2.2.2.2.2.2.1.size≤1200∧Zbq f=true:=by
 simp only [ZiG,Bool.and_eq_true,decide_eq_true_eq] at h
 exact ⟨h.1.1.1.1,h.1.1.1.2,h.1.1.2,h.1.2,h.2⟩
theorem Zv5 (f:ZAC) (acc:List Int) (h:FrOk f) (hm:ZiG f=true) (h8:f.1≠8) (ha:acc.length≤8):ZGN f acc=some (acc++ZOk f,()):=by
 obtain ⟨hk,ho,hn,hd,he⟩:=ZY1 hm
 obtain ⟨n1,n2,n3,n4,n5,n6,n7⟩:=Zum h hn
 have hset:=h.set
 obtain ⟨k,id,off,mx,code,seq,prior,delay,fin,data,cid,tok,set,⟨⟩⟩:=f
 simp only at *
 have L1 : ∀ a,ZT8 a→ZAU [a] acc=some ([a],acc++vbs [a],()):=fun a h=>ZfL _ _ (by simp) (by omega) (by intro n hn;simp at hn;subst hn;exact h)
 have L2 : ∀ a b,ZT8 a→ZT8 b→ZAU [a,b] acc=some ([a,b],acc++vbs [a,b],()):=fun a b h k=>ZfL _ _ (by simp) (by omega) (by intro n hn;simp at hn;rcases hn with rfl | rfl <;> assumption)
 have L3 : ∀ a b c,ZT8 a→ZT8 b→ZT8 c→ZAU [a,b,c] acc=some ([a,b,c],acc++vbs [a,b,c],()):=fun a b c h k l=>ZfL _ _ (by simp) (by omega) (by intro n hn;simp at hn;rcases hn with rfl | rfl | rfl <;> assumption)
 have V1 : ∀ a,(acc++vbs [a]).length≤100:=fun a=>by have:=ZMV [a];simp at this ⊢;omega
 have V2 : ∀ a b,(acc++vbs [a,b]).length≤100:=fun a b=>by have:=ZMV [a,b];simp at this ⊢;omega
 have T1 : ∀ a,ZBI data (acc++vbs [a])=some ((acc++vbs [a])++ZaW data,()):=fun a=>Zou _ _ (by omega) (by have:=V1 a;omega)
 have T2 : ∀ a b,ZBI data (acc++vbs [a,b])=some ((acc++vbs [a,b])++ZaW data,()):=fun a b=>Zou _ _ (by omega) (by have:=V2 a b;omega)
 rw [ZMu,ZEv]
 simp only [ZK7,ZGs,ZK5,ZGq,ZK3,ZGo]
 rcases Zsl hk with rfl | rfl | rfl | rfl | rfl | rfl | rfl | rfl | rfl | rfl | rfl | rfl | rfl | rfl | rfl | rfl | rfl | rfl | rfl | rfl | rfl | rfl
 case inr.inr.inl=>
  simp only [Zbq,beq_self_eq_true,cond_true,Bool.and_eq_true,decide_eq_true_eq] at he
  obtain ⟨⟨⟨e1,e2⟩,e3⟩,e4⟩:=he
  have hne:set≠[]:=by rintro rfl;simp at e2
  have hdesc:=Zow set [] 0 e1 (by omega) (fun r hr=>(hset r hr).1.1) trivial
  rw [Zla set 0 hne,List.append_nil] at hdesc
  have hrl:set.reverse.length=set.length:=by simp
  have clone:ZBW set=some set:=by unfold ZBW;rw [decide_eq_true (by omega)];rfl
  simp only [beq_self_eq_true,cond_true,clone,ZAK,ZOk]
  rw [ZJy,ZFu,wrap_i64 _ (by omega) (by omega)]
  have hrev:=Zv4 acc (2,id,off,mx,code,seq,prior,delay,fin,data,cid,tok,set,()) set.length set [] [] (Int.toNat (((set.length:Nat):Int) - 1 - 0)+2) (by omega) (by omega) (by simp;omega)
  simp only [List.nil_append,List.append_nil,List.length_nil] at hrev
  rw [show ((0:Nat):Int)+((set.length:Nat):Int) - 1=((set.length:Nat):Int) - 1 by omega,show ((0:Nat):Int)=0 from rfl] at hrev
  rw [hrev]
  generalize set.reverse=L at *
  cases L with
  | nil=>simp at hrl;omega
  | cons r l=>
   obtain ⟨d1,d2,d3,d4⟩:=hdesc
   simp only [List.length_cons] at hrl
   have c0:(0:Int)<(((r::l).length:Nat):Int):=by simp
   have c1:(1:Int)≤(((r::l).length:Nat):Int):=by simp;omega
   have w1:IntKind.wrap .i64 ((((r::l).length:Nat):Int) - 1)=((l.length:Nat):Int):=by rw [wrap_i64 _ (by simp only [List.length_cons];omega) (by simp only [List.length_cons];omega)];simp
   have w2:IntKind.wrap .u64 ((l.length:Nat):Int)=((l.length:Nat):Int):=ZAh _ (by omega) (by omega)
   have w3:IntKind.wrap .u64 (r.2.1 - r.1)=r.2.1 - r.1:=ZAh _ (by omega) (by omega)
   have c2:(0:Int)≤1:=by omega
   rw [ZBL]
   simp only [ZD0,Int.lt_irrefl,decide_false,cond_false,c0,c1,c2,Int.le_refl,and_self,decide_true,cond_true,List.getD_cons_zero,w1,w2,w3]
   rw [ZfL _ _ (by simp) (by omega) (by intro n hn;simp at hn;unfold ZT8 at *;omega)]
   simp only [ZAK]
   rw [ZJw,ZFt]
   have hv:=ZMV [r.2.1,delay,((l.length:Nat):Int),r.2.1 - r.1]
   simp only [List.length_cons,List.length_nil] at hv
   have hk1:Int.toNat (((r::l).length:Nat):Int) - 1=l.length:=by simp
   rw [hk1]
   have:=Zuk l [] r (acc++vbs [r.2.1,delay,((l.length:Nat):Int),r.2.1 - r.1]) (Int.toNat (((l.length:Nat):Int) - 0)+2) l.length (by omega) (by simp;omega) (by simp at hv ⊢;omega) d4 (by omega) (by simp)
   simp only [List.nil_append,List.length_nil] at this
   rw [show ((0:Nat):Int)=0 from rfl] at this
   rw [this]
   simp [Zzo,vbs]
 case inr.inr.inr.inr.inr.inr.inl=>exact absurd rfl h8
 case inr.inr.inr.inr.inr.inr.inr.inr.inr.inr.inr.inr.inr.inr.inr.inl=>
  simp only [Zbq] at he
  have hc:cid.size=8∧tok.size=16:=by
   simp [show ((24:Int)==2)=false from rfl] at he
   omega
  have w1:IntKind.wrap .u8 ((cid.size:Nat):Int)=8:=by rw [hc.1,Zaw];rfl
  have c1:cid.size+tok.size≤9223372036854775807:=by omega
  have e1:ZAU [seq,prior] acc=some ([seq,prior],acc++vbs [seq,prior],()):=L2 _ _ n5 n6
  have hV:=V2 seq prior
  have e2:ZCH 8 (acc++vbs [seq,prior])=some ((acc++vbs [seq,prior])++[8],()):=Zv2 _ _ (by omega)
  have hs:(cid++tok).size≤100000:=by rw [ByteArray.size_append];omega
  have e3:ZA7 (cid++tok) ((acc++vbs [seq,prior])++[8])=some ((((cid++tok).size:Nat):Int),((acc++vbs [seq,prior])++[8])++ZA0 (cid++tok),()):=ZrJ _ _ hs (by simp at hV ⊢;omega)
  simp only [List.append_assoc] at e2 e3
  simp [e1,e2,e3,w1,c1,ZOk,Zpv]
 case inr.inr.inr.inr.inr.inr.inr.inr.inr.inr.inr.inr.inr.inr.inr.inr.inr.inl=>
  simp only [Zbq] at he
  have hc:tok.size=8:=by
   simp at he
   omega
  have e3:ZA7 tok acc=some (((tok.size:Nat):Int),acc++ZA0 tok,()):=ZrJ _ _ (by omega) (by omega)
  simp [e3,ZOk]
 case inr.inr.inr.inr.inr.inr.inr.inr.inr.inr.inr.inr.inr.inr.inr.inr.inr.inr.inl=>
  simp only [Zbq] at he
  have hc:tok.size=8:=by
   simp at he
   omega
  have e3:ZA7 tok acc=some (((tok.size:Nat):Int),acc++ZA0 tok,()):=ZrJ _ _ (by omega) (by omega)
  simp [e3,ZOk]
 all_goals simp [ZOk,L1,L2,L3,T1,T2,n1,n2,n3,n4,n5,n6,n7]
theorem Zun (f:ZAC) (h:FrOk f) (hm:ZiG f=true) (h8:f.1=8):ZFc f=some (Zr5 f,()):=by
 obtain ⟨hk,ho,hn,hd,he⟩:=ZY1 hm
 obtain ⟨n1,n2,n3,n4,n5,n6,n7⟩:=Zum h hn
 have b14:bits .or .u64 10 4=14:=by rw [ZTK _ _ (by omega) (by omega)];decide
 have b15:bits .or .u64 14 1=15:=by rw [ZTK _ _ (by omega) (by omega)];decide
 have b11:bits .or .u64 10 1=11:=by rw [ZTK _ _ (by omega) (by omega)];decide
 obtain ⟨k,id,off,mx,code,seq,prior,delay,fin,data,cid,tok,set,⟨⟩⟩:=f
 simp only at *
 subst h8
 have L2 : ∀ a b,ZT8 a→ZT8 b→ZBs [a,b]=some ([a,b],vbs [a,b],()):=fun a b h k=>Zui _ (by simp) (by intro n hn;simp at hn;rcases hn with rfl | rfl <;> assumption)
 have V2 : ∀ a b,(vbs [a,b]).length≤100:=fun a b=>by have:=ZMV [a,b];simp at this ⊢;omega
 have V3 : ∀ a b c,(vbs [a,b]++vbs [c]).length≤100:=fun a b c=>by have:=ZMV [a,b];have:=ZMV [c];simp at *;omega
 have L1 : ∀ a b c,ZT8 c→ZAU [c] (vbs [a,b])=some ([c],vbs [a,b]++vbs [c],()):=fun a b c h=>ZfL _ _ (by simp) (by have:=V2 a b;omega) (by intro n hn;simp at hn;subst hn;exact h)
 have T2 : ∀ a b,ZBI data (vbs [a,b])=some (vbs [a,b]++ZaW data,()):=fun a b=>Zou _ _ (by omega) (by have:=V2 a b;omega)
 have T3 : ∀ a b c,ZBI data (vbs [a,b]++vbs [c])=some ((vbs [a,b]++vbs [c])++ZaW data,()):=fun a b c=>Zou _ _ (by omega) (by have:=V3 a b c;omega)
 have i1:ZT8 10:=by unfold ZT8;omega
 have i2:ZT8 11:=by unfold ZT8;omega
 have i3:ZT8 14:=by unfold ZT8;omega
 have i4:ZT8 15:=by unfold ZT8;omega
 rw [ZLp,ZEJ]
 simp only [ZJu,ZFs,ZJs,ZFq,ZJq,ZFo,Zr5,Zlc]
 by_cases h0:off=0
 ·
  subst h0
  cases fin <;> simp [b11,L2,T2,n1,i1,i2]
 ·
  have:(off==0)=false:=beq_false_of_ne h0
  cases fin <;> simp [bne,this,b14,b15,L2,L1,T3,n1,n2,i3,i4]
theorem ZwV {s:ByteArray} (h:s.size≤100000):ZT8 ((s.size:Nat):Int):=by unfold ZT8;omega
theorem ZrK {s:ByteArray} (h:s.size≤100000) : ∀ x∈ZaW s,0≤x∧x≤255:=by
 intro x hx
 rcases List.mem_append.mp hx with hx | hx
 · exact ZSh _ (ZwV h).1 (ZwV h).2 x hx
 · exact ZGY s x hx
theorem Zsm {a:Int} (h:ZT8 a) : ∀ x∈vbs [a],0≤x∧x≤255:=Zbi _ (by intro n hn;simp at hn;subst hn;exact h)
theorem Zg1 : ∀ (l:List ZAA) (lo:Int),Zov lo l→lo<4611686018427387904 → ∀ x∈ZT9 lo l,0≤x∧x≤255
 | [],_,_,_=>by simp [ZT9]
 | r::l,lo,⟨d1,d2,d3,d4⟩,hlo=>by
  intro x hx
  simp only [ZT9,List.mem_append] at hx
  rcases hx with (hx | hx) | hx
  · exact ZSh _ (by omega) (by omega) x hx
  · exact ZSh _ (by omega) (by omega) x hx
  · exact Zg1 l r.1 d4 (by omega) x hx
theorem ZIk {a b:List Int} (h : ∀ x∈a,0≤x∧x≤255) (k : ∀ x∈b,0≤x∧x≤255) : ∀ x∈a++b,0≤x∧x≤255:=by
 intro x hx
 rcases List.mem_append.mp hx with hx | hx
 · exact h x hx
 · exact k x hx
theorem Zv6 {set:List ZAA} (hs : ∀ r∈set,0≤r.1) (e1:ZvD 0 set=true) (e2:0<set.length) (e4:Znj set≤4611686018427387903) :
  ∃ r l,set.reverse=r::l∧l.length+1=set.length∧0≤r.1∧r.1≤r.2.1∧r.2.1≤4611686018427387903∧Zov r.1 l:=by
 have hne:set≠[]:=by rintro rfl;simp at e2
 have hdesc:=Zow set [] 0 e1 (by omega) hs trivial
 rw [Zla set 0 hne,List.append_nil] at hdesc
 have hrl:set.reverse.length=set.length:=by simp
 generalize set.reverse=L at *
 cases L with
 | nil=>simp at hrl;omega
 | cons r l=>
  obtain ⟨d1,d2,d3,d4⟩:=hdesc
  exact ⟨r,l,rfl,by simpa using hrl,d1,d2,by omega,d4⟩
theorem Zy1 (f:ZAC) (h:FrOk f) (hm:ZiG f=true):(∀ x∈Zr5 f,0≤x∧x≤255)∧(Zr5 f).length≤5000∧1≤(Zr5 f).length:=by
 obtain ⟨hk,ho,hn,hd,he⟩:=ZY1 hm
 obtain ⟨n1,n2,n3,n4,n5,n6,n7⟩:=Zum h hn
 have hset:=h.set
 obtain ⟨k,id,off,mx,code,seq,prior,delay,fin,data,cid,tok,set,u⟩:=f
 simp only at *
 have R1 : ∀ a,ZT8 a → ∀ x∈vbs [a],0≤x∧x≤255:=fun a h=>Zsm h
 have R2 : ∀ a b,ZT8 a→ZT8 b → ∀ x∈vbs [a,b],0≤x∧x≤255:=fun a b h k=>Zbi _ (by intro n hn;simp at hn;rcases hn with rfl | rfl <;> assumption)
 have R3 : ∀ a b c,ZT8 a→ZT8 b→ZT8 c → ∀ x∈vbs [a,b,c],0≤x∧x≤255:=fun a b c h k l=>Zbi _ (by intro n hn;simp at hn;rcases hn with rfl | rfl | rfl <;> assumption)
 have RT : ∀ x∈ZaW data,0≤x∧x≤255:=ZrK (by omega)
 have V1 : ∀ a,1≤(vbs [a]).length∧(vbs [a]).length≤8:=fun a=>by simp only [vbs,List.flatMap_cons,List.flatMap_nil,List.append_nil];exact ZZs a
 have V2 : ∀ a b,1≤(vbs [a,b]).length∧(vbs [a,b]).length≤16:=fun a b=>by have:=ZZs a;have:=ZZs b;simp only [vbs,List.flatMap_cons,List.flatMap_nil,List.append_nil,List.length_append];omega
 have V3 : ∀ a b c,(vbs [a,b,c]).length≤24:=fun a b c=>by have:=ZMV [a,b,c];simpa using this
 have LT:(ZaW data).length≤1208:=by have:=ZZs ((data.size:Nat):Int);have:=ZF3 data;simp only [ZaW,List.length_append];omega
 have K:ZT8 k:=by rcases Zsl hk with rfl | rfl | rfl | rfl | rfl | rfl | rfl | rfl | rfl | rfl | rfl | rfl | rfl | rfl | rfl | rfl | rfl | rfl | rfl | rfl | rfl | rfl <;> (unfold ZT8;omega)
 by_cases h8:k=8
 ·
  subst h8
  have hs:ZT8 (Zlc (8,id,off,mx,code,seq,prior,delay,fin,data,cid,tok,set,u)):=by
   unfold Zlc ZT8
   cases fin <;> cases (off==0)<;>simp
  simp only [Zr5,beq_self_eq_true,cond_true]
  have v1:=V1 off
  have v2:=V2 (Zlc (8,id,off,mx,code,seq,prior,delay,fin,data,cid,tok,set,u)) id
  refine ⟨ZIk (ZIk (R2 _ _ hs n1) ?_) RT,?_,?_⟩
  ·
   cases (off==0)
   · exact R1 _ n2
   · simp
  · cases (off==0)<;>simp only [cond_true,cond_false,List.length_append,List.length_nil] <;> omega
  · cases (off==0)<;>simp only [cond_true,cond_false,List.length_append,List.length_nil] <;> omega
 ·
  have hb:(k==8)=false:=beq_false_of_ne h8
  simp only [Zr5,hb,cond_false]
  have v1:=V1 k
  suffices hp:(∀ x∈ZOk (k,id,off,mx,code,seq,prior,delay,fin,data,cid,tok,set,u),0≤x∧x≤255)∧(ZOk (k,id,off,mx,code,seq,prior,delay,fin,data,cid,tok,set,u)).length≤4000 by
   refine ⟨ZIk (R1 _ K) hp.1,?_,?_⟩ <;> rw [List.length_append] <;> omega
  by_cases h2:k=2
  ·
   subst h2
   simp only [Zbq,beq_self_eq_true,cond_true,Bool.and_eq_true,decide_eq_true_eq] at he
   obtain ⟨⟨⟨e1,e2⟩,e3⟩,e4⟩:=he
   obtain ⟨r,l,er,el,d1,d2,d3,d4⟩:=Zv6 (fun r hr=>(hset r hr).1.1) e1 e2 e4
   simp only [ZOk,beq_self_eq_true,cond_true,er,Zzo]
   have g1:=ZZs r.2.1
   have g2:=ZZs delay
   have g3:=ZZs ((l.length:Nat):Int)
   have g4:=ZZs (r.2.1 - r.1)
   have g5:=Zlb l r.1
   constructor
   · refine ZIk (ZIk (ZIk (ZIk (ZSh _ (by omega) (by omega)) (ZSh _ n7.1 n7.2)) (ZSh _ (by omega) (by omega))) (ZSh _ (by omega) (by omega))) (Zg1 l r.1 d4 (by omega))
   · simp only [List.length_append];omega
  ·
   by_cases h24:k=24
   ·
    subst h24
    have hc:cid.size=8∧tok.size=16:=by
     simp [Zbq] at he
     omega
    have e:ZOk (24,id,off,mx,code,seq,prior,delay,fin,data,cid,tok,set,u)=vbs [seq,prior]++[8]++(ZA0 cid++ZA0 tok):=rfl
    rw [e]
    have l1:=ZF3 cid
    have l2:=ZF3 tok
    have v2:=V2 seq prior
    refine ⟨ZIk (ZIk (R2 _ _ n5 n6) (by simp)) (ZIk (ZGY cid) (ZGY tok)),?_⟩
    simp only [List.length_append,List.length_cons,List.length_nil];omega
   ·
    have htok : ∀ (h:k=26∨k=27),tok.size=8:=by
     rintro (rfl | rfl)<;>simp [Zbq] at he <;> omega
    have l2:=ZF3 tok
    have W1 : ∀ a,(vbs [a]).length≤4000:=fun a=>by have:=V1 a;omega
    have W2 : ∀ a b,(vbs [a,b]).length≤4000:=fun a b=>by have:=V2 a b;omega
    have W3 : ∀ a b c,(vbs [a,b,c]).length≤4000:=fun a b c=>by have:=V3 a b c;omega
    have T1 : ∀ a,ZT8 a→(∀ x∈vbs [a]++ZaW data,0≤x∧x≤255)∧(vbs [a]++ZaW data).length≤4000:=fun a h=>⟨ZIk (R1 _ h) RT,by have:=V1 a;rw [List.length_append];omega⟩
    have T2 : ∀ a b,ZT8 a→ZT8 b→(∀ x∈vbs [a,b]++ZaW data,0≤x∧x≤255)∧(vbs [a,b]++ZaW data).length≤4000:=fun a b h k=>⟨ZIk (R2 _ _ h k) RT,by have:=V2 a b;rw [List.length_append];omega⟩
    rcases Zsl hk with rfl | rfl | rfl | rfl | rfl | rfl | rfl | rfl | rfl | rfl | rfl | rfl | rfl | rfl | rfl | rfl | rfl | rfl | rfl | rfl | rfl | rfl
    · exact ⟨by simp [ZOk],by simp [ZOk]⟩
    · exact ⟨by simp [ZOk],by simp [ZOk]⟩
    · exact absurd rfl h2
    · exact ⟨R3 _ _ _ n1 n4 n3,W3 _ _ _⟩
    · exact ⟨R2 _ _ n1 n4,W2 _ _⟩
    · exact T1 _ n2
    · exact absurd rfl h8
    · exact ⟨R1 _ n3,W1 _⟩
    · exact ⟨R2 _ _ n1 n3,W2 _ _⟩
    · exact ⟨R1 _ n3,W1 _⟩
    · exact ⟨R1 _ n3,W1 _⟩
    · exact ⟨R1 _ n3,W1 _⟩
    · exact ⟨R2 _ _ n1 n3,W2 _ _⟩
    · exact ⟨R1 _ n3,W1 _⟩
    · exact ⟨R1 _ n3,W1 _⟩
    · exact absurd rfl h24
    · exact ⟨R1 _ n5,W1 _⟩
    ·
     have:=htok (.inl rfl)
     exact ⟨ZGY tok,by show (ZA0 tok).length≤4000;omega⟩
    ·
     have:=htok (.inr rfl)
     exact ⟨ZGY tok,by show (ZA0 tok).length≤4000;omega⟩
    · exact T2 _ _ n4 n7
    · exact T1 _ n4
    · exact ⟨by simp [ZOk],by simp [ZOk]⟩
theorem ZwW (f:ZAC) (h:FrOk f):ZXv f=some (if ZiG f=true then (ZCK (Zr5 f),0,()) else (⟨#[]⟩,1,())):=by
 rw [Ziw,ZY0,Zuh f h]
 simp only [ZAK]
 by_cases hm:ZiG f=true
 ·
  obtain ⟨o1,o2,o3⟩:=Zy1 f h hm
  have c:(((Zr5 f).length:Nat):Int)≤4294967296:=by omega
  simp only [hm,Bool.not_true,cond_false,if_true]
  by_cases h8:f.1=8
  · simp only [Zt3 h8,cond_true,Zun f h hm h8,ZAK,c,and_self,decide_true]
  ·
   have hb:(f.1==8)=false:=beq_false_of_ne h8
   have e1:ZBs [f.1]=some ([f.1],vbs [f.1],()):=Zui _ (by simp) (by
    intro n hn;simp at hn;subst hn
    rcases Zsl (ZY1 hm).1 with e | e | e | e | e | e | e | e | e | e | e | e | e | e | e | e | e | e | e | e | e | e <;> (rw [e];unfold ZT8;omega))
   have l1:(vbs [f.1]).length≤8:=by have:=ZMV [f.1];simpa using this
   have e2:Zr5 f=vbs [f.1]++ZOk f:=by simp only [Zr5,hb,cond_false]
   simp only [hb,cond_false,e1,ZAK,Zv5 f _ h hm h8 l1]
   rw [← e2]
   simp only [c,and_self,decide_true,cond_true]
 ·
  have:ZiG f=false:=by simpa using hm
  simp only [this,Bool.not_false,cond_true,Bool.false_eq_true,if_false]
def Byt (l:List Int):Prop := ∀ x∈l,0≤x∧x≤255
theorem Byt.app {a b:List Int}:Byt (a++b)↔Byt a∧Byt b:=by
 simp only [Byt,List.mem_append]
 exact ⟨fun h=>⟨fun x hx=>h x (.inl hx),fun x hx=>h x (.inr hx)⟩,fun h x hx=>hx.elim (h.1 x) (h.2 x)⟩
theorem Byt.cons {a:Int} {b:List Int}:Byt (a::b)↔(0≤a∧a≤255)∧Byt b:=by simp [Byt]
theorem Byt.nil:Byt []:=by simp [Byt]
end Go.Proofs.YtamaklnhjagifaaGreatDoor.V
namespace Go.Proofs.YtamaklnhjagifaaGreatDoor.V
open Go.RowKit Go.Proofs.Tryz
set_option linter.unusedVariables false
set_option maxRecDepth 100000
noncomputable def Zox:Mach prog Inv ZAq:=ZFE bas [(168,f168)] ⟨ZyF,trivial⟩ [(26,ZT7)] ⟨⟨ZeN,ZAa.callable ZzU⟩,trivial⟩ [] trivial [] trivial
/-! ### domino/stream.fits -/
@[reducible] def Zg2:List Ty:=[.bool]
def Zmq:List Nat:=[168]
noncomputable def ZSl (a0:ZAC) (a1:Int):Option (Bool×Unit) :=
 ZAX (ZXv a0) fun y2=>
 let b3:Bool:=(y2.2.1==(0:Int))
 bif b3 then
  let n4:Int:=(((ByteArray.size y2.1):Nat):Int)
  let b5:Bool:=(decide (n4≤a1))
  some (b5,())
 else
  some (false,())
theorem ZeO : ∃ f,f = @ZSl:=⟨_,rfl⟩
noncomputable def ZFO:=Classical.choose ZeO
theorem ZeP : @ZFO = @ZSl:=Classical.choose_spec ZeO
noncomputable def ZWa:Con:=⟨[ZAN,(.int .i64)],Zg2,fun x=>ZSl x.1 x.2.1⟩
noncomputable def ZSm:Con:=⟨[ZAN,(.int .i64)],Zg2,fun x=>ZFO x.1 x.2.1⟩
theorem ZiH:ZWa.Sound prog Inv ZAq 168 :=
 ZAm (M:=Zox) ZBo (f:=f168) rfl Zmq 100000 (X:=nowhere) (fun base S0 cs0 hn hf=>ZAH.nowhere) (by intro x;kernel_rfl)
theorem Zjo:ZSm.Sound prog Inv ZAq 168:=by
 have e:ZSm=ZWa:=by unfold ZSm ZWa;rw [ZeP]
 rw [e];exact ZiH
end Go.Proofs.YtamaklnhjagifaaGreatDoor.V
