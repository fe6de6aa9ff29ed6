/- The law each law of the layer, part 7: what is proved: for every input that can be read the call of each law of the layer returns true and leaves its arguments alone. No conditions but the listed tables of the card. -/
import Derived.Test.YtamaklnhjagifaaGreatDoorZ6
namespace Go.Proofs.YtamaklnhjagifaaGreatDoor.V
open Go.RowKit
set_option linter.unusedVariables false
def gvS (q:ZAF) (code:Int) (t g:Bool):ZAB:=(q,1000,code,0,true,t,g,ZzF,100,100,false,false,false,0,false,())
theorem ZwC (code top:Int) (h1:0≤code∧code<4294967296) (h2:0≤top∧top≤1000000):ZdX (fr4 4 code top) 100=true:=by
 unfold ZdX
 have k1:ZlX (fr4 4 code top).1=true:=rfl
 have k2:fr4 4 code top=Zue (fr4 4 code top):=rfl
 have k3:Ziu (fr4 4 code top)=true:=by
  unfold Ziu fr4
  simp
  omega
 have k4:Zbq (fr4 4 code top)=true:=rfl
 have k5:(fr4 4 code top).2.2.2.2.2.2.2.2.2.1.size≤1200:=by show (0:Nat)≤1200;omega
 have k6:Zr5 (fr4 4 code top)=vbs [4]++vbs [4,code,top]:=rfl
 have l1:=ZMV [(4:Int)]
 have l2:=ZMV [(4:Int),code,top]
 simp only [List.length_cons,List.length_nil] at l1 l2
 simp only [ZiG,k1,k3,k4,Bool.true_and,Bool.and_true,k5,decide_true]
 rw [k6]
 simp only [List.length_append,Bool.and_eq_true,decide_eq_true_eq]
 refine ⟨k2,?_⟩
 omega
theorem Zzq {q:ZAF} {code:Int} (t g:Bool) (hc:0≤code∧code<4294967296):SN (gvS q code t g) :=
 ⟨ZRi (n:=1000) (by decide) (by decide),⟨hc.1,Int.lt_trans hc.2 (by decide)⟩,ZRi (n:=100) (by decide) (by decide),ZRi (n:=0) (by decide) (by decide)⟩
theorem ZpI {q:ZAF} {k:Nat} {code:Int} (h:SQ q k) (hc:0≤code∧code<4294967296) (ht:q.2.1≤1000000) (t g:Bool) :
  ZCq (gvS q code t g) 4 100 1000=if t then some (gvS q code false g,fr4 4 code q.2.1,0,true,()) else some (gvS q code false g,noF,0,false,()):=by
 rw [ZpF (gvS q code t g) k h (Zzq t g hc) 4 100 1000 ⟨by decide,by decide⟩]
 have hf:=ZwC code q.2.1 hc ⟨h.top.1,ht⟩
 have e:ZdX (fr4 4 (gvS q code t g).2.2.1 (gvS q code t g).1.2.1) 100=true:=hf
 rw [e]
 generalize ZdX (fr5 4 (gvS q code t g).2.2.2.2.2.2.2.2.2.2.2.2.2.1) 100=b5
 generalize ZdX (Zuo 4 (gvS q code t g).2.2.2.2.2.2.2.2.2.1) 100=b17
 have tl:ZaX (gvS q code t g) 4 100 1000=some (gvS q code t g,noF,0,false,()):=by
  unfold ZaX
  rw [if_pos (show (gvS q code t g).2.2.2.2.1=true from rfl)]
 rw [tl]
 cases t <;> rfl
theorem ZrT (q:ZAF) (code mx:Int) (t g:Bool):ZUW (gvS q code t g) (fr4 4 code mx)=some (gvS q code (t || !g) g,()):=by
 rw [Zel,ZSw]
 cases t <;> cases g <;> rfl
theorem ZsB (q:ZAF) (code mx:Int) (t g:Bool):ZVy (gvS q code t g) (fr4 4 code mx)=some (gvS q code false true,()):=by
 rw [Zcn,ZP9]
 rfl
theorem Zwd {q:ZAF} {k:Nat} {code:Int} (h:SQ q k) (hc:0≤code∧code<4294967296) (ht:q.2.1≤1000000) (b:Bool) :
  ZDr b (gvS q code b false) (fr4 4 code q.2.1)=some (true,()):=by
 have hs:ZS5 (fr4 4 code q.2.1) (fr4 4 code q.2.1)=some (true,()):=by
  rw [Zud _ _ (by show (0:Nat)≤_;omega)]
  simp
 have e:(gvS q code false true).2.2.2.2.2.2.1=true:=rfl
 rw [ZPB,ZKI,ZpI h hc ht]
 cases b with
 | true=>
  simp only [if_true,ZAK,ZsB,ZrT,ZpI h hc ht,Bool.not_true,Bool.or_false,Bool.false_eq_true,if_false,beq_self_eq_true,cond_true,cond_false,hs,Bool.not_false,e]
 | false=>
  simp only [ZAK,ZsB,ZrT,ZpI h hc ht,Bool.not_true,Bool.or_false,Bool.false_eq_true,if_false,beq_self_eq_true,cond_true,Bool.not_false,e]
theorem Zsx (text:ByteArray) (sent code:Int) (lost:Bool) (hs:0≤sent∧sent≤255) (hc:0≤code∧code<4294967296):ZPs text sent code lost=some (true,()):=by
 rw [ZSF,ZIe]
 have h0:ZDs=some (true,()):=by
  rw [ZPD,ZKK,ZMv]
  rfl
 by_cases hl:((text.size:Nat):Int)>200
 · simp only [hl,decide_true,cond_true,h0]
 ·
  have hq0:SQT Znl 0:=⟨ZrO 0,fun n a b=>by
   have e:enQ Znl=0:=rfl
   have e2:Znl.2.1=0:=rfl
   have a':Znl.2.1≤n:=a
   have b':n<enQ Znl:=b
   omega,Int.le_refl _,Nat.zero_le _⟩
  have en0:enQ Znl=0:=rfl
  obtain ⟨q,n,q1,q2,q3,q4,q5,q6⟩:=Zu2 Znl 0 hq0 (by decide) text 500 (by decide) (by omega) (by omega)
  have hq3:q.1=0:=q3
  have hq4:q.2.1=0:=q4
  have hq6:q.2.2.2.2.2.1=false:=q6
  have w1:IntKind.wrap .i64 sent=sent:=wrap_i64 _ (by omega) (by omega)
  have htm:Int.tmod sent 100=sent % 100:=Int.tmod_eq_emod_of_nonneg (by omega)
  have hm0:0≤sent % 100∧sent % 100<100:=⟨Int.emod_nonneg _ (by decide),Int.emod_lt_of_pos _ (by decide)⟩
  have w2:IntKind.wrap .i64 (5+sent % 100)=5+sent % 100:=wrap_i64 _ (by omega) (by omega)
  have w3:IntKind.wrap .u64 code=code:=ZAh _ (by omega) (by omega)
  have eN:(ZRh 1000 100).1=Znl:=rfl
  simp only [hl,decide_false,cond_false,ZMv,ZAK,Bool.not_true,Zuv,eN,q1,w1,htm,w2,w3]
  generalize 5+sent % 100=most
  have hid:U64 4:=⟨by decide,by decide⟩
  have hsn:SN (q,(ZRh 1000 100).2):=⟨ZRi (n:=1000) (by decide) (by decide),ZRi (n:=0) (by decide) (by decide),ZRi (n:=100) (by decide) (by decide),ZRi (n:=0) (by decide) (by decide)⟩
  rw [ZpF (q,(ZRh 1000 100).2) (0+1) q2.sq hsn 4 most 1000 hid]
  obtain ⟨r,f,n2,is,t1,t2,t3,t4,t5,t6,t7,t8,t9,t10,t11⟩:=Zu1 (q,(ZRh 1000 100).2) (0+1) q2 (by decide) (ZRi (n:=1000) (by decide) (by decide)) 4 most 1000 hid ⟨by decide,by decide⟩
  have hr6:r.2.1=n2:=by
   have:r.2.1=q.2.1+n2:=t6
   omega
  have hr5:r.2.2.2.2.2.1=false:=by
   have:r.2.2.2.2.2.1=q.2.2.2.2.2.1:=t5
   rw [this]
   exact hq6
  have fl:ZqP (ZdX (fr4 4 (q,(ZRh 1000 100).2).2.2.1 (q,(ZRh 1000 100).2).1.2.1) most) (ZdX (fr5 4 (q,(ZRh 1000 100).2).2.2.2.2.2.2.2.2.2.2.2.2.2.1) most) (ZdX (Zuo 4 (q,(ZRh 1000 100).2).2.2.2.2.2.2.2.2.2.1) most) (ZaX (q,(ZRh 1000 100).2) 4 most 1000) (q,(ZRh 1000 100).2) 4=ZaX (q,(ZRh 1000 100).2) 4 most 1000:=rfl
  rw [fl,t1]
  simp only [ZAK]
  have gv:ZPr (r,(ZRh 1000 100).2) code=some (gvS r code true false,()):=by
   have hd:ZX6 r=some (false,()):=by
    rw [ZZI,ZQu,hr5]
    rfl
   rw [ZWm,ZOL]
   simp only [hd,ZAK]
   rfl
  have c1:((fr4 4 code r.2.1).1 != 4)=false:=rfl
  have c2:(fr4 4 code r.2.1).2.2.2.1=r.2.1:=rfl
  have c3:(fr4 4 code r.2.1).2.2.2.2.1=code:=rfl
  have ht:r.2.1≤1000000:=by
   have:n2≤1000:=t8
   omega
  simp only [gv,ZAK,ZpI t2.sq hc ht,if_true,Bool.not_true,cond_false,hr6]
  rw [← hr6]
  simp only [c1,c2,c3,bne_self_eq_false,cond_false]
  cases lost with
  | true=>
   simp only [cond_true,ZrT,ZAK]
   exact Zwd t2.sq hc ht true
  | false=>
   simp only [cond_false]
   exact Zwd t2.sq hc ht false
theorem ZnA (x:ZFC ZCU.params) (h:Wfs ZCU.params x):ZCU.F x=some (true,()):=by
 obtain ⟨text,sent,code,lost,u⟩:=x
 obtain ⟨h1,h2,h3,h4,_⟩:=h
 have hc:(0:Int)≤code∧code≤(4294967295:Int):=Zx2 h3
 exact Zsx text sent code lost (Zw0 h2) ⟨hc.1,Int.lt_of_le_of_lt hc.2 (by decide)⟩
end Go.Proofs.YtamaklnhjagifaaGreatDoor.V
