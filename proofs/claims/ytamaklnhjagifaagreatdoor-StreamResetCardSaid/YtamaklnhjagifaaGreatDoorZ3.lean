/- The law each law of the layer, part 3: what is proved: for every input that can be read the call of each law of the layer returns true and leaves its arguments alone. No conditions but the listed tables of the card. -/
import Derived.Carry
import Derived.ChangeOld
import Derived.ChangeShapes
import Derived.ChangeSlices
import Derived.ChangeArms
import Derived.SizedLaws
import Derived.JoinedOf
import Derived.ShutString
import Derived.WalkKit
import Derived.ProofKit
import Derived.OpenShut
import Derived.Laws.Strings
import Derived.Test.YtamaklnhjagifaaGreatDoorProg
import Derived.KernelRfl
import Derived.Laws.Externs
import Derived.Lib.Builder
import Derived.Laws.Cover3
import Derived.Defers
import Derived.Recover
import Derived.Test.YtamaklnhjagifaaGreatDoorZ2
namespace Go.Proofs.YtamaklnhjagifaaGreatDoor.V
open Go.RowKit
set_option linter.unusedVariables false
section
variable {P:Program} {I:World→Prop} {g:Nat} {M:Mach P I g} {ops:Array Oper}
variable {base:Base} {S0:Nat→Prop} {ρ:Loc} {H:ZAZ} {w:World} {S:Nat→Prop}
theorem Zrm {env:List PV} {a:Act} (he:ZAQ ρ H w S env a.tmps.toList) (t:Tmp):ZAW ρ H w S (env.getD t .junk) (a.tmps.getD t undef):=by
 cases h:env[t]? with
 | none=>simp only [List.getD,h,Option.getD_none,ZAW]
 | some p=>
  obtain ⟨v,h1,h2⟩:=he.get t p h
  have:a.tmps[t]? = some v:=by simpa using h1
  simp only [List.getD,h,Option.getD_some,Array.getD_eq_getD_getElem?,this]
  exact h2
theorem ZJW (M:Mach P I g) (hg:Low g base S0) (hI:I w) (hh:HRel base S0 ρ H w S) {env:List PV} {a:Act} (he:ZAQ ρ H w S env a.tmps.toList) (x:Operand):ZAW ρ H w S (ZC8 M.gl env x) (a.eval x):=by
 cases x with
 | tmp t=>exact Zrm he t
 | const v=>rfl
 | global k=>exact M.gl_ok k w S hI (hg.all hh) ρ H
 | func f=>exact ⟨_,_,rfl,rfl,rfl⟩
theorem ZU2 {env:List PV} {a:Act} {p:PV} {v:Value} (he:ZAQ ρ H w S env a.tmps.toList) (hp:ZAW ρ H w S p v) (dst:Option Tmp):ZAQ ρ H w S (ZmL env dst p) (a.put dst v).tmps.toList:=by
 cases dst with
 | none=>exact he
 | some d=>
  simp only [ZmL,Act.put]
  have:(a.tmps.setIfInBounds d v).toList=a.tmps.toList.set d v:=by simp
  rw [this]
  exact he.set d hp
theorem ZJX (a:Act) (dst:Option Tmp) (v:Value):(a.put dst v).defers=a.defers:=by cases dst <;> rfl
theorem ZIC {env:List PV} {a:Act} {o:Oper} {b:Bool} (he:ZAQ ρ H w S env a.tmps.toList) (hw:ZFf ops o env b):Region.wanted o (yielded ops a.tmps)=b:=by
 unfold ZFf at hw
 unfold Region.wanted
 split at hw
 · rename_i hg;rw [hg];exact hw.symm
 ·
  rename_i j want hg
  rw [hg]
  simp only
  unfold yielded
  split at hw
  · rename_i hd;rw [hd,hw];rfl
  ·
   rename_i d hd
   rw [hd]
   have get : ∀ x,env.getD d .junk = .val x→a.tmps[d]? = some x:=by
    intro x hx
    cases h:env[d]? with
    | none=>rw [List.getD,h] at hx;cases hx
    | some p=>
     rw [List.getD,h] at hx
     simp only [Option.getD_some] at hx
     subst hx
     obtain ⟨v,h1,h2⟩:=he.get d _ h
     simp only [ZAW] at h2
     subst h2
     simpa using h1
   split at hw
   ·
    rename_i x hx
    have:=get _ hx
    simp only [Option.bind_some,this]
    rw [hw]
    cases x <;> cases want <;> rfl
   ·
    rename_i x hx
    have:=get _ hx
    simp only [Option.bind_some,this,hw]
    rfl
   · exact hw.elim
theorem Zfn (hg:Low g base S0) (hI:I w) (hh:HRel base S0 ρ H w S) {o:Oper} {env:List PV} {a:Act} {K:Nat} {args:List PV} (he:ZAQ ρ H w S env a.tmps.toList) (hc:ZDB o (ZC8 M.gl env)=some (K,args)) (hk:ZNH P K) :
  ∃ vs,(execOp a.eval o).run P w = .ok (.enter K vs) w∧ZAQ ρ H w S args vs.toList:=by
 obtain ⟨dst,op,ty,pos,aft,gd⟩:=o
 unfold ZDB at hc
 split at hc
 ·
  rename_i c hop
  simp only at hop
  subst hop
  split at hc
  ·
   rename_i f hcl
   split at hc
   ·
    rename_i K' first captured hf
    cases hc
    have hfr:=ZJW M hg hI hh he f
    rw [hf] at hfr
    simp only [ZAW] at hfr
    obtain ⟨fa,ca,hfv,h1,h2⟩:=hfr
    obtain ⟨fn,k1,k2,k3⟩:=hk
    refine ⟨(fa++c.args.map a.eval)++ca,?_,?_⟩
    ·
     simp only [execOp,resolve,hcl,hfv,Deferred.ofValue,Sem.run_bind,Sem.run_pure,Result.andThen_ok,invoke,callFunc,run_program,k1,k2]
     have:fn.body.isNone=false:=by cases hb:fn.body <;> simp_all
     simp [this]
    ·
     simp only [Array.toList_append,Array.toList_map]
     exact (h1.append (ZAQ.map (fun x=>ZJW M hg hI hh he x) c.args.toList)).append h2
   · cases hc
  · cases hc
 · cases hc
theorem Zwo (hg:Low g base S0) (hI:I w) (hh:HRel base S0 ρ H w S) {o:Oper} {env:List PV} {a:Act} {K:Nat} {p:PV} (he:ZAQ ρ H w S env a.tmps.toList) (hc:ZDB o (ZC8 M.gl env)=some (K,[p]))
  (hk : ∀ v w,(callFunc K #[v]).run P w = .ok (.value v) w) :
  ∃ v,(execOp a.eval o).run P w = .ok (.value v) w∧ZAW ρ H w S p v:=by
 obtain ⟨dst,op,ty,pos,aft,gd⟩:=o
 unfold ZDB at hc
 split at hc
 ·
  rename_i c hop
  simp only at hop
  subst hop
  split at hc
  ·
   rename_i f hcl
   split at hc
   ·
    rename_i K' first captured hf
    simp only [Option.some.injEq,Prod.mk.injEq] at hc
    obtain ⟨rfl,hargs⟩:=hc
    have hfr:=ZJW M hg hI hh he f
    rw [hf] at hfr
    simp only [ZAW] at hfr
    obtain ⟨fa,ca,hfv,h1,h2⟩:=hfr
    have hrels:=(h1.append (ZAQ.map (fun x=>ZJW M hg hI hh he x) c.args.toList)).append h2
    rw [hargs] at hrels
    simp only [ZAQ] at hrels
    obtain ⟨u,us,e1,e2,e3⟩:=hrels
    subst e3
    have hone:(fa++c.args.map a.eval)++ca = #[u]:=by
     apply Array.ext'
     simpa using e1
    refine ⟨u,?_,e2⟩
    simp only [execOp,resolve,hcl,hfv,Deferred.ofValue,Sem.run_bind,Sem.run_pure,Result.andThen_ok,invoke,hone,hk]
   · cases hc
  · cases hc
 · cases hc
theorem Zpf (hg:Low g base S0) (hI:I w) (hh:HRel base S0 ρ H w S) {env env':List PV} {H':ZAZ} {a:Act} {i:Nat} {ft:Ft} {Q:Exit→Act→World→Prop} {K:Act→World→Prop}
  (he:ZAQ ρ H w S env a.tmps.toList) (hs:Zpe M ops i env H env' H' ft)
  (hK : ∀ ρ' w' S' a',I w'→HRel base S0 ρ' H' w' S'→Ext base ρ H w S ρ' H' w' S'→ZAQ ρ' H' w' S' env' a'.tmps.toList→a'.defers=a.defers→K a' w'):wpOp P ops Q i K a w:=by
 obtain ⟨o,e,ho,ha,rfl,rfl⟩:=hs
 unfold wpOp
 simp only [ho]
 cases ha with
 | skip hw=>
  have:=ZIC he hw
  rw [this]
  simp only [Bool.false_eq_true,if_false]
  have hx:(ZMM ZFh).heap H=H:=by simp [ZMM,Eff.heap,ZA9]
  rw [hx] at hK
  exact hK ρ w S _ hI hh Ext.refl (ZU2 he (by simp only [ZMM,ZFh,ZAW,undef]) o.dst) (ZJX _ _ _)
 | op hw hr=>
  have:=ZIC he hw
  rw [this]
  simp only [if_true]
  have hap:=OpR.eff_apply hr H
  obtain ⟨ρ',w',S',v,hrun,h1,h2,h3⟩:=ZtN hh (fun x=>ZJW M hg hI hh he x) hap
  left
  unfold Oper.wp
  have hI':=M.keep _ _ g (Nat.le_refl _) (h2.below.below hg.1) hI
  have fin:=hK ρ' w' S' (a.put o.dst v) hI' h1 h2 (ZU2 (h2.rels he) h3 o.dst) (ZJX _ _ _)
  rcases hrun with hrun | ⟨hrun,rfl⟩
  · rw [hrun];exact fin
  · rw [hrun];exact fin
 | @call Kf args c x y hw hc hk hd hF=>
  have:=ZIC he hw
  rw [this]
  simp only [if_true]
  left
  obtain ⟨hsound,hcall⟩:=M.con_ok _ _ hk
  obtain ⟨vs,hrun,hargs⟩:=Zfn hg hI hh he hc hcall
  unfold Oper.wp
  rw [hrun]
  show Calls P Kf vs w _
  obtain ⟨S1,f1,f2⟩:=ZkE (ZJU c.params args) hh
  have hrep:=ZYG f1 (fun b hb=>hb) hd (f2.rels hargs)
  refine (hsound x y hF w S1 vs hI (fun b hb=>⟨hg.all f1 b hb,f1.lt b hb⟩) hrep).mono ?_
  rintro e w' ⟨v,rfl,hres,hbel⟩
  show K (a.put o.dst v) w'
  have hl:HRel base S0 ρ (Zff H (ZJU c.params args)) w' S1:=f1.later hbel.size hbel.block
  have hx2:Ext base ρ (Zff H (ZJU c.params args)) w S1 ρ (Zff H (ZJU c.params args)) w' S1:=Ext.later f1.base_le hbel
  have hx:=f2.trans hx2
  have hheap:(Eff.heap ⟨fun _=>ZsO c.results y,ZA3 H (ZJU c.params args),[]⟩ H)=Zff H (ZJU c.params args):=by
   simp [Eff.heap,ZCm]
  rw [hheap] at hK
  exact hK ρ w' S1 _ (M.keep _ _ g (Nat.le_refl _) (hx.below.below hg.1) hI) hl hx (ZU2 (hx.rels he) (ZtQ hres) o.dst) (ZJX _ _ _)
 | @ocall Kf args c x y hw hc hk hd hF=>
  have:=ZIC he hw
  rw [this]
  simp only [if_true]
  left
  obtain ⟨hsound,hcall⟩:=M.ocon_ok _ _ hk
  obtain ⟨vs,hrun,hargs⟩:=Zfn hg hI hh he hc hcall
  unfold Oper.wp
  rw [hrun]
  show Calls P Kf vs w _
  obtain ⟨S1,f1,f2⟩:=ZkE (ZJU c.params args) hh
  have hrep:=ZYG f1 (fun b hb=>hb) hd (f2.rels hargs)
  refine (hsound x y hF w S1 vs hI (fun b hb=>⟨hg.all f1 b hb,f1.lt b hb⟩) hrep).mono ?_
  rintro e w' ⟨v,rfl,hres,hbel⟩
  show K (a.put o.dst v) w'
  obtain ⟨ρ',S',g1,g2,g3⟩:=f1.adopt hbel hres
  have hx:=f2.trans g2
  have hlen:(Zff H (ZJU c.params args)).length=H.length:=by rw [← ZCm,ZCW]
  have hheap:(Eff.heap ⟨.all,ZA3 H (ZJU c.params args),[some (.row c.t y)]⟩ H)=Zff H (ZJU c.params args)++[some (.row c.t y)]:=by
   simp [Eff.heap,ZCm]
  rw [hheap] at hK
  rw [hlen] at g3
  exact hK ρ' w' S' _ (M.keep _ _ g (Nat.le_refl _) (hx.below.below hg.1) hI) g1 hx (ZU2 (hx.rels he) g3 o.dst) (ZJX _ _ _)
 | @hcall Kf args c x s r hw hc hk hm hF hbad=>
  have:=ZIC he hw
  rw [this]
  simp only [if_true]
  left
  obtain ⟨hsound,hcall⟩:=M.hcon_ok _ _ hk
  obtain ⟨vs,hrun,hargs⟩:=Zfn hg hI hh he hc hcall
  unfold Oper.wp
  rw [hrun]
  show Calls P Kf vs w _
  obtain ⟨B',S0',ρ',S',g1,g2,g3,_,g4⟩:=Zkl hg hh hm hargs
  refine (hsound x r hF B' S0' ρ' w S' vs hI g3 g1 g2).mono ?_
  rintro e w' ⟨_,hgood⟩
  obtain ⟨v,ρ2,S2,rfl,k1,k2,k3⟩:=hgood hbad
  show K (a.put o.dst v) w'
  obtain ⟨ρn,Sn,q1,q2,q3⟩:=g4 w' ρ2 S2 _ _ v k1 k3 k2 (ZsV r)
  exact hK ρn w' Sn _ (M.keep _ _ g (Nat.le_refl _) (q2.below.below hg.1) hI) q1 q2 (ZU2 (q2.rels he) q3 o.dst) (ZJX _ _ _)
 | @ext Kf p hw hc hk=>
  have:=ZIC he hw
  rw [this]
  simp only [if_true]
  left
  obtain ⟨v,hrun,hv⟩:=Zwo hg hI hh he hc (M.ext_ok _ hk)
  unfold Oper.wp
  rw [hrun]
  have hx:(ZMM p).heap H=H:=by simp [ZMM,Eff.heap,ZA9]
  rw [hx] at hK
  exact hK ρ w S _ hI hh Ext.refl (ZU2 he hv o.dst) (ZJX _ _ _)
theorem Zrn (hg:Low g base S0) (hI:I w) (hh:HRel base S0 ρ H w S) {env env':List PV} {H':ZAZ} {a:Act} {i:Nat} {ft:Ft} {Q:Exit→Act→World→Prop} {K:Act→World→Prop} {pv:Value}
  (he:ZAQ ρ H w S env a.tmps.toList) (hs:ZTH M ops i env H env' H' ft (some pv))
  (hQ : ∀ w',Keeps base.B w w'→Q (.panic [{ v:=pv,recovered:=false }]) a w'):wpOp P ops Q i K a w:=by
 obtain ⟨o,e,ho,ha,rfl,rfl⟩:=hs
 unfold wpOp
 simp only [ho]
 cases ha with
 | @pcall Kf args c x s r _ hw hc hk hm hF hbad=>
  have:=ZIC he hw
  rw [this]
  simp only [if_true]
  left
  obtain ⟨hsound,hcall⟩:=M.hcon_ok _ _ hk
  obtain ⟨vs,hrun,hargs⟩:=Zfn hg hI hh he hc hcall
  unfold Oper.wp
  rw [hrun]
  show Calls P Kf vs w _
  obtain ⟨B',S0',ρ',S',g1,g2,g3,⟨gB,_⟩,g4⟩:=Zkl hg hh hm hargs
  refine (hsound x r hF B' S0' ρ' w S' vs hI g3 g1 g2).mono ?_
  rintro e w' ⟨hb,_⟩
  obtain ⟨rfl,hk⟩:=hb pv hbad
  exact hQ w' ⟨hk.low,fun b hb=>hk.block b (gB b hb)⟩
/-! #### what is new comes to places that are kept for it -/
def ZUf (f:Nat→PV):Prop := ∀ (θ:Nat→Nat) (m n:Nat),θ m=n→ren θ (f m)=f n
theorem ZUf.all:ZUf .all:=fun θ m n h=>by simp only [ren,h]
theorem ZUf.head:ZUf .head:=fun θ m n h=>by simp only [ren,h]
theorem ZUf.mp:ZUf .mp:=fun θ m n h=>by simp only [ren,h]
theorem ZUf.ptr (off:Nat):ZUf (fun k => .ptr k off):=fun θ m n h=>by simp only [ren,h]
theorem ZUf.cs (off len sz:Nat):ZUf (fun k => .cs k off len sz):=fun θ m n h=>by simp only [ren,h]
def ZOg:OpR→Prop
 | .new _ f _=>ZUf f
 | .swap _ _ o => ∃ t l,o = .row t l
 | _=>True
theorem ZTI (o:Option PV):ZOg (.ofOpt o):=by cases o <;> trivial
theorem ZYM (o:Tst):ZOg (.ofTst o):=by
 cases o with
 | none=>trivial
 | some x=>obtain ⟨b,p⟩:=x;trivial
theorem Zth (T:TypeId) (cs:List PV):ZOg (Zxe P T cs):=by
 unfold Zxe
 repeat' split
 all_goals first | exact ZUf.head | exact ZUf.ptr _
theorem Zpg (sT xT:TypeId) (s x:PV) (H:ZAZ):ZOg (ZhW P sT xT s x H):=by
 unfold ZhW
 repeat' split
 all_goals first | trivial | exact ZUf.all | exact ⟨_,_,rfl⟩
theorem ZsX (dT sT:TypeId) (d s:PV) (H:ZAZ):ZOg (ZsK P dT sT d s H):=by
 unfold ZsK
 repeat' split
 all_goals trivial
theorem ZoK {sT xT:TypeId} {s x:PV} {r:OpR} (h:Zfa P sT xT s x=some r):ZOg r:=by
 unfold Zfa at h
 split at h
 ·
  simp only [Option.some.injEq] at h
  subst h
  repeat' split
  all_goals first | trivial | exact ZUf.all
 · cases h
theorem ZjE (T:TypeId) (len:Nat) (parts:List (Nat×PV)):ZOg (ZS9 P T len parts):=by
 unfold ZS9
 repeat' split
 all_goals first | trivial | exact ZUf.all | exact ZUf.cs _ _ _
theorem ZoL (src dst:TypeId) (x:PV) (H:ZAZ):ZOg (Zcu P src dst x H):=by
 unfold Zcu
 repeat' split
 all_goals first | trivial | exact ZUf.all | exact ZTI _
theorem Zkq (T:TypeId) (x y:PV):ZOg (ZWw P T x y):=by
 unfold ZWw
 repeat' split
 all_goals first | trivial | exact ZUf.all
theorem ZoM (T:TypeId) (r:Option PV):ZOg (Zfb P T r):=by
 have hn : ∀ K E,ZOg (ZhY P K E):=by
  intro K E
  unfold ZhY
  split
  ·
   rename_i k v _ _
   cases Zn1 P K k&&ZsL P E v with
   | true=>exact ZUf.mp
   | false=>trivial
  · exact ZUf.mp
  · trivial
 unfold Zfb
 repeat' split
 all_goals first | trivial | exact hn _ _
theorem Zkr {c:Bool} {r:OpR} (h:ZOg r):ZOg (bif c then r else .fail):=by
 cases c with
 | true=>exact h
 | false=>trivial
theorem Zph (T:TypeId) (x ix:PV) (ok:Bool) (H:ZAZ):ZOg (ZhZ P T x ix ok H):=by
 unfold ZhZ
 repeat' split
 all_goals first | trivial | exact Zkr trivial
theorem Zpi (T:TypeId) (m k x:PV) (H:ZAZ):ZOg (Zar P T m k x H):=by
 unfold Zar
 repeat' split
 all_goals first | trivial | exact Zkr trivial
theorem ZmS (T:TypeId) (m k:PV) (H:ZAZ):ZOg (ZWx P T m k H):=by
 unfold ZWx
 repeat' split
 all_goals first | trivial | exact Zkr trivial
theorem ZjF (m s x:PV) (H:ZAZ):ZOg (ZPE m s x H):=by
 unfold ZPE
 repeat' split
 all_goals trivial
theorem Zti (o:Oper) (ev:Operand→PV) (H:ZAZ):ZOg (opP P o ev H):=by
 unfold opP
 repeat' split
 all_goals first
  | trivial
  | exact ZTI _
  | exact ZYM _
  | exact Zth _ _
  | exact ZjE _ _ _
  | exact Zkq _ _ _
  | exact ZoL _ _ _ _
  | exact ZoM _ _
  | exact Zph _ _ _ _ _
  | exact Zpi _ _ _ _ _
  | exact ZmS _ _ _ _
  | exact ZjF _ _ _ _
  | skip
 ·
  unfold ZpQ
  repeat' split
  all_goals first | trivial | exact ZYM _ | exact ZTI _ | (unfold ZpL; (repeat' split);all_goals trivial)
 ·
  unfold ZWu
  repeat' split
  all_goals first | trivial | exact ZYM _ | exact ZTI _
 ·
  unfold Zfe
  repeat' split
  all_goals first | trivial | exact ZYM _ | exact ZTI _ | exact Zpg _ _ _ _ _ | exact ZsX _ _ _ _ _ | exact ZoK (by assumption) | (unfold ZND; (repeat' split);all_goals trivial)
theorem Zwp (hg:Low g base S0) (hI:I w) (hh:HRel base S0 ρ H w S) {env:List PV} {a:Act} (he:ZAQ ρ H w S env a.tmps.toList) {o:Oper} {f:Nat→PV} {b:Bool} {x:AO} (hr:opP P o (ZC8 M.gl env) H = .new b f x) (hb:b=true)
  {θ:Nat→Nat} (hθ : ∀ b,b<H.length→θ b=b):ZNB θ (some x)=some x:=by
 subst hb
 have key : ∀ ps:List PV,(∀ (ρ:Loc) (H:ZAZ) (w:World) (S:Nat→Prop) (b:Nat),ZEj ρ H w S b x→ZjD (ZMz H) ps)→ZjC θ ps=ps:=by
  intro ps hps
  obtain ⟨ρ1,w1,S1,v1,_,h1,_,_⟩:=ZtN hh (fun x=>ZJW M hg hI hh he x) (show (opP P o (ZC8 M.gl env) H).applyTo H=some (true,f H.length,H++[some x]) by rw [hr];rfl)
  obtain ⟨ρ',hh',hx'⟩:=hh.pad1
  have he':=hx'.rels he
  have hrd : ∀ b∈ZBB o (ZC8 M.gl env),(H++[some AO.res]).at? b=H.at? b:=by
   intro b hb
   have hk : ∀ x,∀ b∈ZOZ (ZC8 M.gl env x),b<H.length:=by
    intro x b hb
    have hr:=Zkn (ZJW M hg hI hh he x)
    generalize ZC8 M.gl env x=p at *
    cases p <;> simp only [ZOZ,List.mem_singleton,List.not_mem_nil] at hb <;> (subst hb;simp only [Zam] at hr;exact hr.lt)
   have hlt:b<H.length:=by
    obtain ⟨dst,op,ty,pos,aft,gd⟩:=o
    cases op <;> simp only [ZBB,List.not_mem_nil,List.mem_append,List.mem_flatMap] at hb
    all_goals first | exact hk _ _ hb | (rcases hb with hb | hb <;> exact hk _ _ hb) | (obtain ⟨x,_,hb⟩:=hb;exact hk x _ hb)
   exact ZAe hlt
  have hop:=Zko (P:=P) (o:=o) (ev:=ZC8 M.gl env) (ev':=ZC8 M.gl env) (fun _ _=>rfl) hrd
  obtain ⟨ρ2,w2,S2,v2,_,h2,_,_⟩:=ZtN hh' (fun x=>ZJW M hg hI hh' he' x) (show (opP P o (ZC8 M.gl env) (H++[some .res])).applyTo (H++[some .res])=some (true,f (H.length+1),(H++[some .res])++[some x]) by rw [hop,hr];simp [OpR.applyTo])
  have r1:=hps _ _ _ _ _ (h1.block H.length x ZA1)
  have r2:=hps _ _ _ _ _ (h2.block (H.length+1) x (by have:=ZA1 (H:=H++[some AO.res]) (x:=some x);simpa using this))
  refine ZSL θ (fun b q1 q2=>hθ b ?_) r1 r2
  have l1:=q1.lt
  simp at l1
  rcases Nat.lt_or_ge b H.length with h | h
  · exact h
  ·
   obtain rfl:b=H.length:=by omega
   exact absurd (by rw [ZAe (by simp),ZA1]) q2.2
 cases x with
 | cells T cs=>simp only [ZNB];rw [key cs (fun _ _ _ _ _ h=>by obtain ⟨_,_,_,_,_,_,k⟩:=h;exact ZHD k)]
 | mapF k l ps=>simp only [ZNB];rw [key ps (fun _ _ _ _ _ h=>by obtain ⟨_,_,_,_,k,_⟩:=h;exact ZHD k)]
 | _=>rfl
theorem OpActN.shift (hg:Low g base S0) (hI:I w) (hh:HRel base S0 ρ H w S) {env:List PV} {a:Act} (he:ZAQ ρ H w S env a.tmps.toList) {o:Oper} {n:Nat} {e:Eff} {ft:Ft} {b:Option Value} (h:OpActN M ops o env H n e ft b) (hn:e.app≠[]→n+e.app.length≤H.length) :
  ∃ e' ft',OpAct M ops o env H e' ft' b∧e'.app.length=e.app.length∧e.val n=ren (ZSK H.length n e.app.length) (e'.val H.length)∧e.app=e'.app.map (ZNB (ZSK H.length n e.app.length)) ∧
   e.edits=e'.edits.map fun p=>(p.1,ZNB (ZSK H.length n e.app.length) p.2):=by
 have triv : ∀ (v:PV) (ed:List (Nat×Option AO)),v=ren (ZSK H.length n 0) v∧([]:List (Option AO))=[].map (ZNB (ZSK H.length n 0))∧ed=ed.map fun p=>(p.1,ZNB (ZSK H.length n 0) p.2):=by
  intro v ed
  have hz : ∀ b,ZSK H.length n 0 b=b:=fun _=>ZnQ
  refine ⟨(Ztc _ hz v).symm,rfl,?_⟩
  rw [List.map_congr_left (g:=id)]
  · simp
  · intro p _;simp only [Zwn _ hz];rfl
 cases h with
 | skip h1=>exact ⟨_,_,.skip h1,rfl,triv _ _⟩
 | @op e h1 h2=>
  refine ⟨_,_,.op h1 h2,rfl,?_⟩
  have hs:=Zti (P:=P) o (ZC8 M.gl env) H
  generalize hr:opP P o (ZC8 M.gl env) H=r at h2 hs
  cases r <;> simp only [OpR.eff,Option.some.injEq,Prod.mk.injEq] at h2 <;> first | (obtain ⟨_,rfl⟩:=h2;exact triv _ _) | skip
  ·
   obtain ⟨rfl,rfl⟩:=h2
   refine ⟨(hs _ _ _ (ZWz (j:=0) (by simp))).symm,?_,rfl⟩
   simp only [List.map_cons,List.map_nil,List.cons.injEq,and_true]
   exact (Zwp hg hI hh he hr rfl (fun b hb=>ZTF hb)).symm
  ·
   obtain ⟨rfl,rfl⟩:=h2
   refine ⟨?_,?_,rfl⟩
   ·
    have:=ZWz (L:=H.length) (n:=n) (k:=1) (j:=0) (by omega)
    simp only [Nat.add_zero] at this
    simp only [ren,List.length_cons,List.length_nil,Nat.zero_add,this]
   ·
    obtain ⟨t,l,rfl⟩:=hs
    rfl
  · cases h2
 | call h1 h2 h3 h4 h5=>exact ⟨_,_,.call h1 h2 h3 h4 h5,rfl,triv _ _⟩
 | ocall h1 h2 h3 h4 h5=>
  refine ⟨_,_,.ocall h1 h2 h3 h4 h5,rfl,?_,rfl,(Zic _ _ _).symm⟩
  exact (ZUf.all _ _ _ (ZWz (j:=0) (by simp))).symm
 | @hcall K args c x s r h1 h2 h3 h4 h5 h6=>
  have hlen:(ZSI s H (ZBA c.qH (c.out r).2)).length=(Zpb s n (ZBA c.qH (c.out r).2)).length:=Zex _ _ _ _
  generalize hHq:ZBA c.qH (c.out r).2=Hq at hlen
  have hlive : ∀ b,some b∈ZmK s.σ Hq.length→b<H.length:=by
   intro b hb
   obtain ⟨c',hc'⟩:=List.getElem?_of_mem hb
   exact Zqn hh h4 _ (ZNG ((Zcx _ _ _ _).mp hc').2)
  have hth:(fun b=>ZSK H.length n (Zpb s n Hq).length (ZJV s Hq.length H.length b))=ZJV s Hq.length n:=by
   funext c'
   have:=Zhg (L:=H.length) (n:=n) (k:=(Zpb s n Hq).length) (ZmK s.σ Hq.length) Hq (ZJV s Hq.length n) 0 (ZTB _ _).symm hlive (by simp [Zpb])
   simp only [Nat.add_zero] at this
   unfold ZJV
   rw [← this]
   simp only [List.getD,List.getElem?_map]
   cases (ZQC (ZmK s.σ Hq.length) H.length)[c']? with
   | some y=>rfl
   | none=>
    simp only [Option.getD_none,Option.map_none]
    rcases Nat.eq_zero_or_pos H.length with h0 | h0
    ·
     by_cases hk:(Zpb s n Hq)=[]
     · rw [hk];exact ZnQ
     ·
      have:=hn (by unfold ZmR;rw [hHq];exact hk)
      unfold ZmR at this
      rw [hHq] at this
      have hp:0<(Zpb s n Hq).length:=List.length_pos_iff.mpr hk
      simp only at this
      omega
    · exact ZTF h0
  refine ⟨_,_,.hcall h1 h2 h3 h4 h5 h6,?_,?_,?_,?_⟩
  · unfold ZwJ ZmR;rw [hHq];exact hlen
  ·
   unfold ZwJ ZmR
   simp only [hHq,Zqm]
   rw [hth]
  ·
   unfold ZwJ ZmR
   simp only [hHq]
   show ZfT (ZJV s Hq.length n) _ _=_
   rw [← hth]
   exact ZoI _ _ _ _
  ·
   unfold ZwJ ZmR
   simp only [hHq]
   show ZA3 H s.Z++ZFD (ZJV s Hq.length n) _ _=(ZA3 H s.Z++ZFD (ZJV s Hq.length H.length) _ _).map _
   rw [List.map_append,Zic,← hth]
   congr 1
   exact Zhf _ _ _ _
 | pcall h1 h2 h3 h4 h5 h6=>exact ⟨_,_,.pcall h1 h2 h3 h4 h5 h6,rfl,triv _ _⟩
 | ext h1 h2 h3=>exact ⟨_,_,.ext h1 h2 h3,rfl,triv _ _⟩
theorem Zpj : ∀ (l:List (Option AO)) (n:Nat) (H:ZAZ),n+l.length≤H.length → ∀ j,j<l.length→(ZA9 H (ZOf n l)).at? (n+j)=l.getD j none
 | [],_,_,_,j,hj=>by cases hj
 | x::l,n,H,hn,j,hj=>by
  simp only [List.length_cons] at hn hj
  simp only [ZOf,ZA9]
  cases j with
  | zero=>
   rw [ZF0 _ _ _ (by rw [ZYL,List.mem_range'_1];omega)]
   simp only [Nat.add_zero,List.getD_cons_zero]
   exact ZA2 (by omega)
  | succ j=>
   have:=Zpj l (n+1) (H.set n x) (by simp;omega) j (by omega)
   rw [show n+(j+1)=n+1+j by omega,this,List.getD_cons_succ]
theorem ZnR (θ:Nat→Nat) : ∀ (es:List (Nat×Option AO)) (H:ZAZ) (b:Nat),ZNB θ (H.at? b)=H.at? b→(ZA9 H (es.map fun p=>(p.1,ZNB θ p.2))).at? b=ZNB θ ((ZA9 H es).at? b)
 | [],_,_,h=>h.symm
 | (k,o)::es,H,b,h=>by
  simp only [List.map_cons,ZA9]
  by_cases hm:b∈es.map (·.1)
  ·
   -- only what comes behind counts
   have key : ∀ (es:List (Nat×Option AO)) (H H':ZAZ),H.length=H'.length→b∈es.map (·.1)→(ZA9 H es).at? b=(ZA9 H' es).at? b:=by
    intro es
    induction es with
    | nil=>intro _ _ _ h;cases h
    | cons p es ih=>
     intro H H' hl hm
     simp only [ZA9]
     by_cases h2:b∈es.map (·.1)
     · exact ih _ _ (by simpa using hl) h2
     ·
      rw [ZF0 _ _ _ h2,ZF0 _ _ _ h2]
      simp only [List.map_cons,List.mem_cons] at hm
      have e:b=p.1:=hm.resolve_right h2
      subst e
      simp only [ZAZ.at?,List.getD,List.getElem?_set_self']
      by_cases hb:p.1<H'.length
      · simp [hb,hl]
      · simp [hb,hl]
   rw [key (es.map fun p=>(p.1,ZNB θ p.2)) (H.set k (ZNB θ o)) H (by simp) (by simpa using hm),key es (H.set k o) H (by simp) hm]
   exact ZnR θ es H b h
  ·
   rw [ZF0 _ _ _ (by simpa using hm),ZF0 _ _ _ hm]
   by_cases e:k=b
   ·
    subst e
    rcases Nat.lt_or_ge k H.length with hl | hl
    · rw [ZA2 hl,ZA2 hl]
    · rw [List.set_eq_of_length_le hl,List.set_eq_of_length_le hl];exact h.symm
   · rw [ZAk e,ZAk e];exact h.symm
theorem ZnS (hg:Low g base S0) (hI:I w) (hh:HRel base S0 ρ H w S) {env env':List PV} {H':ZAZ} {a:Act} {i:Nat} {ft:Ft} {Q:Exit→Act→World→Prop} {K:Act→World→Prop}
  (he:ZAQ ρ H w S env a.tmps.toList) (hs:ZNJ M ops i env H env' H' ft none)
  (hK : ∀ ρ' w' S' a',I w'→HRel base S0 ρ' H' w' S'→Ext base ρ H w S ρ' H' w' S'→ZAQ ρ' H' w' S' env' a'.tmps.toList→a'.defers=a.defers→K a' w'):wpOp P ops Q i K a w:=by
 obtain ⟨o,e,n,ho,ha,hle,hres,hself,rfl,rfl⟩:=hs
 obtain ⟨e',ft',ha',q1,q2,q3,q4⟩:=ha.shift hg hI hh he hle
 obtain ⟨f1,f2⟩:=ha.facts
 refine Zpf hg hI hh he ⟨o,e',ho,ha',rfl,rfl⟩ (fun ρ1 w1 S1 a1 hI1 hh1 hx1 he1 hd1 => ?_)
 generalize hθ:ZSK H.length n e.app.length=θ at q2 q3 q4
 have hlen:(ZA9 H e'.edits).length=H.length:=ZCW _ _
 have slot : ∀ {b},n≤b∧b<n+e.app.length→b∈ft.new:=fun h=>by rw [f2,List.mem_range'_1];exact h
 have hk':e'.edits.map (·.1)=e.edits.map (·.1):=by rw [q4,List.map_map];rfl
 have known : ∀ b,ZMz H b→θ b=b:=fun b hb=>by rw [← hθ];exact ZTF hb.lt
 have hbl:base.n≤(ZA9 H e'.edits).length:=by rw [hlen];exact hh.base_le.len
 have atE : ∀ b,¬ (n≤b∧b<n+e.app.length)→(ZA9 H (e.edits++ZOf n e.app)).at? b=ZNB θ ((ZA9 H e'.edits).at? b):=by
  intro b hb
  rw [ZWy,ZF0 _ _ _ (by rw [ZYL,List.mem_range'_1];exact hb),q4]
  exact ZnR θ _ _ _ (Zte hh known b)
 obtain ⟨ρ2,m1,m2,m3⟩:=HRel.move (H':=ZA9 H (e.edits++ZOf n e.app)) (n:=n) hh1 hbl (by rw [hlen,q1];intro h;exact hle (by intro h2;exact h (List.length_eq_zero_iff.mp (by rw [q1,h2];rfl))))
  (fun j hj=>by
   rw [q1] at hj
   have hm:=slot (b:=n+j) ⟨by omega,by omega⟩
   rw [ZF0 _ _ _ (by rw [hk'];exact fun h=>(hself _ hm).2 (f1 _ h))]
   exact hres _ hm) (by rw [ZCW,hlen]) (fun b _ hb=>by rw [hlen,q1,hθ];exact atE b (by rwa [q1] at hb))
  (fun j hj=>by
   rw [q1] at hj
   rw [hlen,q1,hθ,ZWy,Zpj _ _ _ (by rw [ZCW];exact hle (by rintro h;rw [h] at hj;cases hj)) j hj]
   conv=>lhs;rw [q3]
   simp only [List.getD,List.getElem?_map]
   cases e'.app[j]? <;> rfl)
 rw [hlen,q1,hθ] at m2
 refine hK ρ2 w1 S1 a1 hI1 m1 ⟨⟨by simp [ZCW],fun b hb => ?_⟩,⟨fun b hb => ?_⟩,hx1.hw,hx1.hS,hx1.below⟩ ?_ hd1
 ·
  have hns : ¬ (n≤b∧b<n+e.app.length):=fun h=>hb.2 (hres _ (slot h))
  obtain ⟨k1,k2⟩:=hx1.hH.fits b hb
  refine ⟨?_,fun o' ho' => ?_⟩
  ·
   have:=(m2.real b k1).1
   rwa [known b hb] at this
  ·
   rw [atE b hns] at ho'
   obtain ⟨q,r1,r2,_⟩:=ZSJ ho'
   obtain ⟨o1,r3,r4⟩:=k2 q (by
    show ZAZ.at? (ZA9 H e'.edits++e'.app) b=_
    simp only [ZAZ.at?,List.getD,List.getElem?_append_left (show b<(ZA9 H e'.edits).length by rw [hlen];exact hb.lt)]
    exact r1)
   exact ⟨o1,r3,r4.trans r2⟩
 ·
  have hns : ¬ (n≤b∧b<n+e.app.length):=fun h=>hb.2 (hres _ (slot h))
  rw [m3 b (by rw [hlen];exact hb.lt) (by rwa [q1])]
  exact hx1.hr.same b hb
 ·
  have:=ZU0 m2 he1
  have e2:ZjC θ (ZmL env o.dst (e'.val H.length))=ZmL env o.dst (e.val n):=by
   have hfix:ZjC θ env=env:=ZSL θ (fun b k _=>known b k) (ZHD he) (ZHD he)
   have hset : ∀ (l:List PV) (d:Nat) (p:PV),ZjC θ (l.set d p)=(ZjC θ l).set d (ren θ p):=by
    intro l
    induction l with
    | nil=>intro d p;rfl
    | cons x l ih=>intro d p;cases d with
     | zero=>rfl
     | succ d=>simp only [List.set_cons_succ,ZjC,ih]
   cases hd:o.dst with
   | none=>exact hfix
   | some d=>simp only [ZmL,hset,hfix,q2]
  rwa [e2] at this
theorem Zpk (hg:Low g base S0) (hI:I w) (hh:HRel base S0 ρ H w S) {env env':List PV} {H':ZAZ} {a:Act} {i:Nat} {ft:Ft} {Q:Exit→Act→World→Prop} {K:Act→World→Prop} {pv:Value}
  (he:ZAQ ρ H w S env a.tmps.toList) (hs:ZNJ M ops i env H env' H' ft (some pv))
  (hQ : ∀ w',Keeps base.B w w'→Q (.panic [{ v:=pv,recovered:=false }]) a w'):wpOp P ops Q i K a w:=by
 obtain ⟨o,e,n,ho,ha,hle,hres,hself,rfl,rfl⟩:=hs
 obtain ⟨e',ft',ha',_⟩:=ha.shift hg hI hh he hle
 exact Zrn hg hI hh he ⟨o,e',ho,ha',rfl,rfl⟩ hQ
/-! #### a region in whatever order -/
inductive OpTrace (M:Mach P I g) (ops:Array Oper):List (Nat×Ft)→List PV→ZAZ→List PV→ZAZ→Prop where
 | nil {env H}:OpTrace M ops [] env H env H
 | cons {i ft l env H env1 H1 env' H'}:Zpe M ops i env H env1 H1 ft→OpTrace M ops l env1 H1 env' H'→OpTrace M ops ((i,ft)::l) env H env' H'
theorem OpTrace.snoc {l:List (Nat×Ft)} {env H env1 H1 env2 H2 i ft} (h:OpTrace M ops l env H env1 H1) (k:Zpe M ops i env1 H1 env2 H2 ft):OpTrace M ops (l++[(i,ft)]) env H env2 H2:=by
 induction h with
 | nil=>exact .cons k .nil
 | cons h1 _ ih=>exact .cons h1 (ih k)
inductive TraceS (M:Mach P I g) (ops:Array Oper):List (Nat×Ft)→List PV→ZAZ→List PV→ZAZ→Prop where
 | nil {env H}:TraceS M ops [] env H env H
 | cons {i ft l env H env1 H1 env' H'}:ZNJ M ops i env H env1 H1 ft none→TraceS M ops l env1 H1 env' H'→TraceS M ops ((i,ft)::l) env H env' H'
def ZvX (ops:Array Oper) (x y:Nat×Ft):Prop := ∃ ox oy,ops[x.1]? = some ox∧ops[y.1]? = some oy∧ox.apart ops oy=true∧x.2.apart y.2=true
theorem TraceS.front {y:Nat×Ft} {l2:List (Nat×Ft)} : ∀ {l1:List (Nat×Ft)} {env H env' H'},(∀ x∈l1,ZvX ops x y)→TraceS M ops (l1++y::l2) env H env' H'→TraceS M ops (y::(l1++l2)) env H env' H'
 | [],_,_,_,_,_,h=>h
 | (ix,fx)::l1,env,H,env',H',hf,h=>by
  obtain ⟨iy,fy⟩:=y
  rw [List.cons_append] at h
  cases h with
  | cons h1 h2=>
   have ih:=TraceS.front (fun z hz=>hf z (by simp [hz])) h2
   cases ih with
   | cons k1 k2=>
    obtain ⟨ox,oy,e1,e2,a1,a2⟩:=hf (ix,fx) (by simp)
    obtain ⟨env1',H1',s1,s2⟩:=ZNJ.swap e1 e2 h1 k1 a1 a2
    exact .cons s1 (.cons s2 k2)
def Zhh (ops:Array Oper):Bool :=
 (List.range ops.size).all fun i=>match ops[i]? with
  | some o=>o.after.toList.all fun e => !Region.binds .any e||decide (e.on<i)
  | none=>true
def Zqo (ops:Array Oper):Nat→Nat→Nat→Bool
 | 0,_,_=>false
 | n+1,j,i=>match ops[j]? with
  | none=>false
  | some o=>o.after.toList.any (fun e=>Region.binds .any e&&e.on==i)||o.after.toList.any (fun e=>Region.binds .any e&&Zqo ops n e.on i)
def freeB (ops:Array Oper) (x y:Nat×Ft):Bool :=
 match ops[x.1]?,ops[y.1]? with
 | some ox,some oy=>ox.apart ops oy&&x.2.apart y.2
 | _,_=>false
def ZvY (x y:Ft):Bool:=y.new.all fun k => !x.reads.contains k && !x.writes.contains k
def Zez (ops:Array Oper):List (Nat×Ft)→Bool
 | []=>true
 | x::l=>(ZvY x.2 x.2&&l.all (fun y=>(freeB ops x y||Zqo ops 4 y.1 x.1)&&ZvY x.2 y.2))&&Zez ops l
theorem ZoN {x y:Ft} (h:ZvY x y=true) : ∀ k∈y.new,k∉x.reads∧k∉x.writes:=by
 intro k hk
 simpa [ZvY] using List.all_eq_true.mp h k hk
theorem ZnT {x y:Nat×Ft} (h:freeB ops x y=true):ZvX ops x y:=by
 unfold freeB at h
 split at h
 ·
  rename_i ox oy h1 h2
  simp only [Bool.and_eq_true] at h
  exact ⟨ox,oy,h1,h2,h.1,h.2⟩
 · cases h
theorem Zhi : ∀ {l:List (Nat×Ft)},Zez ops l=true → ∀ {l1:List (Nat×Ft)} {x y l2},l=l1++y::l2→x∈l1→ZvX ops x y∨Zqo ops 4 y.1 x.1=true
 | [],_,l1,x,y,l2,e,_=>by simp at e
 | z::l,h,l1,x,y,l2,e,hx=>by
  simp only [Zez,Bool.and_eq_true] at h
  cases l1 with
  | nil=>cases hx
  | cons z' l1=>
   simp only [List.cons_append,List.cons.injEq] at e
   obtain ⟨rfl,e⟩:=e
   rcases List.mem_cons.mp hx with rfl | hx
   ·
    have:=List.all_eq_true.mp h.1.2 y (by rw [e];simp)
    simp only [Bool.and_eq_true,Bool.or_eq_true] at this
    exact this.1.imp ZnT id
   · exact Zhi h.2 e hx
theorem Zhj : ∀ {l1:List (Nat×Ft)} {y l2},Zez ops (l1++y::l2)=true→Zez ops (l1++l2)=true
 | [],y,l2,h=>by simp only [List.nil_append,Zez,Bool.and_eq_true] at h;exact h.2
 | x::l1,y,l2,h=>by
  simp only [List.cons_append,Zez,Bool.and_eq_true] at h ⊢
  refine ⟨⟨h.1.1,?_⟩,Zhj h.2⟩
  have h1:=h.1.2
  rw [List.all_eq_true] at h1 ⊢
  intro z hz
  exact h1 z (by rcases List.mem_append.mp hz with hz | hz <;> simp [hz])
theorem TraceS.frontB {y:Nat×Ft} {b:Option Value} : ∀ {l:List (Nat×Ft)} {env H env1 H1 env2 H2},(∀ x∈l,ZvX ops x y)→TraceS M ops l env H env1 H1→ZNJ M ops y.1 env1 H1 env2 H2 y.2 b →
  ∃ env' H',ZNJ M ops y.1 env H env' H' y.2 b
 | [],_,_,_,_,env2,H2,_,h,k=>by cases h;exact ⟨env2,H2,k⟩
 | (ix,fx)::l,env,H,env1,H1,_,_,hf,h,k=>by
  cases h with
  | cons h1 h2=>
   obtain ⟨env',H',k1⟩:=TraceS.frontB (fun z hz=>hf z (by simp [hz])) h2 k
   obtain ⟨ox,oy,e1,e2,a1,a2⟩:=hf (ix,fx) (by simp)
   obtain ⟨env1',H1',s1,_⟩:=ZNJ.swap e1 e2 h1 k1 a1 a2
   exact ⟨_,_,s1⟩
theorem ZTH.grows {i:Nat} {env env':List PV} {H H':ZAZ} {ft:Ft} {b:Option Value} (h:ZTH M ops i env H env' H' ft b):H'.length=H.length+ft.new.length ∧ ∀ k,H.length≤k→k<H'.length→k∈ft.new:=by
 obtain ⟨o,e,_,ha,rfl,rfl⟩:=h
 obtain ⟨_,f2⟩:=ha.toN.facts
 have e1:(e.heap H).length=H.length+e.app.length:=by simp [Eff.heap,ZCW]
 refine ⟨by rw [f2,e1];simp,fun k h1 h2 => ?_⟩
 rw [f2,List.mem_range'_1]
 rw [e1] at h2
 exact ⟨h1,h2⟩
theorem OpTrace.tile : ∀ {l:List (Nat×Ft)} {env H env' H'},OpTrace M ops l env H env' H'→H.length≤H'.length ∧ ∀ k,H.length≤k→k<H'.length → ∃ y∈l,k∈y.2.new:=by
 intro l env H env' H' h
 induction h with
 | nil=>exact ⟨Nat.le_refl _,fun k h1 h2=>by omega⟩
 | @cons i ft l env H env1 H1 env' H' h1 _ ih=>
  obtain ⟨g1,g2⟩:=ZTH.grows h1
  refine ⟨by omega,fun k k1 k2 => ?_⟩
  rcases Nat.lt_or_ge k H1.length with hk | hk
  · exact ⟨(i,ft),by simp,g2 k k1 hk⟩
  ·
   obtain ⟨y,hy,hm⟩:=ih.2 k hk k2
   exact ⟨y,List.mem_cons_of_mem _ hy,hm⟩
theorem Zfo : ∀ (app:List (Option AO)) (X:ZAZ) (m:Nat),ZA9 (X++List.replicate (app.length+m) (some .res)) (ZOf X.length app)=(X++app)++List.replicate m (some .res)
 | [],X,m=>by simp [ZOf,ZA9]
 | x::l,X,m=>by
  have e:(X++List.replicate ((x::l).length+m) (some AO.res)).set X.length x=(X++[x])++List.replicate (l.length+m) (some .res):=by
   rw [show (x::l).length+m=(l.length+m)+1 by simp;omega,List.replicate_succ,List.set_append_right _ _ (Nat.le_refl _)]
   simp
  have:=Zfo l (X++[x]) m
  simp only [ZOf,ZA9]
  rw [e]
  simp only [List.length_append,List.length_cons,List.length_nil,Nat.zero_add] at this
  rw [this]
  simp
theorem OpTrace.toS : ∀ {l:List (Nat×Ft)} {env H env' H'},OpTrace M ops l env H env' H'→Zez ops l=true→TraceS M ops l env (H++List.replicate (H'.length - H.length) (some .res)) env' H':=by
 intro l env H env' H' h
 induction h with
 | nil=>intro _;simpa using TraceS.nil
 | @cons i ft l env H env1 H1 env' H' h1 h2 ih=>
  intro hf
  simp only [Zez,Bool.and_eq_true] at hf
  have hS:=ih hf.2
  have ht:=OpTrace.tile (.cons h1 h2)
  have ht1:=OpTrace.tile h2
  obtain ⟨g1,g2⟩:=ZTH.grows h1
  have look : ∀ k,H.length≤k→k<H'.length→k∉ft.reads∧k∉ft.writes:=by
   intro k k1 k2
   obtain ⟨y,hy,hm⟩:=ht.2 k k1 k2
   rcases List.mem_cons.mp hy with rfl | hy
   · exact ZoN hf.1.1 k hm
   ·
    have:=List.all_eq_true.mp hf.1.2 y hy
    simp only [Bool.and_eq_true] at this
    exact ZoN this.2 k hm
  have hm:H'.length - H.length=ft.new.length+(H'.length - H1.length):=by omega
  have atP : ∀ k,k<H.length∨H'.length≤k→ZAZ.at? (H++List.replicate (H'.length - H.length) (some .res)) k=H.at? k:=by
   intro k hk
   rcases hk with hk | hk
   · simp [ZAZ.at?,List.getD,List.getElem?_append_left hk]
   ·
    simp only [ZAZ.at?,List.getD]
    rw [List.getElem?_eq_none (by simp;omega),List.getElem?_eq_none (by omega)]
  refine .cons ?_ hS
  obtain ⟨o,e,ho,ha,rfl,rfl⟩:=h1
  obtain ⟨f1,f2⟩:=ha.toN.facts
  have e1:(e.heap H).length=H.length+e.app.length:=by simp [Eff.heap,ZCW]
  refine ⟨o,e,H.length,ho,ha.toN.local (fun _ _=>rfl) (fun b hb=>atP b ?_),fun _=>by simp;omega,fun k hk => ?_,ZoN hf.1.1,rfl,?_⟩
  ·
   rcases Nat.lt_or_ge b H.length with h | h
   · exact .inl h
   ·
    rcases Nat.lt_or_ge b H'.length with h' | h'
    · exact absurd hb (look b h h').1
    · exact .inr h'
  ·
   rw [f2,List.mem_range'_1] at hk
   simp only [ZAZ.at?,List.getD]
   rw [List.getElem?_append_right (by omega),List.getElem?_replicate,if_pos (by omega)]
   rfl
  ·
   rw [ZWy,Zfm _ _ _ (fun k hk hm => ?_)]
   ·
    have hX:(ZA9 H e.edits).length=H.length:=ZCW _ _
    have hle:=ht1.1
    have:=Zfo e.app (ZA9 H e.edits) (H'.length - (e.heap H).length)
    rw [hX] at this
    rw [show H'.length - H.length=e.app.length+(H'.length - (e.heap H).length) by omega,this]
    rfl
   ·
    rw [List.mem_range'_1] at hk
    simp at hk
    exact (look k hk.1 (by omega)).2 (f1 k hm)
theorem ZTH.panS {i:Nat} {env env':List PV} {H H':ZAZ} {ft:Ft} {v:Value} (h:ZTH M ops i env H env' H' ft (some v)):ZNJ M ops i env H env' H' ft (some v):=by
 obtain ⟨o,e,ho,ha,rfl,rfl⟩:=h
 have hn:e.app=[]:=by cases ha;rfl
 obtain ⟨f1,f2⟩:=ha.toN.facts
 rw [hn] at f2
 have f3:ft.new=[]:=f2
 refine ⟨o,e,H.length,ho,ha.toN,fun h=>absurd hn h,(fun k hk=>by rw [f3] at hk;cases hk),(fun k hk=>by rw [f3] at hk;cases hk),rfl,?_⟩
 simp [Eff.heap,hn,ZOf]
def Zxh (ops:Array Oper) (listed:Array Bool):Prop :=
 ∀ c o,ops[c]? = some o→listed.getD c false=true → ∀ e∈o.after,Region.binds .any e=true→listed.getD e.on false=true
theorem Zhk {listed:Array Bool} (hd:Zxh ops listed) : ∀ (n j i:Nat),Zqo ops n j i=true→(∀ o,ops[j]? = some o → ∀ e∈o.after,Region.binds .any e=true→listed.getD e.on false=true)→listed.getD i false=true
 | 0,_,_,h,_=>by simp [Zqo] at h
 | n+1,j,i,h,hj=>by
  simp only [Zqo] at h
  split at h
  · cases h
  ·
   rename_i o ho
   simp only [Bool.or_eq_true,List.any_eq_true,Bool.and_eq_true,beq_iff_eq,Array.mem_toList_iff] at h
   rcases h with ⟨e,he,hb,rfl⟩ | ⟨e,he,hb,hd'⟩
   · exact hj o ho e he hb
   · exact Zhk hd n e.on i hd' (fun o' ho'=>hd e.on o' ho' (hj o ho e he hb))
theorem ZsY (hel:Zhh ops=true) (hg:Low g base S0) {Q:Exit→Act→World→Prop} {envF:List PV} {HF:ZAZ} : ∀ (fuel:Nat) (l:List (Nat×Ft)) (listed:Array Bool) (ρ:Loc) (env:List PV) (H:ZAZ) (w:World) (S:Nat→Prop) (a:Act),
  l.length≤fuel→listed.size=ops.size→(∀ i,i∈l.map (·.1)↔listed.getD i true=false)→(l.map (·.1)).Pairwise (· < ·)→Zxh ops listed→Zez ops l=true →
  I w→HRel base S0 ρ H w S→ZAQ ρ H w S env a.tmps.toList→TraceS M ops l env H envF HF →
  (∀ ρ' w' S' a',I w'→HRel base S0 ρ' HF w' S'→Ext base ρ H w S ρ' HF w' S'→ZAQ ρ' HF w' S' envF a'.tmps.toList→a'.defers=a.defers→Q .normal a' w') →
  wpAny P .any ops Q fuel listed a w:=by
 have isNil : ∀ (l:List (Nat×Ft)) (listed:Array Bool),listed.size=ops.size→(∀ i,i∈l.map (·.1)↔listed.getD i true=false)→(l.map (·.1)).Pairwise (· < ·)→Region.ready .any ops listed=[]→l=[]:=by
  intro l listed hsz hml hsort hr
  cases l with
  | nil=>rfl
  | cons x l=>
   exfalso
   have hx:listed.getD x.1 true=false:=(hml x.1).mp (by simp)
   have hlt:x.1<ops.size:=by
    rcases Nat.lt_or_ge x.1 ops.size with h | h
    · exact h
    · rw [Array.getD_eq_getD_getElem?,Array.getElem?_eq_none (by omega)] at hx;cases hx
   have:x.1∈Region.ready .any ops listed:=by
    rw [mem_ready]
    refine ⟨hx,ops[x.1],by simp [hlt],fun e he hb => ?_⟩
    have h1:=List.all_eq_true.mp hel x.1 (by simpa using hlt)
    simp only [hlt,Array.getElem?_eq_getElem,List.all_eq_true,Array.mem_toList_iff,Bool.or_eq_true,Bool.not_eq_true',decide_eq_true_eq] at h1
    have h2:=(h1 e he).resolve_left (by simp [hb])
    have h3 : ¬ listed.getD e.on true=false:=by
     intro h
     have hm:=(hml e.on).mpr h
     simp only [List.map_cons,List.mem_cons] at hm
     simp only [List.map_cons,List.pairwise_cons] at hsort
     rcases hm with hm | hm
     · omega
     · have:=hsort.1 _ hm;omega
    have hlt2:e.on<listed.size:=by omega
    simp only [Array.getD_eq_getD_getElem?,Array.getElem?_eq_getElem hlt2,Option.getD_some] at h3 ⊢
    simpa using h3
   rw [hr] at this
   cases this
 intro fuel
 induction fuel with
 | zero=>
  intro l listed ρ env H w S a hl hsz hml hsort hdown hfine hI hh he ht hQ
  have:l=[]:=List.length_eq_zero_iff.mp (by omega)
  subst this
  cases ht
  refine ⟨?_,hQ ρ w S a hI hh Ext.refl he rfl⟩
  cases hr:Region.ready .any ops listed with
  | nil=>rfl
  | cons x xs=>
   have:x∈Region.ready .any ops listed:=by rw [hr];simp
   rw [mem_ready] at this
   have:=(hml x).mpr this.1
   simp at this
 | succ fuel ih=>
  intro l listed ρ env H w S a hl hsz hml hsort hdown hfine hI hh he ht hQ
  refine ⟨fun hr => ?_,fun i hi => ?_⟩
  ·
   have:=isNil l listed hsz hml hsort hr
   subst this
   cases ht
   exact hQ ρ w S a hI hh Ext.refl he rfl
  ·
   have hi':=hi
   rw [mem_ready] at hi'
   obtain ⟨hi0,o,ho,hedge⟩:=hi'
   obtain ⟨y,hy,rfl⟩:=List.mem_map.mp ((hml i).mpr hi0)
   obtain ⟨l1,l2,rfl⟩:=List.append_of_mem hy
   have hfree : ∀ x∈l1,ZvX ops x y:=by
    intro x hx
    rcases Zhi hfine rfl hx with h | h
    · exact h
    ·
     exfalso
     have:=Zhk hdown 4 y.1 x.1 h (fun o' ho'=>by rw [ho] at ho';cases ho';exact hedge)
     have h0:=(hml x.1).mp (by simp;exact .inl ⟨x.2,hx⟩)
     have hlt:x.1<listed.size:=by
      rcases Nat.lt_or_ge x.1 listed.size with h | h
      · exact h
      · rw [Array.getD_eq_getD_getElem?,Array.getElem?_eq_none h] at h0;cases h0
     simp only [Array.getD_eq_getD_getElem?,Array.getElem?_eq_getElem hlt,Option.getD_some] at this h0
     rw [this] at h0;cases h0
   obtain ⟨iy,fy⟩:=y
   have hfr:=ht.front hfree
   cases hfr with
   | cons k1 k2=>
    refine ZnS hg hI hh he k1 (fun ρ' w' S' a' hI' hh' hx' he' hd' => ?_)
    have hlt:iy<listed.size:=by
     rcases Nat.lt_or_ge iy listed.size with h | h
     · exact h
     · rw [Array.getD_eq_getD_getElem?,Array.getElem?_eq_none h] at hi0;cases hi0
    refine ih (l1++l2) _ ρ' _ _ w' S' a' (by simp at hl ⊢;omega) (by simpa using hsz) ?_ ?_ ?_ (Zhj hfine) hI' hh' he' k2 (fun ρ2 w2 S2 a2 q1 q2 q3 q4 q5=>hQ ρ2 w2 S2 a2 q1 q2 (hx'.trans q3) q4 (q5.trans hd'))
    ·
     intro c
     simp only [List.map_append,List.map_cons,List.mem_append,List.mem_cons] at hml ⊢
     have hc:=hml c
     by_cases e:c=iy
     ·
      subst e
      have hnd:(l1.map (·.1)++c::l2.map (·.1)).Pairwise (· < ·):=by simpa using hsort
      rw [List.pairwise_append] at hnd
      have n1:c∉l1.map (·.1):=fun hm=>by have:=hnd.2.2 c hm c (by simp);omega
      have n2:c∉l2.map (·.1):=fun hm=>by have:=(List.pairwise_cons.mp hnd.2.1).1 c hm;omega
      simp only [n1,n2,or_self,false_iff]
      simp [hlt]
     ·
      rw [getD_set_ne true (Ne.symm e)]
      rw [← hc]
      simp [e]
    ·
     have hnd:(l1.map (·.1)++iy::l2.map (·.1)).Pairwise (· < ·):=by simpa using hsort
     rw [List.map_append]
     rw [List.pairwise_append] at hnd ⊢
     exact ⟨hnd.1,(List.pairwise_cons.mp hnd.2.1).2,fun p hp q hq=>hnd.2.2 p hp q (by simp [hq])⟩
    ·
     intro c oc hoc hlc e he2 hb
     by_cases ec:iy=c
     ·
      subst ec
      rw [ho] at hoc;cases hoc
      exact getD_set_true (hedge e he2 hb)
     ·
      rw [getD_set_ne false ec] at hlc
      exact getD_set_true (hdown c oc hoc hlc e he2 hb)
theorem ZsZ (hel:Zhh ops=true) (hg:Low g base S0) {Q:Exit→Act→World→Prop} {ip:Nat} {fp:Ft} {pv:Value} {op:Oper} (hop:ops[ip]? = some op) : ∀ (fuel:Nat) (l:List (Nat×Ft)) (listed:Array Bool) (ρ:Loc) (env:List PV) (H:ZAZ) (w:World) (S:Nat→Prop) (a:Act) (envF:List PV) (HF:ZAZ) (env2:List PV) (H2:ZAZ),
  l.length≤fuel→listed.size=ops.size→(∀ i,i∈l.map (·.1)→listed.getD i true=false)→(∀ i,listed.getD i true=false→i∈l.map (·.1)∨i=ip∨Zqo ops 4 i ip=true)→listed.getD ip true=false→ip∉l.map (·.1)→(l.map (·.1)).Pairwise (· < ·)→Zxh ops listed→Zez ops l=true →
  (∀ x∈l,ZvX ops x (ip,fp)∨Zqo ops 4 ip x.1=true) →
  I w→HRel base S0 ρ H w S→ZAQ ρ H w S env a.tmps.toList→TraceS M ops l env H envF HF→ZNJ M ops ip envF HF env2 H2 fp (some pv) →
  (∀ w' a',Keeps base.B w w'→a'.defers=a.defers→Q (.panic [{ v:=pv,recovered:=false }]) a' w') →
  wpAny P .any ops Q (fuel+1) listed a w:=by
 intro fuel
 have some_ready : ∀ (listed:Array Bool),listed.size=ops.size→listed.getD ip true=false→Region.ready .any ops listed≠[]:=by
  intro listed hsz hip hr
  have : ∀ n j,j≤n→listed.getD j true=false→False:=by
   intro n
   induction n with
   | zero=>
    intro j hj hl
    obtain rfl:j=0:=by omega
    have hlt:0<ops.size:=by
     rcases Nat.eq_zero_or_pos ops.size with h | h
     · rw [Array.getD_eq_getD_getElem?,Array.getElem?_eq_none (by omega)] at hl;cases hl
     · exact h
    have hm:0∈Region.ready .any ops listed:=by
     rw [mem_ready]
     refine ⟨hl,ops[0],by simp [hlt],fun e he hb => ?_⟩
     have h1:=List.all_eq_true.mp hel 0 (by simpa using hlt)
     simp only [hlt,Array.getElem?_eq_getElem,List.all_eq_true,Array.mem_toList_iff,Bool.or_eq_true,Bool.not_eq_true',decide_eq_true_eq] at h1
     have:=(h1 e he).resolve_left (by simp [hb])
     omega
    rw [hr] at hm;cases hm
   | succ n ih=>
    intro j hj hl
    have hlt:j<ops.size:=by
     rcases Nat.lt_or_ge j ops.size with h | h
     · exact h
     · rw [Array.getD_eq_getD_getElem?,Array.getElem?_eq_none (by omega)] at hl;cases hl
    have hm:j∈Region.ready .any ops listed:=by
     rw [mem_ready]
     refine ⟨hl,ops[j],by simp [hlt],fun e he hb => ?_⟩
     have h1:=List.all_eq_true.mp hel j (by simpa using hlt)
     simp only [hlt,Array.getElem?_eq_getElem,List.all_eq_true,Array.mem_toList_iff,Bool.or_eq_true,Bool.not_eq_true',decide_eq_true_eq] at h1
     have h2:=(h1 e he).resolve_left (by simp [hb])
     have h3 : ¬ listed.getD e.on true=false:=fun h=>ih e.on (by omega) h
     have hlt2:e.on<listed.size:=by omega
     simp only [Array.getD_eq_getD_getElem?,Array.getElem?_eq_getElem hlt2,Option.getD_some] at h3 ⊢
     simpa using h3
    rw [hr] at hm;cases hm
  exact this ip ip (Nat.le_refl _) hip
 have unlisted : ∀ (listed:Array Bool) (i:Nat),listed.getD i true=false→listed.getD i false=false:=by
  intro listed i h
  rw [Array.getD_eq_getD_getElem?] at h ⊢
  cases hh:listed[i]? with
  | none=>rw [hh] at h;cases h
  | some b=>rw [hh] at h;simpa using h
 have notdep : ∀ (listed:Array Bool) (j:Nat) (o:Oper),Zxh ops listed→ops[j]? = some o→(∀ e∈o.after,Region.binds .any e=true→listed.getD e.on false=true) → ∀ i,listed.getD i true=false→Zqo ops 4 j i=true→False:=by
  intro listed j o hdown ho hedge i hi hd
  have:=Zhk hdown 4 j i hd (fun o' ho'=>by rw [ho] at ho';cases ho';exact hedge)
  rw [unlisted listed i hi] at this;cases this
 induction fuel with
 | zero=>
  intro l listed ρ env H w S a envF HF env2 H2 hl hsz hml hun hip hnp hsort hdown hfine hfree hI hh he ht hs hQ
  have hnil:l=[]:=List.length_eq_zero_iff.mp (by omega)
  subst hnil
  cases ht
  refine ⟨fun hr=>absurd hr (some_ready listed hsz hip),fun i hi => ?_⟩
  rw [mem_ready] at hi
  obtain ⟨hi0,o,ho,hedge⟩:=hi
  rcases hun i hi0 with h | rfl | h
  · simp at h
  · exact Zpk hg hI hh he hs (fun w' hk=>hQ w' a hk rfl)
  · exact (notdep listed i o hdown ho hedge ip hip h).elim
 | succ fuel ih=>
  intro l listed ρ env H w S a envF HF env2 H2 hl hsz hml hun hip hnp hsort hdown hfine hfree hI hh he ht hs hQ
  refine ⟨fun hr=>absurd hr (some_ready listed hsz hip),fun i hi => ?_⟩
  rw [mem_ready] at hi
  obtain ⟨hi0,o,ho,hedge⟩:=hi
  rcases hun i hi0 with hi2 | rfl | h
  ·
   obtain ⟨y,hy,rfl⟩:=List.mem_map.mp hi2
   obtain ⟨l1,l2,rfl⟩:=List.append_of_mem hy
   have hfr0 : ∀ x∈l1,ZvX ops x y:=by
    intro x hx
    rcases Zhi hfine rfl hx with h | h
    · exact h
    · exact (notdep listed y.1 o hdown ho hedge x.1 (hml x.1 (by simp;exact .inl ⟨x.2,hx⟩)) h).elim
   obtain ⟨iy,fy⟩:=y
   have hfr:=ht.front hfr0
   cases hfr with
   | cons k1 k2=>
    refine ZnS hg hI hh he k1 (fun ρ' w' S' a' hI' hh' hx' he' hd' => ?_)
    have hlt:iy<listed.size:=by
     rcases Nat.lt_or_ge iy listed.size with h | h
     · exact h
     · rw [Array.getD_eq_getD_getElem?,Array.getElem?_eq_none h] at hi0;cases hi0
    have hne:ip≠iy:=fun e=>hnp (by simp [e])
    have hnd:(l1.map (·.1)++iy::l2.map (·.1)).Pairwise (· < ·):=by simpa using hsort
    refine ih (l1++l2) _ ρ' _ _ w' S' a' envF HF env2 H2 (by simp at hl ⊢;omega) (by simpa using hsz) ?_ ?_ ?_ ?_ ?_ ?_ (Zhj hfine) (fun x hx=>hfree x (by simp at hx ⊢;rcases hx with h | h <;> simp [h])) hI' hh' he' k2 hs
     (fun w2 a2 q1 q2=>hQ w2 a2 (hx'.below.trans q1) (q2.trans hd'))
    ·
     intro c hc
     rw [List.pairwise_append] at hnd
     have hcy:iy≠c:=by
      rintro rfl
      simp only [List.map_append,List.mem_append] at hc
      rcases hc with hm | hm
      · have:=hnd.2.2 iy hm iy (by simp);omega
      · have:=(List.pairwise_cons.mp hnd.2.1).1 iy hm;omega
     rw [getD_set_ne true hcy]
     refine hml c ?_
     simp only [List.map_append,List.mem_append,List.map_cons,List.mem_cons] at hc ⊢
     rcases hc with h | h
     · exact .inl h
     · exact .inr (.inr h)
    ·
     intro c hc
     by_cases e:iy=c
     · subst e;simp [hlt] at hc
     ·
      rw [getD_set_ne true e] at hc
      rcases hun c hc with h | h | h
      ·
       left
       simp only [List.map_append,List.mem_append,List.map_cons,List.mem_cons] at h ⊢
       rcases h with h | h | h
       · exact .inl h
       · exact absurd h.symm e
       · exact .inr h
      · exact .inr (.inl h)
      · exact .inr (.inr h)
    · rw [getD_set_ne true (Ne.symm hne)];exact hip
    ·
     intro h
     refine hnp ?_
     simp only [List.map_append,List.mem_append,List.map_cons,List.mem_cons] at h ⊢
     rcases h with h | h
     · exact .inl h
     · exact .inr (.inr h)
    ·
     rw [List.map_append]
     rw [List.pairwise_append] at hnd ⊢
     exact ⟨hnd.1,(List.pairwise_cons.mp hnd.2.1).2,fun p hp q hq=>hnd.2.2 p hp q (by simp [hq])⟩
    ·
     intro c oc hoc hlc e he2 hb
     by_cases ec:iy=c
     ·
      subst ec
      rw [ho] at hoc;cases hoc
      exact getD_set_true (hedge e he2 hb)
     ·
      rw [getD_set_ne false ec] at hlc
      exact getD_set_true (hdown c oc hoc hlc e he2 hb)
  ·
   have hall : ∀ x∈l,ZvX ops x (i,fp):=by
    intro x hx
    rcases hfree x hx with h | h
    · exact h
    · exact (notdep listed i o hdown ho hedge x.1 (hml x.1 (List.mem_map.mpr ⟨x,hx,rfl⟩)) h).elim
   obtain ⟨env',H',hs'⟩:=TraceS.frontB (y:=(i,fp)) hall ht hs
   exact Zpk hg hI hh he hs' (fun w' hk=>hQ w' a hk rfl)
  · exact (notdep listed i o hdown ho hedge ip hip h).elim
theorem Ztj (hel:Zhh ops=true) (hg:Low g base S0) {Q:Exit→Act→World→Prop} {envF:List PV} {HF:ZAZ} (fuel:Nat) (l:List (Nat×Ft)) (listed:Array Bool) (ρ:Loc) (env:List PV) (H:ZAZ) (w:World) (S:Nat→Prop) (a:Act)
  (h1:l.length≤fuel) (h2:listed.size=ops.size) (h3 : ∀ i,i∈l.map (·.1)↔listed.getD i true=false) (h4:(l.map (·.1)).Pairwise (· < ·)) (h5:Zxh ops listed) (h6:Zez ops l=true)
  (hI:I w) (hh:HRel base S0 ρ H w S) (he:ZAQ ρ H w S env a.tmps.toList) (ht:OpTrace M ops l env H envF HF)
  (hQ : ∀ ρ' w' S' a',I w'→HRel base S0 ρ' HF w' S'→Ext base ρ H w S ρ' HF w' S'→ZAQ ρ' HF w' S' envF a'.tmps.toList→a'.defers=a.defers→Q .normal a' w') :
  wpAny P .any ops Q fuel listed a w:=by
 obtain ⟨ρ1,hh1,hx1⟩:=hh.pad (HF.length - H.length)
 exact ZsY hel hg fuel l listed ρ1 env _ w S a h1 h2 h3 h4 h5 h6 hI hh1 (hx1.rels he) (ht.toS h6) (fun ρ' w' S' a' q1 q2 q3 q4 q5=>hQ ρ' w' S' a' q1 q2 (hx1.trans q3) q4 q5)
theorem Ztk (hel:Zhh ops=true) (hg:Low g base S0) {Q:Exit→Act→World→Prop} {ip:Nat} {fp:Ft} {pv:Value} {op:Oper} (hop:ops[ip]? = some op) (fuel:Nat) (l:List (Nat×Ft)) (listed:Array Bool) (ρ:Loc) (env:List PV) (H:ZAZ) (w:World) (S:Nat→Prop) (a:Act) (envF:List PV) (HF:ZAZ) (env2:List PV) (H2:ZAZ)
  (h1:l.length≤fuel) (h2:listed.size=ops.size) (h3 : ∀ i,i∈l.map (·.1)→listed.getD i true=false) (h4 : ∀ i,listed.getD i true=false→i∈l.map (·.1)∨i=ip∨Zqo ops 4 i ip=true) (h5:listed.getD ip true=false) (h6:ip∉l.map (·.1)) (h7:(l.map (·.1)).Pairwise (· < ·)) (h8:Zxh ops listed) (h9:Zez ops l=true)
  (h10 : ∀ x∈l,ZvX ops x (ip,fp)∨Zqo ops 4 ip x.1=true)
  (hI:I w) (hh:HRel base S0 ρ H w S) (he:ZAQ ρ H w S env a.tmps.toList) (ht:OpTrace M ops l env H envF HF) (hs:ZTH M ops ip envF HF env2 H2 fp (some pv))
  (hQ : ∀ w' a',Keeps base.B w w'→a'.defers=a.defers→Q (.panic [{ v:=pv,recovered:=false }]) a' w') :
  wpAny P .any ops Q (fuel+1) listed a w:=by
 obtain ⟨ρ1,hh1,hx1⟩:=hh.pad (HF.length - H.length)
 exact ZsZ hel hg hop fuel l listed ρ1 env _ w S a envF HF env2 H2 h1 h2 h3 h4 h5 h6 h7 h8 h9 h10 hI hh1 (hx1.rels he) (ht.toS h9) hs.panS hQ
end
def ZBn (c:Code) (p:List Nat) (k:List Item):Option (Code×List Item) :=
 match p with
 | []=>some (c,k)
 | d::p=>match c with
  | .seq a b=>match d with
   | 0=>ZBn a p (.code b::k)
   | _+1=>ZBn b p k
  | .cond _ a b=>match d with
   | 0=>ZBn a p k
   | _+1=>ZBn b p k
  | .block id c=>ZBn c p (.inBlock id::k)
  | .loop c=>ZBn c p (.inLoop c::k)
  | .scope c=>ZBn c p (.inScope c::k)
  | _=>none
termination_by structural p
def after (c:Code) (p:List Nat):Option (List Nat) :=
 match p with
 | []=>none
 | d::p=>match c with
  | .seq a b=>match d with
   | 0=>match after a p with
    | some q=>some (0::q)
    | none=>some [1]
   | _+1=>(after b p).map (1 :: ·)
  | .cond _ a b=>match d with
   | 0=>(after a p).map (0 :: ·)
   | _+1=>(after b p).map (1 :: ·)
  | .block _ c=>(after c p).map (0 :: ·)
  | .loop c=>match after c p with
   | some q=>some (0::q)
   | none=>some []
  | .scope c=>(after c p).map (0 :: ·)
  | _=>none
termination_by structural p
def ZSM (id:Nat) (c:Code) (p:List Nat):Option (Option (List Nat)) :=
 match p with
 | []=>none
 | d::p=>match c with
  | .seq a b=>match d with
   | 0=>match ZSM id a p with
    | some (some q)=>some (some (0::q))
    | some none=>some (some [1])
    | none=>none
   | _+1=>(ZSM id b p).map (Option.map (1 :: ·))
  | .cond _ a b=>match d with
   | 0=>(ZSM id a p).map (Option.map (0 :: ·))
   | _+1=>(ZSM id b p).map (Option.map (1 :: ·))
  | .block id' c=>match ZSM id c p with
   | some q=>some (q.map (0 :: ·))
   | none=>if id'==id then some none else none
  | .loop c=>match ZSM id c p with
   | some (some q)=>some (some (0::q))
   | some none=>some (some [])
   | none=>none
  | .scope c=>(ZSM id c p).map (Option.map (0 :: ·))
  | _=>none
termination_by structural p
def Zxi (c:Code) (k todo:List Item):Prop:=todo = .code c::k ∨ ∃ d,c = .loop d∧todo = .inLoop d::k
section
variable {P:Program} {b:Frame} {a:Act} {cs:List Frame} {w:World}
theorem Zid {c:Code} {k:List Item}:step P (lone (b.at a (.inScope c::k)) cs w) = .next (lone (b.at a k) cs w) :=
 step_lone_go (by simp [stepG,stepG.exec,Frame.at])
theorem Zqp : ∀ (body:Code) (p:List Nat) (k0:List Item) {c:Code} {k:List Item},ZBn body p k0=some (c,k) →
  match after body p with
  | some q => ∃ c' k' td,ZBn body q k0=some (c',k')∧Zxi c' k' td∧Steps P (lone (b.at a k) cs w) (lone (b.at a td) cs w)
  | none=>Steps P (lone (b.at a k) cs w) (lone (b.at a k0) cs w):=by
 intro body p
 induction p generalizing body with
 | nil=>
  intro k0 c k h
  simp only [ZBn,Option.some.injEq,Prod.mk.injEq] at h
  obtain ⟨rfl,rfl⟩:=h
  simp only [after]
  exact Steps.refl _ _
 | cons d p ih=>
  intro k0 c k h
  cases body with
  | seq x y=>
   cases d with
   | zero=>
    simp only [ZBn] at h
    have:=ih x (.code y::k0) h
    simp only [after]
    cases hx:after x p with
    | some q=>
     rw [hx] at this
     simp only at this ⊢
     obtain ⟨c',k',td,h1,h2,h3⟩:=this
     exact ⟨c',k',td,h1,h2,h3⟩
    | none=>
     rw [hx] at this
     simp only at this ⊢
     exact ⟨y,k0,.code y::k0,rfl,.inl rfl,this⟩
   | succ d=>
    simp only [ZBn] at h
    have:=ih y k0 h
    simp only [after]
    cases hx:after y p with
    | some q=>rw [hx] at this;exact this
    | none=>rw [hx] at this;exact this
  | cond o x y=>
   cases d with
   | zero=>
    simp only [ZBn] at h
    have:=ih x k0 h
    simp only [after]
    cases hx:after x p with
    | some q=>rw [hx] at this;exact this
    | none=>rw [hx] at this;exact this
   | succ d=>
    simp only [ZBn] at h
    have:=ih y k0 h
    simp only [after]
    cases hx:after y p with
    | some q=>rw [hx] at this;exact this
    | none=>rw [hx] at this;exact this
  | block id x=>
   simp only [ZBn] at h
   have:=ih x (.inBlock id::k0) h
   simp only [after]
   cases hx:after x p with
   | some q=>rw [hx] at this;exact this
   | none=>rw [hx] at this;exact this.trans (.one step_inBlock)
  | loop x=>
   simp only [ZBn] at h
   have:=ih x (.inLoop x::k0) h
   simp only [after]
   cases hx:after x p with
   | some q=>rw [hx] at this;exact this
   | none=>
    rw [hx] at this
    simp only at this ⊢
    exact ⟨.loop x,k0,.inLoop x::k0,rfl,.inr ⟨x,rfl,rfl⟩,this⟩
  | scope x=>
   simp only [ZBn] at h
   have:=ih x (.inScope x::k0) h
   simp only [after]
   cases hx:after x p with
   | some q=>rw [hx] at this;exact this
   | none=>rw [hx] at this;exact this.trans (.one Zid)
  | _=>simp [ZBn] at h
theorem Zsa (id:Nat) : ∀ (body:Code) (p:List Nat) (k0:List Item) {c:Code} {k:List Item},ZBn body p k0=some (c,k) →
  match ZSM id body p with
  | some (some q) => ∃ kx c' k' td,exitTo id k=some kx∧ZBn body q k0=some (c',k')∧Zxi c' k' td∧Steps P (lone (b.at a kx) cs w) (lone (b.at a td) cs w)
  | some none => ∃ kx,exitTo id k=some kx∧Steps P (lone (b.at a kx) cs w) (lone (b.at a k0) cs w)
  | none=>exitTo id k=exitTo id k0:=by
 intro body p
 induction p generalizing body with
 | nil=>
  intro k0 c k h
  simp only [ZBn,Option.some.injEq,Prod.mk.injEq] at h
  obtain ⟨rfl,rfl⟩:=h
  simp only [ZSM]
 | cons d p ih=>
  intro k0 c k h
  cases body with
  | seq x y=>
   cases d with
   | zero=>
    simp only [ZBn] at h
    have:=ih x (.code y::k0) h
    simp only [ZSM]
    cases hx:ZSM id x p with
    | some q=>
     rw [hx] at this
     cases q with
     | some q=>exact this
     | none=>
      simp only at this ⊢
      obtain ⟨kx,h1,h2⟩:=this
      exact ⟨kx,y,k0,.code y::k0,h1,rfl,.inl rfl,h2⟩
    | none=>rw [hx] at this;exact this
   | succ d=>
    simp only [ZBn] at h
    have:=ih y k0 h
    simp only [ZSM]
    cases hx:ZSM id y p with
    | some q=>rw [hx] at this;cases q <;> exact this
    | none=>rw [hx] at this;exact this
  | cond o x y=>
   cases d with
   | zero=>
    simp only [ZBn] at h
    have:=ih x k0 h
    simp only [ZSM]
    cases hx:ZSM id x p with
    | some q=>rw [hx] at this;cases q <;> exact this
    | none=>rw [hx] at this;exact this
   | succ d=>
    simp only [ZBn] at h
    have:=ih y k0 h
    simp only [ZSM]
    cases hx:ZSM id y p with
    | some q=>rw [hx] at this;cases q <;> exact this
    | none=>rw [hx] at this;exact this
  | block id' x=>
   simp only [ZBn] at h
   have:=ih x (.inBlock id'::k0) h
   simp only [ZSM]
   cases hx:ZSM id x p with
   | some q=>
    rw [hx] at this
    cases q with
    | some q=>exact this
    | none=>
     simp only at this ⊢
     obtain ⟨kx,h1,h2⟩:=this
     exact ⟨kx,h1,h2.trans (.one step_inBlock)⟩
   | none=>
    rw [hx] at this
    simp only [exitTo] at this
    by_cases e:id'=id
    ·
     subst e
     simp only [BEq.rfl,if_true] at this ⊢
     exact ⟨k0,this,Steps.refl _ _⟩
    ·
     have e':(id'==id)=false:=by simpa using e
     simp only [e',Bool.false_eq_true,if_false] at this ⊢
     exact this
  | loop x=>
   simp only [ZBn] at h
   have:=ih x (.inLoop x::k0) h
   simp only [ZSM]
   cases hx:ZSM id x p with
   | some q=>
    rw [hx] at this
    cases q with
    | some q=>exact this
    | none=>
     simp only at this ⊢
     obtain ⟨kx,h1,h2⟩:=this
     exact ⟨kx,.loop x,k0,.inLoop x::k0,h1,rfl,.inr ⟨x,rfl,rfl⟩,h2⟩
   | none=>rw [hx] at this;exact this
  | scope x=>
   simp only [ZBn] at h
   have:=ih x (.inScope x::k0) h
   simp only [ZSM]
   cases hx:ZSM id x p with
   | some q=>
    rw [hx] at this
    cases q with
    | some q=>exact this
    | none=>
     simp only at this ⊢
     obtain ⟨kx,h1,h2⟩:=this
     exact ⟨kx,h1,h2.trans (.one Zid)⟩
   | none=>rw [hx] at this;exact this
  | _=>simp [ZBn] at h
theorem Zqq : ∀ (body:Code) (p:List Nat) (k0:List Item) {c:Code} {k:List Item} (d:Nat),ZBn body p k0=some (c,k)→ZBn body (p++[d]) k0=ZBn c [d] k:=by
 intro body p
 induction p generalizing body with
 | nil=>
  intro k0 c k d h
  simp only [ZBn,Option.some.injEq,Prod.mk.injEq] at h
  obtain ⟨rfl,rfl⟩:=h
  rfl
 | cons e p ih=>
  intro k0 c k d h
  cases body with
  | seq x y=>cases e with
   | zero=>exact ih x _ d h
   | succ e=>exact ih y _ d h
  | cond o x y=>cases e with
   | zero=>exact ih x _ d h
   | succ e=>exact ih y _ d h
  | block id x=>exact ih x _ d h
  | loop x=>exact ih x _ d h
  | scope x=>exact ih x _ d h
  | _=>simp [ZBn] at h
end
structure Fins (R:Type) where
  ret:List PV→ZAZ→Option R
  pan:Value→Option R
structure Fr where
  K:Nat
  path:List Nat
  ix:Option Nat
  env:List PV
  start:Option (List PV×ZAZ)
  feet:List (Nat×Ft)
structure Cfg where
  top:Fr
  rest:List Fr
  H:ZAZ
inductive St (R:Type):Type 1 where
  | next (c:Cfg)
  | done (r:R)
  | fail
  | test (b:Bool) (s:St R)
  | two (b:Bool) (s t:St R)
  | bind {α:Type} (o:Option α) (k:α→St R)
  | bindC (c:HCon) (x:ZH1 c.pa×ZLQ c.pH) (fb:Value→St R) (fg:c.R→St R)
def St.run {R:Type} (f:Cfg→Option R):St R→Option R
  | .next c=>f c
  | .done r=>some r
  | .fail=>none
  | .test b s=>bif b then s.run f else none
  | .two b s t=>bif b then s.run f else t.run f
  | .bind o k=>ZAX o fun y=>(k y).run f
  | .bindC c x fb fg=>c.elim x R (fun v=>(fb v).run f) fun r=>(fg r).run f
section
variable {P:Program} {I:World→Prop} {g:Nat} (M:Mach P I g) {R:Type} (fin:Fins R)
def Cfg.at (c:Cfg) (q:List Nat):Cfg := { c with top := { c.top with path:=q,ix:=none,start:=none,feet:=[] } }
def Cfg.ref (c:Cfg) (d:Nat) (b:Bool):Cfg := { c with top := { c.top with env:=c.top.env.set d (.val (.bool b)) } }
theorem Cfg.ref_eq {c:Cfg} {d:Nat} {b:Bool} (h:c.top.env.getD d .junk = .val (.bool b)):c.ref d b=c:=by
  have:c.top.env.set d (.val (.bool b))=c.top.env:=by
    apply List.ext_getElem?
    intro i
    by_cases e:d=i
    · subst e
      rcases Nat.lt_or_ge d c.top.env.length with hl | hl
      · simp only [List.getD,List.getElem?_eq_getElem hl,Option.getD_some] at h
        simp [hl,h]
      · simp [hl]
    · simp [List.getElem?_set_ne e]
  unfold Cfg.ref
  rw [this]
def Cfg.refO (c:Cfg) (x:Operand) (b:Bool):Cfg:=match x with
  | .tmp t=>c.ref t b
  | _=>c
theorem Cfg.refO_eq {G:Nat→PV} {c:Cfg} {x:Operand} {b:Bool} (h:ZC8 G c.top.env x = .val (.bool b)):c.refO x b=c:=by
  unfold Cfg.refO
  split
  · exact Cfg.ref_eq h
  · rfl
def ZzK (P:Program) (env:List PV) (H:ZAZ):ResultVar→Option PV
  | .tmp t=>some (env.getD t .junk)
  | .cell a T=>ZtJ P T (env.getD a .junk) H
def Zks (P:Program) (env:List PV) (H:ZAZ):List ResultVar→Option (List PV)
  | []=>some []
  | x::l=>match ZzK P env H x,Zks P env H l with
    | some p,some ps=>some (p::ps)
    | _,_=>none
def ZoO (P:Program) (f:Func) (env:List PV) (H:ZAZ):Option (List PV):=Zks P env H f.results.toList
def ZvZ (c:Cfg) (f:Func):St R :=
  match ZoO P f c.top.env c.H with
  | none => .fail
  | some ps=>match c.rest with
    | []=>match fin.ret ps c.H with
      | some r => .done r
      | none => .fail
    | fr::rest=>match M.fn fr.K,fr.ix with
      | some h,some i=>match h.body with
        | none => .fail
        | some body=>match ZBn body fr.path [] with
          | some (.region _ ops _,_)=>match ops[i]? with
            | some o => .next ⟨{ fr with env:=ZmL fr.env o.dst (Zs0 ps),ix:=some (i+1) },rest,c.H⟩
            | none => .fail
          | _ => .fail
      | _,_ => .fail
def ZwK (c:Cfg) (f:Func):Option (List Nat)→St R
  | some q => .next (c.at q)
  | none=>ZvZ M fin c f
def adv (c:Cfg) (i:Nat) (dst:Option Tmp) (p:PV) (H:ZAZ) (ft:Ft):Cfg :=
  { c with top := { c.top with env:=ZmL c.top.env dst p,ix:=some (i+1),feet:=match c.top.start with | some _=>c.top.feet++[(i,ft)] | none=>[] },H:=H }
def ZwL (c:Cfg) (i:Nat) (o:Oper) (y:Operand):St R :=
  .next (adv c i o.dst (ZC8 M.gl c.top.env y) (ZA9 c.H []++[]) ((ZMM (ZC8 M.gl c.top.env y)).ft (ZBB o (ZC8 M.gl c.top.env)) c.H))
def Zro (c:Cfg) (i:Nat) (o:Oper):St R := .next (adv c i o.dst ZFh (ZA9 c.H []++[]) ⟨[],[],[]⟩)
def ZoP {R:Type} (f:Nat→St R) (i:Int):Nat→Nat→St R
  | _,0 => .fail
  | c,n+1 => .two (decide (i=c)) (f c) (ZoP f i (c+1) n)
def ZzL (K:Nat) (args:List PV):Option PV :=
  match args with
  | [p]=>bif M.ext K then some p else none
  | _=>none
def ZnU (v:Value):St R:=match fin.pan v with
  | some r => .done r
  | none => .fail
def Zkt:PV→Option Value
  | .val v=>some v
  | .agg ps=>(Zda ps).map fun l => .agg l.toArray
  | _=>none
def Zqr (o:Oper) (ev:Operand→PV):Option Value:=match o.op with
  | .panic x=>match ev x with
    | .iface T p=>(Zkt p).map (.iface T)
    | _=>none
  | _=>none
def Zwq (look:List Tmp):Option Tmp→Bool
  | some d=>look.contains d
  | none=>false
noncomputable def Zwr (ops:Array Oper) (i:Nat) (look:List Tmp):Nat→Nat→List PV→ZAZ→Option (List (Nat×Ft))
  | 0,_,_,_=>some []
  | n+1,j,env,H=>match ops[j]? with
    | none=>some []
    | some o=>bif Zqo ops 4 j i then Zwr ops i look n (j+1) env H else
      match o.guard,ZDB o (ZC8 M.gl env),opP P o (ZC8 M.gl env) H with
      | none,none,.still true p=>bif Zwq look o.dst then none else
        (Zwr ops i look n (j+1) (ZmL env o.dst p) H).map ((j,(ZMM p).ft (ZBB o (ZC8 M.gl env)) H) :: ·)
      | _,_,_=>none
def ZoQ:List Nat→Bool
  | []=>true
  | x::l=>l.all (fun y=>decide (x<y))&&ZoQ l
def Zws (ops:Array Oper) (l:List (Nat×Ft)) (i:Nat) (fp:Ft):Bool :=
  Zhh ops&&Zez ops l&&ZoQ (l.map (·.1))&&l.all (fun x=>(x.1 != i)&&decide (x.1<ops.size)&&(freeB ops x (i,fp)||Zqo ops 4 i x.1)) &&
    (List.range ops.size).all (fun j=>(l.any fun x=>x.1==j)||j==i||Zqo ops 4 j i)&&decide (l.length+1≤ops.size)
noncomputable def Zwt (c:Cfg) (ops:Array Oper) (o:Oper) (i:Nat) (ft:Ft) (v:Value):St R :=
  match c.top.start with
  | none=>ZnU fin v
  | some _=>match Zwr M ops i (o.looksAt ops) ops.size (i+1) c.top.env c.H with
    | some l=>bif Zws ops (c.top.feet++l) i ft then ZnU fin v else .fail
    | none => .fail
noncomputable def Zpl (c:Cfg) (ops:Array Oper) (o:Oper) (i:Nat):St R :=
  match ZDB o (ZC8 M.gl c.top.env) with
  | some (K,args)=>match ZvW (M.hcon K) args c.H with
   | some f => .bindC f.c f.x (fun v=>Zwt M fin c ops o i ⟨(ZNE f.s.σ++f.s.Z)++f.s.R,ZNE f.s.σ++f.s.Z,[]⟩ v) fun r => .next (adv c i o.dst (ren (ZJV f.s (ZBA f.c.qH (f.c.out r).2).length c.H.length) (Zs0 (ZIt f.c.qa (f.c.out r).1)))
      (ZA9 c.H (ZV1 f.s c.H (ZBA f.c.qH (f.c.out r).2))++ZSI f.s c.H (ZBA f.c.qH (f.c.out r).2)) (hFt f.c f.s r c.H))
   | none=>match M.ocon K with
   | some cn=>match ZGX cn.params args c.H with
      | some x => .bind (cn.F x) fun y => .next (adv c i o.dst (.all c.H.length) (ZA9 c.H (ZA3 c.H (ZJU cn.params args))++[some (.row cn.t y)]) ⟨ZJU cn.params args,ZJU cn.params args,[c.H.length]⟩)
      | none => .fail
   | none=>match M.con K with
    | some cn=>match ZGX cn.params args c.H with
      | some x => .bind (cn.F x) fun y => .next (adv c i o.dst (ZsO cn.results y) (ZA9 c.H (ZA3 c.H (ZJU cn.params args))++[]) ⟨ZJU cn.params args,ZJU cn.params args,[]⟩)
      | none => .fail
    | none=>match ZzL M K args with
      | some p => .next (adv c i o.dst p (ZA9 c.H []++[]) ⟨[],[],[]⟩)
      | none=>match c.top.start with
        | some _ => .fail
        | none=>match M.fn K with
          | some fK => .next ⟨⟨K,[],none,args++List.replicate (fK.ntmps - args.length) ZFh,none,[]⟩,{ c.top with ix:=some i }::c.rest,c.H⟩
          | none => .fail
  | none=>match Zqr o (ZC8 M.gl c.top.env) with
   | some v=>match c.top.start with
     | none=>ZnU fin v
     | some _ => .fail
   | none=>match opP P o (ZC8 M.gl c.top.env) c.H with
    | .pick b _ _=>match o.op with
      | .pick x y z => .two b (ZwL M (c.refO x true) i o y) (ZwL M (c.refO x false) i o z)
      | _ => .fail
    | .split j n f=>ZoP (fun k => .next (adv c i o.dst (f k) (ZA9 c.H []++[]) ((ZMM (f k)).ft (ZBB o (ZC8 M.gl c.top.env)) c.H))) j 0 n
    | r=>match r.eff with
      | some (b,e) => .test b (.next (adv c i o.dst (e.val c.H.length) (e.heap c.H) (e.ft (ZBB o (ZC8 M.gl c.top.env)) c.H)))
      | none => .fail
noncomputable def ZzM (c:Cfg) (f:Func) (body:Code) (ops:Array Oper) (draw:Bool) (i:Nat):St R :=
  match ops[i]? with
  | none=>match c.top.start,draw with
    | none,false=>ZwK M fin c f (after body c.top.path)
    | some _,true=>if Zez ops c.top.feet&&Zhh ops&&decide (i=ops.size) then ZwK M fin c f (after body c.top.path) else .fail
    | _,_ => .fail
  | some o=>
    match o.guard with
    | none=>Zpl M fin c ops o i
    | some (j,want)=>match (ops[j]?).bind (·.dst) with
      | none=>Zro c i o
      | some d=>match c.top.env.getD d .junk with
        | .val (.bool x)=>match want with
          | true => .two x (Zpl M fin (c.ref d true) ops o i) (Zro (c.ref d false) i o)
          | false => .two x (Zro (c.ref d true) i o) (Zpl M fin (c.ref d false) ops o i)
        | .val (.tuple _)=>Zro c i o
        | _ => .fail
noncomputable def Zva (c:Cfg):St R :=
  match M.fn c.top.K with
  | none => .fail
  | some f=>match f.body with
    | none => .fail
    | some body=>match ZBn body c.top.path [] with
      | none => .fail
      | some (code,_)=>match c.top.ix with
        | some i=>match code with
          | .region _ ops draw=>ZzM M fin c f body ops draw i
          | _ => .fail
        | none=>match code with
          | .skip=>ZwK M fin c f (after body c.top.path)
          | .label _=>ZwK M fin c f (after body c.top.path)
          | .seq _ _ => .next (c.at (c.top.path++[0]))
          | .block _ _ => .next (c.at (c.top.path++[0]))
          | .loop _ => .next (c.at (c.top.path++[0]))
          | .scope _ => .next (c.at (c.top.path++[0]))
          | .cond x _ _=>match ZC8 M.gl c.top.env x with
            | .val (.bool b) => .two b (.next ((c.refO x true).at (c.top.path++[0]))) (.next ((c.refO x false).at (c.top.path++[1])))
            | _ => .fail
          | .exit id=>match ZSM id body c.top.path with
            | some q=>ZwK M fin c f q
            | none => .fail
          | .ret=>ZvZ M fin c f
          | .region _ _ draw => .next { c with top := { c.top with ix:=some 0,start:=if draw then some (c.top.env,c.H) else none,feet:=[] } }
          | _ => .fail
noncomputable def Zy5 (X:Cfg→Option (Option R)):Nat→Cfg→Option R
  | 0,_=>none
  | n+1,c=>(Zva M fin c).run fun c'=>match X c' with
    | some o=>o
    | none=>Zy5 X n c'
end
section
variable {P:Program} {I:World→Prop} {g:Nat} {M:Mach P I g} {R:Type} {fin:Fins R}
variable {base:Base} {S0:Nat→Prop} {cs0:List Frame} {post:World→Ending→R→Prop}
def ZRl:Nat→List Fr→Nat
  | K,[]=>K
  | _,fr::rest=>ZRl fr.K rest
structure Waits (M:Mach P I g) (ρ:Loc) (H:ZAZ) (w:World) (S:Nat→Prop) (fr:Fr) (conc:Frame):Prop where
  is : ∃ (b:Frame) (a:Act) (ops:Array Oper) (id:Nat) (k:List Item) (i:Nat) (o:Oper) (f:Func) (body:Code),conc=b.at a (.inRegion ops (List.range' i (ops.size - i))::k)∧b.fn=fr.K∧b.kind = .normal∧a.defers=[]∧M.fn fr.K=some f∧f.body=some body ∧
    ZBn body fr.path []=some (.region id ops false,k)∧fr.ix=some i∧ops[i]? = some o∧ZAQ ρ H w S fr.env a.tmps.toList∧fr.start=none
inductive Stack (M:Mach P I g) (cs0:List Frame) (ρ:Loc) (H:ZAZ) (w:World) (S:Nat→Prop):List Fr→List Frame→Prop where
  | nil:Stack M cs0 ρ H w S [] cs0
  | cons {fr conc frs cs}:Waits M ρ H w S fr conc→Stack M cs0 ρ H w S frs cs→Stack M cs0 ρ H w S (fr::frs) (conc::cs)
theorem Waits.ext {ρ ρ':Loc} {H H':ZAZ} {w w':World} {S S':Nat→Prop} (h:Ext base ρ H w S ρ' H' w' S') {fr:Fr} {conc:Frame} (k:Waits M ρ H w S fr conc):Waits M ρ' H' w' S' fr conc:=by
  obtain ⟨b,a,ops,id,kk,i,o,f,body,h1,h2,h3,h4,h5,h6,h7,h8,h9,h10,h11⟩:=k.is
  exact ⟨b,a,ops,id,kk,i,o,f,body,h1,h2,h3,h4,h5,h6,h7,h8,h9,h.rels h10,h11⟩
theorem Stack.ext {ρ ρ':Loc} {H H':ZAZ} {w w':World} {S S':Nat→Prop} (h:Ext base ρ H w S ρ' H' w' S') {frs:List Fr} {cs:List Frame} (k:Stack M cs0 ρ H w S frs cs):Stack M cs0 ρ' H' w' S' frs cs:=by
  induction k with
  | nil=>exact .nil
  | cons h1 _ ih=>exact .cons (h1.ext h) ih
def ZwM (M:Mach P I g) (fr:Fr) (b:Frame) (a:Act) (todo:List Item):Prop :=
  b.fn=fr.K∧b.kind = .normal∧a.defers=[] ∧ ∃ f body code k,M.fn fr.K=some f∧f.body=some body∧ZBn body fr.path []=some (code,k) ∧
    match fr.ix with
    | none=>fr.start=none∧Zxi code k todo
    | some i => ∃ id ops draw,code = .region id ops draw ∧
      match fr.start with
      | none=>draw=false∧todo = .inRegion ops (List.range' i (ops.size - i))::k
      | some _=>draw=true∧todo = .code code::k
def Zku (M:Mach P I g) (c:Cfg):Prop :=
  match c.top.start with
  | none=>True
  | some (e,h) => ∀ f body id ops draw k i,M.fn c.top.K=some f→f.body=some body→ZBn body c.top.path []=some (.region id ops draw,k)→c.top.ix=some i →
    OpTrace M ops c.top.feet e h c.top.env c.H∧c.top.feet.map (·.1)=List.range i
def Cfg.env0 (c:Cfg):List PV:=match c.top.start with | some (e,_)=>e | none=>c.top.env
def Cfg.H0 (c:Cfg):ZAZ:=match c.top.start with | some (_,h)=>h | none=>c.H
def Fin (P:Program) (K0:Nat) (base:Base) (cs0:List Frame) (post:World→Ending→R→Prop) (w:World) (m:Machine) (r:R):Prop :=
  ∃ fr w' e,Steps P m (lone fr cs0 w')∧fr.fn=K0∧fr.leaving P w' e∧post w' e r∧Keeps base.B w w'
def Sound (M:Mach P I g) (base:Base) (S0:Nat→Prop) (cs0:List Frame) (post:World→Ending→R→Prop) (c:Cfg) (r:R):Prop :=
  ∀ (ρ:Loc) (w:World) (S:Nat→Prop) (b:Frame) (a:Act) (todo:List Item) (cs:List Frame),I w→Low g base S0→HRel base S0 ρ c.H0 w S→ZAQ ρ c.H0 w S c.env0 a.tmps.toList→ZwM M c.top b a todo→Stack M cs0 ρ c.H0 w S c.rest cs→Zku M c →
    Fin P (ZRl c.top.K c.rest) base cs0 post w (lone (b.at a todo) cs w) r
structure FinOk (fin:Fins R) (base:Base) (S0:Nat→Prop) (post:World→Ending→R→Prop):Prop where
  ret : ∀ (ps:List PV) (H:ZAZ) (r:R) (ρ:Loc) (w:World) (S:Nat→Prop) (v:Value),fin.ret ps H=some r→HRel base S0 ρ H w S→ZAW ρ H w S (Zs0 ps) v→post w (.returned v) r
  pan : ∀ (v:Value) (r:R) (w:World),fin.pan v=some r→post w (.panicked [{ v,recovered:=false }]) r
theorem Fin.steps {K0:Nat} {w:World} {m m':Machine} {r:R} (h:Steps P m m') (k:Fin P K0 base cs0 post w m' r):Fin P K0 base cs0 post w m r:=by
  obtain ⟨fr,w',v,h1,h2⟩:=k
  exact ⟨fr,w',v,h.trans h1,h2⟩
theorem Fin.world {K0:Nat} {w w1:World} {m:Machine} {r:R} (h:Keeps base.B w w1) (k:Fin P K0 base cs0 post w1 m r):Fin P K0 base cs0 post w m r:=by
  obtain ⟨fr,w',v,h1,h2,h3,h4,h5⟩:=k
  exact ⟨fr,w',v,h1,h2,h3,h4,h.trans h5⟩
theorem Zqs {ρ:Loc} {H:ZAZ} {w:World} {S:Nat→Prop} (hh:HRel base S0 ρ H w S) {env:List PV} {a:Act} (he:ZAQ ρ H w S env a.tmps.toList) {f:Func} {ps:List PV} (h:ZoO P f env H=some ps) :
    ∃ v,(results f a.tmps).run P w = .ok v w∧ZAW ρ H w S (Zs0 ps) v:=by
  have slot : ∀ t,ZAW ρ H w S (env.getD t .junk) (a.tmps.getD t undef):=fun t=>Zrm he t
  have list : ∀ (l:List ResultVar) (ps:List PV),Zks P env H l=some ps →
      ∃ vs,(l.mapM (m:=Sem) fun (x:ResultVar)=>match x with | .tmp t=>pure (a.tmps.getD t undef) | .cell x t=>do loadVar t (← asAddr (a.tmps.getD x undef))).run P w = .ok vs w∧ZAQ ρ H w S ps vs:=by
    intro l
    induction l with
    | nil=>intro ps h;simp only [Zks,Option.some.injEq] at h;subst h;exact ⟨[],rfl,rfl⟩
    | cons x l ih=>
      intro ps h
      simp only [Zks] at h
      split at h
      · rename_i p qs hx hl
        cases h
        obtain ⟨vs,h1,h2⟩:=ih qs hl
        have one : ∃ v,(match x with | .tmp t=>pure (a.tmps.getD t undef) | .cell x t=>do loadVar t (← asAddr (a.tmps.getD x undef)):Sem Value).run P w = .ok v w∧ZAW ρ H w S p v:=by
          cases x with
          | tmp t=>simp only [ZzK,Option.some.injEq] at hx;subst hx;exact ⟨_,rfl,slot t⟩
          | cell x T=>
            simp only [ZzK] at hx
            obtain ⟨ad,u,hv,r1,r2⟩:=ZpP (P:=P) hh hx (slot x)
            refine ⟨u,?_,r2⟩
            simp only [hv,asAddr,Sem.run_bind,Sem.run_pure,Result.andThen_ok,r1]
        obtain ⟨v,g1,g2⟩:=one
        refine ⟨v::vs,?_,⟨v,vs,rfl,g2,h2⟩⟩
        simp only [List.mapM_cons,Sem.run_bind,g1,Result.andThen_ok,h1,Sem.run_pure]
      · cases h
  obtain ⟨vs,h1,h2⟩:=list f.results.toList ps h
  have hm:(f.results.mapM (m:=Sem) fun (x:ResultVar)=>match x with | .tmp t=>pure (a.tmps.getD t undef) | .cell x t=>do loadVar t (← asAddr (a.tmps.getD x undef))).run P w = .ok vs.toArray w:=by
    rw [Array.mapM_eq_mapM_toList,Sem.run_map,h1];rfl
  have hl:=h2.length
  have hr:(results f a.tmps).run P w=(Result.ok vs.toArray w).andThen (fun vs w' => .ok (if h:vs.size=1 then vs[0] else .tuple vs) w'):=by
    unfold results
    simp only [Sem.run_bind,Sem.run_pure]
    exact congrArg (fun r=>Result.andThen r _) hm
  rw [hr]
  refine ⟨_,rfl,?_⟩
  cases ps with
  | nil=>
    simp only [ZAQ] at h2
    subst h2
    exact ⟨_,rfl,rfl⟩
  | cons p qs=>cases qs with
    | nil=>
      simp only [ZAQ] at h2
      obtain ⟨u,us,rfl,g1,g2⟩:=h2
      subst g2
      simpa [Zs0] using g1
    | cons q qs=>
      have:vs.toArray.size≠1:=by simp at hl ⊢;omega
      rw [dif_neg this]
      exact ⟨_,rfl,h2⟩
end
section
variable {P:Program} {I:World→Prop} {g:Nat} {M:Mach P I g} {R:Type} {fin:Fins R}
variable {base:Base} {S0:Nat→Prop} {cs0:List Frame} {post:World→Ending→R→Prop}
theorem ZMN {i n:Nat} (h:i<n):List.range' i (n - i)=i::List.range' (i+1) (n - (i+1)):=by
 rw [show n - i=(n - (i+1))+1 by omega,List.range'_succ]
theorem ZnV {ops:Array Oper} {i:Nat} {rest:List Nat} {K:Act→World→Prop} {a:Act} {w:World} (h:wpOp P ops (fun _ _ _=>False) i K a w) (b:Frame) (k:List Item) (cs:List Frame) :
  ∃ a' w',K a' w'∧Steps P (lone (b.at a (.inRegion ops (i::rest)::k)) cs w) (lone (b.at a' (.inRegion ops rest::k)) cs w'):=by
 unfold wpOp at h
 cases ho:ops[i]? with
 | none=>
  rw [ho] at h
  have hs:=step_op_skip (P:=P) (b:=b) (a:=a) (k:=k) (cs:=cs) (w:=w) (ops:=ops) (i:=i) (rest:=rest) (by simp [ho])
  simp only [ho,Option.bind_none,Act.put] at hs
  exact ⟨a,w,h,.one hs⟩
 | some o=>
  simp only [ho] at h
  by_cases hw:Region.wanted o (yielded ops a.tmps)=true
  ·
   simp only [hw,if_true] at h
   rcases h with h | ⟨_,a₀,w₀,hq⟩
   case inr=>exact hq.elim
   simp only [Oper.wp,Oper.upon] at h
   have hg:=stepG_op (P:=P) (b:=b) (k:=k) (cs:=cs) (w:=w) (rest:=rest) ho hw
   have hfin : ∀ v,(b.at a (.inRegion ops (i::rest)::k)).finish v=b.at (a.put o.dst v) (.inRegion ops rest::k):=by
    intro v;rw [Frame.finish_at,ho];rfl
   split at h
   ·
    rename_i v w' hr
    refine ⟨_,_,h,.one (step_lone_go ?_)⟩
    rw [hg,← hfin];simp [stepG.apply,hr]
   ·
    rename_i w' hr
    refine ⟨_,_,h,.one (step_lone_go ?_)⟩
    rw [hg,← hfin];simp [stepG.apply,hr]
   ·
    rename_i d w' hr
    refine ⟨_,_,h,.one (step_lone_go ?_)⟩
    have:({ b.at a (.inRegion ops (i::rest)::k) with defers:=d::a.defers }:Frame).finish undef =
      b.at ({ a with defers:=d::a.defers }.put o.dst undef) (.inRegion ops rest::k):=by
     have:=Frame.finish_at b { a with defers:=d::a.defers } ops i rest k undef
     rw [ho] at this;exact this
    rw [hg];simp only [stepG.apply,Sem.runT_eq,hr,GStep.bare_after]
    exact congrArg (fun fr=>GStep.go { frame:=fr,callers:=cs,status := .running,dying:=none } w') this
   ·
    rename_i f args w' hr
    obtain ⟨e,w'',fr,hR,hsteps,_,hleave⟩:=h (b.at a (.inRegion ops (i::rest)::k)::cs)
    have henter:step P (lone (b.at a (.inRegion ops (i::rest)::k)) cs w) =
      .next (lone (Frame.enter P f args .normal) (b.at a (.inRegion ops (i::rest)::k)::cs) w') :=
     step_lone_go (by rw [hg];simp [stepG.apply,hr,Frame.at])
    cases e with
    | returned v=>
     refine ⟨_,_,hR,.head henter (hsteps.trans (.one ?_))⟩
     rw [← hfin];exact step_leave_returned hleave
    | panicked chain=>exact hR.elim
    | outgrown=>obtain ⟨a₀,w₀,hq⟩:=hR;exact hq.elim
   ·
    rename_i row args w' hr
    obtain ⟨v,w'',hR,hsteps⟩:=h (b.at a (.inRegion ops (i::rest)::k)) cs
    have henter:step P (lone (b.at a (.inRegion ops (i::rest)::k)) cs w) =
      .next (lone (Frame.ofRow P row args .normal) (b.at a (.inRegion ops (i::rest)::k)::cs) w') :=
     step_lone_go (by rw [hg];simp [stepG.apply,hr,Frame.at])
    refine ⟨_,_,hR,.head henter ?_⟩
    rw [← hfin];exact hsteps
   · exact h.elim
   · exact h.elim
  ·
   simp only [hw,if_false,Bool.false_eq_true] at h
   have hs:=step_op_skip (P:=P) (b:=b) (a:=a) (k:=k) (cs:=cs) (w:=w) (ops:=ops) (i:=i) (rest:=rest)
    (by simp [ho];simpa using hw)
   simp only [ho,Option.bind_some] at hs
   exact ⟨_,_,h,.one hs⟩
theorem Sound.plain {c:Cfg} {r:R} (hs:c.top.start=none) (h:Sound M base S0 cs0 post c r) : ∀ (ρ:Loc) (w:World) (S:Nat→Prop) (b:Frame) (a:Act) (todo:List Item) (cs:List Frame),I w→Low g base S0 →
  HRel base S0 ρ c.H w S→ZAQ ρ c.H w S c.top.env a.tmps.toList→ZwM M c.top b a todo→Stack M cs0 ρ c.H w S c.rest cs→Fin P (ZRl c.top.K c.rest) base cs0 post w (lone (b.at a todo) cs w) r:=by
 intro ρ w S b a todo cs hI hg hh he hst hs'
 have e1:c.H0=c.H:=by simp [Cfg.H0,hs]
 have e2:c.env0=c.top.env:=by simp [Cfg.env0,hs]
 exact h ρ w S b a todo cs hI hg (e1 ▸ hh) (by rw [e1,e2];exact he) hst (by rw [e1];exact hs') (by simp [Zku,hs])
theorem Sound.at (c:Cfg) (q:List Nat) {r:R} {ρ:Loc} {w:World} {S:Nat→Prop} {b:Frame} {a:Act} {td k:List Item} {code:Code} {cs:List Frame} {f:Func} {body:Code} (hI:I w) (hg:Low g base S0) (hh:HRel base S0 ρ c.H w S)
  (he:ZAQ ρ c.H w S c.top.env a.tmps.toList) (hb1:b.fn=c.top.K) (hb2:b.kind = .normal) (hd:a.defers=[]) (hf:M.fn c.top.K=some f) (hb:f.body=some body) (ht:ZBn body q []=some (code,k)) (htd:Zxi code k td)
  (hst:Stack M cs0 ρ c.H w S c.rest cs) (h:Sound M base S0 cs0 post (c.at q) r):Fin P (ZRl c.top.K c.rest) base cs0 post w (lone (b.at a td) cs w) r :=
 h ρ w S b a td cs hI hg hh he ⟨hb1,hb2,hd,f,body,code,k,hf,hb,ht,rfl,htd⟩ hst trivial
theorem Zkv {ρ:Loc} {H:ZAZ} {w w':World} {S:Nat→Prop} {chain:List PanicEntry} : ∀ {rest:List Fr} {cs:List Frame} (K:Nat) (fr:Frame),Stack M cs0 ρ H w S rest cs→fr.fn=K→fr.mode = .panicking chain→fr.defers=[]→(∃ fn,P.funcs[fr.fn]? = some fn) →
  ∃ fr',Steps P (lone fr cs w') (lone fr' cs0 w')∧fr'.fn=ZRl K rest∧fr'.leaving P w' (.panicked chain)
 | [],_,K,fr,h,hk,hm,hd,hf=>by
  cases h
  exact ⟨fr,Steps.refl _ _,hk,hm,hd,hf⟩
 | fr0::rest,_,K,fr,h,hk,hm,hd,hf=>by
  cases h with
  | @cons _ conc _ cs' hwait hst'=>
   obtain ⟨b',a',ops,id,k,i,o,f',body,e1,e2,e3,e4,e5,e6,e7,e8,e9,e10,e11⟩:=hwait.is
   subst e1
   have hstep:=step_leave_panicked (P:=P) (c:=b'.at a' (.inRegion ops (List.range' i (ops.size - i))::k)) (cs:=cs') (w:=w') (fr:=fr) (chain:=chain) ⟨hm,hd,hf⟩
   have hfn:=M.fn_ok _ _ e5
   obtain ⟨fr',s1,s2,s3⟩:=Zkv fr0.K ((b'.at a' (.inRegion ops (List.range' i (ops.size - i))::k)).raise chain) hst' e2 rfl e4 ⟨f',by show P.funcs[b'.fn]? = some f';rw [e2];exact hfn.1⟩
   exact ⟨fr',.head hstep s1,s2,s3⟩
theorem Ztl (hfin:FinOk fin base S0 post) {c:Cfg} {f:Func} {r:R} {pv:Value} (hr:fin.pan pv=some r) (hf:M.fn c.top.K=some f) {ρ:Loc} {H:ZAZ} {w w':World} {S:Nat→Prop} {b:Frame} {a:Act} {td:List Item} {cs:List Frame}
  (hb1:b.fn=c.top.K) (hd:a.defers=[]) (hst:Stack M cs0 ρ H w S c.rest cs) {m:Machine} (hk:Keeps base.B w w') (hs:Steps P m (lone { b.at a td with mode := .panicking [{ v:=pv,recovered:=false }] } cs w')) :
  Fin P (ZRl c.top.K c.rest) base cs0 post w m r:=by
 have hfn:=M.fn_ok _ _ hf
 obtain ⟨fr',s1,s2,s3⟩:=Zkv c.top.K ({ b.at a td with mode := .panicking [{ v:=pv,recovered:=false }] }:Frame) hst hb1 rfl hd ⟨f,by show P.funcs[b.fn]? = some f;rw [hb1];exact hfn.1⟩ (w':=w')
 exact ⟨fr',w',_,hs.trans s1,s2,s3,hfin.pan pv r w' hr,hk⟩
theorem Zpm (hfin:FinOk fin base S0 post) {c:Cfg} {f:Func} {F:Cfg→Option R} {r:R} (hr:(ZvZ M fin c f).run F=some r) (hF : ∀ c',F c'=some r→Sound M base S0 cs0 post c' r)
  (hf:M.fn c.top.K=some f) {ρ:Loc} {w:World} {S:Nat→Prop} {b:Frame} {a:Act} {td:List Item} {cs:List Frame} (hI:I w) (hg:Low g base S0) (hh:HRel base S0 ρ c.H w S) (he:ZAQ ρ c.H w S c.top.env a.tmps.toList)
  (hb1:b.fn=c.top.K) (hb2:b.kind = .normal) (hd:a.defers=[]) (hst:Stack M cs0 ρ c.H w S c.rest cs) :
  Fin P (ZRl c.top.K c.rest) base cs0 post w (lone { b.at a td with mode := .returning } cs w) r:=by
 unfold ZvZ at hr
 cases hps:ZoO P f c.top.env c.H with
 | none=>rw [hps] at hr;cases hr
 | some ps=>
  rw [hps] at hr
  obtain ⟨v,hv1,hv2⟩:=Zqs hh he hps
  have hfn:=M.fn_ok _ _ hf
  have hleave:({ b.at a td with mode := .returning }:Frame).leaving P w (.returned v):=⟨rfl,hd,hb2,f,by show P.funcs[b.fn]? = some f;rw [hb1];exact hfn.1,hv1⟩
  cases hrest:c.rest with
  | nil=>
   rw [hrest] at hr hst
   cases hst
   simp only at hr
   cases hfi:fin.ret ps c.H with
   | none=>rw [hfi] at hr;cases hr
   | some r'=>
    rw [hfi] at hr
    simp only [St.run,Option.some.injEq] at hr
    subst hr
    exact ⟨_,w,_,Steps.refl _ _,hb1,hleave,hfin.ret ps c.H r' ρ w S v hfi hh hv2,Keeps.refl _ _⟩
  | cons fr rest=>
   rw [hrest] at hr hst
   cases hst with
   | @cons _ conc _ cs' hwait hst'=>
    obtain ⟨b',a',ops,id,k,i,o,f',body,e1,e2,e3,e4,e5,e6,e7,e8,e9,e10,e11⟩:=hwait.is
    subst e1
    simp only [e5,e8,e6,e7,e9,St.run] at hr
    have hstep:=step_leave_returned (P:=P) (c:=b'.at a' (.inRegion ops (List.range' i (ops.size - i))::k)) (cs:=cs') hleave
    have hlt:i<ops.size:=(Array.getElem?_eq_some_iff.1 e9).1
    rw [ZMN hlt,Frame.finish_at,e9] at hstep
    rw [ZMN hlt]
    have hS:=(hF _ hr).plain e11 ρ w S b' (a'.put o.dst v) (.inRegion ops (List.range' (i+1) (ops.size - (i+1)))::k) cs' hI hg hh (ZU2 e10 hv2 o.dst)
     ⟨e2,e3,(ZJX _ _ _).trans e4,f',body,.region id ops false,k,e5,e6,e7,id,ops,false,rfl,by rw [e11];exact ⟨rfl,rfl⟩⟩ hst'
    exact Fin.steps (.one hstep) hS
def Zrp (P:Program) (body:Code) (b:Frame) (a:Act) (cs:List Frame) (w:World) (k:List Item) (q:Option (List Nat)):Prop :=
 match q with
 | some q => ∃ c' k' td,ZBn body q []=some (c',k')∧Zxi c' k' td∧Steps P (lone (b.at a k) cs w) (lone (b.at a td) cs w)
 | none=>Steps P (lone (b.at a k) cs w) (lone (b.at a []) cs w)
theorem Ztm {body:Code} {p:List Nat} {c:Code} {k:List Item} (h:ZBn body p []=some (c,k)) (b:Frame) (a:Act) (cs:List Frame) (w:World):Zrp P body b a cs w k (after body p):=by
 have:=Zqp (P:=P) (b:=b) (a:=a) (cs:=cs) (w:=w) body p [] h
 unfold Zrp
 cases hq:after body p with
 | some q=>rw [hq] at this;exact this
 | none=>rw [hq] at this;exact this
theorem ZS2 (hfin:FinOk fin base S0 post) {c:Cfg} {f:Func} {F:Cfg→Option R} {r:R} {q:Option (List Nat)} (hr:(ZwK M fin c f q).run F=some r) (hF : ∀ c',F c'=some r→Sound M base S0 cs0 post c' r)
  (hf:M.fn c.top.K=some f) {body:Code} (hb:f.body=some body) {ρ:Loc} {w:World} {S:Nat→Prop} {b:Frame} {a:Act} {k:List Item} {cs:List Frame} (hI:I w) (hg:Low g base S0) (hh:HRel base S0 ρ c.H w S) (he:ZAQ ρ c.H w S c.top.env a.tmps.toList)
  (hb1:b.fn=c.top.K) (hb2:b.kind = .normal) (hd:a.defers=[]) (hst:Stack M cs0 ρ c.H w S c.rest cs)
  (hq:Zrp P body b a cs w k q) :
  Fin P (ZRl c.top.K c.rest) base cs0 post w (lone (b.at a k) cs w) r:=by
 cases q with
 | some q=>
  obtain ⟨c',k',td,h1,h2,h3⟩ : ∃ c' k' td,ZBn body q []=some (c',k')∧Zxi c' k' td∧Steps P (lone (b.at a k) cs w) (lone (b.at a td) cs w):=hq
  simp only [ZwK,St.run] at hr
  exact Fin.steps h3 (Sound.at c q hI hg hh he hb1 hb2 hd hf hb h1 h2 hst (hF _ hr))
 | none=>
  simp only [ZwK] at hr
  have hq':Steps P (lone (b.at a k) cs w) (lone (b.at a []) cs w):=hq
  refine Fin.steps (hq'.trans (.one step_end)) (Zpm hfin hr hF hf hI hg hh he hb1 hb2 hd hst)
theorem ZF1 {c:Cfg} {f:Func} {body:Code} {id:Nat} {ops:Array Oper} {draw:Bool} {k:List Item} {i:Nat} {o:Oper} {p:PV} {H':ZAZ} {ft:Ft} {r:R} (hf:M.fn c.top.K=some f) (hb:f.body=some body)
  (ht:ZBn body c.top.path []=some (.region id ops draw,k)) (hix:c.top.ix=some i) (hs:Zpe M ops i c.top.env c.H (ZmL c.top.env o.dst p) H' ft)
  (h:Sound M base S0 cs0 post (adv c i o.dst p H' ft) r):Sound M base S0 cs0 post c r:=by
 intro ρ w S b a todo cs hI hg hh he hst hstack htr
 obtain ⟨hb1,hb2,hd,f',body',code,k',e1,e2,e3,e4⟩:=hst
 rw [hf] at e1;cases e1
 rw [hb] at e2;cases e2
 rw [ht] at e3;cases e3
 rw [hix] at e4
 obtain ⟨id',ops',draw',e5,e6⟩:=e4
 cases e5
 have hlt:i<ops.size:=by
  obtain ⟨oo,_,ho,_⟩:=hs
  exact (Array.getElem?_eq_some_iff.1 ho).1
 cases hstart:c.top.start with
 | none=>
  rw [hstart] at e6
  obtain ⟨rfl,rfl⟩:=e6
  have eH:c.H0=c.H:=by simp [Cfg.H0,hstart]
  have eE:c.env0=c.top.env:=by simp [Cfg.env0,hstart]
  rw [eH] at hh he hstack
  rw [eE] at he
  have hwp:=Zpf (M:=M) (Q:=fun _ _ _=>False) (K:=fun a' w' => ∃ ρ' S',I w'∧HRel base S0 ρ' H' w' S'∧Ext base ρ c.H w S ρ' H' w' S'∧ZAQ ρ' H' w' S' (ZmL c.top.env o.dst p) a'.tmps.toList∧a'.defers=a.defers)
   hg hI hh he hs (fun ρ' w' S' a' h1 h2 h3 h4 h5=>⟨ρ',S',h1,h2,h3,h4,h5⟩)
  rw [ZMN hlt]
  obtain ⟨a',w',⟨ρ',S',h1,h2,h3,h4,h5⟩,hsteps⟩:=ZnV hwp b (rest:=List.range' (i+1) (ops.size - (i+1))) k cs
  refine Fin.steps hsteps (Fin.world h3.below ?_)
  have hsn:(adv c i o.dst p H' ft).top.start=none:=hstart
  exact h.plain hsn ρ' w' S' b a' _ cs h1 hg h2 h4 ⟨hb1,hb2,h5.trans hd,f,body,.region id ops false,k,hf,hb,ht,id,ops,false,rfl,by rw [hsn];exact ⟨rfl,rfl⟩⟩ (hstack.ext h3)
 | some s=>
  obtain ⟨e,h0⟩:=s
  rw [hstart] at e6
  obtain ⟨rfl,rfl⟩:=e6
  have hsn:(adv c i o.dst p H' ft).top.start=some (e,h0):=hstart
  have eH:(adv c i o.dst p H' ft).H0=c.H0:=by simp [Cfg.H0,hsn,hstart]
  have eE:(adv c i o.dst p H' ft).env0=c.env0:=by simp [Cfg.env0,hsn,hstart]
  refine h ρ w S b a _ cs hI hg (eH ▸ hh) (by rw [eH,eE];exact he) ⟨hb1,hb2,hd,f,body,.region id ops true,k,hf,hb,ht,id,ops,true,rfl,by rw [hsn];exact ⟨rfl,rfl⟩⟩ (by rw [eH];exact hstack) ?_
  simp only [Zku,hsn]
  intro f2 body2 id2 ops2 draw2 k2 i2 q1 q2 q3 q4
  have q1':M.fn c.top.K=some f2:=q1
  rw [hf] at q1';cases q1'
  rw [hb] at q2;cases q2
  have q3':ZBn body c.top.path []=_:=q3
  rw [ht] at q3';cases q3'
  have q4':some (i+1)=some i2:=q4
  cases q4'
  simp only [Zku,hstart] at htr
  obtain ⟨t1,t2⟩:=htr f body id ops true k i hf hb ht hix
  have hfeet:(adv c i o.dst p H' ft).top.feet=c.top.feet++[(i,ft)]:=by simp [adv,hstart]
  rw [hfeet]
  refine ⟨t1.snoc hs,?_⟩
  rw [List.map_append,t2,List.range_succ]
  rfl
end
section
variable {P:Program} {I:World→Prop} {g:Nat} {M:Mach P I g} {R:Type} {fin:Fins R}
variable {base:Base} {S0:Nat→Prop} {cs0:List Frame} {post:World→Ending→R→Prop}
theorem Zqt {b:Frame} {a:Act} {c:Code} {k:List Item} {cs:List Frame} {w:World}:Go.step P (lone (b.at a (.code (.scope c)::k)) cs w) = .next (lone (b.at a (.code c :: .inScope c::k)) cs w) :=
 step_lone_go (by simp [stepG,stepG.exec,Frame.at])
theorem Zsb {ops:Array Oper} {i:Nat} {rest:List Nat} {o:Oper} {a:Act} {w:World} {K:Nat} {vs:Array Value} (ho:ops[i]? = some o) (hw:Region.wanted o (yielded ops a.tmps)=true)
  (hr:(execOp a.eval o).run P w = .ok (.enter K vs) w) (b:Frame) (k:List Item) (cs:List Frame) :
  Go.step P (lone (b.at a (.inRegion ops (i::rest)::k)) cs w) = .next (lone (Frame.enter P K vs .normal) (b.at a (.inRegion ops (i::rest)::k)::cs) w):=by
 have hg:=stepG_op (P:=P) (b:=b) (k:=k) (cs:=cs) (w:=w) (rest:=rest) ho hw
 exact step_lone_go (by rw [hg];simp [stepG.apply,hr,Frame.at])
theorem ZAQ.replicate {ρ:Loc} {H:ZAZ} {w:World} {S:Nat→Prop} (n:Nat):ZAQ ρ H w S (List.replicate n ZFh) (List.replicate n undef):=by
 induction n with
 | zero=>exact rfl
 | succ n ih=>exact ⟨undef,_,List.replicate_succ,rfl,ih⟩
theorem St.run_bind {α:Type} {o:Option α} {k:α→St R} {F:Cfg→Option R} {r:R} (h:(St.bind o k).run F=some r) : ∃ y,o=some y∧(k y).run F=some r:=by
 cases o with
 | none=>cases h
 | some y=>exact ⟨y,rfl,h⟩
theorem ZYN {ops:Array Oper} {o:Oper} {env:List PV} {j:Nat} {want x:Bool} {d:Tmp} (hgd:o.guard=some (j,want)) (hd0:(ops[j]?).bind (·.dst)=some d) (hx:env.getD d .junk = .val (.bool x)):ZFf ops o env (x==want):=by
 unfold ZFf
 rw [hgd]
 simp only [hd0,hx]
theorem Zqu {ops:Array Oper} {o:Oper} {env:List PV} {j:Nat} {want:Bool} (hgd:o.guard=some (j,want)) (hd0:(ops[j]?).bind (·.dst)=none):ZFf ops o env false:=by
 unfold ZFf
 rw [hgd]
 simp only [hd0]
theorem Zpn {ops:Array Oper} {o:Oper} {env:List PV} {j:Nat} {want:Bool} {d:Tmp} {us:Array Value} (hgd:o.guard=some (j,want)) (hd0:(ops[j]?).bind (·.dst)=some d) (hx:env.getD d .junk = .val (.tuple us)):ZFf ops o env false:=by
 unfold ZFf
 rw [hgd]
 simp only [hd0,hx]
theorem Ztn {K:Nat} {args:List PV} {p:PV} (h:ZzL M K args=some p):args=[p]∧M.ext K=true:=by
 unfold ZzL at h
 split at h
 ·
  cases he:M.ext K with
  | false=>rw [he] at h;cases h
  | true=>rw [he] at h;cases h;exact ⟨rfl,rfl⟩
 · cases h
theorem Zkw {f:Nat→St R} {i:Int} {F:Cfg→Option R} {r:R} : ∀ (n c:Nat),(ZoP f i c n).run F=some r → ∃ m:Nat,m<c+n∧i=m∧(f m).run F=some r
 | 0,_,h=>by cases h
 | n+1,c,h=>by
  simp only [ZoP,St.run] at h
  by_cases e:i=c
  ·
   simp only [e,decide_true,cond_true] at h
   exact ⟨c,by omega,e,h⟩
  ·
   simp only [e,decide_false,cond_false] at h
   obtain ⟨m,h1,h2,h3⟩:=Zkw n (c+1) h
   exact ⟨m,by omega,h2,h3⟩
theorem Zqv {ρ:Loc} {H:ZAZ} {w:World} {S:Nat→Prop} {p:PV} {u v:Value} (h:Zkt p=some u) (hp:ZAW ρ H w S p v):v=u:=by
 cases p with
 | val x=>simp only [Zkt,Option.some.injEq] at h;subst h;simpa only [ZAW] using hp
 | agg ps=>
  simp only [Zkt] at h
  cases hv:Zda ps with
  | none=>rw [hv] at h;cases h
  | some l=>
   rw [hv] at h
   simp only [Option.map_some,Option.some.injEq] at h
   subst h
   simp only [ZAW] at hp
   obtain ⟨us,rfl,hu⟩:=hp
   have:=ZWt hv hu
   rw [← this]
 | _=>cases h
theorem Zto (hg:Low g base S0) {w:World} (hI:I w) {ρ:Loc} {H:ZAZ} {S:Nat→Prop} (hh:HRel base S0 ρ H w S) {o:Oper} {env:List PV} {a:Act} {pv:Value} (he:ZAQ ρ H w S env a.tmps.toList) (hp:Zqr o (ZC8 M.gl env)=some pv) :
  (execOp a.eval o).run P w = .halt (.panic pv) w:=by
 obtain ⟨dst,op,ty,pos,aft,gd⟩:=o
 unfold Zqr at hp
 split at hp
 ·
  rename_i x hop
  simp only at hop
  subst hop
  split at hp
  ·
   rename_i T p hx
   have hr:=ZJW M hg hI hh he x
   rw [hx] at hr
   simp only [ZAW] at hr
   obtain ⟨u,hu,hpu⟩:=hr
   cases hc:Zkt p with
   | none=>rw [hc] at hp;cases hp
   | some u'=>
    rw [hc] at hp
    simp only [Option.map_some,Option.some.injEq] at hp
    subst hp
    have:=Zqv hc hpu
    subst this
    simp only [execOp,hu]
    rfl
  · cases hp
 · cases hp
theorem Ztp (hfin:FinOk fin base S0 post) {c:Cfg} {f:Func} {body:Code} {id:Nat} {ops:Array Oper} {draw:Bool} {k:List Item} {i:Nat} {r:R} {pv:Value} (hf:M.fn c.top.K=some f) (hb:f.body=some body)
  (ht:ZBn body c.top.path []=some (.region id ops draw,k)) (hix:c.top.ix=some i) (hstart:c.top.start=none) (hlt:i<ops.size) (hr:fin.pan pv=some r)
  (hp : ∀ (ρ:Loc) (w:World) (S:Nat→Prop) (a:Act),I w→Low g base S0→HRel base S0 ρ c.H w S→ZAQ ρ c.H w S c.top.env a.tmps.toList →
   wpOp P ops (fun e a' w'=>e = .panic [{ v:=pv,recovered:=false }]∧a'.defers=a.defers∧Keeps base.B w w') i (fun _ _=>False) a w):Sound M base S0 cs0 post c r:=by
 intro ρ w S b a todo cs hI hg hh he hst hstack htr
 obtain ⟨hb1,hb2,hd,f',body',code,k',e1,e2,e3,e4⟩:=hst
 rw [hf] at e1;cases e1
 rw [hb] at e2;cases e2
 rw [ht] at e3;cases e3
 rw [hix] at e4
 obtain ⟨id',ops',draw',e5,e6⟩:=e4
 cases e5
 rw [hstart] at e6
 obtain ⟨rfl,rfl⟩:=e6
 have eH:c.H0=c.H:=by simp [Cfg.H0,hstart]
 have eE:c.env0=c.top.env:=by simp [Cfg.env0,hstart]
 rw [eH] at hh he hstack
 rw [eE] at he
 have hwp:=hp ρ w S a hI hg hh he
 rw [ZMN hlt]
 have hops:wpOps P ops (fun e a' w'=>e = .panic [{ v:=pv,recovered:=false }]∧a'.defers=a.defers∧Keeps base.B w w') (i::List.range' (i+1) (ops.size - (i+1))) a w:=by
  rw [wpOps_cons]
  exact wpOp_mono (fun _ _ h=>h.elim) hwp
 obtain ⟨e,a',w',⟨rfl,hd',hk⟩,harr⟩:=wp_ops _ a w hops b k cs
 obtain ⟨td,hsteps⟩:=harr
 exact Ztl hfin hr hf hb1 (hd'.trans hd) hstack hk hsteps
theorem ZZU : ∀ {l:List Nat},ZoQ l=true→l.Pairwise (· < ·)
 | [],_ => .nil
 | x::l,h=>by
  simp only [ZoQ,Bool.and_eq_true,List.all_eq_true,decide_eq_true_eq] at h
  exact .cons h.1 (ZZU h.2)
theorem OpTrace.append {l1 l2:List (Nat×Ft)} {env H env1 H1 env2 H2} {ops:Array Oper} (h:OpTrace M ops l1 env H env1 H1) (k:OpTrace M ops l2 env1 H1 env2 H2):OpTrace M ops (l1++l2) env H env2 H2:=by
 induction h with
 | nil=>exact k
 | cons h1 _ ih=>exact .cons h1 (ih k)
theorem Zhl {ops:Array Oper} {i:Nat} {look:List Tmp} : ∀ {n j:Nat} {env:List PV} {H:ZAZ} {l:List (Nat×Ft)},Zwr M ops i look n j env H=some l →
  ∃ envF,OpTrace M ops l env H envF H ∧ ∀ t∈look,envF.getD t .junk=env.getD t .junk
 | 0,_,env,H,l,h=>by simp only [Zwr,Option.some.injEq] at h;subst h;exact ⟨env,.nil,fun _ _=>rfl⟩
 | n+1,j,env,H,l,h=>by
  simp only [Zwr] at h
  split at h
  · simp only [Option.some.injEq] at h;subst h;exact ⟨env,.nil,fun _ _=>rfl⟩
  ·
   rename_i o ho
   cases hdep:Zqo ops 4 j i with
   | true=>rw [hdep] at h;exact Zhl h
   | false=>
    rw [hdep] at h
    simp only [cond_false] at h
    split at h
    ·
     rename_i p hgd hcp hop
     cases hl:Zwq look o.dst with
     | true=>rw [hl] at h;cases h
     | false=>
      rw [hl] at h
      simp only [cond_false] at h
      cases hrec:Zwr M ops i look n (j+1) (ZmL env o.dst p) H with
      | none=>rw [hrec] at h;cases h
      | some l'=>
       rw [hrec] at h
       simp only [Option.map_some,Option.some.injEq] at h
       subst h
       obtain ⟨envF,ht,hk⟩:=Zhl hrec
       have hx:(ZMM p).heap H=H:=by simp [ZMM,Eff.heap,ZA9]
       refine ⟨envF,.cons ⟨o,ZMM p,ho,OpAct.op (by simp [ZFf,hgd]) (by rw [hop];rfl),rfl,hx.symm⟩ ht,fun t htl=>(hk t htl).trans (Zkp fun d hd e => ?_)⟩
       rw [hd] at hl
       subst e
       have:look.contains d=true:=by simpa using htl
       simp only [Zwq,this] at hl
       cases hl
    · cases h
theorem Zqw (hfin:FinOk fin base S0 post) {c:Cfg} {f:Func} {body:Code} {id:Nat} {ops:Array Oper} {draw:Bool} {k:List Item} {i:Nat} {o:Oper} {r:R} {F:Cfg→Option R} {ft:Ft} {pv:Value} {env':List PV} {H':ZAZ} (hf:M.fn c.top.K=some f) (hb:f.body=some body)
  (ht:ZBn body c.top.path []=some (.region id ops draw,k)) (hix:c.top.ix=some i) (ho:ops[i]? = some o) (hs:ZTH M ops i c.top.env c.H env' H' ft (some pv))
  (hr:(Zwt M fin c ops o i ft pv).run F=some r):Sound M base S0 cs0 post c r:=by
 have hlt:i<ops.size:=(Array.getElem?_eq_some_iff.1 ho).1
 have hpan : ∀ {x:St R},x=ZnU fin pv→x.run F=some r→fin.pan pv=some r:=by
  rintro _ rfl h
  unfold ZnU at h
  split at h
  ·
   rename_i r' hr'
   simp only [St.run,Option.some.injEq] at h
   subst h;exact hr'
  · cases h
 unfold Zwt at hr
 cases hstart:c.top.start with
 | none=>
  rw [hstart] at hr
  exact Ztp hfin hf hb ht hix hstart hlt (hpan rfl hr) (fun ρ w S a hI hg hh he=>Zrn hg hI hh he hs (fun w' hk=>⟨rfl,rfl,hk⟩))
 | some st=>
  rw [hstart] at hr
  simp only at hr
  split at hr
  rotate_left
  · cases hr
  rename_i l hl
  cases hok:Zws ops (c.top.feet++l) i ft with
  | false=>rw [hok] at hr;cases hr
  | true=>
   rw [hok] at hr
   have hpanr:=hpan rfl hr
   obtain ⟨e0,h0⟩:=st
   intro ρ w S b a todo cs hI hg hh he hst hstack htr
   obtain ⟨hb1,hb2,hd,f',body',code,k',e1,e2,e3,e4⟩:=hst
   rw [hf] at e1;cases e1
   rw [hb] at e2;cases e2
   rw [ht] at e3;cases e3
   rw [hix] at e4
   obtain ⟨id',ops',draw',e5,e6⟩:=e4
   cases e5
   rw [hstart] at e6
   obtain ⟨rfl,rfl⟩:=e6
   have eH:c.H0=h0:=by simp [Cfg.H0,hstart]
   have eE:c.env0=e0:=by simp [Cfg.env0,hstart]
   rw [eH] at hh he hstack
   rw [eE] at he
   simp only [Zku,hstart] at htr
   obtain ⟨t1,_⟩:=htr f body id ops true k i hf hb ht hix
   obtain ⟨envF,t2,hlook⟩:=Zhl hl
   have t3:=t1.append t2
   obtain ⟨oo,ee,ho2,ha,_,_⟩:=hs
   rw [ho] at ho2;cases ho2
   have hs':ZTH M ops i envF c.H _ _ ft (some pv):=⟨o,ee,ho,ha.local hlook (fun _ _=>rfl) (.inl rfl),rfl,rfl⟩
   simp only [Zws,Bool.and_eq_true,decide_eq_true_eq] at hok
   obtain ⟨⟨⟨⟨⟨hel,hfine⟩,hsort⟩,hall⟩,hcov⟩,hsz⟩:=hok
   simp only [List.all_eq_true,Bool.and_eq_true,bne_iff_ne,ne_eq,Bool.or_eq_true,beq_iff_eq,List.any_eq_true,List.mem_range,decide_eq_true_eq] at hall hcov
   have hdr:HRel base S0 ρ h0 w.drew S:=hh.drew
   have hIw:I w.drew:=M.keep _ _ g (Nat.le_refl _) ((Below.refl _ _).drew) hI
   have hrep : ∀ j,(Array.replicate ops.size false).getD j true=false↔j<ops.size:=by
    intro j
    by_cases hj:j<ops.size
    · simp [hj]
    · simp [hj]
   have hany:=Ztk (M:=M) (base:=base) (S0:=S0) hel hg (Q:=fun e a' w'=>e = .panic [{ v:=pv,recovered:=false }]∧a'.defers=a.defers∧Keeps base.B w w') ho
    (ops.size - 1) (c.top.feet++l) (Array.replicate ops.size false) ρ e0 h0 w.drew S a envF c.H _ _
    (by omega) (by simp)
    (fun j hj=>by
     obtain ⟨x,hx,rfl⟩:=List.mem_map.mp hj
     exact (hrep x.1).mpr (hall x hx).1.2)
    (fun j hj=>by
     rcases hcov j ((hrep j).mp hj) with (⟨x,hx,rfl⟩ | h) | h
     · exact .inl (List.mem_map.mpr ⟨x,hx,rfl⟩)
     · exact .inr (.inl h)
     · exact .inr (.inr h))
    ((hrep i).mpr hlt)
    (fun hm=>by
     obtain ⟨x,hx,e⟩:=List.mem_map.mp hm
     exact (hall x hx).1.1 e)
    (ZZU hsort)
    (fun c1 o1 _ hl=>by
     have hl':(Array.replicate ops.size false).getD c1 false=true:=hl
     by_cases hj:c1<ops.size
     · simp [hj] at hl'
     · simp [hj] at hl')
    hfine
    (fun x hx=>by
     rcases (hall x hx).2 with h | h
     · exact .inl (ZnT h)
     · exact .inr h)
    hIw hdr ((Ext.drew hh).rels he) t3 hs'
    (fun w' a' q1 q2=>⟨rfl,q2,(Ext.drew hh).below.trans q1⟩)
   rw [show ops.size - 1+1=ops.size by omega] at hany
   have hwp:=wp_region_any (id:=id) M.mixed hany
   obtain ⟨e,a',w',⟨rfl,hd',hk⟩,harr⟩:=hwp b k cs
   obtain ⟨td,hsteps⟩:=harr
   exact Ztl hfin hpanr hf hb1 (hd'.trans hd) hstack hk hsteps
theorem Zau (hfin:FinOk fin base S0 post) {c:Cfg} {f:Func} {body:Code} {id:Nat} {ops:Array Oper} {draw:Bool} {k:List Item} {i:Nat} {o:Oper} {r:R} {F:Cfg→Option R} (hf:M.fn c.top.K=some f) (hb:f.body=some body)
  (ht:ZBn body c.top.path []=some (.region id ops draw,k)) (hix:c.top.ix=some i) (ho:ops[i]? = some o) (hw:ZFf ops o c.top.env true)
  (hr:(Zpl M fin c ops o i).run F=some r) (hF : ∀ c',F c'=some r→Sound M base S0 cs0 post c' r):Sound M base S0 cs0 post c r:=by
 unfold Zpl at hr
 split at hr
 ·
  rename_i K args hcp
  split at hr
  ·
   rename_i f0 hfd
   obtain ⟨hmem,hmt⟩:=Zrl hfd
   obtain ⟨y,hy,⟨pv,hbad,hr⟩ | ⟨hbad,hr⟩⟩:=f0.c.elim_is _ _ _ _ _ hr
   · exact Zqw hfin hf hb ht hix ho ⟨o,_,ho,OpAct.pcall hw hcp hmem hmt hy hbad,rfl,rfl⟩ hr
   · exact ZF1 hf hb ht hix ⟨o,_,ho,OpAct.hcall hw hcp hmem hmt hy hbad,rfl,rfl⟩ (hF _ hr)
  split at hr
  ·
   rename_i cn hcon
   split at hr
   ·
    rename_i x hx
    obtain ⟨y,hy,hr⟩:=St.run_bind hr
    exact ZF1 hf hb ht hix ⟨o,_,ho,OpAct.ocall hw hcp hcon hx hy,rfl,rfl⟩ (hF _ hr)
   · cases hr
  split at hr
  ·
   rename_i cn hcon
   split at hr
   ·
    rename_i x hx
    obtain ⟨y,hy,hr⟩:=St.run_bind hr
    exact ZF1 hf hb ht hix ⟨o,_,ho,OpAct.call hw hcp hcon hx hy,rfl,rfl⟩ (hF _ hr)
   · cases hr
  ·
   split at hr
   ·
    rename_i p hext
    obtain ⟨rfl,hext2⟩:=Ztn hext
    simp only [St.run] at hr
    exact ZF1 hf hb ht hix ⟨o,_,ho,OpAct.ext hw hcp hext2,rfl,rfl⟩ (hF _ hr)
   split at hr
   · cases hr
   ·
    rename_i hstart
    split at hr
    ·
     rename_i fK hfK
     simp only [St.run] at hr
     intro ρ w S b a todo cs hI hg hh he hst hstack htr
     obtain ⟨hb1,hb2,hd,f',body',code,k',e1,e2,e3,e4⟩:=hst
     rw [hf] at e1;cases e1
     rw [hb] at e2;cases e2
     rw [ht] at e3;cases e3
     rw [hix] at e4
     obtain ⟨id',ops',draw',e5,e6⟩:=e4
     cases e5
     rw [hstart] at e6
     obtain ⟨rfl,rfl⟩:=e6
     have eH:c.H0=c.H:=by simp [Cfg.H0,hstart]
     have eE:c.env0=c.top.env:=by simp [Cfg.env0,hstart]
     rw [eH] at hh he hstack
     rw [eE] at he
     have hlt:i<ops.size:=(Array.getElem?_eq_some_iff.1 ho).1
     obtain ⟨hfn1,hfn2,hfn3⟩:=M.fn_ok _ _ hfK
     obtain ⟨vs,hrun,hargs⟩:=Zfn hg hI hh he hcp ⟨fK,hfn1,hfn2,hfn3⟩
     obtain ⟨bodyK,hbK⟩:=Option.isSome_iff_exists.mp hfn3
     have hstep:=Zsb (rest:=List.range' (i+1) (ops.size - (i+1))) ho (ZIC he hw) hrun b k cs
     have henter:Frame.enter P K vs .normal =
       ({ (default:Frame) with fn:=K,kind := .normal }:Frame).at { tmps:=vs++Array.replicate (fK.ntmps - vs.size) undef,defers:=[] } [.code bodyK]:=by
      simp [Frame.enter,Frame.at,hfn1,hbK]
     rw [henter] at hstep
     rw [ZMN hlt]
     refine Fin.steps (.one hstep) ?_
     have hlen:args.length=vs.size:=by simpa using hargs.length
     refine (hF _ hr).plain rfl ρ w S _ _ _ _ hI hg hh ?_ ⟨rfl,rfl,rfl,fK,bodyK,bodyK,[],hfK,hbK,rfl,rfl,.inl rfl⟩ (.cons ⟨b,a,ops,id,k,i,o,f,body,?_,hb1,hb2,hd,hf,hb,ht,rfl,ho,he,hstart⟩ hstack)
     ·
      have:(vs++Array.replicate (fK.ntmps - vs.size) undef).toList=vs.toList++List.replicate (fK.ntmps - args.length) undef:=by simp [hlen]
      simp only [this]
      exact hargs.append (ZAQ.replicate _)
     · rw [ZMN hlt]
    · cases hr
 ·
  split at hr
  ·
   -- a panic
   rename_i pv hpv
   split at hr
   rotate_left
   · cases hr
   rename_i hstart
   have hlt:i<ops.size:=(Array.getElem?_eq_some_iff.1 ho).1
   have hpan:fin.pan pv=some r:=by
    unfold ZnU at hr
    split at hr
    ·
     rename_i r' hr'
     simp only [St.run,Option.some.injEq] at hr
     subst hr;exact hr'
    · cases hr
   refine Ztp hfin hf hb ht hix hstart hlt hpan (fun ρ w S a hI hg hh he => ?_)
   unfold wpOp
   simp only [ho]
   rw [ZIC he hw]
   simp only [if_true]
   left
   unfold Oper.wp
   rw [Zto hg hI hh he hpv]
   exact ⟨rfl,rfl,Keeps.refl _ _⟩
  split at hr
  ·
   rename_i b p q hop
   split at hr
   rotate_left
   · cases hr
   rename_i x y z hopp
   have hxyz:ZC8 M.gl c.top.env x = .val (.bool b)∧p=ZC8 M.gl c.top.env y∧q=ZC8 M.gl c.top.env z:=by
    unfold opP at hop
    rw [hopp] at hop
    simp only at hop
    split at hop
    ·
     rename_i t ht
     simp only [OpR.pick.injEq] at hop
     obtain ⟨rfl,rfl,rfl⟩:=hop
     exact ⟨ht,rfl,rfl⟩
    · cases hop
   obtain ⟨hx,rfl,rfl⟩:=hxyz
   simp only [St.run] at hr
   have act : ∀ t:PV,t=(if b then ZC8 M.gl c.top.env y else ZC8 M.gl c.top.env z)→Zpe M ops i c.top.env c.H (ZmL c.top.env o.dst t) (ZA9 c.H []++[]) ((ZMM t).ft (ZBB o (ZC8 M.gl c.top.env)) c.H):=by
    rintro t rfl
    exact ⟨o,ZMM (if b then ZC8 M.gl c.top.env y else ZC8 M.gl c.top.env z),ho,OpAct.op hw (by rw [hop];rfl),rfl,rfl⟩
   cases b with
   | true=>
    rw [Cfg.refO_eq hx] at hr
    exact ZF1 hf hb ht hix (act _ rfl) (hF _ hr)
   | false=>
    rw [Cfg.refO_eq hx] at hr
    exact ZF1 hf hb ht hix (act _ rfl) (hF _ hr)
  ·
   rename_i j n f hop
   obtain ⟨m,hlt,rfl,hr2⟩:=Zkw n 0 hr
   refine ZF1 hf hb ht hix ⟨o,ZMM (f m),ho,OpAct.op hw (by rw [hop];simp only [OpR.eff];rw [decide_eq_true (by omega)];rfl),rfl,rfl⟩ (hF _ hr2)
  ·
   split at hr
   ·
    rename_i b e heff
    simp only [St.run] at hr
    cases b with
    | false=>simp at hr
    | true=>
     simp only [cond_true] at hr
     exact ZF1 hf hb ht hix ⟨o,e,ho,OpAct.op hw heff,rfl,rfl⟩ (hF _ hr)
   · cases hr
theorem Zsc (hfin:FinOk fin base S0 post) {c:Cfg} {f:Func} {body:Code} {id:Nat} {ops:Array Oper} {draw:Bool} {k:List Item} {i:Nat} {r:R} {F:Cfg→Option R} (hf:M.fn c.top.K=some f) (hb:f.body=some body)
  (ht:ZBn body c.top.path []=some (.region id ops draw,k)) (hix:c.top.ix=some i)
  (hr:(ZzM M fin c f body ops draw i).run F=some r) (hF : ∀ c',F c'=some r→Sound M base S0 cs0 post c' r):Sound M base S0 cs0 post c r:=by
 unfold ZzM at hr
 split at hr
 ·
  -- the region's end
  rename_i hnone
  have hge:ops.size≤i:=by
   rcases Nat.lt_or_ge i ops.size with h | h
   · simp [h] at hnone
   · exact h
  intro ρ w S b a todo cs hI hg hh he hst hstack htr
  obtain ⟨hb1,hb2,hd,f',body',code,k',e1,e2,e3,e4⟩:=hst
  rw [hf] at e1;cases e1
  rw [hb] at e2;cases e2
  rw [ht] at e3;cases e3
  rw [hix] at e4
  obtain ⟨id',ops',draw',e5,e6⟩:=e4
  cases e5
  split at hr
  ·
   rename_i hstart
   rw [hstart] at e6
   obtain ⟨_,rfl⟩:=e6
   have eH:c.H0=c.H:=by simp [Cfg.H0,hstart]
   have eE:c.env0=c.top.env:=by simp [Cfg.env0,hstart]
   rw [eH] at hh he hstack
   rw [eE] at he
   have hemp:List.range' i (ops.size - i)=[]:=by rw [show ops.size - i=0 by omega];rfl
   rw [hemp]
   exact Fin.steps (.one step_region_end) (ZS2 hfin hr hF hf hb hI hg hh he hb1 hb2 hd hstack (Ztm ht _ _ _ _))
  ·
   rename_i st hstart
   obtain ⟨e0,h0⟩:=st
   rw [hstart] at e6
   obtain ⟨_,rfl⟩:=e6
   have eH:c.H0=h0:=by simp [Cfg.H0,hstart]
   have eE:c.env0=e0:=by simp [Cfg.env0,hstart]
   rw [eH] at hh he hstack
   rw [eE] at he
   split at hr
   ·
    rename_i hcond
    simp only [Bool.and_eq_true,decide_eq_true_eq] at hcond
    obtain ⟨⟨hfine,hedge⟩,hisz⟩:=hcond
    simp only [Zku,hstart] at htr
    obtain ⟨t1,t2⟩:=htr f body id ops true k i hf hb ht hix
    have hdr:HRel base S0 ρ h0 w.drew S:=hh.drew
    have hIw:I w.drew:=M.keep _ _ g (Nat.le_refl _) ((Below.refl _ _).drew) hI
    have hany:=Ztj (M:=M) (base:=base) (S0:=S0) hedge hg (Q:=fun e a' w'=>e = .normal ∧ ∃ ρ' S',I w'∧HRel base S0 ρ' c.H w' S'∧Ext base ρ h0 w S ρ' c.H w' S'∧ZAQ ρ' c.H w' S' c.top.env a'.tmps.toList∧a'.defers=a.defers)
     ops.size c.top.feet (Array.replicate ops.size false) ρ e0 h0 w.drew S a
     (by have:=congrArg List.length t2;simp at this;omega) (by simp)
     (fun j=>by
      rw [t2,List.mem_range,hisz]
      by_cases hj:j<ops.size
      · simp [hj]
      · simp [hj])
     (by rw [t2];exact List.pairwise_lt_range)
     (fun c1 o1 _ hl=>by
      have hl':(Array.replicate ops.size false).getD c1 false=true:=hl
      by_cases hj:c1<ops.size
      · simp [hj] at hl'
      · simp [hj] at hl')
     hfine hIw hdr ((Ext.drew hh).rels he) t1
     (fun ρ' w' S' a' q1 q2 q3 q4 q5=>⟨rfl,ρ',S',q1,q2,(Ext.drew hh).trans q3,q4,q5⟩)
    have hwp:=wp_region_any (id:=id) M.mixed hany
    obtain ⟨e,a',w',⟨rfl,ρ',S',q1,q2,q3,q4,q5⟩,harr⟩:=hwp b k cs
    exact Fin.steps harr (Fin.world q3.below (ZS2 hfin hr hF hf hb q1 hg q2 q4 hb1 hb2 (q5.trans hd) (hstack.ext q3) (Ztm ht _ _ _ _)))
   · cases hr
  · cases hr
 ·
  rename_i o ho
  have skip:(ZFf ops o c.top.env false)→(F (adv c i o.dst ZFh (ZA9 c.H []++[]) ⟨[],[],[]⟩)=some r)→Sound M base S0 cs0 post c r :=
   fun hw hk=>ZF1 hf hb ht hix ⟨o,ZMM ZFh,ho,OpAct.skip hw,rfl,rfl⟩ (hF _ hk)
  split at hr
  ·
   rename_i hgd
   exact Zau hfin hf hb ht hix ho (by simp [ZFf,hgd]) hr hF
  ·
   rename_i j want hgd
   split at hr
   ·
    rename_i hd0
    exact skip (Zqu hgd hd0) hr
   ·
    rename_i d hd0
    split at hr
    ·
     rename_i x hx
     cases want with
     | true=>
      simp only [St.run] at hr
      cases x with
      | true=>rw [Cfg.ref_eq hx] at hr;exact Zau hfin hf hb ht hix ho (ZYN hgd hd0 hx) hr hF
      | false=>rw [Cfg.ref_eq hx] at hr;exact skip (ZYN hgd hd0 hx) hr
     | false=>
      simp only [St.run] at hr
      cases x with
      | true=>rw [Cfg.ref_eq hx] at hr;exact skip (ZYN hgd hd0 hx) hr
      | false=>rw [Cfg.ref_eq hx] at hr;exact Zau hfin hf hb ht hix ho (ZYN hgd hd0 hx) hr hF
    ·
     rename_i us hx
     exact skip (Zpn hgd hd0 hx) hr
    · cases hr
theorem Zsd (hfin:FinOk fin base S0 post) {c:Cfg} {r:R} {F:Cfg→Option R} (hr:(Zva M fin c).run F=some r) (hF : ∀ c',F c'=some r→Sound M base S0 cs0 post c' r):Sound M base S0 cs0 post c r:=by
 unfold Zva at hr
 split at hr
 · cases hr
 ·
  rename_i f hf
  split at hr
  · cases hr
  ·
   rename_i body hb
   split at hr
   · cases hr
   ·
    rename_i code k ht
    split at hr
    ·
     rename_i i hix
     split at hr
     ·
      rename_i id ops draw
      exact Zsc hfin hf hb ht hix hr hF
     · cases hr
    ·
     rename_i hix
     intro ρ w S b a todo cs hI hg hh he hst hstack htr
     obtain ⟨hb1,hb2,hd,f',body',code',k',e1,e2,e3,e4⟩:=hst
     rw [hf] at e1;cases e1
     rw [hb] at e2;cases e2
     rw [ht] at e3;cases e3
     rw [hix] at e4
     obtain ⟨hstart,hhead⟩:=e4
     have eH:c.H0=c.H:=by simp [Cfg.H0,hstart]
     have eE:c.env0=c.top.env:=by simp [Cfg.env0,hstart]
     rw [eH] at hh he hstack
     rw [eE] at he
     have aft : ∀ (a:Act) (w:World),Zrp P body b a cs w k (after body c.top.path):=fun a w=>Ztm ht b a cs w
     have down : ∀ (d:Nat),ZBn body (c.top.path++[d]) []=ZBn code [d] k:=fun d=>Zqq body c.top.path [] d ht
     split at hr
     ·
      -- skip
      rcases hhead with rfl | ⟨d,hd',_⟩
      · exact Fin.steps (.one step_skip) (ZS2 hfin hr hF hf hb hI hg hh he hb1 hb2 hd hstack (aft a w))
      · cases hd'
     ·
      rcases hhead with rfl | ⟨d,hd',_⟩
      · exact Fin.steps (.one step_label) (ZS2 hfin hr hF hf hb hI hg hh he hb1 hb2 hd hstack (aft a w))
      · cases hd'
     ·
      -- seq
      rcases hhead with rfl | ⟨d,hd',_⟩
      · exact Fin.steps (.one step_seq) (Sound.at c _ hI hg hh he hb1 hb2 hd hf hb (down 0) (.inl rfl) hstack (hF _ hr))
      · cases hd'
     ·
      -- block
      rcases hhead with rfl | ⟨d,hd',_⟩
      · exact Fin.steps (.one step_block) (Sound.at c _ hI hg hh he hb1 hb2 hd hf hb (down 0) (.inl rfl) hstack (hF _ hr))
      · cases hd'
     ·
      -- loop
      rcases hhead with rfl | ⟨d,hd',rfl⟩
      · exact Fin.steps (.one step_loop) (Sound.at c _ hI hg hh he hb1 hb2 hd hf hb (down 0) (.inl rfl) hstack (hF _ hr))
      ·
       cases hd'
       exact Fin.steps (.one step_inLoop) (Sound.at c _ hI hg hh he hb1 hb2 hd hf hb (down 0) (.inl rfl) hstack (hF _ hr))
     ·
      -- scope
      rcases hhead with rfl | ⟨d,hd',_⟩
      · exact Fin.steps (.one Zqt) (Sound.at c _ hI hg hh he hb1 hb2 hd hf hb (down 0) (.inl rfl) hstack (hF _ hr))
      · cases hd'
     ·
      -- cond
      rename_i x y z
      rcases hhead with rfl | ⟨d,hd',_⟩
      ·
       split at hr
       ·
        rename_i t hx
        have hv:=ZJW M hg hI hh he x
        rw [hx] at hv
        simp only [ZAW] at hv
        simp only [St.run] at hr
        refine Fin.steps (.one (step_cond hv)) ?_
        cases t with
        | true=>rw [Cfg.refO_eq hx] at hr;exact Sound.at c _ hI hg hh he hb1 hb2 hd hf hb (down 0) (.inl rfl) hstack (hF _ hr)
        | false=>rw [Cfg.refO_eq hx] at hr;exact Sound.at c _ hI hg hh he hb1 hb2 hd hf hb (down 1) (.inl rfl) hstack (hF _ hr)
       · cases hr
      · cases hd'
     ·
      -- exit
      rename_i id
      rcases hhead with rfl | ⟨d,hd',_⟩
      ·
       have hex:=Zsa (P:=P) (b:=b) (a:=a) (cs:=cs) (w:=w) id body c.top.path [] ht
       split at hr
       ·
        rename_i q hq
        rw [hq] at hex
        cases q with
        | some q=>
         obtain ⟨kx,c',k',td,h1,h2,h3,h4⟩:=hex
         exact Fin.steps (.one (step_exit h1)) (ZS2 hfin hr hF hf hb hI hg hh he hb1 hb2 hd hstack ⟨c',k',td,h2,h3,h4⟩)
        | none=>
         obtain ⟨kx,h1,h2⟩:=hex
         exact Fin.steps (.one (step_exit h1)) (ZS2 hfin hr hF hf hb hI hg hh he hb1 hb2 hd hstack h2)
       · cases hr
      · cases hd'
     ·
      -- ret
      rcases hhead with rfl | ⟨d,hd',_⟩
      · exact Fin.steps (.one step_ret) (Zpm hfin hr hF hf hI hg hh he hb1 hb2 hd hstack)
      · cases hd'
     ·
      -- region
      rename_i id ops draw
      rcases hhead with rfl | ⟨d,hd',_⟩
      ·
       simp only [St.run] at hr
       have hS:=hF _ hr
       cases draw with
       | false=>
        refine Fin.steps (.one step_region) ?_
        refine hS.plain rfl ρ w S b a _ cs hI hg hh he ⟨hb1,hb2,hd,f,body,.region id ops false,k,hf,hb,ht,id,ops,false,rfl,rfl,?_⟩ hstack
        rw [List.range_eq_range']
        rfl
       | true=>
        refine hS ρ w S b a _ cs hI hg hh he ⟨hb1,hb2,hd,f,body,.region id ops true,k,hf,hb,ht,id,ops,true,rfl,rfl,rfl⟩ hstack ?_
        simp only [Zku,if_true]
        intro f2 body2 id2 ops2 draw2 k2 i2 q1 q2 q3 q4
        cases q4
        exact ⟨.nil,rfl⟩
      · cases hd'
     · cases hr
theorem ZnW (hfin:FinOk fin base S0 post) {X:Cfg→Option (Option R)} {r:R} (hX : ∀ c,X c=some (some r)→Sound M base S0 cs0 post c r) : ∀ (n:Nat) (c:Cfg),Zy5 M fin X n c=some r→Sound M base S0 cs0 post c r
 | 0,_,h=>by cases h
 | n+1,c,h=>by
  refine Zsd hfin h (fun c' hc' => ?_)
  split at hc'
  · rename_i o ho;exact hX c' (by rw [ho,hc'])
  · exact ZnW hfin hX n c' hc'
end
section
variable {P:Program} {I:World→Prop} {g:Nat} {M:Mach P I g}
def Zzr (c:Con):Fins (ZFC c.results):=⟨fun ps H=>ZGX c.results ps H,fun _=>none⟩
def Ret {R:Type} (p:World→Value→R→Prop) (w:World) (e:Ending) (r:R):Prop := ∃ v,e = .returned v∧p w v r
def Zkx (K ntmps:Nat) (ps:List PV):Cfg:=⟨⟨K,[],none,ps++List.replicate (ntmps - ps.length) ZFh,none,[]⟩,[],[]⟩
theorem Zie : ∀ (ts:List Ty) (x:ZFC ts),(Zfh ts x).length=ts.length
 | [],_=>rfl
 | _::ts,x=>by simp [Zfh,Zie ts]
def Base.all (w:World):Base:=⟨fun b=>b<w.heap.size,0,fun _=>none,[]⟩
theorem Keeps.all {w w':World} (h:Keeps (Base.all w).B w w'):Below w.heap.size w w':=h.below fun _ hb=>hb
theorem HRel.empty {w:World} {S:Nat→Prop} (hS : ∀ b,S b→b<w.heap.size):HRel (Base.all w) S (fun _=>none) [] w S :=
 ⟨⟨fun _ h=>h,Nat.zero_le _,fun _ h=>absurd h (Nat.not_lt_zero _),fun _ h=>absurd h (Nat.not_lt_zero _),fun _ h=>absurd h (Nat.not_lt_zero _)⟩,hS,fun blk=>⟨fun h => .inl h,fun h=>by
   rcases h with h | ⟨b,o,n,h1,_⟩
   · exact h
   · have:=ZMK h1;simp at this⟩,
  fun b o blk n h1 _=>by have:=ZMK h1;simp at this,fun b b' o o' blk n n' h1 _ _ _=>by have:=ZMK h1;simp at this,fun b o h1=>by have:=ZMK h1;simp at this⟩
theorem Ztq (c:Con) (base:Base) (S0:Nat→Prop):FinOk (Zzr c) base S0 (Ret fun w v r=>Zib w S0 c.results r v):=by
 refine ⟨fun ps H r ρ w S v hf hh hv=>⟨v,rfl,?_⟩,fun v r w h=>by cases h⟩
 obtain ⟨S1,f1,f2⟩:=ZkE (ZJU c.results ps) hh
 have hS : ∀ b,b<w.heap.size→S0 b→S1 b:=fun b _ h=>(f1.own b).mpr (.inl h)
 unfold Zzr at hf
 obtain ⟨params,results,F⟩:=c
 simp only at hf f1 f2 r ⊢
 have list : ∀ vs,ZAQ ρ H w S ps vs→ZaN w S0 results r vs:=fun vs hvs=>
  (ZYG f1 (fun b hb=>hb) hf (f2.rels hvs)).mono (Same.refl _ _) (fun b hb h=>hS b hb h)
 unfold Zib
 split
 ·
  rename_i t r
  cases ps with
  | nil=>simp [ZGX] at hf
  | cons p qs=>cases qs with
   | nil=>
    obtain ⟨u,us,e,h1,h2⟩:=list [v] ⟨v,[],rfl,hv,rfl⟩
    simp at e
    obtain ⟨rfl,rfl⟩:=e
    exact h1
   | cons q qs=>
    simp only [ZGX] at hf
    (repeat' split at hf)<;>first | cases hf | skip
    all_goals (rename_i h;simp at h)
 ·
  rename_i r hne
  have tup : ∃ us,v = .tuple us∧ZAQ ρ H w S ps us.toList:=by
   cases ps with
   | nil=>exact hv
   | cons p qs=>cases qs with
    | nil=>
     exfalso
     cases results with
     | nil=>simp [ZGX] at hf
     | cons t ts=>cases ts with
      | nil=>exact hne t r rfl HEq.rfl
      | cons t2 ts=>
       simp only [ZGX] at hf
       (repeat' split at hf)<;>first | cases hf | skip
       all_goals (rename_i h;simp [ZGX] at h)
    | cons q qs=>exact hv
  obtain ⟨us,rfl,h1⟩:=tup
  exact ⟨us,rfl,list _ h1⟩
theorem ZaN.length {w:World} {S:Nat→Prop} : ∀ {ts:List Ty} {x:ZFC ts} {vs:List Value},ZaN w S ts x vs→vs.length=ts.length
 | [],_,_,h=>by obtain rfl:=h;rfl
 | _::_,_,_,h=>by obtain ⟨u,us,rfl,_,h2⟩:=h;simp [ZaN.length h2]
theorem Zdc {m m':Machine} {e:Ending} (h:Steps P m m') (he:e ≠ .outgrown):Comes P m m' e:=by
 cases e with
 | outgrown=>exact absurd rfl he
 | _=>exact h
theorem ZnX {R:Type} {post:Base→(Nat→Prop)→World→Ending→R→Prop} {y:R} {ts:List Ty} {x:ZFC ts} (hret : ∀ b S w e,post b S w e y→e ≠ .outgrown) (hgI : ∀ w,I w→g≤w.heap.size) {K:Nat} {f:Func} (hf:M.fn K=some f)
  (h : ∀ base S0 cs0,base.n=0→Sound M base S0 cs0 (post base S0) (Zkx K f.ntmps (Zfh ts x)) y) (w:World) (S:Nat→Prop) (args:Array Value) (hI:I w) (hS : ∀ b,S b→g≤b∧b<w.heap.size) (hargs:ZaN w S ts x args.toList) :
  Calls P K args w fun e w'=>post (Base.all w) S w' e y∧Below w.heap.size w w':=by
 intro cs
 obtain ⟨hfn,_,hbody⟩:=M.fn_ok _ _ hf
 obtain ⟨body,hb⟩:=Option.isSome_iff_exists.mp hbody
 have henter:Frame.enter P K args .normal=({ (default:Frame) with fn:=K,kind := .normal }:Frame).at { tmps:=args++Array.replicate (f.ntmps - args.size) undef,defers:=[] } [.code body]:=by
  simp [Frame.enter,Frame.at,hfn,hb]
 have hlen:(Zfh ts x).length=args.size:=by rw [Zie];have:=hargs.length;simp at this;omega
 have:=h (Base.all w) S cs rfl (fun _=>none) w S ({ (default:Frame) with fn:=K,kind := .normal }:Frame) { tmps:=args++Array.replicate (f.ntmps - args.size) undef,defers:=[] } [.code body] cs hI ⟨fun b hb=>Nat.lt_of_lt_of_le hb (hgI w hI),fun b hb=>(hS b hb).1⟩ (HRel.empty fun b hb=>(hS b hb).2)
  (by
   have e:(args++Array.replicate (f.ntmps - args.size) undef).toList=args.toList++List.replicate (f.ntmps - (Zfh ts x).length) undef:=by simp [hlen]
   simp only [e]
   exact (ZkX hargs).append (ZAQ.replicate _))
  ⟨rfl,rfl,rfl,f,body,body,[],hf,hb,rfl,rfl,.inl rfl⟩ .nil trivial
 obtain ⟨fr,w',e,h1,h2,h3,h4,h5⟩:=this
 refine ⟨e,w',fr,⟨h4,h5.all⟩,?_,h2,h3⟩
 rw [henter]
 exact Zdc h1 (hret _ _ _ _ h4)
theorem Ztr (hgI : ∀ w,I w→g≤w.heap.size) {K:Nat} {c:Con} {f:Func} (hf:M.fn K=some f)
  (h : ∀ x y,c.F x=some y → ∀ base S0 cs0,base.n=0→Sound M base S0 cs0 (Ret fun w v r=>Zib w S0 c.results r v) (Zkx K f.ntmps (Zfh c.params x)) y):c.Sound P I g K :=
 fun x y hxy w S args hI hS hargs=>(ZnX (post:=fun _ S0=>Ret fun w v r=>Zib w S0 c.results r v) (fun _ _ _ _ h=>by obtain ⟨v,rfl,_⟩:=h;simp) hgI hf (fun base S0 cs0 hn=>h x y hxy base S0 cs0 hn) w S args hI hS hargs).mono fun e w' h=>by
  obtain ⟨⟨v,e1,e2⟩,e3⟩:=h
  exact ⟨v,e1,e2,e3⟩
def Zpo (t:Ty):Fins (List t.den):=⟨fun ps H=>match ps with
 | [.all b]=>match H.at? b with
  | some (.row _ m)=>ZSG m
  | _=>none
 | [.val (.slice none 0 0)]=>some []
 | [.sl b 0 k]=>match H.at? b with
  | some (.row _ m)=>(ZSG m).map fun l=>l.take k
  | _=>none
 | _=>none,fun _=>none⟩
def Zky (t:Ty) (base:Base) (S0:Nat→Prop):World→Ending→List t.den→Prop:=Ret fun w v r=>Zrh base.B w S0 t r v
theorem Zqx (t:Ty) (base:Base) (S0:Nat→Prop):FinOk (Zpo t) base S0 (Zky t base S0):=by
 refine ⟨fun ps H r ρ w S v hf hh hv=>⟨v,rfl,?_⟩,fun v r w h=>by cases h⟩
 simp only [Zpo] at hf
 split at hf
 ·
  rename_i b
  split at hf
  ·
   rename_i t' m ho
   obtain ⟨rfl,rfl⟩:=ZIp hf
   have hv:ZAW ρ H w S (.all b) v:=hv
   simp only [ZAW] at hv
   rcases hv.2 _ ho rfl with ⟨blk,n,cap,hr,rfl,hle,hn⟩ | ⟨h0,rfl⟩
   ·
    rcases hh.block _ _ ho with ⟨blk',arr,elem,fz,h1,h2,h3,h4,h5⟩ | ⟨h1,_⟩
    ·
     rw [hr] at h1;cases h1
     exact .inr ⟨blk,arr,elem,fz,cap,S,rfl,hle,hn,(hh.from_ b _ _ _ ho hr).1,h2,h3,fun b hb=>(hh.own b).mpr (.inl hb),(hh.own blk).mpr (.inr ⟨b,_,_,ho,rfl,hr⟩),h4,h5⟩
    · rw [hr] at h1;cases h1
   · exact .inl ⟨List.length_eq_zero_iff.mp h0,rfl⟩
  · cases hf
 ·
  cases hf
  have hv:ZAW ρ H w S (.val (.slice none 0 0)) v:=hv
  simp only [ZAW] at hv
  exact .inl ⟨rfl,hv⟩
 ·
  rename_i b k
  split at hf
  ·
   rename_i t' m ho
   obtain ⟨l,hl,rfl⟩:=Option.map_eq_some_iff.mp hf
   obtain ⟨rfl,rfl⟩:=ZIp hl
   have hv:ZAW ρ H w S (.sl b 0 k) v:=hv
   simp only [ZAW] at hv
   obtain ⟨hk,⟨blk,n,cap,hr,rfl,hle,hn⟩ | ⟨h0,a,rfl,ha⟩⟩:=hv.2 _ ho rfl
   ·
    have hk':k≤l.length:=by simpa [AO.len] using hk
    rcases hh.block _ _ ho with ⟨blk',arr,elem,fz,h1,h2,h3,h4,h5⟩ | ⟨h1,_⟩
    ·
     rw [hr] at h1;cases h1
     have hlen:(l.take k).length=k:=by simp;omega
     refine .inr ⟨blk,arr,elem,fz,cap,S,by rw [hlen];simp,by rw [hlen];exact hle,by simpa [AO.elemSize] using hn,(hh.from_ b _ _ _ ho hr).1,h2,h3,fun b hb=>(hh.own b).mpr (.inl hb),(hh.own blk).mpr (.inr ⟨b,_,_,ho,rfl,hr⟩),fun i hi => ?_,h5⟩
     obtain ⟨vs,g1,g2⟩:=h4 i (by omega)
     exact ⟨vs,by rw [List.getElem_take];exact g1,g2⟩
    · rw [hr] at h1;cases h1
   ·
    subst h0
    rw [ha trivial]
    exact .inl ⟨by simp,rfl⟩
  · cases hf
 · cases hf
theorem Zhm (hgI : ∀ w,I w→g≤w.heap.size) {K:Nat} {c:OCon} {f:Func} (hf:M.fn K=some f)
  (h : ∀ x y,c.F x=some y → ∀ base S0 cs0,base.n=0→Sound M base S0 cs0 (Zky c.t base S0) (Zkx K f.ntmps (Zfh c.params x)) y):c.Sound P I g K :=
 fun x y hxy w S args hI hS hargs=>(ZnX (post:=fun base S0=>Zky c.t base S0) (fun _ _ _ _ h=>by obtain ⟨v,rfl,_⟩:=h;simp) hgI hf (fun base S0 cs0 hn=>h x y hxy base S0 cs0 hn) w S args hI hS hargs).mono fun e w' h=>by
  obtain ⟨⟨v,e1,e2⟩,e3⟩:=h
  exact ⟨v,e1,e2,e3⟩
end
universe u
section
variable {α:Type u}
def Zzs (i:IntKind) (k:IntKind→α):α:=match i with
 | .i8=>k .i8 | .i16=>k .i16 | .i32=>k .i32 | .i64=>k .i64 | .u8=>k .u8 | .u16=>k .u16 | .u32=>k .u32 | .u64=>k .u64
def ZzN (v:Value) (k:Value→α):α:=match v with
 | .int i n=>Zzs i fun i=>k (.int i n)
 | .bool b=>k (.bool b)
 | .string s=>k (.string s)
 | .tuple us=>k (.tuple us)
 | v=>k v
def Zxv (b:Bool) (k:Bool→α):α:=match b with
 | true=>k true
 | false=>k false
theorem Zwu (i:IntKind) (k:IntKind→α):Zzs i k=k i:=by cases i <;> rfl
theorem Zwv (v:Value) (k:Value→α):ZzN v k=k v:=by cases v <;> simp only [ZzN,Zwu]
theorem Zvb (b:Bool) (k:Bool→α):Zxv b k=k b:=by cases b <;> rfl
def ZqZ (tbl:List Nat) (n:Nat) (k:Nat→α):α:=match tbl with
 | []=>k n
 | t::tbl=>bif Nat.beq n t then k t else ZqZ tbl n k
termination_by structural tbl
theorem ZPI : ∀ (tbl:List Nat) (n:Nat) (k:Nat→α),ZqZ tbl n k=k n
 | [],_,_=>rfl
 | t::tbl,n,k=>by
  rw [ZqZ]
  cases h:Nat.beq n t with
  | true=>simp [Nat.eq_of_beq_eq_true h]
  | false=>exact ZPI tbl n k
def small:List Nat:=[0,1,2,3,4,5,6,7,8,9,10,11,12,13,14,15,16,17,18,19,20,21,22,23,24,25,26,27,28,29,30,31,32,33,34,35,36,37,38,39,40]
mutual
def kPV (p:PV) (k:PV→α):α:=match p with
 | .val v=>ZzN v fun v=>k (.val v)
 | .rows t l c=>Zxv c fun c=>k (.rows t l c)
 | .sl b off len=>ZqZ small b fun b=>k (.sl b off len)
 | .all b=>ZqZ small b fun b=>k (.all b)
 | .cs b off len sz=>ZqZ small b fun b=>k (.cs b off len sz)
 | .ptr b off=>ZqZ small b fun b=>ZqZ small off fun off=>k (.ptr b off)
 | .rptr b i j=>ZqZ small b fun b=>ZqZ small j fun j=>k (.rptr b i j)
 | .pin t x j=>k (.pin t x j)
 | .func fn f c=>ZvB f fun f=>ZvB c fun c=>k (.func fn f c)
 | .iface t x=>kPV x fun x=>k (.iface t x)
 | .agg cs=>ZvB cs fun cs=>k (.agg cs)
 | .tuple vs=>ZvB vs fun vs=>k (.tuple vs)
 | .emp=>k .emp
 | .junk=>k .junk
 | .tab t l=>k (.tab t l)
 | .head b=>ZqZ small b fun b=>k (.head b)
 | .nos b off=>ZqZ small b fun b=>ZqZ small off fun off=>k (.nos b off)
 | .mp b=>ZqZ small b fun b=>k (.mp b)
termination_by structural p
def ZvB (ps:List PV) (k:List PV→α):α:=match ps with
 | []=>k []
 | p::ps=>kPV p fun p=>ZvB ps fun ps=>k (p::ps)
termination_by structural ps
end
mutual
theorem ZwN : ∀ (p:PV) (k:PV→α),kPV p k=k p
 | .val v,k=>Zwv v _
 | .rows t l c,k=>Zvb c _
 | .sl b off len,k=>ZPI _ _ _
 | .all b,k=>ZPI _ _ _
 | .cs b off len sz,k=>ZPI _ _ _
 | .ptr b off,k=>by rw [kPV,ZPI,ZPI]
 | .rptr b i j,k=>by rw [kPV,ZPI,ZPI]
 | .pin t x j,k=>rfl
 | .func fn f c,k=>by rw [kPV,Ze0 f,Ze0 c]
 | .iface t x,k=>by rw [kPV,ZwN x]
 | .agg cs,k=>by rw [kPV,Ze0 cs]
 | .tuple vs,k=>by rw [kPV,Ze0 vs]
 | .emp,k=>rfl
 | .junk,k=>rfl
 | .tab t l,k=>rfl
 | .head b,k=>by rw [kPV,ZPI]
 | .nos b off,k=>by rw [kPV,ZPI,ZPI]
 | .mp b,k=>by rw [kPV,ZPI]
theorem Ze0 : ∀ (ps:List PV) (k:List PV→α),ZvB ps k=k ps
 | [],k=>rfl
 | p::ps,k=>by rw [ZvB,ZwN p,Ze0 ps]
end
def kAO (o:Option AO) (k:Option AO→α):α:=match o with
 | none=>k none
 | some (.cells e cs)=>ZvB cs fun cs=>k (some (.cells e cs))
 | some (.row t l)=>k (some (.row t l))
 | some (.fro t l)=>k (some (.fro t l))
 | some .res=>k (some .res)
 | some (.map kt vt l)=>k (some (.map kt vt l))
 | some (.mapF kt l ps)=>ZvB ps fun ps=>k (some (.mapF kt l ps))
theorem Zxw (o:Option AO) (k:Option AO→α):kAO o k=k o:=by
 cases o with
 | none=>rfl
 | some o=>cases o <;> first | rfl | exact Ze0 _ _
def Zvc (H:ZAZ) (k:ZAZ→α):α:=match H with
 | []=>k []
 | o::H=>kAO o fun o=>Zvc H fun H=>k (o::H)
termination_by structural H
theorem Zrq : ∀ (H:ZAZ) (k:ZAZ→α),Zvc H k=k H
 | [],_=>rfl
 | o::H,k=>by rw [Zvc,Zxw,Zrq H]
def Zqy {β:Type} (l:List β) (k:List β→α):α:=match l with
 | []=>k []
 | x::l=>Zqy l fun l=>k (x::l)
termination_by structural l
theorem ZoR {β:Type} : ∀ (l:List β) (k:List β→α),Zqy l k=k l
 | [],_=>rfl
 | x::l,k=>by rw [Zqy,ZoR l]
def kFt (x:Nat×Ft) (k:Nat×Ft→α):α:=match x with
 | (i,⟨r,w,n⟩)=>Zqy r fun r=>Zqy w fun w=>Zqy n fun n=>k (i,⟨r,w,n⟩)
theorem Zxx (x:Nat×Ft) (k:Nat×Ft→α):kFt x k=k x:=by
 obtain ⟨i,r,w,n⟩:=x
 simp only [kFt,ZoR]
def Zy6 (l:List (Nat×Ft)) (k:List (Nat×Ft)→α):α:=match l with
 | []=>k []
 | x::l=>kFt x fun x=>Zy6 l fun l=>k (x::l)
termination_by structural l
theorem Zts : ∀ (l:List (Nat×Ft)) (k:List (Nat×Ft)→α),Zy6 l k=k l
 | [],_=>rfl
 | x::l,k=>by rw [Zy6,Zxx,Zts l]
def kFr (Ks:List Nat) (f:Fr) (k:Fr→α):α:=match f with
 | ⟨K,path,ix,env,start,feet⟩=>ZqZ Ks K fun K=>Zqy path fun path=>ZvB env fun env=>Zy6 feet fun feet=>match ix with
  | none=>match start with
   | none=>k ⟨K,path,none,env,none,feet⟩
   | some (e,h)=>k ⟨K,path,none,env,some (e,h),feet⟩
  | some i=>ZqZ small i fun i=>match start with
   | none=>k ⟨K,path,some i,env,none,feet⟩
   | some (e,h)=>k ⟨K,path,some i,env,some (e,h),feet⟩
theorem ZwO (Ks:List Nat) (f:Fr) (k:Fr→α):kFr Ks f k=k f:=by
 obtain ⟨K,path,ix,env,start,feet⟩:=f
 simp only [kFr,ZPI,ZoR,Ze0,Zts]
 cases ix <;> cases start <;> rfl
def Zy7 (Ks:List Nat) (l:List Fr) (k:List Fr→α):α:=match l with
 | []=>k []
 | x::l=>kFr Ks x fun x=>Zy7 Ks l fun l=>k (x::l)
termination_by structural l
theorem Ztt (Ks:List Nat) : ∀ (l:List Fr) (k:List Fr→α),Zy7 Ks l k=k l
 | [],_=>rfl
 | x::l,k=>by rw [Zy7,ZwO,Ztt Ks l]
def ZzO (Ks:List Nat) (c:Cfg) (k:Cfg→α):α:=match c with
 | ⟨top,rest,H⟩=>kFr Ks top fun top=>Zy7 Ks rest fun rest=>Zvc H fun H=>k ⟨top,rest,H⟩
theorem Zww (Ks:List Nat) (c:Cfg) (k:Cfg→α):ZzO Ks c k=k c:=by
 obtain ⟨top,rest,H⟩:=c
 simp only [ZzO,ZwO,Ztt,Zrq]
end
section
variable {P:Program} {I:World→Prop} {g:Nat} (M:Mach P I g) {R:Type} (fin:Fins R)
noncomputable def ZnY (Ks:List Nat) (X:Cfg→Option (Option R)):Nat→Cfg→Option R
 | 0,_=>none
 | n+1,c=>(Zva M fin c).run fun c'=>ZzO Ks c' fun c'=>match X c' with
  | some o=>o
  | none=>ZnY Ks X n c'
theorem Ztu (Ks:List Nat) (X:Cfg→Option (Option R)) : ∀ (n:Nat) (c:Cfg),ZnY M fin Ks X n c=Zy5 M fin X n c
 | 0,_=>rfl
 | n+1,c=>by
  simp only [ZnY,Zy5,Zww]
  congr 1
  all_goals (funext c';rw [Ztu Ks X n];try (cases X c' <;> rfl))
end
structure FPat where
 K:Nat
 path:List Nat
 ix:Option Nat
 env:List Pat
 pad:Nat
structure CPat where
 top:FPat
 rest:List FPat
 H:List HPat
 fix:Nat
@[reducible] def Zse:List FPat→Type
 | []=>Unit
 | f::fs=>ZH1 f.env×Zse fs
@[reducible] def ZC9 (c:CPat):Type:=ZH1 c.top.env×Zse c.rest×ZLQ c.H
def ZoS (f:FPat) (x:ZH1 f.env):Fr:=⟨f.K,f.path,f.ix,ZIt f.env x++List.replicate f.pad .junk,none,[]⟩
def ZnZ:(fs:List FPat)→Zse fs→List Fr
 | [],_=>[]
 | f::fs,x=>ZoS f x.1::ZnZ fs x.2
def ZTJ (c:CPat) (x:ZC9 c):Cfg:=⟨ZoS c.top x.1,ZnZ c.rest x.2.1,ZBA c.H x.2.2⟩
def Zrr:List Nat→List Nat→Bool
 | [],[]=>true
 | a::l,b::m=>Nat.beq a b&&Zrr l m
 | _,_=>false
def Zzt:Option Nat→Option Nat→Bool
 | none,none=>true
 | some a,some b=>Nat.beq a b
 | _,_=>false
theorem Zpp : ∀ {l m:List Nat},Zrr l m=true→l=m
 | [],[],_=>rfl
 | a::l,b::m,h=>by
  simp only [Zrr,Bool.and_eq_true] at h
  rw [Nat.eq_of_beq_eq_true h.1,Zpp h.2]
 | [],_::_,h=>by cases h
 | _::_,[],h=>by cases h
theorem Zwx : ∀ {l m:Option Nat},Zzt l m=true→l=m
 | none,none,_=>rfl
 | some a,some b,h=>by rw [Nat.eq_of_beq_eq_true h]
 | none,some _,h=>by cases h
 | some _,none,h=>by cases h
def Ztv {α:Type u}:Option α→Bool
 | none=>true
 | some _=>false
def atF (f:FPat) (fr:Fr):Bool:=Nat.beq fr.K f.K&&Zrr fr.path f.path&&Zzt fr.ix f.ix&&Ztv fr.start&&Nat.beq fr.env.length (f.env.length+f.pad)
def Zxj:List FPat→List Fr→Bool
 | [],[]=>true
 | f::fs,fr::frs=>atF f fr&&Zxj fs frs
 | _,_=>false
section
variable {β:Type u} (H:ZAZ)
def Zxy (ps:List Pat) (vs:List PV) (s:Sig) (k:ZH1 ps→Sig→Option β):Option β:=match ps,k with
 | [],k=>k () s
 | p::ps,k=>match vs with
  | v::vs=>pm H p v s fun x s=>Zxy ps vs s fun y s=>k (x,y) s
  | []=>none
termination_by structural ps
def Zy8:(fs:List FPat)→List Fr→Sig→(Zse fs→Sig→Option β)→Option β
 | [],_,s,k=>k () s
 | f::fs,frs,s,k=>match frs with
  | fr::frs=>Zxy H f.env fr.env s fun x s=>Zy8 fs frs s fun y s=>k (x,y) s
  | []=>none
end
def pmC {β:Type u} (p:CPat) (c:Cfg) (k:ZC9 p→Option β):Option β :=
 bif atF p.top c.top&&Zxj p.rest c.rest then
  Zxy c.H p.top.env c.top.env (Zwm p.fix p.H.length) fun x s=>Zy8 c.H p.rest c.rest s fun y s=>ZjB c.H p.H 0 s fun z s=>bif s.fine p.H&&Nat.ble p.fix p.H.length then k (x,y,z) else none
 else none
theorem Zna {α:Type u} {o:Option α} (h:Ztv o=true):o=none:=by cases o with | none=>rfl | some _=>cases h
section
variable {P:Program} {I:World→Prop} {g:Nat} {M:Mach P I g} {R:Type} {fin:Fins R}
variable {base:Base} {S0:Nat→Prop} {cs0:List Frame} {post:World→Ending→R→Prop}
variable {ρ:Loc} {H:ZAZ} {w:World} {S:Nat→Prop} {β:Type u}
theorem Waits.turn {H':ZAZ} {ρ':Loc} {S':Nat→Prop} {fr fr':Fr} {conc:Frame} (hK:fr'.K=fr.K) (hp:fr'.path=fr.path) (hi:fr'.ix=fr.ix) (hs:fr'.start=none)
  (he : ∀ us,ZAQ ρ H w S fr.env us→ZAQ ρ' H' w S' fr'.env us) (k:Waits M ρ H w S fr conc):Waits M ρ' H' w S' fr' conc:=by
 obtain ⟨b,a,ops,id,kk,i,o,f,body,h1,h2,h3,h4,h5,h6,h7,h8,h9,h10,h11⟩:=k.is
 exact ⟨b,a,ops,id,kk,i,o,f,body,h1,hK ▸ h2,h3,h4,hK ▸ h5,h6,hp ▸ h7,hi ▸ h8,h9,he _ h10,hs⟩
theorem Ztw {f:FPat} {fr:Fr} (h:atF f fr=true) (x:ZH1 f.env):(ZoS f x).K=fr.K∧(ZoS f x).path=fr.path∧(ZoS f x).ix=fr.ix∧fr.start=none:=by
 simp only [atF,Bool.and_eq_true] at h
 obtain ⟨⟨⟨⟨h1,h2⟩,h3⟩,h4⟩,_⟩:=h
 exact ⟨(Nat.eq_of_beq_eq_true h1).symm,(Zpp h2).symm,(Zwx h3).symm,Zna h4⟩
theorem ZAQ.junks {ρ:Loc} {H:ZAZ} {w:World} {S:Nat→Prop} : ∀ (us:List Value) {n:Nat},us.length=n→ZAQ ρ H w S (List.replicate n .junk) us
 | [],_,h=>by subst h;rfl
 | u::us,n,h=>by
  subst h
  exact ⟨u,us,rfl,trivial,ZAQ.junks us rfl⟩
theorem Zqz (hh:HRel base S0 ρ H w S) : ∀ (ps:List Pat) (vs:List PV) (s:Sig) (k:ZH1 ps→Sig→Option β) (y:β) (n:Nat),vs.length=ps.length+n→Zxy H ps vs s k=some y →
  ∃ x s',k x s'=some y∧s.le s'∧ZpX ρ H w S s' vs (ZIt ps x++List.replicate n .junk)
 | [],vs,s,k,y,n,hl,h=>⟨(),s,h,s.le_refl,fun H' ρ' S' _ us hu=>by
   have:=hu.length
   exact ZAQ.junks us (by simp at hl;omega)⟩
 | p::ps,vs,s,k,y,n,hl,h=>by
  cases vs with
  | nil=>simp at hl;omega
  | cons v vs=>
   simp only [Zxy] at h
   obtain ⟨x1,s1,h3,l1,t1⟩:=ZvU hh _ _ _ _ _ h
   obtain ⟨x2,s2,h4,l2,t2⟩:=Zqz hh ps vs s1 _ y n (by simp at hl;omega) h3
   refine ⟨(x1,x2),s2,h4,Sig.le_trans l1 l2,fun H' ρ' S' g us hu => ?_⟩
   simp only [ZAQ] at hu
   obtain ⟨u,us',rfl,g1,g2⟩:=hu
   exact ⟨u,_,rfl,t1.le l2 H' ρ' S' g u g1,t2 H' ρ' S' g us' g2⟩
theorem Ztx {f:FPat} {fr:Fr} (h:atF f fr=true):fr.env.length=f.env.length+f.pad:=by
 simp only [atF,Bool.and_eq_true] at h
 exact Nat.eq_of_beq_eq_true h.2
theorem Zty (hh:HRel base S0 ρ H w S) : ∀ (fs:List FPat) (frs:List Fr) (s:Sig) (k:Zse fs→Sig→Option β) (y:β),Zxj fs frs=true→Zy8 H fs frs s k=some y →
  ∃ x s',k x s'=some y∧s.le s' ∧ ∀ sF,s'.le sF → ∀ H' ρ' S',Good sF H ρ w S H' ρ' S' → ∀ cs,Stack M cs0 ρ H w S frs cs→Stack M cs0 ρ' H' w S' (ZnZ fs x) cs
 | [],frs,s,k,y,ha,h=>by
  cases frs with
  | nil=>exact ⟨(),s,h,s.le_refl,fun _ _ _ _ _ _ cs hs=>by cases hs;exact .nil⟩
  | cons _ _=>cases ha
 | f::fs,frs,s,k,y,ha,h=>by
  cases frs with
  | nil=>cases ha
  | cons fr frs=>
   simp only [Zxj,Bool.and_eq_true] at ha
   simp only [Zy8] at h
   obtain ⟨x1,s1,h3,l1,t1⟩:=Zqz hh _ _ _ _ _ _ (Ztx ha.1) h
   obtain ⟨x2,s2,h4,l2,t2⟩:=Zty hh fs frs s1 _ y ha.2 h3
   refine ⟨(x1,x2),s2,h4,Sig.le_trans l1 l2,fun sF hF H' ρ' S' g cs hs => ?_⟩
   cases hs with
   | cons w1 r1=>
    obtain ⟨e1,e2,e3,e4⟩:=Ztw ha.1 x1
    exact .cons (w1.turn e1 e2 e3 rfl (t1.le (Sig.le_trans l2 hF) H' ρ' S' g)) (t2 sF hF H' ρ' S' g _ r1)
theorem Zpq : ∀ (fs:List FPat) (frs:List Fr) (x:Zse fs) (K:Nat),Zxj fs frs=true→ZRl K (ZnZ fs x)=ZRl K frs
 | [],[],_,_,_=>rfl
 | f::fs,fr::frs,x,K,h=>by
  simp only [Zxj,Bool.and_eq_true] at h
  obtain ⟨e1,_⟩:=Ztw h.1 x.1
  simp only [ZnZ,ZRl]
  rw [e1]
  exact Zpq fs frs x.2 _ h.2
 | [],_::_,_,_,h=>by cases h
 | _::_,[],_,_,h=>by cases h
theorem Zxz {p:CPat} {c:Cfg} {k:ZC9 p→Option β} {y:β} {r:R} (hfix:base.n≤p.fix) (h:pmC p c k=some y) (hS : ∀ x,k x=some y→Sound M base S0 cs0 post (ZTJ p x) r):Sound M base S0 cs0 post c r:=by
 unfold pmC at h
 obtain ⟨ha,h⟩:=ZBJ h
 simp only [Bool.and_eq_true] at ha
 obtain ⟨ha1,ha2⟩:=ha
 have hst:c.top.start=none:=by
  simp only [atF,Bool.and_eq_true] at ha1
  exact Zna ha1.1.2
 intro ρ w S b a todo cs hI hg hh he hstand hstack htr
 have eH:c.H0=c.H:=by unfold Cfg.H0;rw [hst]
 have eE:c.env0=c.top.env:=by unfold Cfg.env0;rw [hst]
 rw [eH] at hh hstack he
 rw [eE] at he
 obtain ⟨x1,s1,h1,l1,t1⟩:=Zqz hh _ _ _ _ _ _ (Ztx ha1) h
 obtain ⟨x2,s2,h2,l2,t2⟩:=Zty (M:=M) (cs0:=cs0) hh _ _ _ _ _ ha2 h1
 obtain ⟨x3,s3,h3,l3,t3⟩:=Zke hh _ _ _ _ _ h2
 obtain ⟨hf,h4⟩:=ZBJ h3
 simp only [Bool.and_eq_true] at hf
 obtain ⟨hf,hle⟩:=hf
 have hle:p.fix≤p.H.length:=Nat.le_of_ble_eq_true hle
 have l13:=Sig.le_trans l1 (Sig.le_trans l2 l3)
 obtain ⟨ρ',S',hh',good⟩:=Zta hh (x:=x3) (s3:=s3) hfix hle hf (by rw [l13.2.2,Zes hle]) (fun c hc=>l13.1 _ _ (ZtZ hc))
  (fun i hi=>by have:=(t3 s3 s3.le_refl i hi).2;rwa [Nat.zero_add] at this)
 let H':=ZBA p.H x3
 obtain ⟨e1,e2,e3,e4⟩:=Ztw ha1 x1
 have hS1:=hS (x1,x2,x3) h4
 have:=hS1 ρ' w S' b a todo cs hI hg hh' (t1.le (Sig.le_trans l2 l3) H' ρ' S' good _ he) ?_ (t2 s3 l3 H' ρ' S' good cs hstack) trivial
 ·
  show Fin P (ZRl c.top.K c.rest) base cs0 post w (lone (b.at a todo) cs w) r
  have eb:ZRl (ZTJ p (x1,x2,x3)).top.K (ZTJ p (x1,x2,x3)).rest=ZRl c.top.K c.rest:=by
   show ZRl (ZoS p.top x1).K (ZnZ p.rest x2)=_
   rw [Zpq _ _ _ _ ha2,e1]
  rw [eb] at this
  exact this
 ·
  obtain ⟨h1,h2,h3,f,body,code,kk,h5,h6,h7,h8⟩:=hstand
  refine ⟨h1.trans e1.symm,h2,h3,f,body,code,kk,?_,h6,?_,?_⟩
  ·
   show M.fn (ZoS p.top x1).K=_
   rw [e1];exact h5
  ·
   show ZBn body (ZoS p.top x1).path []=_
   rw [e2];exact h7
  ·
   show match (ZoS p.top x1).ix with | none=>_ | some i=>_
   rw [e3]
   cases hix:c.top.ix with
   | none=>
    rw [hix] at h8
    exact ⟨rfl,h8.2⟩
   | some i=>
    rw [hix,hst] at h8
    exact h8
end
def cut {R:Type} (p:CPat) (J:ZC9 p→Option R) (X:Cfg→Option (Option R)):Cfg→Option (Option R):=fun c=>
 match pmC p c fun x=>some (J x) with
 | some o=>some o
 | none=>X c
def nowhere {R:Type}:Cfg→Option (Option R):=fun _=>none
section
variable {P:Program} {I:World→Prop} {g:Nat} (M:Mach P I g) {R:Type} (fin:Fins R)
variable (base:Base) (S0:Nat→Prop) (cs0:List Frame) (post:World→Ending→R→Prop)
def ZAH (X:Cfg→Option (Option R)):Prop := ∀ c r,X c=some (some r)→Sound M base S0 cs0 post c r
def ZAb (p:CPat) (J:ZC9 p→Option R):Prop := ∀ x r,J x=some r→Sound M base S0 cs0 post (ZTJ p x) r
variable {M fin base S0 cs0 post}
theorem ZAH.nowhere:ZAH M base S0 cs0 post (nowhere (R:=R)):=fun _ _ h=>by cases h
theorem ZAH.cut {X:Cfg→Option (Option R)} (hX:ZAH M base S0 cs0 post X) {p:CPat} (hfix:base.n≤p.fix) {J:ZC9 p→Option R} (hJ:ZAb M base S0 cs0 post p J):ZAH M base S0 cs0 post (cut p J X):=by
 intro c r h
 unfold V.cut at h
 split at h
 ·
  rename_i o ho
  cases h
  exact Zxz hfix ho (fun x hx=>hJ x r (by simpa using hx))
 · exact hX c r h
theorem ZIf (hfin:FinOk fin base S0 post) {X:Cfg→Option (Option R)} (hX:ZAH M base S0 cs0 post X) {Ks:List Nat} {n:Nat} {c:Cfg} {r:R} (h:ZnY M fin Ks X n c=some r):Sound M base S0 cs0 post c r :=
 ZnW hfin (fun c' h'=>hX c' r h') n c ((Ztu M fin Ks X n c).symm.trans h)
theorem ZAb.join (hfin:FinOk fin base S0 post) {X:Cfg→Option (Option R)} (hX:ZAH M base S0 cs0 post X) (Ks:List Nat) (n:Nat) {p:CPat} {J:ZC9 p→Option R} (h : ∀ x,J x=ZnY M fin Ks X n (ZTJ p x)):ZAb M base S0 cs0 post p J :=
 fun x _ hx=>ZIf hfin hX ((h x).symm.trans hx)
theorem ZAb.loop (hfin:FinOk fin base S0 post) {X:Cfg→Option (Option R)} (hX:ZAH M base S0 cs0 post X) (Ks:List Nat) (n:Nat) {p:CPat} (hfix:base.n≤p.fix) {L:Nat→ZC9 p→Option R} (h0 : ∀ x,L 0 x=none) (hs : ∀ m x,L (m+1) x=ZnY M fin Ks (cut p (L m) X) n (ZTJ p x)) :
  ∀ m,ZAb M base S0 cs0 post p (L m):=by
 intro m
 induction m with
 | zero=>intro x r h;rw [h0] at h;cases h
 | succ m ih=>exact ZAb.join hfin (hX.cut hfix ih) Ks n (hs m)
theorem ZAb.loop' (hfin:FinOk fin base S0 post) (Ks:List Nat) (n:Nat) {p:CPat} {A:Type} (un:A→ZC9 p→Option R) (X':A→Cfg→Option (Option R)) (hX' : ∀ k,ZAb M base S0 cs0 post p (un k)→ZAH M base S0 cs0 post (X' k))
  (L:Nat→A) (h0 : ∀ x,un (L 0) x=none) (hs : ∀ m x,un (L (m+1)) x=ZnY M fin Ks (X' (L m)) n (ZTJ p x)) : ∀ m,ZAb M base S0 cs0 post p (un (L m)):=by
 intro m
 induction m with
 | zero=>intro x r h;rw [h0] at h;cases h
 | succ m ih=>exact ZAb.join hfin (hX' _ ih) Ks n (hs m)
end
def Zdd (rs:List Ty):Fins (ZFC rs):=⟨fun ps H=>ZGX rs ps H,fun _=>none⟩
def ZFg (rs:List Ty) (S0:Nat→Prop):World→Ending→ZFC rs→Prop:=Ret fun w v r=>Zib w S0 rs r v
theorem ZAm {P:Program} {I:World→Prop} {g:Nat} {M:Mach P I g} (hgI : ∀ w,I w→g≤w.heap.size) {K:Nat} {c:Con} {f:Func} (hf:M.fn K=some f) (Ks:List Nat) (n:Nat)
  {X:Cfg→Option (Option (ZFC c.results))} (hX : ∀ base S0 cs0,base.n=0→FinOk (Zdd c.results) base S0 (ZFg c.results S0)→ZAH M base S0 cs0 (ZFg c.results S0) X)
  (h : ∀ x,c.F x=ZnY M (Zdd c.results) Ks X n (Zkx K f.ntmps (Zfh c.params x))):c.Sound P I g K :=
 Ztr hgI hf fun x _ hxy base S0 cs0 hn=>ZIf (Ztq c base S0) (hX base S0 cs0 hn (Ztq c base S0)) ((h x).symm.trans hxy)
/-! #### contracts of functions that are given blocks -/
def Zwy (c:HCon):Fins c.R:=⟨fun ps H=>
 pms H c.qa ps (Zwm c.pH.length c.qH.length) fun x s=>ZjB H c.qH 0 s fun z s=>bif s.fine c.qH&&Nat.ble c.pH.length c.qH.length then some (c.proj (x,z)) else none,c.pan⟩
def Zhn (c:HCon) (base:Base) (S0:Nat→Prop) (w:World) (e:Ending) (r:c.R):Prop :=
 (∀ pv,c.bad r=some pv→e = .panicked [{ v:=pv,recovered:=false }])∧(c.bad r=none → ∃ v ρ' S',e = .returned v∧HRel base S0 ρ' (ZBA c.qH (c.out r).2) w S'∧ZAW ρ' (ZBA c.qH (c.out r).2) w S' (Zs0 (ZIt c.qa (c.out r).1)) v)
theorem Ztz {H:ZAZ} {β:Type} : ∀ (qs:List Pat) (vs:List PV) (s:Sig) (k:ZH1 qs→Sig→Option β) (y:β),pms H qs vs s k=some y→qs.length=vs.length
 | [],vs,s,k,y,h=>by
  simp only [pms] at h
  split at h
  · rfl
  · cases h
 | q::qs,vs,s,k,y,h=>by
  simp only [pms] at h
  split at h
  ·
   obtain ⟨x1,s1,h3,_⟩:=ZoG _ _ _ _ _ h
   simp [Ztz qs _ _ _ _ h3]
  · cases h
theorem Zpr : ∀ (qs:List Pat) (x:ZH1 qs),(ZIt qs x).length=qs.length
 | [],_=>rfl
 | _::qs,x=>by simp [ZIt,Zpr qs]
theorem ZoT (c:HCon) {base:Base} (hn:base.n=c.pH.length) (S0:Nat→Prop):FinOk (Zwy c) base S0 (Zhn c base S0):=by
 refine ⟨fun ps H r ρ w S v hf hh hv => ?_,fun v r w h=>⟨fun pv hb=>(by rw [c.pan_bad v r h] at hb;cases hb;rfl),fun hb=>(by rw [c.pan_bad v r h] at hb;cases hb)⟩⟩
 simp only [Zwy] at hf
 have hlen:=Ztz _ _ _ _ _ hf
 obtain ⟨x1,s1,h1,l1,t1⟩:=Zfj hh _ _ _ _ _ hf
 obtain ⟨x3,s3,h3,l3,t3⟩:=Zke hh _ _ _ _ _ h1
 obtain ⟨hchk,hxs⟩:=ZBJ h3
 simp only [Option.some.injEq] at hxs
 subst hxs
 simp only [Bool.and_eq_true] at hchk
 obtain ⟨hfine,hle⟩:=hchk
 have hle:c.pH.length≤c.qH.length:=Nat.le_of_ble_eq_true hle
 have l13:=Sig.le_trans l1 l3
 obtain ⟨ρ',S',hh',good⟩:=Zta hh (x:=x3) (s3:=s3) (n0:=c.pH.length) (Nat.le_of_eq hn) hle hfine (by rw [l13.2.2,Zes hle]) (fun c hc=>l13.1 _ _ (ZtZ hc))
  (fun i hi=>by have:=(t3 s3 s3.le_refl i hi).2;rwa [Nat.zero_add] at this)
 refine ⟨fun pv hb=>(by rw [c.good] at hb;cases hb),fun _ => ?_⟩
 rw [c.out_proj]
 refine ⟨v,ρ',S',rfl,hh',?_⟩
 have tt : ∀ us,ZAQ ρ H w S ps us→ZAQ ρ' (ZBA c.qH x3) w S' (ZIt c.qa x1) us:=t1.le l3 _ ρ' S' good
 have hl2:(ZIt c.qa x1).length=ps.length:=(Zpr _ _).trans hlen
 show ZAW ρ' (ZBA c.qH x3) w S' (Zs0 (ZIt c.qa x1)) v
 match ps,hv,tt,hl2 with
 | [p],hv,tt,hl2=>
  have:=tt [v] ⟨v,[],rfl,hv,rfl⟩
  match hq:ZIt c.qa x1,hl2 with
  | [q],_=>
   rw [hq] at this
   simp only [ZAQ] at this
   obtain ⟨u,us,e,g1,_⟩:=this
   simp at e
   rw [e.1]
   exact g1
 | [],hv,tt,hl2=>
  match hq:ZIt c.qa x1,hl2 with
  | [],_=>exact hv
 | p::q::ps,hv,tt,hl2=>
  have hv':ZAW ρ H w S (.tuple (p::q::ps)) v:=hv
  simp only [ZAW] at hv'
  obtain ⟨us,rfl,h⟩:=hv'
  have:=tt _ h
  match hq:ZIt c.qa x1,hl2 with
  | a::b::l,_=>
   rw [hq] at this
   exact ⟨us,rfl,this⟩
def ZwP (K ntmps:Nat) (ps:List PV) (H:ZAZ):Cfg:=⟨⟨K,[],none,ps++List.replicate (ntmps - ps.length) ZFh,none,[]⟩,[],H⟩
theorem Znb {P:Program} {I:World→Prop} {g:Nat} {M:Mach P I g} {K:Nat} {c:HCon} {f:Func} (hf:M.fn K=some f)
  (h : ∀ x r,c.F x=some r → ∀ base S0 cs0,base.n=c.pH.length→Sound M base S0 cs0 (Zhn c base S0) (ZwP K f.ntmps (ZIt c.pa x.1) (ZBA c.pH x.2)) r):c.Sound P I g K:=by
 intro x y hxy B S0 ρ w S args hI hg hh hargs cs
 obtain ⟨hfn,_,hbody⟩:=M.fn_ok _ _ hf
 obtain ⟨body,hb⟩:=Option.isSome_iff_exists.mp hbody
 have henter:Frame.enter P K args .normal=({ (default:Frame) with fn:=K,kind := .normal }:Frame).at { tmps:=args++Array.replicate (f.ntmps - args.size) undef,defers:=[] } [.code body]:=by
  simp [Frame.enter,Frame.at,hfn,hb]
 have hlen:(ZIt c.pa x.1).length=args.size:=by have:=hargs.length;simpa using this
 have:=h x y hxy ⟨B,c.pH.length,ρ,ZBA c.pH x.2⟩ S0 cs rfl ρ w S ({ (default:Frame) with fn:=K,kind := .normal }:Frame) { tmps:=args++Array.replicate (f.ntmps - args.size) undef,defers:=[] } [.code body] cs hI hg hh
  (by
   have e:(args++Array.replicate (f.ntmps - args.size) undef).toList=args.toList++List.replicate (f.ntmps - (ZIt c.pa x.1).length) undef:=by simp [hlen]
   simp only [e]
   exact hargs.append (ZAQ.replicate _))
  ⟨rfl,rfl,rfl,f,body,body,[],hf,hb,rfl,rfl,.inl rfl⟩ .nil trivial
 obtain ⟨fr,w',e,h1,h2,h3,⟨h4,h4'⟩,h5⟩:=this
 refine ⟨e,w',fr,⟨fun pv hb=>⟨h4 pv hb,h5⟩,fun hb => ?_⟩,?_,h2,h3⟩
 ·
  obtain ⟨v,ρ',S',rfl,q1,q2⟩:=h4' hb
  exact ⟨v,ρ',S',rfl,q1,q2,h5⟩
 ·
  rw [henter]
  refine Zdc h1 ?_
  cases hb:c.bad y with
  | some pv=>rw [h4 pv hb];simp
  | none=>obtain ⟨v,ρ',S',rfl,q1,q2⟩:=h4' hb;simp
theorem ZF2 {P:Program} {I:World→Prop} {g:Nat} {M:Mach P I g} {K:Nat} {c:HCon} {f:Func} (hf:M.fn K=some f) (Ks:List Nat) (n:Nat)
  {X:Cfg→Option (Option c.R)} (hX : ∀ base S0 cs0,base.n=c.pH.length→FinOk (Zwy c) base S0 (Zhn c base S0)→ZAH M base S0 cs0 (Zhn c base S0) X)
  (h : ∀ x,c.F x=ZnY M (Zwy c) Ks X n (ZwP K f.ntmps (ZIt c.pa x.1) (ZBA c.pH x.2))):c.Sound P I g K :=
 Znb hf fun x _ hxy base S0 cs0 hn=>ZIf (ZoT c hn S0) (hX base S0 cs0 hn (ZoT c hn S0)) ((h x).symm.trans hxy)
def ZAa (P:Program) (K:Nat) (f:Func):Prop:=P.funcs[K]? = some f∧(f.name == "runtime.NumGoroutine")=false∧f.body.isSome=true
theorem ZAa.callable {P:Program} {K:Nat} {f:Func} (h:ZAa P K f):ZNH P K:=⟨f,h⟩
def Zwz (P:Program):List (Nat×Func)→Prop
 | []=>True
 | x::l=>ZAa P x.1 x.2∧Zwz P l
def Zt0 (P:Program) (I:World→Prop) (g:Nat):List (Nat×Con)→Prop
 | []=>True
 | x::l=>(x.2.Sound P I g x.1∧ZNH P x.1)∧Zt0 P I g l
def Zq0 (P:Program) (I:World→Prop) (g:Nat):List (Nat×OCon)→Prop
 | []=>True
 | x::l=>(x.2.Sound P I g x.1∧ZNH P x.1)∧Zq0 P I g l
def Zq1 (P:Program) (I:World→Prop) (g:Nat):List (Nat×HCon)→Prop
 | []=>True
 | x::l=>(x.2.Sound P I g x.1∧ZNH P x.1)∧Zq1 P I g l
def Zt1:List (Nat×HCon)→Nat→List HCon
 | [],_=>[]
 | (a,b)::l,K=>bif Nat.beq a K then b::Zt1 l K else Zt1 l K
theorem ZoU {P:Program} {I:World→Prop} {g:Nat} : ∀ {l:List (Nat×HCon)},Zq1 P I g l → ∀ {K c},c∈Zt1 l K→c.Sound P I g K∧ZNH P K
 | [],_,_,_,h=>by cases h
 | (a,b)::l,hl,K,f,h=>by
  simp only [Zt1] at h
  cases e:Nat.beq a K with
  | true=>
   rw [e] at h
   obtain rfl:=Nat.eq_of_beq_eq_true e
   rcases List.mem_cons.mp h with rfl | h
   · exact hl.1
   · exact ZoU hl.2 h
  | false=>rw [e] at h;exact ZoU hl.2 h
def Zho {α:Type}:List (Nat×α)→Nat→Option α
 | [],_=>none
 | (a,b)::l,K=>bif Nat.beq a K then some b else Zho l K
theorem Zrs {P:Program} : ∀ {l:List (Nat×Func)},Zwz P l → ∀ {K f},Zho l K=some f→ZAa P K f
 | [],_,_,_,h=>by cases h
 | (a,b)::l,hl,K,f,h=>by
  simp only [Zho] at h
  cases e:Nat.beq a K with
  | true=>
   rw [e] at h;cases h
   obtain rfl:=Nat.eq_of_beq_eq_true e
   exact hl.1
  | false=>rw [e] at h;exact Zrs hl.2 h
theorem Zrt {P:Program} {I:World→Prop} {g:Nat} : ∀ {l:List (Nat×Con)},Zt0 P I g l → ∀ {K c},Zho l K=some c→c.Sound P I g K∧ZNH P K
 | [],_,_,_,h=>by cases h
 | (a,b)::l,hl,K,f,h=>by
  simp only [Zho] at h
  cases e:Nat.beq a K with
  | true=>
   rw [e] at h;cases h
   obtain rfl:=Nat.eq_of_beq_eq_true e
   exact hl.1
  | false=>rw [e] at h;exact Zrt hl.2 h
theorem Zru {P:Program} {I:World→Prop} {g:Nat} : ∀ {l:List (Nat×OCon)},Zq0 P I g l → ∀ {K c},Zho l K=some c→c.Sound P I g K∧ZNH P K
 | [],_,_,_,h=>by cases h
 | (a,b)::l,hl,K,f,h=>by
  simp only [Zho] at h
  cases e:Nat.beq a K with
  | true=>
   rw [e] at h;cases h
   obtain rfl:=Nat.eq_of_beq_eq_true e
   exact hl.1
  | false=>rw [e] at h;exact Zru hl.2 h
structure Bas (P:Program) (I:World→Prop) (g:Nat) where
 keep : ∀ w w' B,g≤B→Below B w w'→I w→I w'
 mixed:P.follows .mixedOrders=true
 ext:Nat→Bool
 ext_ok : ∀ K,ext K=true → ∀ v w,(callFunc K #[v]).run P w = .ok (.value v) w
 gl:Nat→PV
 gl_ok : ∀ k w S,I w→(∀ b,S b→g≤b) → ∀ ρ H,ZAW ρ H w S (gl k) (.pointer (some ⟨k,0,none⟩))
def ZFE {P:Program} {I:World→Prop} {g:Nat} (B:Bas P I g)
  (fns:List (Nat×Func)) (hf:Zwz P fns) (cons:List (Nat×Con)) (hc:Zt0 P I g cons) (ocons:List (Nat×OCon)) (ho:Zq0 P I g ocons) (hcons:List (Nat×HCon)) (hh:Zq1 P I g hcons):Mach P I g where
 fn:=Zho fns
 fn_ok:=fun _ _ h=>Zrs hf h
 con:=Zho cons
 con_ok:=fun _ _ h=>Zrt hc h
 ocon:=Zho ocons
 ocon_ok:=fun _ _ h=>Zru ho h
 hcon:=Zt1 hcons
 hcon_ok:=fun _ _ h=>ZoU hh h
 keep:=B.keep
 mixed:=B.mixed
 ext:=B.ext
 ext_ok:=B.ext_ok
 gl:=B.gl
 gl_ok:=B.gl_ok
def Zfp (w:World):List (Nat×(Σ t:Ty,List t.den))→Prop
 | []=>True
 | x::l=>(∃ arr e fz,w.heap[x.1]? = some (.cells arr e fz) ∧ ∀ i (h:i<x.2.2.length),∃ vs,Rep w (fun _=>True) x.2.1 x.2.2[i] vs∧At arr (i*x.2.1.size) vs)∧Zfp w l
def Zvd (l:List (Nat×(Σ t:Ty,List t.den))) (k:Nat):PV:=match Zho l k with
 | some x => .tab x.1 x.2
 | none => .junk
def Zav (g:Nat):List (Nat×(Σ t:Ty,List t.den))→Bool
 | []=>true
 | x::l=>decide (x.1<g)&&Zav g l
theorem Zfp.keep {g:Nat} {w w':World} {B:Nat} (hB:g≤B) (hb:Below B w w') : ∀ {l:List (Nat×(Σ t:Ty,List t.den))},Zav g l=true→Zfp w l→Zfp w' l
 | [],_,h=>h
 | x::l,hg,h=>by
  simp only [Zav,Bool.and_eq_true,decide_eq_true_eq] at hg
  obtain ⟨⟨arr,e,fz,h1,h2⟩,h3⟩:=h
  refine ⟨⟨arr,e,fz,(hb.block x.1 (by omega)).trans h1,fun i hi => ?_⟩,Zfp.keep hB hb hg.2 h3⟩
  obtain ⟨vs,k1,k2⟩:=h2 i hi
  refine ⟨vs,k1.mono ⟨hb.size,fun b _ hs=>absurd trivial hs⟩ (fun _ _ h=>h),k2⟩
theorem Zt2 {g:Nat} {w:World} {S:Nat→Prop} (hS : ∀ b,S b→g≤b) {ρ:Loc} {H:ZAZ} {k:Nat} : ∀ {l:List (Nat×(Σ t:Ty,List t.den))},Zav g l=true→Zfp w l→ZAW ρ H w S (Zvd l k) (.pointer (some ⟨k,0,none⟩))
 | [],_,_=>by simp [Zvd,Zho,ZAW]
 | (a,x)::l,hg,h=>by
  simp only [Zav,Bool.and_eq_true,decide_eq_true_eq] at hg
  obtain ⟨⟨arr,e,fz,h1,h2⟩,h3⟩:=h
  unfold Zvd
  simp only [Zho]
  cases ek:Nat.beq a k with
  | true=>
   obtain rfl:=Nat.eq_of_beq_eq_true ek
   simp only [cond_true,ZAW]
   refine ⟨a,0,arr,e,fz,rfl,fun hs=>by have:=hS a hs;omega,h1,fun i hi => ?_⟩
   obtain ⟨vs,k1,k2⟩:=h2 i hi
   exact ⟨vs,k1.mono (Same.refl _ _) (fun _ _ _=>trivial),by simpa using k2⟩
  | false=>
   simp only [cond_false]
   exact Zt2 hS hg.2 h3
def Wf:(t:Ty)→t.den→Prop
 | .unit,_=>True
 | .int k,n=>(Lit.int k n).wf=true
 | .byt _,n=>(Lit.int .u8 n).wf=true
 | .bool,_=>True
 | .str,s=>s.size≤maxLen
 | .pair a b,x=>Wf a x.1∧Wf b x.2
 | .slice t,l=>l.length≤maxLen ∧ ∀ x∈l,Wf t x
def Wfs:(ts:List Ty)→ZFC ts→Prop
 | [],_=>True
 | t::ts,x=>Wf t x.1∧Wfs ts x.2
def Zx0 (P:Program) (lay:TypeId→Ty→Bool):List Field→Nat→Ty→Bool
 | [],_,.unit=>true
 | f::fs,off,.pair a b=>f.offset==off&&P.cellsOf f.type==a.size&&lay f.type a&&Zx0 P lay fs (off+a.size) b
 | _,_,_=>false
def Zx1 (lay:Ty→Bool) (sz:Nat):Nat→Ty→Bool
 | 0,.unit=>true
 | n+1,.pair a b=>a.size==sz&&lay a&&Zx1 lay sz n b
 | _,_=>false
def lay (P:Program):Nat→TypeId→Ty→Bool
 | 0,_,_=>false
 | n+1,T,t=>match P.underlying T with
  | some .bool=>match t with
   | .bool=>true
   | _=>false
  | some (.int k)=>match t with
   | .int k'=>decide (k=k')
   | .byt _=>decide (k = .u8)
   | _=>false
  | some .string=>match t with
   | .str=>true
   | _=>false
  | some (.slice e)=>match t with
   | .slice t=>lay P n e t&&P.cellsOf e==t.size&&decide (0<t.size)
   | _=>false
  | some (.struct fs)=>t.isAgg&&P.cellsOf T==t.size&&Zx0 P (lay P n) fs.toList 0 t
  | some (.array m e)=>t.isAgg&&P.cellsOf T==t.size&&Zx1 (lay P n e) (P.cellsOf e) m t
  | _=>false
section
variable {H:Type} {enc:TypeId×Value→H} {P:Program} {w:World}
theorem Zrv {a:Addr} {n:Nat} {cs:List Value} (h:w.cells? 0 a n=some cs) (hn:0<n) : ∃ arr elem fz,a.spot=none∧w.heap[a.block]? = some (.cells arr elem fz)∧At arr a.off cs:=by
 obtain ⟨_,h2,h3⟩:=World.cells?_some h
 have key : ∀ i,i<n→w.cell? (a.add i)=cs[i]? := h3
 have h0:=key 0 hn
 have hs:cs[0]? = some cs[0]:=List.getElem?_eq_getElem (by omega)
 rw [hs] at h0
 have e0:a.add 0=a:=by simp [Addr.add]
 rw [e0] at h0
 unfold World.cell? at h0
 split at h0
 ·
  rename_i arr elem fz hb
  split at h0
  · cases h0
  ·
   rename_i hsp
   have hspn:a.spot=none:=by simpa using hsp
   refine ⟨arr,elem,fz,hspn,hb,fun j hj => ?_⟩
   have:=key j (by omega)
   have e:(a.add j).block=a.block∧(a.add j).off=a.off+j∧(a.add j).spot=none:=by
    unfold Addr.add
    split
    · rename_i hj0;subst hj0;exact ⟨rfl,rfl,hspn⟩
    · exact ⟨rfl,rfl,rfl⟩
   unfold World.cell? at this
   rw [e.1,hb] at this
   simp only [e.2.2,Option.isSome_none,Bool.false_eq_true,if_false,e.2.1] at this
   rw [this]
   exact List.getElem?_eq_getElem hj
 · cases h0
theorem Zkz {α:Type} (R:Nat→α→Prop) : ∀ (n:Nat),(∀ i,i<n → ∃ x,R i x) → ∃ l:List α,l.length=n ∧ ∀ i (h:i<l.length),R i l[i]
 | 0,_=>⟨[],rfl,fun i h=>by simp at h⟩
 | n+1,h=>by
  obtain ⟨l,h1,h2⟩:=Zkz R n (fun i hi=>h i (by omega))
  obtain ⟨x,hx⟩:=h n (by omega)
  refine ⟨l++[x],by simp [h1],fun i hi => ?_⟩
  by_cases e:i<l.length
  · rw [List.getElem_append_left e];exact h2 i e
  ·
   have:i=n:=by simp at hi;omega
   subst this
   simp [h1,hx]
def noS:Nat→Prop:=fun _=>False
theorem Znc {f:TypeId→List Value→Prop} {L:TypeId→Ty→Bool} (hL : ∀ T t cs,L T t=true→f T cs → ∃ x:t.den,Rep w noS t x cs∧Wf t x) {cs:List Value} :
  ∀ (fs:List Field) (off:Nat) (t:Ty),Zx0 P L fs off t=true→off+t.size=cs.length→(∀ (i:Nat) (fd:Field),fs[i]? = some fd→f fd.type ((cs.drop fd.offset).take (P.cellsOf fd.type))) → ∃ x:t.den,Rep w noS t x (cs.drop off)∧Wf t x
 | [],off,t,h,hs,_=>by
  cases t <;> simp [Zx0] at h
  simp [Ty.size] at hs
  exact ⟨(),by simp [Rep];omega,trivial⟩
 | fd::fs,off,t,h,hs,hf=>by
  cases t <;> simp [Zx0] at h
  rename_i a b
  obtain ⟨⟨⟨h1,h2⟩,h3⟩,h4⟩:=h
  simp [Ty.size] at hs
  obtain ⟨x1,r1,w1⟩:=hL _ _ _ h3 (hf 0 fd rfl)
  obtain ⟨x2,r2,w2⟩:=Znc hL fs (off+a.size) b h4 (by omega) (fun i fd' hi=>hf (i+1) fd' (by simpa using hi))
  refine ⟨(x1,x2),⟨_,_,?_,r1,r2⟩,w1,w2⟩
  rw [h1,h2,← List.drop_drop,List.take_append_drop]
theorem Zps {f:List Value→Prop} {L:Ty→Bool} {sz:Nat} (hL : ∀ t cs,L t=true→f cs → ∃ x:t.den,Rep w noS t x cs∧Wf t x) {cs:List Value} :
  ∀ (n off:Nat) (t:Ty),Zx1 L sz n t=true→off*sz+t.size=cs.length→(∀ i,i<n→f ((cs.drop ((off+i)*sz)).take sz)) → ∃ x:t.den,Rep w noS t x (cs.drop (off*sz))∧Wf t x
 | 0,off,t,h,hs,_=>by
  cases t <;> simp [Zx1] at h
  simp [Ty.size] at hs
  exact ⟨(),by simp [Rep];omega,trivial⟩
 | n+1,off,t,h,hs,hf=>by
  cases t <;> simp [Zx1] at h
  rename_i a b
  obtain ⟨⟨h1,h3⟩,h4⟩:=h
  simp [Ty.size] at hs
  obtain ⟨x1,r1,w1⟩:=hL _ _ h3 (by simpa using hf 0 (by omega))
  obtain ⟨x2,r2,w2⟩:=Zps hL (cs:=cs) n (off+1) b h4 (by rw [Nat.add_mul,Nat.one_mul];omega) (fun i hi=>by have:=hf (i+1) (by omega);rwa [show off+(i+1)=off+1+i by omega] at this)
  refine ⟨(x1,x2),⟨_,_,?_,r1,r2⟩,w1,w2⟩
  rw [Nat.add_mul,Nat.one_mul,← List.drop_drop,List.take_append_drop]
theorem Zve : ∀ (n:Nat) (T:TypeId) (t:Ty) (fuel:Nat) (cs:List Value) (y:DataW H×List MemPlace),lay P n T t=true→DataW.trod enc P w 0 (fun _=>true) true fuel T cs=some y →
  ∃ x:t.den,Rep w noS t x cs∧Wf t x:=by
 intro n
 induction n with
 | zero=>intro T t fuel cs y h;simp [lay] at h
 | succ n ih=>
  intro T t fuel cs y h hy
  simp only [lay] at h
  split at h
  ·
   rename_i hu
   split at h
   ·
    obtain ⟨b,rfl,_⟩:=DataW.trod_bool hu hy
    exact ⟨b,rfl,trivial⟩
   · cases h
  ·
   rename_i k hu
   split at h
   ·
    rename_i k'
    simp only [decide_eq_true_eq] at h
    subst h
    obtain ⟨m,rfl,_,hw⟩:=DataW.trod_int hu hy
    exact ⟨m,rfl,hw⟩
   ·
    simp only [decide_eq_true_eq] at h
    subst h
    obtain ⟨m,rfl,_,hw⟩:=DataW.trod_int hu hy
    exact ⟨m,rfl,hw⟩
   · cases h
  ·
   rename_i hu
   split at h
   ·
    obtain ⟨s,rfl,_,hw⟩:=DataW.trod_string hu hy
    exact ⟨s,rfl,hw⟩
   · cases h
  ·
   rename_i e hu
   split at h
   ·
    rename_i t
    simp only [Bool.and_eq_true,beq_iff_eq,decide_eq_true_eq] at h
    obtain ⟨⟨h1,h2⟩,h3⟩:=h
    rcases DataW.trod_slice hu hy with ⟨rfl,_⟩ | ⟨a,len,cap,elems,rest,m,_,rfl,_,_,hl,hm,hlen,hel,_⟩
    · exact ⟨[],⟨_,rfl,none,0,rfl,Nat.le_refl _,fun h=>absurd rfl h⟩,by simp [Wf]⟩
    ·
     have each : ∀ i,i<len → ∃ x:t.den,∃ cs',w.cells? 0 (a.add (i*t.size)) t.size=some cs'∧Rep w noS t x cs'∧Wf t x:=by
      intro i hi
      have hx:=hel i hi
      rw [List.getElem?_eq_getElem (by omega),Option.bind_eq_some_iff] at hx
      obtain ⟨cs',c1,c2⟩:=hx
      obtain ⟨x,r1,r2⟩:=ih e t m cs' _ h1 c2
      exact ⟨x,cs',by rw [← h2];exact c1,r1,r2⟩
     obtain ⟨l,l1,l2⟩:=Zkz _ len each
     refine ⟨l,⟨_,rfl,some a,cap,by rw [l1],by omega,fun hne => ?_⟩,by rw [l1];omega,fun x hx => ?_⟩
     ·
      have hpos:0<l.length:=List.length_pos_iff.mpr hne
      obtain ⟨cs0,c1,c2,_⟩:=l2 0 hpos
      obtain ⟨arr,elem,fz,q1,q2,q3⟩:=Zrv c1 h3
      simp only [Nat.zero_mul] at q1 q2
      have e0:a.add 0=a:=by simp [Addr.add]
      rw [e0] at q1 q2
      refine ⟨a.block,a.off,arr,elem,fz,by cases a;simp_all,fun h=>h,q2,fun i hi => ?_⟩
      obtain ⟨cs',d1,d2,_⟩:=l2 i hi
      obtain ⟨arr',elem',fz',p1,p2,p3⟩:=Zrv d1 h3
      have e1:(a.add (i*t.size)).block=a.block:=by unfold Addr.add;split <;> rfl
      have e2:(a.add (i*t.size)).off=a.off+i*t.size:=by unfold Addr.add;split <;> simp_all
      rw [e1,q2] at p2
      simp only [Option.some.injEq,Obj.cells.injEq] at p2
      obtain ⟨rfl,_,_⟩:=p2
      rw [e2] at p3
      exact ⟨cs',d2,p3⟩
     ·
      obtain ⟨i,hi,rfl⟩:=List.getElem_of_mem hx
      obtain ⟨_,_,_,hw⟩:=l2 i hi
      exact hw
   · cases h
  ·
   rename_i fs hu
   simp only [Bool.and_eq_true,beq_iff_eq] at h
   obtain ⟨⟨_,h1⟩,h2⟩:=h
   obtain ⟨xs,m,_,_,hlen,hxl,hx⟩:=DataW.trod_struct hu hy
   have:=Znc (w:=w) (P:=P) (f:=fun T cs => ∃ y,DataW.trod enc P w 0 (fun _=>true) true m T cs=some y) (L:=lay P n) (fun T t cs hl hf=>by obtain ⟨y,hy⟩:=hf;exact ih T t m cs y hl hy) (cs:=cs) fs.toList 0 t h2 (by omega)
    (fun i fd hi=>⟨xs[i]'(by have:=(List.getElem?_eq_some_iff.mp hi).1;simp at this;omega),by
     rw [hx i fd (by simpa using hi)]
     exact List.getElem?_eq_getElem _⟩)
   simpa using this
  ·
   rename_i m e hu
   simp only [Bool.and_eq_true,beq_iff_eq] at h
   obtain ⟨⟨_,h1⟩,h2⟩:=h
   obtain ⟨xs,fu,_,_,hlen,hxl,hx⟩:=DataW.trod_array hu hy
   have:=Zps (w:=w) (f:=fun cs => ∃ y,DataW.trod enc P w 0 (fun _=>true) true fu e cs=some y) (L:=lay P n e) (sz:=P.cellsOf e) (fun t cs hl hf=>by obtain ⟨y,hy⟩:=hf;exact ih e t fu cs y hl hy) (cs:=cs) m 0 t h2 (by omega)
    (fun i hi=>⟨xs[i]'(by omega),by
     rw [Nat.zero_add,hx i hi]
     exact List.getElem?_eq_getElem _⟩)
   simpa using this
  · cases h
end
def Zpt (P:Program) (n:Nat):List TypeId→List Ty→Bool
 | [],[]=>true
 | T::Ts,t::ts=>lay P n T t&&Zpt P n Ts ts
 | _,_=>false
def zeroCells:Ty→List Value
 | .unit=>[]
 | .int k=>[.int k 0]
 | .byt _=>[.int .u8 0]
 | .bool=>[.bool false]
 | .str=>[.string ⟨#[]⟩]
 | .pair a b=>zeroCells a++zeroCells b
 | .slice _=>[.slice none 0 0]
def Zvf (t:Ty):Value:=if t.isAgg then .agg (zeroCells t).toArray else (zeroCells t).headD undef
section
variable {H:Type} {enc:TypeId×Value→H} {P:Program} {w:World}
theorem Zpu {n:Nat} {T:TypeId} {t:Ty} {r:Reach} {base:Nat} {v:Value} (hl:lay P n T t=true) (h:Value.okWide P w r base T v):(t.isAgg=true → ∃ us,v = .agg us)∧(t.isAgg=false→v.oneCell'=true):=by
 cases n with
 | zero=>simp [lay] at hl
 | succ n=>
  simp only [lay] at hl
  unfold Value.okWide at h
  split at hl
  ·
   rename_i hu
   split at hl
   ·
    rw [hu] at h
    simp only [Cell.okWide,Cell.ok,hu] at h
    refine ⟨(fun h=>by cases h),fun _ => ?_⟩
    cases v <;> first | rfl | simp at h
   · cases hl
  ·
   rename_i k hu
   split at hl
   ·
    rw [hu] at h
    simp only [Cell.okWide,Cell.ok,hu] at h
    refine ⟨(fun h=>by cases h),fun _ => ?_⟩
    cases v <;> first | rfl | simp at h
   ·
    rw [hu] at h
    simp only [Cell.okWide,Cell.ok,hu] at h
    refine ⟨(fun h=>by cases h),fun _ => ?_⟩
    cases v <;> first | rfl | simp at h
   · cases hl
  ·
   rename_i hu
   split at hl
   ·
    rw [hu] at h
    simp only [Cell.okWide,Cell.ok,hu] at h
    refine ⟨(fun h=>by cases h),fun _ => ?_⟩
    cases v <;> first | rfl | simp at h
   · cases hl
  ·
   rename_i e hu
   split at hl
   ·
    rw [hu] at h
    simp only [Cell.okWide,Cell.ok,hu] at h
    refine ⟨(fun h=>by cases h),fun _ => ?_⟩
    cases v <;> first | rfl | simp at h
   · cases hl
  ·
   rename_i fs hu
   simp only [Bool.and_eq_true] at hl
   rw [hu] at h
   obtain ⟨cs,e,_⟩:=h
   exact ⟨fun _=>⟨cs,e⟩,fun h=>by rw [hl.1.1] at h;cases h⟩
  ·
   rename_i m e hu
   simp only [Bool.and_eq_true] at hl
   rw [hu] at h
   obtain ⟨cs,e,_⟩:=h
   exact ⟨fun _=>⟨cs,e⟩,fun h=>by rw [hl.1.1] at h;cases h⟩
  · cases hl
theorem Zfq {n:Nat} {r:Reach} {base:Nat} : ∀ {Ts:List TypeId} {ts:List Ty} {vs:List Value} {ds:List (DataW H)} {p:List MemPlace},Zpt P n Ts ts=true→DataW.TrodAll enc P w 0 (fun _=>true) true Ts vs ds p →
  (∀ (j:Nat) T v,Ts[j]? = some T→vs[j]? = some v→Value.okWide P w r base T v) → ∃ x:ZFC ts,ZaN w noS ts x vs∧Wfs ts x
 | [],ts,vs,ds,p,hl,h,_=>by
  cases ts <;> simp [Zpt] at hl
  cases vs with
  | nil=>exact ⟨(),rfl,trivial⟩
  | cons _ _=>cases ds <;> exact h.elim
 | T::Ts,ts,vs,ds,p,hl,h,hv=>by
  cases ts with
  | nil=>simp [Zpt] at hl
  | cons t ts=>
   simp only [Zpt,Bool.and_eq_true] at hl
   cases vs with
   | nil=>exact h.elim
   | cons v vs=>
    cases ds with
    | nil=>exact h.elim
    | cons d ds=>
     obtain ⟨p1,q1,⟨fuel,hd⟩,hr,_⟩:=h
     obtain ⟨x1,r1,w1⟩:=Zve n T t fuel _ _ hl.1 hd
     obtain ⟨x2,r2,w2⟩:=Zfq hl.2 hr (fun j T v h1 h2=>hv (j+1) T v (by simpa using h1) (by simpa using h2))
     obtain ⟨s1,s2⟩:=Zpu hl.1 (hv 0 T v rfl rfl)
     exact ⟨(x1,x2),⟨v,vs,rfl,⟨r1,s1,s2⟩,r2⟩,w1,w2⟩
theorem ZLU : ∀ {Ts:List TypeId} {vs:List Value} {ds:List (DataW H)} {p:List MemPlace},DataW.TrodAll enc P w 0 (fun _=>true) true Ts vs ds p→ds.length=Ts.length
 | [],vs,ds,p,h=>by cases vs <;> cases ds <;> first | rfl | exact h.elim
 | T::Ts,vs,ds,p,h=>by
  cases vs with
  | nil=>exact h.elim
  | cons v vs=>cases ds with
   | nil=>exact h.elim
   | cons d ds=>
    obtain ⟨p1,q1,hd,hq,e⟩:=h
    simp [ZLU hq]
def Zq2 (P:Program):List TypeId→Bool
 | []=>true
 | T::Ts=>P.readableRec T&&decide (T<P.types.size)&&Zq2 P Ts
theorem ZNK (hl:laidOutB P=true) {w':World} (hb:Below w.heap.size w w') : ∀ {Ts:List TypeId} {vs:List Value} {ds:List (DataW H)} {p:List MemPlace},Zq2 P Ts=true →
  DataW.TrodAll enc P w 0 (fun _=>true) true Ts vs ds p→DataW.TrodAll enc P w' 0 (fun b=>decide (b<w.heap.size)) true Ts vs ds p
 | [],vs,ds,p,_,h=>by cases vs <;> cases ds <;> exact h
 | T::Ts,vs,ds,p,hr,h=>by
  simp only [Zq2,Bool.and_eq_true,decide_eq_true_eq] at hr
  cases vs with
  | nil=>exact h.elim
  | cons v vs=>
   cases ds with
   | nil=>exact h.elim
   | cons d ds=>
    obtain ⟨p1,q1,hd,hq,e⟩:=h
    have hlt : ∀ x∈p1,x.block<w.heap.size:=by obtain ⟨m,hm⟩:=hd;exact DataW.trod_lt m _ _ _ hm
    exact ⟨p1,q1,Below.trod hl hr.1.1 hr.1.2 hd hb hlt,ZNK hl hb hr.2 hq,e⟩
end
theorem Zfr {P:Program} {I:World→Prop} {g:Nat} {K:Nat} {ts:List Ty} {F:ZFC ts→Option (ZFC [Ty.bool])} (hs:(Con.mk ts [.bool] F).Sound P I g K) {w:World} (hI:I w) {args:Array Value} {x:ZFC ts} (hx:ZaN w noS ts x args.toList)
  (hF:F x=some (true,())):Calls P K args w fun e w'=>e = .returned (.bool true)∧Below w.heap.size w w':=by
 refine (hs x (true,()) hF w noS args hI (fun _ h=>h.elim) hx).mono fun e w' h => ?_
 obtain ⟨v,rfl,hv,hb⟩:=h
 refine ⟨?_,hb⟩
 have:v.cells.toList=[.bool true]:=hv.1
 have ho:=hv.2.2 rfl
 rw [ZfU ho] at this
 simp at this
 rw [this]
theorem wrap_i64 (n:Int) (h0 : -9223372036854775808≤n) (h1:n≤9223372036854775807):IntKind.wrap .i64 n=n:=by
 unfold IntKind.wrap
 simp [IntKind.signed,IntKind.bits]
 split <;> omega
theorem ZAh (n:Int) (h0:0≤n) (h1:n≤18446744073709551615):IntKind.wrap .u64 n=n:=by
 simp only [IntKind.wrap,IntKind.signed,IntKind.bits]
 simp
 omega
theorem ZwQ {n:Int} (h:(Lit.int .u64 n).wf=true):0≤n∧n≤18446744073709551615:=by
 simp only [Lit.wf,IntKind.min,IntKind.max,IntKind.signed,IntKind.bits,Bool.and_eq_true] at h
 simp at h;omega
theorem ZwR {n:Int} (h:(Lit.int .u16 n).wf=true):0≤n∧n≤65535:=by
 simp only [Lit.wf,IntKind.min,IntKind.max,IntKind.signed,IntKind.bits,Bool.and_eq_true] at h
 simp at h;omega
theorem Zw0 {n:Int} (h:(Lit.int .u8 n).wf=true):0≤n∧n≤255:=by
 simp only [Lit.wf,IntKind.min,IntKind.max,IntKind.signed,IntKind.bits,Bool.and_eq_true] at h
 simp at h;omega
theorem Zx2 {n:Int} (h:(Lit.int .u32 n).wf=true):0≤n∧n≤4294967295:=by
 simp only [Lit.wf,IntKind.min,IntKind.max,IntKind.signed,IntKind.bits,Bool.and_eq_true] at h
 simp at h;omega
@[simp] theorem ZAK {α β:Type} (y:α) (k:α→Option β):ZAX (some y) k=k y:=rfl
@[simp] theorem Zxk {α β:Type} (k:α→Option β):ZAX none k=none:=rfl
section mid
variable {α:Type}
@[simp] theorem ZDC (pre:List α) (x:α) (suf:List α) (d:α):(pre++x::suf).getD pre.length d=x:=by simp [List.getD]
@[simp] theorem Zq3 (pre:List α) (x y:α) (suf:List α):(pre++x::suf).set pre.length y=pre++y::suf:=by simp
theorem nn (n:Nat):((0:Int)≤((n:Nat):Int))=True:=by simp
theorem ZLV (pre:List α) (x:α) (suf:List α):(((pre.length:Nat):Int)<(((pre++x::suf).length:Nat):Int))=True:=by simp;omega
theorem Zq4 (pre:List α):(((pre.length:Nat):Int)<(((pre++[]).length:Nat):Int))=False:=by simp
theorem ZJE (pre:List α) (x y:α) (suf:List α) (h:(pre++x::suf).length≤4294967296):IntKind.wrap .i64 (((pre.length:Nat):Int)+1)=(((pre++[y]).length:Nat):Int):=by
 simp at h
 rw [wrap_i64 _ (by omega) (by omega)];simp
theorem Zk0 (pre:List α) (x y:α) (suf:List α) (h:(pre++x::suf).length≤9223372036854775807):IntKind.wrap .i64 (((pre.length:Nat):Int)+1)=(((pre++[y]).length:Nat):Int):=by
 simp at h
 rw [wrap_i64 _ (by omega) (by omega)];simp
theorem ZID (pre:List α) (x:α) (suf:List α):pre++x::suf=(pre++[x])++suf:=by simp
theorem ZDD (pre:List α):Int.toNat ((pre.length:Nat):Int)=pre.length:=by simp
end mid
theorem Zt3 {α:Type} [BEq α] [LawfulBEq α] {a b:α} (h:a=b):(a==b)=true:=by subst h;exact beq_self_eq_true a
theorem Zcz (a b:ByteArray):(a.toList==b.toList)=decide (a=b):=by
 rw [ByteArray.toList_eq,ByteArray.toList_eq]
 by_cases h:a=b
 · simp [h]
 ·
  simp only [h,decide_false]
  refine beq_false_of_ne fun e=>h ?_
  cases a;cases b;simp at e;simpa using e
theorem ZwS {a b:ByteArray}:a=b↔a.data.toList=b.data.toList:=by
 constructor
 · rintro rfl;rfl
 · intro e;cases a;cases b;simpa using e
theorem Zrw (a b:ByteArray):(a++b).data.toList=a.data.toList++b.data.toList:=by simp
def ZzP {α β:Type} (g:Int→α→β):Int→List α→List β
 | _,[]=>[]
 | k,x::l=>g k x::ZzP g (k+1) l
@[simp] theorem Zq5 {α β:Type} (g:Int→α→β) : ∀ (k:Int) (l:List α),(ZzP g k l).length=l.length
 | _,[]=>rfl
 | k,x::l=>by simp [ZzP,Zq5 g (k+1) l]
theorem ZYO : ∀ (l:List Int),(ZCK l).data.toList=l.map fun n=>UInt8.ofNat n.toNat:=by
 have key : ∀ (l:List Int) (r:ByteArray),(l.foldl (fun r n=>r.push (UInt8.ofNat n.toNat)) r).data.toList=r.data.toList++l.map fun n=>UInt8.ofNat n.toNat:=by
  intro l
  induction l with
  | nil=>intro r;simp
  | cons x l ih=>intro r;rw [List.foldl_cons,ih];simp
 intro l
 unfold ZCK
 rw [key];rfl
theorem ZGY (s:ByteArray) : ∀ n∈ZA0 s,0≤n∧n≤255:=by
 intro n hn
 obtain ⟨b,_,rfl⟩:=List.mem_map.mp hn
 have:=b.toNat_lt
 omega
theorem ZF3 (s:ByteArray):(ZA0 s).length=s.size:=by
 show (s.data.toList.map _).length=s.data.size
 simp
theorem Zpv (a b:ByteArray):ZA0 (a++b)=ZA0 a++ZA0 b:=by
 show (a++b).data.toList.map _=_
 rw [Zrw,List.map_append]
theorem toNat_inj:Function.Injective (fun b:UInt8=>(b.toNat:Int)):=by
 intro a b h
 have h2:a.toNat=b.toNat:=Int.ofNat.inj h
 exact UInt8.toNat_inj.mp h2
theorem ZU3 {a b:ByteArray}:ZA0 a=ZA0 b↔a=b:=by
 constructor
 ·
  intro h
  rw [ZwS]
  exact (List.map_inj_right (fun x y h=>toNat_inj h)).mp h
 · rintro rfl;rfl
theorem ZHE {l:List Int} (h : ∀ n∈l,0≤n∧n≤255):ZA0 (ZCK l)=l:=by
 show (ZCK l).data.toList.map _=l
 rw [ZYO,List.map_map]
 have : ∀ n∈l,((fun b:UInt8=>(b.toNat:Int)) ∘ fun n:Int=>UInt8.ofNat n.toNat) n=id n:=by
  intro n hn
  obtain ⟨h0,h1⟩:=h n hn
  simp only [Function.comp,id,UInt8.toNat_ofNat']
  omega
 rw [List.map_congr_left this,List.map_id]
theorem Zhp (s:ByteArray):ZCK (ZA0 s)=s:=by
 rw [← ZU3,ZHE (ZGY s)]
theorem Zpw (a b:List Int):ZCK (a++b)=ZCK a++ZCK b:=by
 rw [ZwS,Zrw];simp only [ZYO,List.map_append]
theorem ZYP (l:List Int):(ZCK l).size=l.length:=by
 show (ZCK l).data.size=_
 rw [← Array.length_toList,ZYO];simp
theorem Zpx:ZA0 ⟨#[]⟩=[]:=rfl
theorem Zt4 {s:ByteArray}:s.size=0↔s=⟨#[]⟩:=by
 rw [← ZF3,← ZU3,Zpx];exact List.length_eq_zero_iff
theorem ZjG (s:ByteArray) (a b:Nat):ZA0 (s.extract a b)=((ZA0 s).take b).drop a:=by
 show (s.extract a b).data.toList.map _=((s.data.toList.map _).take b).drop a
 rw [ByteArray.data_extract]
 simp [Array.toList_extract,List.extract,List.drop_take,List.map_take,List.map_drop]
theorem Zaw (n:Int):IntKind.wrap .u8 n=n % 256:=by
 simp only [IntKind.wrap,IntKind.signed,IntKind.bits];simp
theorem ZJY (n:Int):IntKind.wrap .u64 n=n % 18446744073709551616:=by
 simp only [IntKind.wrap,IntKind.signed,IntKind.bits];simp
theorem ZTK (x y:Int) (hx:0≤x∧x<18446744073709551616) (hy:0≤y∧y<18446744073709551616):bits .or .u64 x y=((x.toNat ||| y.toNat:Nat):Int):=by
 rw [Zaq,Znq,ZJY]
 show (((BitVec.ofInt 64 x ||| BitVec.ofInt 64 y).toNat:Nat):Int) % 18446744073709551616=_
 have ex:(BitVec.ofInt 64 x).toNat=x.toNat:=by rw [BitVec.toNat_ofInt];omega
 have ey:(BitVec.ofInt 64 y).toNat=y.toNat:=by rw [BitVec.toNat_ofInt];omega
 rw [BitVec.toNat_or,ex,ey]
 have:x.toNat ||| y.toNat<2 ^ 64:=Nat.or_lt_two_pow (by omega) (by omega)
 omega
theorem Zif (x y:Int) (hx:0≤x∧x<18446744073709551616) (hy:0≤y∧y<18446744073709551616):bits .and .u64 x y=((x.toNat &&& y.toNat:Nat):Int):=by
 rw [Zaq,Znq,ZJY]
 show (((BitVec.ofInt 64 x &&& BitVec.ofInt 64 y).toNat:Nat):Int) % 18446744073709551616=_
 have ex:(BitVec.ofInt 64 x).toNat=x.toNat:=by rw [BitVec.toNat_ofInt];omega
 have ey:(BitVec.ofInt 64 y).toNat=y.toNat:=by rw [BitVec.toNat_ofInt];omega
 rw [BitVec.toNat_and,ex,ey]
 have:x.toNat &&& y.toNat≤x.toNat:=Nat.and_le_left
 omega
theorem Zsf (x y:Int) (hx:0≤x∧x<256) (hy:0≤y∧y<256):bits .or .u8 x y=((x.toNat ||| y.toNat:Nat):Int):=by
 rw [Zaq,Znq,Zaw]
 show (((BitVec.ofInt 8 x ||| BitVec.ofInt 8 y).toNat:Nat):Int) % 256=_
 have ex:(BitVec.ofInt 8 x).toNat=x.toNat:=by rw [BitVec.toNat_ofInt];omega
 have ey:(BitVec.ofInt 8 y).toNat=y.toNat:=by rw [BitVec.toNat_ofInt];omega
 rw [BitVec.toNat_or,ex,ey]
 have:x.toNat ||| y.toNat<2 ^ 8:=Nat.or_lt_two_pow (by omega) (by omega)
 omega
end Go.Proofs.YtamaklnhjagifaaGreatDoor.V
namespace Go.Proofs.YtamaklnhjagifaaGreatDoor.V
set_option linter.unusedVariables false
abbrev RS:Type:=List (Int×Int×Unit)
def ZGV (s:RS) (n:Int):Prop := ∃ r∈s,r.1≤n∧n≤r.2.1
structure Can (s:RS):Prop where
 full : ∀ r∈s,r.1≤r.2.1
 apart:s.Pairwise fun a b=>a.2.1+1<b.1
theorem ZC1 (n:Int) : ¬ ZGV [] n:=fun ⟨_,h,_⟩=>by cases h
theorem ZCA (a:Int×Int×Unit) (s:RS) (n:Int):ZGV (a::s) n↔(a.1≤n∧n≤a.2.1)∨ZGV s n:=by
 unfold ZGV
 simp only [List.mem_cons,exists_eq_or_imp]
theorem ZkI (s t:RS) (n:Int):ZGV (s++t) n↔ZGV s n∨ZGV t n:=by
 unfold ZGV
 simp only [List.mem_append,or_and_right,exists_or]
theorem ZYQ:Can []:=⟨fun _ h=>(by cases h),.nil⟩
theorem Can.tail {a:Int×Int×Unit} {s:RS} (h:Can (a::s)):Can s:=⟨fun r hr=>h.full r (List.mem_cons_of_mem _ hr),(List.pairwise_cons.mp h.apart).2⟩
theorem Can.head {a:Int×Int×Unit} {s:RS} (h:Can (a::s)):a.1≤a.2.1:=h.full a List.mem_cons_self
theorem Can.above {a:Int×Int×Unit} {s:RS} (h:Can (a::s)) {n:Int} (hn:ZGV s n):a.2.1+1<n:=by
 obtain ⟨r,hr,h1,h2⟩:=hn
 have:=(List.pairwise_cons.mp h.apart).1 r hr
 omega
theorem Zc0 {a:Int×Int×Unit} {s:RS} (h:Can s) (ha:a.1≤a.2.1) (hs : ∀ r∈s,a.2.1+1<r.1):Can (a::s) :=
 ⟨fun r hr=>by rcases List.mem_cons.mp hr with rfl | hr;exact ha;exact h.full r hr,List.pairwise_cons.mpr ⟨hs,h.apart⟩⟩
theorem Zt5 {s t:RS} (h:Can s) (k:Can t) (hst : ∀ a∈s,∀ b∈t,a.2.1+1<b.1):Can (s++t) :=
 ⟨fun r hr=>(List.mem_append.mp hr).elim (h.full r) (k.full r),List.pairwise_append.mpr ⟨h.apart,k.apart,hst⟩⟩
theorem Can.left {s t:RS} (h:Can (s++t)):Can s:=⟨fun r hr=>h.full r (List.mem_append_left _ hr),(List.pairwise_append.mp h.apart).1⟩
theorem Can.right {s t:RS} (h:Can (s++t)):Can t:=⟨fun r hr=>h.full r (List.mem_append_right _ hr),(List.pairwise_append.mp h.apart).2.1⟩
theorem Can.cross {s t:RS} (h:Can (s++t)) : ∀ a∈s,∀ b∈t,a.2.1+1<b.1:=(List.pairwise_append.mp h.apart).2.2
theorem Zax : ∀ {s t:RS},Can s→Can t→(∀ n,ZGV s n↔ZGV t n)→s=t
 | [],[],_,_,_=>rfl
 | [],b::t,_,ht,h=>absurd ((h b.1).mpr ⟨b,List.mem_cons_self,Int.le_refl _,ht.head⟩) (ZC1 _)
 | a::s,[],hs,_,h=>absurd ((h a.1).mp ⟨a,List.mem_cons_self,Int.le_refl _,hs.head⟩) (ZC1 _)
 | (a1,a2,())::s,(b1,b2,())::t,hs,ht,h=>by
  have ha:=hs.head
  have hb:=ht.head
  simp only at ha hb
  have e1:a1=b1:=by
   have h1:=(ZCA _ _ _).mp ((h a1).mp ((ZCA _ _ _).mpr (.inl ⟨Int.le_refl _,ha⟩)))
   have h2:=(ZCA _ _ _).mp ((h b1).mpr ((ZCA _ _ _).mpr (.inl ⟨Int.le_refl _,hb⟩)))
   simp only at h1 h2
   rcases h1 with h1 | h1 <;> rcases h2 with h2 | h2
   · omega
   · have:=hs.above h2;simp only at this;omega
   · have:=ht.above h1;simp only at this;omega
   · have:=hs.above h2;have:=ht.above h1;simp only at *;omega
  subst e1
  have e2:a2=b2:=by
   rcases Int.lt_trichotomy a2 b2 with hlt | e | hlt
   ·
    have h1:=(ZCA _ _ _).mp ((h (a2+1)).mpr ((ZCA _ _ _).mpr (.inl ⟨by simp only;omega,by simp only;omega⟩)))
    simp only at h1
    rcases h1 with h1 | h1
    · omega
    · have:=hs.above h1;simp only at this;omega
   · exact e
   ·
    have h1:=(ZCA _ _ _).mp ((h (b2+1)).mp ((ZCA _ _ _).mpr (.inl ⟨by simp only;omega,by simp only;omega⟩)))
    simp only at h1
    rcases h1 with h1 | h1
    · omega
    · have:=ht.above h1;simp only at this;omega
  subst e2
  rw [Zax hs.tail ht.tail fun n => ?_]
  have hn:=h n
  rw [ZCA,ZCA] at hn
  constructor
  ·
   intro k
   rcases hn.mp (.inr k) with h1 | h1
   · have:=hs.above k;simp only at *;omega
   · exact h1
  ·
   intro k
   rcases hn.mpr (.inr k) with h1 | h1
   · have:=ht.above k;simp only at *;omega
   · exact h1
/-! #### sweeping -/
abbrev ES:Type:=List (Int×Int×Unit)
def ZdD:ES→Int→Int
 | [],_=>0
 | e::l,n=>(if e.1≤n then e.2.1 else 0)+ZdD l n
def ZjH:ES→Int
 | []=>0
 | e::l=>e.2.1+ZjH l
def ZkJ (at_:Int):ES→Int→Int×ES
 | [],w=>(w,[])
 | e::l,w=>if e.1=at_ then ZkJ at_ l (w+e.2.1) else (w,e::l)
theorem Zfs (a:Int) : ∀ (l:ES) (w:Int),(ZkJ a l w).2.length≤l.length
 | [],_=>Nat.le_refl _
 | e::l,w=>by
  unfold ZkJ
  split
  · exact Nat.le_succ_of_le (Zfs a l _)
  · exact Nat.le_refl _
def Ze1 (wf:Int→Bool) (l:ES) (w:Int) (op:Bool) (fr:Int):RS:=match l with
 | []=>[]
 | e::l=>
  let r:=ZkJ e.1 l (w+e.2.1)
  if wf r.1 && !op then Ze1 wf r.2 r.1 true e.1
  else if !wf r.1&&op then (fr,e.1 - 1,())::Ze1 wf r.2 r.1 false fr
  else Ze1 wf r.2 r.1 op fr
termination_by l.length
decreasing_by all_goals (have:=Zfs e.1 l (w+e.2.1);simp;omega)
theorem ZkK : ∀ (l:ES) (n:Int),(∀ e∈l,n<e.1)→ZdD l n=0
 | [],_,_=>rfl
 | e::l,n,h=>by
  have:=h e List.mem_cons_self
  rw [ZdD,if_neg (by omega),ZkK l n (fun e he=>h e (List.mem_cons_of_mem _ he))]
  rfl
theorem Zc1 : ∀ (a b:ES) (n:Int),ZdD (a++b) n=ZdD a n+ZdD b n
 | [],b,n=>by simp [ZdD]
 | e::a,b,n=>by
  rw [List.cons_append,ZdD,ZdD,Zc1 a b n]
  omega
theorem Zft : ∀ (a b:ES),ZjH (a++b)=ZjH a+ZjH b
 | [],b=>by simp [ZjH]
 | e::a,b=>by
  rw [List.cons_append,ZjH,ZjH,Zft a b]
  omega
theorem Zt6 {a b:ES} (h:a.Perm b) (n:Int):ZdD a n=ZdD b n:=by
 induction h with
 | nil=>rfl
 | cons x _ ih=>rw [ZdD,ZdD,ih]
 | swap x y l=>simp only [ZdD];omega
 | trans _ _ ih1 ih2=>exact ih1.trans ih2
theorem Zt7 {a b:ES} (h:a.Perm b):ZjH a=ZjH b:=by
 induction h with
 | nil=>rfl
 | cons x _ ih=>rw [ZjH,ZjH,ih]
 | swap x y l=>simp only [ZjH];omega
 | trans _ _ ih1 ih2=>exact ih1.trans ih2
theorem Zq6 (a:Int) : ∀ (l:ES) (w:Int),(l.Pairwise fun x y=>x.1≤y.1)→(∀ e∈l,a≤e.1) →
  (∀ e∈(ZkJ a l w).2,a<e.1)∧((ZkJ a l w).2.Pairwise fun x y=>x.1≤y.1)∧(∀ n,a≤n→(ZkJ a l w).1+ZdD (ZkJ a l w).2 n=w+ZdD l n)∧(ZkJ a l w).1+ZjH (ZkJ a l w).2=w+ZjH l ∧ ∃ pre,l=pre++(ZkJ a l w).2
 | [],w,_,_=>⟨fun _ h=>(by cases h),.nil,fun _ _=>rfl,rfl,[],rfl⟩
 | e::l,w,hp,ha=>by
  have hp':=List.pairwise_cons.mp hp
  have hae:=ha e List.mem_cons_self
  unfold ZkJ
  split
  ·
   rename_i he
   obtain ⟨h1,h2,h3,h4,pre,h5⟩:=Zq6 a l (w+e.2.1) hp'.2 (fun x hx=>ha x (List.mem_cons_of_mem _ hx))
   refine ⟨h1,h2,fun n hn => ?_,?_,e::pre,by rw [List.cons_append,← h5]⟩
   ·
    rw [h3 n hn,ZdD,if_pos (by omega)]
    omega
   ·
    rw [h4,ZjH]
    omega
  ·
   rename_i he
   refine ⟨fun x hx => ?_,hp,fun _ _=>rfl,rfl,[],rfl⟩
   rcases List.mem_cons.mp hx with rfl | hx
   · omega
   ·
    have:=hp'.1 x hx
    omega
theorem Zfu (wf:Int→Bool) : ∀ (k:Nat) (l:ES) (w:Int) (op:Bool) (fr:Int),l.length≤k→(l.Pairwise fun x y=>x.1≤y.1)→wf w=op→(op=true → ∀ e∈l,fr<e.1)→wf (w+ZjH l)=false →
  Can (Ze1 wf l w op fr)∧(∀ n,ZGV (Ze1 wf l w op fr) n↔(op=true→fr≤n)∧wf (w+ZdD l n)=true) ∧ ∀ r∈Ze1 wf l w op fr,(∃ e∈l,r.2.1=e.1 - 1)∧(r.1=fr ∨ ∃ e∈l,r.1=e.1)
 | _,[],w,op,fr,_,_,hop,_,hend=>by
  have hw:wf w=false:=by simpa [ZjH] using hend
  rw [Ze1]
  refine ⟨ZYQ,fun n=>⟨fun h=>absurd h (ZC1 n),fun h => ?_⟩,fun _ h=>by cases h⟩
  have h2:=h.2
  simp [ZdD,hw] at h2
 | 0,e::l,_,_,_,hk,_,_,_,_=>by simp at hk
 | k+1,e::l,w,op,fr,hk,hp,hop,hfr,hend=>by
  have hp':=List.pairwise_cons.mp hp
  obtain ⟨g1,g2,g3,g4,pre,g5⟩:=Zq6 e.1 l (w+e.2.1) hp'.2 (fun x hx=>hp'.1 x hx)
  have hlen:(ZkJ e.1 l (w+e.2.1)).2.length≤k:=by
   have:=Zfs e.1 l (w+e.2.1)
   simp at hk
   omega
  have hsub : ∀ x∈(ZkJ e.1 l (w+e.2.1)).2,x∈e::l:=fun x hx=>List.mem_cons_of_mem _ (by rw [g5];exact List.mem_append_right _ hx)
  rw [Ze1]
  generalize ZkJ e.1 l (w+e.2.1)=r at *
  obtain ⟨v,l'⟩:=r
  simp only at g1 g2 g3 g4 hlen hsub ⊢
  have hend':wf (v+ZjH l')=false:=by
   rw [g4]
   have:w+e.2.1+ZjH l=w+ZjH (e::l):=by rw [ZjH];omega
   rw [this]
   exact hend
  have hge : ∀ n,e.1≤n→w+ZdD (e::l) n=v+ZdD l' n:=fun n hn=>by
   rw [g3 n hn,ZdD,if_pos hn]
   omega
  have hlt : ∀ n,n<e.1→w+ZdD (e::l) n=w:=fun n hn=>by
   rw [ZkK (e::l) n (fun x hx=>by
    rcases List.mem_cons.mp hx with rfl | hx
    · exact hn
    · have:=hp'.1 x hx;omega)]
   omega
  have hlt' : ∀ n,n<e.1→v+ZdD l' n=v:=fun n hn=>by
   rw [ZkK l' n (fun x hx=>by have:=g1 x hx;omega)]
   omega
  cases hv:wf v with
  | true=>
   cases op with
   | false=>
    obtain ⟨i1,i2,i3⟩:=Zfu wf k l' v true e.1 hlen g2 hv (fun _=>g1) hend'
    simp only [Bool.not_false,Bool.and_self,if_true]
    refine ⟨i1,fun n => ?_,fun r hr => ?_⟩
    ·
     rw [i2 n]
     by_cases hn:e.1≤n
     ·
      rw [hge n hn]
      simp [hn]
     ·
      rw [hlt n (by omega),hop]
      simp [hn]
    ·
     obtain ⟨⟨x,hx,hx2⟩,h2⟩:=i3 r hr
     refine ⟨⟨x,hsub x hx,hx2⟩,.inr ?_⟩
     rcases h2 with h2 | ⟨y,hy,hy2⟩
     · exact ⟨e,List.mem_cons_self,h2⟩
     · exact ⟨y,hsub y hy,hy2⟩
   | true=>
    have hfe:=hfr rfl e List.mem_cons_self
    obtain ⟨i1,i2,i3⟩:=Zfu wf k l' v true fr hlen g2 hv (fun _ x hx=>by have:=g1 x hx;omega) hend'
    simp only [Bool.not_true,Bool.and_false,Bool.false_eq_true,if_false,Bool.false_and]
    refine ⟨i1,fun n => ?_,fun r hr => ?_⟩
    ·
     rw [i2 n]
     by_cases hn:e.1≤n
     ·
      rw [hge n hn]
      simp
     ·
      rw [hlt n (by omega),hlt' n (by omega),hop,hv]
      simp
    ·
     obtain ⟨⟨x,hx,hx2⟩,h2⟩:=i3 r hr
     refine ⟨⟨x,hsub x hx,hx2⟩,?_⟩
     rcases h2 with h2 | ⟨y,hy,hy2⟩
     · exact .inl h2
     · exact .inr ⟨y,hsub y hy,hy2⟩
  | false=>
   cases op with
   | false=>
    obtain ⟨i1,i2,i3⟩:=Zfu wf k l' v false fr hlen g2 hv (fun h=>by cases h) hend'
    simp only [Bool.not_false,Bool.false_and,Bool.false_eq_true,if_false,Bool.and_false]
    refine ⟨i1,fun n => ?_,fun r hr => ?_⟩
    ·
     rw [i2 n]
     by_cases hn:e.1≤n
     ·
      rw [hge n hn]
      simp
     ·
      rw [hlt n (by omega),hlt' n (by omega),hop,hv]
      simp
    ·
     obtain ⟨⟨x,hx,hx2⟩,h2⟩:=i3 r hr
     refine ⟨⟨x,hsub x hx,hx2⟩,?_⟩
     rcases h2 with h2 | ⟨y,hy,hy2⟩
     · exact .inl h2
     · exact .inr ⟨y,hsub y hy,hy2⟩
   | true=>
    have hfe:=hfr rfl e List.mem_cons_self
    obtain ⟨i1,i2,i3⟩:=Zfu wf k l' v false fr hlen g2 hv (fun h=>by cases h) hend'
    simp only [Bool.not_true,Bool.false_eq_true,if_false,Bool.not_false,Bool.and_self,if_true]
    refine ⟨Zc0 i1 (by simp only;omega) fun r hr => ?_,fun n => ?_,fun r hr => ?_⟩
    ·
     have hr1:=i1.full r hr
     have hm:=(i2 r.1).mp ⟨r,hr,Int.le_refl _,hr1⟩
     simp only
     rcases Int.lt_or_le e.1 r.1 with h | h
     · omega
     ·
      exfalso
      have hz:v+ZdD l' r.1=v:=by
       rw [ZkK l' r.1 (fun x hx=>by have:=g1 x hx;omega)]
       omega
      rw [hz,hv] at hm
      cases hm.2
    ·
     rw [ZCA,i2 n]
     simp only [Bool.false_eq_true,false_implies,true_and]
     by_cases hn:e.1≤n
     ·
      rw [hge n hn]
      constructor
      ·
       rintro (h | h)
       · omega
       · exact ⟨fun _=>by omega,h⟩
      · exact fun h => .inr h.2
     ·
      rw [hlt n (by omega),hlt' n (by omega),hop,hv]
      constructor
      ·
       rintro (h | h)
       · exact ⟨fun _=>h.1,rfl⟩
       · cases h
      · exact fun h => .inl ⟨h.1 trivial,by omega⟩
    ·
     rcases List.mem_cons.mp hr with rfl | hr
     · exact ⟨⟨e,List.mem_cons_self,rfl⟩,.inl rfl⟩
     ·
      obtain ⟨⟨x,hx,hx2⟩,h2⟩:=i3 r hr
      refine ⟨⟨x,hsub x hx,hx2⟩,?_⟩
      rcases h2 with h2 | ⟨y,hy,hy2⟩
      · exact .inl h2
      · exact .inr ⟨y,hsub y hy,hy2⟩
end Go.Proofs.YtamaklnhjagifaaGreatDoor.V
namespace Go.Proofs.YtamaklnhjagifaaGreatDoor.V
open Go.RowKit
set_option linter.unusedVariables false
abbrev PL:Type:=List (Int×ByteArray×Unit)
def seg (g:Int→Int) (lo hi:Int):ByteArray:=ZCK ((List.range (hi+1 - lo).toNat).map fun i=>g (lo+((i:Nat):Int)))
def prt (g:Int→Int) (r:Int×Int×Unit):Int×ByteArray×Unit:=(r.1,seg g r.1 r.2.1,())
def ZDS (g:Int→Int) (t:RS):PL:=t.map (prt g)
def Zig (off:Int) (data:ByteArray) (n:Int):Int:=(ZA0 data).getD (n - off).toNat 0
def ByF (g:Int→Int):Prop := ∀ n,0≤g n∧g n≤255
theorem ZU4 (g:Int→Int) (lo hi:Int):(seg g lo hi).size=(hi+1 - lo).toNat:=by
 unfold seg
 rw [ZYP,List.length_map,List.length_range]
theorem Zk1 {g h:Int→Int} {lo hi:Int} (e : ∀ n,lo≤n→n≤hi→g n=h n):seg g lo hi=seg h lo hi:=by
 unfold seg
 congr 1
 apply List.map_congr_left
 intro i hi'
 have:=List.mem_range.mp hi'
 exact e _ (by omega) (by omega)
theorem Zt8 (g:Int→Int) {lo hi:Int} (h:hi<lo):seg g lo hi=⟨#[]⟩:=by
 unfold seg
 have:(hi+1 - lo).toNat=0:=by omega
 rw [this]
 rfl
theorem Zw1 (g:Int→Int) {lo m hi:Int} (h1:lo≤m+1) (h2:m≤hi):seg g lo m++seg g (m+1) hi=seg g lo hi:=by
 unfold seg
 rw [← Zpw]
 congr 1
 have e:(hi+1 - lo).toNat=(m+1 - lo).toNat+(hi+1 - (m+1)).toNat:=by omega
 rw [e,List.range_add,List.map_append,List.map_map]
 congr 1
 apply List.map_congr_left
 intro i _
 simp only [Function.comp]
 congr 1
 omega
theorem Zay {g:Int→Int} (hg:ByF g) (lo hi:Int):ZA0 (seg g lo hi)=(List.range (hi+1 - lo).toNat).map fun i=>g (lo+((i:Nat):Int)):=by
 unfold seg
 apply ZHE
 intro n hn
 obtain ⟨i,_,rfl⟩:=List.mem_map.mp hn
 exact hg _
theorem ZYR {g:Int→Int} (hg:ByF g) {lo hi a b:Int} (h1:lo≤a) (h2:b≤hi) (h3:a≤b+1):(seg g lo hi).extract (a - lo).toNat (b+1 - lo).toNat=seg g a b:=by
 rw [← ZU3,ZjG,Zay hg,Zay hg]
 apply List.ext_getElem
 ·
  simp
  omega
 ·
  intro i h4 h5
  simp only [List.getElem_drop,List.getElem_take,List.getElem_map,List.getElem_range]
  simp at h5
  congr 1
  omega
theorem ZoV (off:Int) (data:ByteArray):ByF (Zig off data):=by
 intro n
 unfold Zig
 rw [List.getD_eq_getElem?_getD]
 cases h:(ZA0 data)[(n - off).toNat]? with
 | none=>exact ⟨Int.le_refl _,by decide⟩
 | some x=>
  have:=ZGY data x (List.mem_of_getElem? h)
  exact this
theorem Zq7 (off:Int) (data:ByteArray):data=seg (Zig off data) off (off+((data.size:Nat):Int) - 1):=by
 rw [← ZU3,Zay (ZoV _ _)]
 apply List.ext_getElem
 ·
  rw [ZF3]
  simp
  omega
 ·
  intro i h1 h2
  have hr : ∀ (l:List Nat) (h:i<(l.map fun i:Nat=>Zig off data (off+((i:Nat):Int))).length),(l.map fun i:Nat=>Zig off data (off+((i:Nat):Int)))[i]=Zig off data (off+((l[i]'(by simpa using h):Nat):Int)):=fun l h=>List.getElem_map ..
  rw [hr,List.getElem_range]
  unfold Zig
  have e:(off+((i:Nat):Int) - off).toNat=i:=by omega
  rw [e,List.getD_eq_getElem?_getD,List.getElem?_eq_getElem h1]
  exact Option.getD_some.symm
theorem ZEl (g:Int→Int) (t:RS):(ZDS g t).length=t.length:=List.length_map ..
theorem Zc2 {g h:Int→Int} {t:RS} (e : ∀ n,ZGV t n→g n=h n):ZDS g t=ZDS h t:=by
 unfold ZDS
 apply List.map_congr_left
 intro r hr
 unfold prt
 rw [Zk1 fun n h1 h2=>e n ⟨r,hr,h1,h2⟩]
theorem ZkL (g:Int→Int) (s t:RS):ZDS g (s++t)=ZDS g s++ZDS g t:=List.map_append ..
/-! #### parts one behind the other are put together -/
def mrg:RS→RS→RS
 | acc,[]=>acc
 | acc,r::l=>match acc.getLast? with
  | some a=>if a.2.1+1=r.1 then mrg (acc.dropLast++[(a.1,r.2.1,())]) l else mrg (acc++[r]) l
  | none=>mrg [r] l
def Zw2 (l:RS):Prop:=(∀ r∈l,r.1≤r.2.1)∧l.Pairwise fun a b=>a.2.1<b.1
theorem Zrx : ∀ (l acc:RS),Zw2 l→Can acc→(∀ a∈acc,∀ r∈l,a.2.1<r.1)→Can (mrg acc l) ∧ ∀ n,ZGV (mrg acc l) n↔ZGV acc n∨ZGV l n
 | [],acc,_,ha,_=>⟨ha,fun n=>⟨.inl,fun h=>h.elim id fun h=>absurd h (ZC1 n)⟩⟩
 | r::l,acc,hl,ha,hal=>by
  have hr:=hl.1 r List.mem_cons_self
  have hp:=List.pairwise_cons.mp hl.2
  have hl':Zw2 l:=⟨fun x hx=>hl.1 x (List.mem_cons_of_mem _ hx),hp.2⟩
  unfold mrg
  cases hg:acc.getLast? with
  | none=>
   have hn:acc=[]:=List.getLast?_eq_none_iff.mp hg
   subst hn
   simp only
   obtain ⟨i1,i2⟩:=Zrx l [r] hl' (Zc0 ZYQ hr (fun x hx=>by cases hx)) (fun a ha' x hx=>by
    simp only [List.mem_singleton] at ha'
    subst ha'
    exact hp.1 x hx)
   refine ⟨i1,fun n => ?_⟩
   rw [i2 n,ZCA,ZCA r l]
   constructor
   ·
    rintro ((h | h) | h)
    · exact .inr (.inl h)
    · exact absurd h (ZC1 n)
    · exact .inr (.inr h)
   ·
    rintro (h | h | h)
    · exact absurd h (ZC1 n)
    · exact .inl (.inl h)
    · exact .inr h
  | some a=>
   obtain ⟨pre,rfl⟩ : ∃ pre,acc=pre++[a]:=by
    exact List.getLast?_eq_some_iff.mp hg
   have haf:=ha.full a (by simp)
   have har:=hal a (by simp) r List.mem_cons_self
   simp only [List.dropLast_concat]
   split
   ·
    rename_i he
    obtain ⟨i1,i2⟩:=Zrx l (pre++[(a.1,r.2.1,())]) hl' (Zt5 ha.left (Zc0 ZYQ (by simp only;omega) (fun x hx=>by cases hx)) (fun x hx y hy=>by
     simp only [List.mem_singleton] at hy
     subst hy
     exact ha.cross x hx a (by simp))) (fun x hx y hy=>by
     rcases List.mem_append.mp hx with hx | hx
     · exact hal x (List.mem_append_left _ hx) y (List.mem_cons_of_mem _ hy)
     ·
      simp only [List.mem_singleton] at hx
      subst hx
      exact hp.1 y hy)
    refine ⟨i1,fun n => ?_⟩
    rw [i2 n,ZkI,ZkI,ZCA,ZCA a,ZCA r l]
    simp only
    constructor
    ·
     rintro ((h | h | h) | h)
     · exact .inl (.inl h)
     ·
      by_cases hn:n≤a.2.1
      · exact .inl (.inr (.inl ⟨h.1,hn⟩))
      · exact .inr (.inl ⟨by omega,h.2⟩)
     · exact absurd h (ZC1 n)
     · exact .inr (.inr h)
    ·
     rintro ((h | h | h) | h | h)
     · exact .inl (.inl h)
     · exact .inl (.inr (.inl ⟨h.1,by omega⟩))
     · exact absurd h (ZC1 n)
     · exact .inl (.inr (.inl ⟨by omega,h.2⟩))
     · exact .inr h
   ·
    rename_i he
    obtain ⟨i1,i2⟩:=Zrx l (pre++[a]++[r]) hl' (Zt5 ha (Zc0 ZYQ hr (fun x hx=>by cases hx)) (fun x hx y hy=>by
     simp only [List.mem_singleton] at hy
     subst hy
     rcases List.mem_append.mp hx with hx' | hx'
     ·
      have:=ha.cross x hx' a (by simp)
      omega
     ·
      simp only [List.mem_singleton] at hx'
      subst hx'
      omega)) (fun x hx y hy=>by
     rcases List.mem_append.mp hx with hx | hx
     · exact hal x hx y (List.mem_cons_of_mem _ hy)
     ·
      simp only [List.mem_singleton] at hx
      subst hx
      exact hp.1 y hy)
    refine ⟨i1,fun n => ?_⟩
    rw [i2 n,ZkI,ZCA r l,ZCA r []]
    constructor
    ·
     rintro ((h | h | h) | h)
     · exact .inl h
     · exact .inr (.inl h)
     · exact absurd h (ZC1 n)
     · exact .inr (.inr h)
    ·
     rintro (h | h | h)
     · exact .inl (.inl h)
     · exact .inl (.inr (.inl h))
     · exact .inr h
termination_by l=>l.length
end Go.Proofs.YtamaklnhjagifaaGreatDoor.V
namespace Go.Proofs.YtamaklnhjagifaaGreatDoor.V
open Go.RowKit Go.Proofs.Tryz
set_option linter.unusedVariables false
set_option maxRecDepth 100000
def ZzQ:List (Nat×(Σ t:Ty,List t.den)):=[(0,⟨.int .u8,[0,1,28,2,29,14,24,3,30,22,20,15,25,17,4,8,31,27,13,23,21,19,16,7,26,12,18,6,11,5,10,9]⟩),(1,⟨.int .u8,[0,1,56,2,57,49,28,3,61,58,42,50,38,29,17,4,62,47,59,36,45,43,51,22,53,39,33,30,24,18,12,5,63,55,48,27,60,41,37,16,46,35,44,21,52,32,23,11,54,26,40,15,34,20,31,10,25,14,19,9,13,8,7,6]⟩)]
def Inv (w:World):Prop:=2≤w.heap.size∧Zfp w ZzQ
def ZAq:Nat:=2
theorem ZBo : ∀ w,Inv w→ZAq≤w.heap.size:=fun _ h=>h.1
theorem Zx3 (v:Value) (w:World):(callFunc 234 #[v]).run prog w = .ok (.value v) w:=by
 rw [run_callFunc_extern func234 (by kernel_rfl) (by kernel_rfl) (by kernel_rfl) (e:=Extern.AbiNoEscape.same) (by kernel_rfl),Lib.run_noEscape]
 rfl
noncomputable def bas:Bas prog Inv ZAq where
 keep:=fun _ _ _ hB hb h=>⟨Nat.le_trans h.1 hb.size,h.2.keep hB hb (by decide)⟩
 mixed:=by kernel_rfl
 ext:=fun K=>Nat.beq K 234
 ext_ok:=fun K h v w=>by
  obtain rfl:=Nat.eq_of_beq_eq_true h
  exact Zx3 v w
 gl:=Zvd ZzQ
 gl_ok:=fun k _ _ hI hS _ _=>Zt2 hS (l:=ZzQ) (by decide) hI.2
abbrev ZSN:Type:=(ByteArray×(Int×Unit))
@[reducible] def ZAM:Ty:=(.pair (.int .u64) (.pair .str .unit))
abbrev ZAE:Type:=(Int×(ByteArray×Unit))
@[reducible] def ZAG:Ty:=(.pair (.int .u64) (.pair (.int .u64) .unit))
abbrev ZAA:Type:=(Int×(Int×Unit))
@[reducible] def ZAO:Ty:=(.pair (.int .u64) (.pair (.int .i64) .unit))
abbrev ZAI:Type:=(Int×(Int×Unit))
abbrev Zaz:Type:=(Int×(Int×(Bool×(Int×Unit))))
abbrev ZYS:Type:=(Int×(Int×(Int×(Int×Unit))))
abbrev Zw3:Type:=(Int×(Int×(Int×(Int×Unit))))
@[reducible] def ZAP:Ty:=(.pair (.int .u64) (.pair (.slice ZAM) (.pair (.int .u64) (.pair .bool .unit))))
abbrev ZAD:Type:=(Int×((List ZAE)×(Int×(Bool×Unit))))
abbrev Zk2:Type:=(ZAD×Unit)
@[reducible] def Zt9:Ty:=(.pair (.int .u8) (.pair (.int .u8) (.pair (.int .u8) (.pair (.int .u8) (.pair (.int .u8) (.pair (.int .u8) (.pair (.int .u8) (.pair (.int .u8) .unit))))))))
abbrev Zpy:Type:=(Int×(Int×(Int×(Int×(Int×(Int×(Int×(Int×Unit))))))))
@[reducible] def Zsg:Ty:=(.pair (.int .u64) (.pair (.int .u64) (.pair (.int .u64) (.pair (.int .u64) (.pair (.int .u64) (.pair (.int .u64) (.pair (.int .u64) (.pair (.int .u64) .unit))))))))
abbrev Znd:Type:=(Int×(Int×(Int×(Int×(Int×(Int×(Int×(Int×Unit))))))))
@[reducible] def ZAT:Ty:=(.pair (.int .u64) (.pair (.int .u64) (.pair .str (.pair (.slice ZAG) (.pair (.slice ZAG) (.pair .bool (.pair .bool (.pair .bool .unit))))))))
abbrev ZAF:Type:=(Int×(Int×(ByteArray×((List ZAA)×((List ZAA)×(Bool×(Bool×(Bool×Unit))))))))
abbrev ZoW:Type:=(ZAF×Unit)
@[reducible] def ZAN:Ty:=(.pair (.int .u64) (.pair (.int .u64) (.pair (.int .u64) (.pair (.int .u64) (.pair (.int .u64) (.pair (.int .u64) (.pair (.int .u64) (.pair (.int .u64) (.pair .bool (.pair .str (.pair .str (.pair .str (.pair (.slice ZAG) .unit)))))))))))))
abbrev ZAC:Type:=(Int×(Int×(Int×(Int×(Int×(Int×(Int×(Int×(Bool×(ByteArray×(ByteArray×(ByteArray×((List ZAA)×Unit)))))))))))))
@[reducible] def ZBV:Ty:=(.pair (.int .i64) (.pair (.int .i64) (.pair (.int .u64) (.pair ZAN .unit))))
abbrev ZAR:Type:=(Int×(Int×(Int×(ZAC×Unit))))
@[reducible] def ZAJ:Ty:=(.pair ZAT (.pair (.int .u64) (.pair (.int .u64) (.pair (.int .u64) (.pair .bool (.pair .bool (.pair .bool (.pair ZAP (.pair (.int .u64) (.pair (.int .u64) (.pair .bool (.pair .bool (.pair .bool (.pair (.int .u64) (.pair .bool .unit)))))))))))))))
abbrev ZAB:Type:=(ZAF×(Int×(Int×(Int×(Bool×(Bool×(Bool×(ZAD×(Int×(Int×(Bool×(Bool×(Bool×(Int×(Bool×Unit)))))))))))))))
abbrev Zk3:Type:=(Int×(ZAB×Unit))
abbrev Zpz:Type:=(Bool×(ZYS×(ZYS×(Int×(Int×(Int×(Int×(Int×(Bool×(ZAA×(ZAA×((List Zk3)×(Int×Unit)))))))))))))
theorem ok3:ZAa prog 3 f3:=⟨func3,by decide +kernel,by kernel_rfl⟩
theorem ok4:ZAa prog 4 f4:=⟨func4,by decide +kernel,by kernel_rfl⟩
theorem ok5:ZAa prog 5 f5:=⟨func5,by decide +kernel,by kernel_rfl⟩
theorem ok6:ZAa prog 6 f6:=⟨func6,by decide +kernel,by kernel_rfl⟩
theorem ZzR:ZAa prog 14 f14:=⟨func14,by decide +kernel,by kernel_rfl⟩
theorem Zx4:ZAa prog 15 f15:=⟨func15,by decide +kernel,by kernel_rfl⟩
theorem Zxl:ZAa prog 16 f16:=⟨func16,by decide +kernel,by kernel_rfl⟩
theorem Zy9:ZAa prog 17 f17:=⟨func17,by decide +kernel,by kernel_rfl⟩
theorem ZzA:ZAa prog 18 f18:=⟨func18,by decide +kernel,by kernel_rfl⟩
theorem ZzB:ZAa prog 19 f19:=⟨func19,by decide +kernel,by kernel_rfl⟩
theorem ZzS:ZAa prog 20 f20:=⟨func20,by decide +kernel,by kernel_rfl⟩
theorem Zzu:ZAa prog 21 f21:=⟨func21,by decide +kernel,by kernel_rfl⟩
theorem ZzT:ZAa prog 22 f22:=⟨func22,by decide +kernel,by kernel_rfl⟩
theorem ZzC:ZAa prog 23 f23:=⟨func23,by decide +kernel,by kernel_rfl⟩
theorem Zzv:ZAa prog 24 f24:=⟨func24,by decide +kernel,by kernel_rfl⟩
theorem ZzD:ZAa prog 25 f25:=⟨func25,by decide +kernel,by kernel_rfl⟩
theorem ZzU:ZAa prog 26 f26:=⟨func26,by decide +kernel,by kernel_rfl⟩
theorem Zzw:ZAa prog 27 f27:=⟨func27,by decide +kernel,by kernel_rfl⟩
theorem Zzx:ZAa prog 28 f28:=⟨func28,by decide +kernel,by kernel_rfl⟩
theorem Zzy:ZAa prog 29 f29:=⟨func29,by decide +kernel,by kernel_rfl⟩
theorem Zzz:ZAa prog 30 f30:=⟨func30,by decide +kernel,by kernel_rfl⟩
theorem Zz0:ZAa prog 31 f31:=⟨func31,by decide +kernel,by kernel_rfl⟩
theorem ZzV:ZAa prog 32 f32:=⟨func32,by decide +kernel,by kernel_rfl⟩
theorem Zz1:ZAa prog 79 f79:=⟨func79,by decide +kernel,by kernel_rfl⟩
theorem ZzW:ZAa prog 80 f80:=⟨func80,by decide +kernel,by kernel_rfl⟩
theorem ZzX:ZAa prog 81 f81:=⟨func81,by decide +kernel,by kernel_rfl⟩
theorem Zx5:ZAa prog 82 f82:=⟨func82,by decide +kernel,by kernel_rfl⟩
theorem Zz2:ZAa prog 83 f83:=⟨func83,by decide +kernel,by kernel_rfl⟩
theorem Zx6:ZAa prog 84 f84:=⟨func84,by decide +kernel,by kernel_rfl⟩
theorem ZzE:ZAa prog 85 f85:=⟨func85,by decide +kernel,by kernel_rfl⟩
theorem Z0E:ZAa prog 86 f86:=⟨func86,by decide +kernel,by kernel_rfl⟩
theorem Z0F:ZAa prog 87 f87:=⟨func87,by decide +kernel,by kernel_rfl⟩
theorem Zz3:ZAa prog 88 f88:=⟨func88,by decide +kernel,by kernel_rfl⟩
theorem Zz4:ZAa prog 89 f89:=⟨func89,by decide +kernel,by kernel_rfl⟩
theorem ZzY:ZAa prog 90 f90:=⟨func90,by decide +kernel,by kernel_rfl⟩
theorem Zry:ZAa prog 91 f91:=⟨func91,by decide +kernel,by kernel_rfl⟩
theorem ZzZ:ZAa prog 92 f92:=⟨func92,by decide +kernel,by kernel_rfl⟩
theorem Zz5:ZAa prog 93 f93:=⟨func93,by decide +kernel,by kernel_rfl⟩
theorem Zz6:ZAa prog 94 f94:=⟨func94,by decide +kernel,by kernel_rfl⟩
theorem Zz7:ZAa prog 95 f95:=⟨func95,by decide +kernel,by kernel_rfl⟩
theorem Zz8:ZAa prog 96 f96:=⟨func96,by decide +kernel,by kernel_rfl⟩
theorem Zz9:ZAa prog 97 f97:=⟨func97,by decide +kernel,by kernel_rfl⟩
theorem Z0A:ZAa prog 98 f98:=⟨func98,by decide +kernel,by kernel_rfl⟩
theorem Z0B:ZAa prog 99 f99:=⟨func99,by decide +kernel,by kernel_rfl⟩
theorem Zza:ZAa prog 100 f100:=⟨func100,by decide +kernel,by kernel_rfl⟩
theorem Zzb:ZAa prog 101 f101:=⟨func101,by decide +kernel,by kernel_rfl⟩
theorem Zzc:ZAa prog 102 f102:=⟨func102,by decide +kernel,by kernel_rfl⟩
theorem Zzd:ZAa prog 103 f103:=⟨func103,by decide +kernel,by kernel_rfl⟩
theorem Zze:ZAa prog 104 f104:=⟨func104,by decide +kernel,by kernel_rfl⟩
theorem Zzf:ZAa prog 105 f105:=⟨func105,by decide +kernel,by kernel_rfl⟩
theorem Zx7:ZAa prog 106 f106:=⟨func106,by decide +kernel,by kernel_rfl⟩
theorem Zx8:ZAa prog 107 f107:=⟨func107,by decide +kernel,by kernel_rfl⟩
theorem Zx9:ZAa prog 124 f124:=⟨func124,by decide +kernel,by kernel_rfl⟩
theorem Zvg:ZAa prog 158 f158:=⟨func158,by decide +kernel,by kernel_rfl⟩
theorem ZyA:ZAa prog 159 f159:=⟨func159,by decide +kernel,by kernel_rfl⟩
theorem ZyB:ZAa prog 160 f160:=⟨func160,by decide +kernel,by kernel_rfl⟩
theorem Zw4:ZAa prog 161 f161:=⟨func161,by decide +kernel,by kernel_rfl⟩
theorem ZyC:ZAa prog 162 f162:=⟨func162,by decide +kernel,by kernel_rfl⟩
theorem ZyD:ZAa prog 163 f163:=⟨func163,by decide +kernel,by kernel_rfl⟩
theorem Zw5:ZAa prog 164 f164:=⟨func164,by decide +kernel,by kernel_rfl⟩
theorem Zfv:ZAa prog 165 f165:=⟨func165,by decide +kernel,by kernel_rfl⟩
theorem ZyE:ZAa prog 166 f166:=⟨func166,by decide +kernel,by kernel_rfl⟩
theorem ZuA:ZAa prog 167 f167:=⟨func167,by decide +kernel,by kernel_rfl⟩
theorem ZyF:ZAa prog 168 f168:=⟨func168,by decide +kernel,by kernel_rfl⟩
theorem ZyG:ZAa prog 169 f169:=⟨func169,by decide +kernel,by kernel_rfl⟩
theorem Zvh:ZAa prog 170 f170:=⟨func170,by decide +kernel,by kernel_rfl⟩
theorem Zw6:ZAa prog 171 f171:=⟨func171,by decide +kernel,by kernel_rfl⟩
theorem ZyH:ZAa prog 172 f172:=⟨func172,by decide +kernel,by kernel_rfl⟩
theorem ZyI:ZAa prog 173 f173:=⟨func173,by decide +kernel,by kernel_rfl⟩
theorem ZyJ:ZAa prog 174 f174:=⟨func174,by decide +kernel,by kernel_rfl⟩
theorem Zq8:ZAa prog 175 f175:=⟨func175,by decide +kernel,by kernel_rfl⟩
theorem Zq9:ZAa prog 176 f176:=⟨func176,by decide +kernel,by kernel_rfl⟩
theorem ZmT:ZAa prog 177 f177:=⟨func177,by decide +kernel,by kernel_rfl⟩
theorem Zw7:ZAa prog 178 f178:=⟨func178,by decide +kernel,by kernel_rfl⟩
theorem ZyK:ZAa prog 179 f179:=⟨func179,by decide +kernel,by kernel_rfl⟩
theorem ZuB:ZAa prog 180 f180:=⟨func180,by decide +kernel,by kernel_rfl⟩
theorem ZyL:ZAa prog 181 f181:=⟨func181,by decide +kernel,by kernel_rfl⟩
theorem ZyM:ZAa prog 182 f182:=⟨func182,by decide +kernel,by kernel_rfl⟩
theorem ZyN:ZAa prog 202 f202:=⟨func202,by decide +kernel,by kernel_rfl⟩
theorem Zw8:ZAa prog 203 f203:=⟨func203,by decide +kernel,by kernel_rfl⟩
theorem ZyO:ZAa prog 204 f204:=⟨func204,by decide +kernel,by kernel_rfl⟩
theorem ZyP:ZAa prog 205 f205:=⟨func205,by decide +kernel,by kernel_rfl⟩
theorem ZuC:ZAa prog 206 f206:=⟨func206,by decide +kernel,by kernel_rfl⟩
theorem Zw9:ZAa prog 207 f207:=⟨func207,by decide +kernel,by kernel_rfl⟩
theorem ZSO:ZAa prog 208 f208:=⟨func208,by decide +kernel,by kernel_rfl⟩
theorem ZuD:ZAa prog 209 f209:=⟨func209,by decide +kernel,by kernel_rfl⟩
theorem ZxA:ZAa prog 210 f210:=⟨func210,by decide +kernel,by kernel_rfl⟩
theorem ZxB:ZAa prog 211 f211:=⟨func211,by decide +kernel,by kernel_rfl⟩
theorem ZyQ:ZAa prog 212 f212:=⟨func212,by decide +kernel,by kernel_rfl⟩
theorem ZFe:ZAa prog 213 f213:=⟨func213,by decide +kernel,by kernel_rfl⟩
theorem Zzg:ZAa prog 214 f214:=⟨func214,by decide +kernel,by kernel_rfl⟩
theorem ZxC:ZAa prog 223 f223:=⟨func223,by decide +kernel,by kernel_rfl⟩
theorem ZyR:ZAa prog 224 f224:=⟨func224,by decide +kernel,by kernel_rfl⟩
theorem ZxD:ZAa prog 225 f225:=⟨func225,by decide +kernel,by kernel_rfl⟩
theorem Zfw:ZAa prog 226 f226:=⟨func226,by decide +kernel,by kernel_rfl⟩
theorem Za0:ZAa prog 227 f227:=⟨func227,by decide +kernel,by kernel_rfl⟩
theorem ZoX:ZAa prog 228 f228:=⟨func228,by decide +kernel,by kernel_rfl⟩
theorem Zp0:ZAa prog 229 f229:=⟨func229,by decide +kernel,by kernel_rfl⟩
theorem Zzh:ZAa prog 230 f230:=⟨func230,by decide +kernel,by kernel_rfl⟩
theorem ZyS:ZAa prog 231 f231:=⟨func231,by decide +kernel,by kernel_rfl⟩
theorem ZyT:ZAa prog 232 f232:=⟨func232,by decide +kernel,by kernel_rfl⟩
theorem ZyU:ZAa prog 233 f233:=⟨func233,by decide +kernel,by kernel_rfl⟩
theorem ZxE:ZAa prog 239 f239:=⟨func239,by decide +kernel,by kernel_rfl⟩
theorem ZyV:ZAa prog 240 f240:=⟨func240,by decide +kernel,by kernel_rfl⟩
theorem ZyW:ZAa prog 241 f241:=⟨func241,by decide +kernel,by kernel_rfl⟩
theorem ZyX:ZAa prog 242 f242:=⟨func242,by decide +kernel,by kernel_rfl⟩
theorem ZyY:ZAa prog 243 f243:=⟨func243,by decide +kernel,by kernel_rfl⟩
theorem ZyZ:ZAa prog 244 f244:=⟨func244,by decide +kernel,by kernel_rfl⟩
theorem Zya:ZAa prog 245 f245:=⟨func245,by decide +kernel,by kernel_rfl⟩
theorem Zyb:ZAa prog 246 f246:=⟨func246,by decide +kernel,by kernel_rfl⟩
theorem ZrA:ZAa prog 247 f247:=⟨func247,by decide +kernel,by kernel_rfl⟩
theorem ZmU:ZAa prog 248 f248:=⟨func248,by decide +kernel,by kernel_rfl⟩
theorem ZoY:ZAa prog 249 f249:=⟨func249,by decide +kernel,by kernel_rfl⟩
theorem Zyc:ZAa prog 250 f250:=⟨func250,by decide +kernel,by kernel_rfl⟩
theorem Zyd:ZAa prog 251 f251:=⟨func251,by decide +kernel,by kernel_rfl⟩
theorem Zye:ZAa prog 252 f252:=⟨func252,by decide +kernel,by kernel_rfl⟩
theorem Zyf:ZAa prog 254 f254:=⟨func254,by decide +kernel,by kernel_rfl⟩
theorem Zk4:ZAa prog 255 f255:=⟨func255,by decide +kernel,by kernel_rfl⟩
theorem ZmV:ZAa prog 256 f256:=⟨func256,by decide +kernel,by kernel_rfl⟩
theorem Zyg:ZAa prog 257 f257:=⟨func257,by decide +kernel,by kernel_rfl⟩
theorem Zyh:ZAa prog 258 f258:=⟨func258,by decide +kernel,by kernel_rfl⟩
theorem ZoZ:ZAa prog 259 f259:=⟨func259,by decide +kernel,by kernel_rfl⟩
theorem Zp1:ZAa prog 260 f260:=⟨func260,by decide +kernel,by kernel_rfl⟩
theorem Zp2:ZAa prog 261 f261:=⟨func261,by decide +kernel,by kernel_rfl⟩
theorem Zp3:ZAa prog 262 f262:=⟨func262,by decide +kernel,by kernel_rfl⟩
theorem Zp4:ZAa prog 263 f263:=⟨func263,by decide +kernel,by kernel_rfl⟩
theorem Zp5:ZAa prog 264 f264:=⟨func264,by decide +kernel,by kernel_rfl⟩
theorem Zp6:ZAa prog 265 f265:=⟨func265,by decide +kernel,by kernel_rfl⟩
theorem Zp7:ZAa prog 266 f266:=⟨func266,by decide +kernel,by kernel_rfl⟩
theorem Zyi:ZAa prog 267 f267:=⟨func267,by decide +kernel,by kernel_rfl⟩
theorem Zp8:ZAa prog 268 f268:=⟨func268,by decide +kernel,by kernel_rfl⟩
theorem Zp9:ZAa prog 269 f269:=⟨func269,by decide +kernel,by kernel_rfl⟩
theorem ZqA:ZAa prog 270 f270:=⟨func270,by decide +kernel,by kernel_rfl⟩
theorem ZqB:ZAa prog 271 f271:=⟨func271,by decide +kernel,by kernel_rfl⟩
end Go.Proofs.YtamaklnhjagifaaGreatDoor.V
namespace Go.Proofs.YtamaklnhjagifaaGreatDoor.V
open Go.RowKit
set_option linter.unusedVariables false
section
variable {P:Program} {I:World→Prop} {g:Nat} {M:Mach P I g} {R:Type} {fin:Fins R}
variable {base:Base} {S0:Nat→Prop} {cs0:List Frame} {post:World→Ending→R→Prop}
theorem ZqC {c:Cfg} {f:Func} {body:Code} {id:Nat} {ops:Array Oper} {k:List Item} {i:Nat} {o:Oper} {T e:TypeId} {x:Operand} {yT:TypeId} {t:Ty} {l:List t.den} {cl:Bool} {r:R} (hf:M.fn c.top.K=some f) (hb:f.body=some body)
  (ht:ZBn body c.top.path []=some (.region id ops false,k)) (hix:c.top.ix=some i) (hstart:c.top.start=none) (ho:ops[i]? = some o) (hgd:o.guard=none) (hop:o.op = .binOp .eql T x (.const (.slice none 0 0)) yT)
  (hu:P.underlying T=some (.slice e)) (hx:ZC8 M.gl c.top.env x = .rows t l cl)
  (h1:l=[]→Sound M base S0 cs0 post (adv c i o.dst (.val (.bool true)) c.H ⟨[],[],[]⟩) r) (h2:Sound M base S0 cs0 post (adv c i o.dst (.val (.bool false)) c.H ⟨[],[],[]⟩) r):Sound M base S0 cs0 post c r:=by
 intro ρ w S b a todo cs hI hg hh he hst hstack htr
 obtain ⟨hb1,hb2,hd,f',body',code,k',e1,e2,e3,e4⟩:=hst
 rw [hf] at e1;cases e1
 rw [hb] at e2;cases e2
 rw [ht] at e3;cases e3
 rw [hix] at e4
 obtain ⟨id',ops',draw',e5,e6⟩:=e4
 cases e5
 have hlt:i<ops.size:=(Array.getElem?_eq_some_iff.1 ho).1
 rw [hstart] at e6
 obtain ⟨_,rfl⟩:=e6
 have eH:c.H0=c.H:=by simp [Cfg.H0,hstart]
 have eE:c.env0=c.top.env:=by simp [Cfg.env0,hstart]
 rw [eH] at hh he hstack
 rw [eE] at he
 have hv:=ZJW M hg hI hh he x
 rw [hx] at hv
 simp only [ZAW] at hv
 obtain ⟨⟨ad,cap,hve,_,hne⟩,_⟩:=hv
 have hS:Sound M base S0 cs0 post (adv c i o.dst (.val (.bool ad.isNone)) c.H ⟨[],[],[]⟩) r:=by
  cases ad with
  | none=>
   refine h1 ?_
   rcases List.eq_nil_or_concat l with h | ⟨_,_,h⟩
   · exact h
   ·
    have:l≠[]:=by rw [h];simp
    obtain ⟨_,_,_,_,_,e,_⟩:=hne this
    cases e
  | some _=>exact h2
 have hrun:(execOp a.eval o).run P w = .ok (.value (.bool ad.isNone)) w:=by
  obtain ⟨dst,op,ty,pos,aft,gd⟩:=o
  simp only at hop
  subst hop
  have:=run_equal_slice_nil (P:=P) w T e ad l.length cap hu
  have hc:a.eval (.const (.slice none 0 0)) = .slice none 0 0:=rfl
  simp only [execOp,hve,hc]
  simp [eqGuard,binOp,this]
 have hwp:wpOp P ops (fun _ _ _=>False) i (fun a' w'=>w'=w∧a'=a.put o.dst (.bool ad.isNone)) a w:=by
  unfold wpOp
  simp only [ho]
  have:Region.wanted o (yielded ops a.tmps)=true:=by simp [Region.wanted,hgd]
  rw [this]
  simp only [if_true]
  left
  unfold Oper.wp
  rw [hrun]
  exact ⟨rfl,rfl⟩
 rw [ZMN hlt]
 obtain ⟨a',w',⟨rfl,rfl⟩,hsteps⟩:=ZnV hwp b (rest:=List.range' (i+1) (ops.size - (i+1))) k cs
 refine Fin.steps hsteps ?_
 have hsn:(adv c i o.dst (.val (.bool ad.isNone)) c.H ⟨[],[],[]⟩).top.start=none:=hstart
 exact hS.plain hsn ρ _ S b _ _ cs hI hg hh (ZU2 he (p := .val (.bool ad.isNone)) (v := .bool ad.isNone) (by simp only [ZAW]) o.dst) ⟨hb1,hb2,(ZJX _ _ _).trans hd,f,body,.region id ops false,k,hf,hb,ht,id,ops,false,rfl,by rw [hsn];exact ⟨rfl,rfl⟩⟩ hstack
theorem ZuE {c:Cfg} {r:R} (b j:Nat) {e:TypeId} {cs:List PV} (b' off:Nat) (hs:c.top.start=none) (ho:c.H.at? b=some (.cells e cs)) (hj:cs[j]? = some (.nos b' off))
  (h1:Sound M base S0 cs0 post { c with H:=c.H.set b (some (.cells e (cs.set j (.val (.pointer none))))) } r) (h2:Sound M base S0 cs0 post { c with H:=c.H.set b (some (.cells e (cs.set j (.ptr b' off)))) } r):Sound M base S0 cs0 post c r:=by
 intro ρ w S b0 a todo cs' hI hg hh he hst hstack htr
 have eH:c.H0=c.H:=by simp [Cfg.H0,hs]
 have eE:c.env0=c.top.env:=by simp [Cfg.env0,hs]
 rw [eH] at hh he hstack
 rw [eE] at he
 obtain ⟨blk,arr,fz,q1,q2,q3,q4⟩:=hh.block _ _ ho
 obtain ⟨v,hv1,hv2⟩:=q4.get j _ hj
 have go : ∀ p:PV,(∀ {H'},Ext base ρ c.H w S ρ H' w S→ZAW ρ H' w S p v)→Sound M base S0 cs0 post { c with H:=c.H.set b (some (.cells e (cs.set j p))) } r→Fin P (ZRl c.top.K c.rest) base cs0 post w (lone (b0.at a todo) cs' w) r:=by
  intro p hp hS
  obtain ⟨g1,g2⟩:=hh.turn (w':=w) (o' := .cells e (cs.set j p)) ho rfl rfl (.cells (by simp)) q1 rfl (fun _ _=>rfl) ⟨rfl,rfl,rfl⟩ (fun hx=>by
   refine ⟨blk,arr,fz,q1,q2,q3,?_⟩
   have hset:=(q4.mono hx.hH hx.hr hx.hw hx.hS).set j (hp hx)
   have:arr.toList.set j v=arr.toList:=by
    apply List.ext_getElem?
    intro i
    by_cases e:j=i
    ·
     subst e
     rw [List.getElem?_set_self',hv1]
     rfl
    · rw [List.getElem?_set_ne e]
   rwa [this] at hset)
  have hsn:({ c with H:=c.H.set b (some (.cells e (cs.set j p))) }:Cfg).top.start=none:=hs
  refine hS.plain hsn ρ w S b0 a todo cs' hI hg g1 (g2.rels he) hst (hstack.ext g2)
 simp only [ZAW] at hv2
 obtain ⟨hkn,hv2⟩:=hv2
 rcases hv2 with rfl | hv2
 · exact go _ (fun _=>by simp only [ZAW]) h1
 ·
  refine go _ (fun {H'} hx => ?_) h2
  have:ZAW ρ c.H w S (.ptr b' off) v:=by simp only [ZAW];exact ⟨⟨hkn,hv2.1⟩,hv2.2⟩
  exact hx.rel this
end
end Go.Proofs.YtamaklnhjagifaaGreatDoor.V
namespace Go.Proofs.YtamaklnhjagifaaGreatDoor.V
open Go.RowKit Go.Proofs.Tryz
set_option linter.unusedVariables false
set_option maxRecDepth 100000
noncomputable def ZdE:Mach prog Inv ZAq:=ZFE bas [(210,f210)] ⟨ZxA,trivial⟩ [] trivial [] trivial [] trivial
/-! ### (domino/ranges.Range).empty -/
@[reducible] def ZRm:List Ty:=[.bool]
def Za1:List Nat:=[210]
noncomputable def ZEa (a0:ZAA):Option (Bool×Unit) :=
 let b1:Bool:=(decide (a0.2.1<a0.1))
 some (b1,())
theorem ZQD : ∃ f,f = @ZEa:=⟨_,rfl⟩
noncomputable def ZF4:=Classical.choose ZQD
theorem ZJZ : @ZF4 = @ZEa:=Classical.choose_spec ZQD
noncomputable def ZJa:Con:=⟨[ZAG],ZRm,fun x=>ZEa x.1⟩
noncomputable def ZEb:Con:=⟨[ZAG],ZRm,fun x=>ZF4 x.1⟩
theorem ZW0:ZJa.Sound prog Inv ZAq 210 :=
 ZAm (M:=ZdE) ZBo (f:=f210) rfl Za1 100000 (X:=nowhere) (fun base S0 cs0 hn hf=>ZAH.nowhere) (by intro x;kernel_rfl)
theorem ZNL:ZEb.Sound prog Inv ZAq 210:=by
 have e:ZEb=ZJa:=by unfold ZEb ZJa;rw [ZJZ]
 rw [e];exact ZW0
noncomputable def ZV2:Mach prog Inv ZAq:=ZFE bas [(167,f167)] ⟨ZuA,trivial⟩ [(210,ZEb)] ⟨⟨ZNL,ZAa.callable ZxA⟩,trivial⟩ [] trivial [] trivial
/-! ### domino/ranges.edges -/
@[reducible] def ZE2:List Ty:=[(.slice ZAO)]
def ZTL:List Nat:=[167]
abbrev ZIq (base:Base) (S0:Nat→Prop):=base.n=0∧FinOk (Zdd ZE2) base S0 (ZFg ZE2 S0)
abbrev ZLW (base:Base) (S0:Nat→Prop) (cs0:List Go.Frame) (p:CPat) (J:ZC9 p→Option (ZFC ZE2)):=ZAb ZV2 base S0 cs0 (ZFg ZE2 S0) p J
abbrev Zde (base:Base) (S0:Nat→Prop) (cs0:List Go.Frame) (X:Cfg→Option (Option (ZFC ZE2))):=ZAH ZV2 base S0 cs0 (ZFg ZE2 S0) X
@[reducible] noncomputable def ZEO:CPat:=⟨⟨167,[1,0,1,0],none,[.any,.int .i64,.any,.any,.all 0,.any,.any,.rows ZAG false,.int .i64,.int .i64],21⟩,[],[.row ZAO],0⟩
@[reducible] noncomputable def ZEP (k:Int→(List ZAA)→Int→Int→(List ZAA)→Option ((List ZAI)×Unit)):ZC9 ZEO→Option ((List ZAI)×Unit):=fun x=>k x.1.2.1 x.1.2.2.2.2.2.2.2.1 x.1.2.2.2.2.2.2.2.2.1 x.1.2.2.2.2.2.2.2.2.2.1 x.2.2.1
@[reducible] noncomputable def ZQ4:CPat:=⟨⟨167,[1,0,1,0,0,1,1,1],none,[.any,.int .i64,.any,.any,.all 0,.any,.any,.rows ZAG false,.int .i64,.int .i64],21⟩,[],[.row ZAO],0⟩
@[reducible] noncomputable def ZZV (k:Int→(List ZAA)→Int→Int→(List ZAA)→Option ((List ZAI)×Unit)):ZC9 ZQ4→Option ((List ZAI)×Unit):=fun x=>k x.1.2.1 x.1.2.2.2.2.2.2.2.1 x.1.2.2.2.2.2.2.2.2.1 x.1.2.2.2.2.2.2.2.2.2.1 x.2.2.1
noncomputable def ZQ5 (k0:Int→(List ZAA)→Int→Int→(List ZAA)→Option ((List ZAI)×Unit)) (i33:Int) (l34:(List ZAA)) (i35:Int) (i36:Int) (l37:(List ZAA)):Option ((List ZAI)×Unit) :=
 let n38:Int:=(Go.IntKind.wrap Go.IntKind.i64 (i36+(1:Int)))
 k0 i33 l34 i35 n38 l37
theorem ZW1 : ∃ f,f = @ZQ5:=⟨_,rfl⟩
noncomputable def ZLX:=Classical.choose ZW1
theorem ZW2 : @ZLX = @ZQ5:=Classical.choose_spec ZW1
theorem ZjI {base S0 cs0} (hfin:ZIq base S0) (k0) (h0:ZLW base S0 cs0 ZEO (ZEP k0)):ZLW base S0 cs0 ZQ4 (ZZV (ZLX k0)) :=
 ZAb.join hfin.2 (ZAH.cut (ZAH.nowhere) (Nat.le_of_eq hfin.1) h0) ZTL 100000 (by rw [ZW2];intro x;kernel_rfl)
noncomputable def ZZW (k0:Int→(List ZAA)→Int→Int→(List ZAA)→Option ((List ZAI)×Unit)):Cfg→Option (Option ((List ZAI)×Unit)):=cut ZQ4 (ZZV (ZLX k0)) (cut ZEO (ZEP k0) (nowhere))
theorem ZjJ {base S0 cs0} (hfin:ZIq base S0) (k0) (h0:ZLW base S0 cs0 ZEO (ZEP k0)):Zde base S0 cs0 (ZZW k0):=ZAH.cut (ZAH.cut (ZAH.nowhere) (Nat.le_of_eq hfin.1) h0) (Nat.le_of_eq hfin.1) (ZjI hfin k0 h0)
noncomputable def ZQ6 (k0:Int→(List ZAA)→Int→Int→(List ZAA)→Option ((List ZAI)×Unit)) (i18:Int) (l19:(List ZAA)) (i20:Int) (i21:Int) (l22:(List ZAA)):Option ((List ZAI)×Unit) :=
 let b23:Bool:=(decide (i21<i20))
 bif b23 then
  bif (decide (((0:Int)≤i21)∧(i21<(((List.length l19):Nat):Int)))) then
   let x24:ZAA:=(List.getD l19 (Int.toNat i21) (Ty.dflt ZAG))
   ZAX (ZF4 x24) fun y25=>
   let b26:Bool:=(!y25.1)
   bif b26 then
    let n27:Int:=(Go.IntKind.wrap Go.IntKind.u64 (x24.2.1+(1:Int)))
    let n28:Int:=(Go.IntKind.wrap Go.IntKind.i64 ((0:Int) - i18))
    let e29:(Int×(Int×Unit)):=(x24.1,(i18,()))
    let e30:(Int×(Int×Unit)):=(n27,(n28,()))
    bif (decide (((List.length l22)+(List.length (e29::(e30::([]:List ZAI)))))≤4294967296)) then
     let l31:(List ZAI):=(l22++(e29::(e30::([]:List ZAI))))
     ZLX k0 i18 l19 i20 i21 l31
    else none
   else
    ZLX k0 i18 l19 i20 i21 l22
  else none
 else
  some (l22,())
noncomputable def ZGZ:Nat→Int→(List ZAA)→Int→Int→(List ZAA)→Option ((List ZAI)×Unit)
 | 0=>fun _ _ _ _ _=>none
 | m+1=>ZQ6 (ZGZ m)
noncomputable def ZPJ (i18:Int) (l19:(List ZAA)) (i20:Int) (i21:Int) (l22:(List ZAA)):Option ((List ZAI)×Unit):=ZGZ (Int.toNat (i20 - i21)+2) i18 l19 i20 i21 l22
theorem ZU5 : ∃ f,f = @ZPJ:=⟨_,rfl⟩
noncomputable def ZNM:=Classical.choose ZU5
theorem ZU6 : @ZNM = @ZPJ:=Classical.choose_spec ZU5
theorem ZjK {base S0 cs0} (hfin:ZIq base S0) : ∀ m,ZLW base S0 cs0 ZEO (ZEP (ZGZ m)) :=
 ZAb.loop' hfin.2 ZTL 100000 ZEP (fun k0=>ZZW k0) (fun k0 h0=>ZjJ hfin k0 h0) (ZGZ) (by intro x;rfl) (by intro m x;kernel_rfl)
theorem Zhq {base S0 cs0} (hfin:ZIq base S0):ZLW base S0 cs0 ZEO (ZEP (ZNM)):=by
 rw [ZU6];exact fun x r hx=>ZjK hfin _ x r hx
noncomputable def ZZX:Cfg→Option (Option ((List ZAI)×Unit)):=cut ZEO (ZEP (ZNM)) (nowhere)
theorem ZjL {base S0 cs0} (hfin:ZIq base S0):Zde base S0 cs0 (ZZX):=ZAH.cut (ZAH.nowhere) (Nat.le_of_eq hfin.1) (Zhq hfin)
noncomputable def ZPu (a0:(List ZAA)) (a1:Int):Option ((List ZAI)×Unit) :=
 let n2:Int:=(((List.length a0):Nat):Int)
 ZNM a1 a0 n2 (0:Int) ([]:List ZAA)
theorem Za2 : ∃ f,f = @ZPu:=⟨_,rfl⟩
noncomputable def ZE3:=Classical.choose Za2
theorem Za3 : @ZE3 = @ZPu:=Classical.choose_spec Za2
noncomputable def ZTM:Con:=⟨[(.slice ZAG),(.int .i64)],ZE2,fun x=>ZPu x.1 x.2.1⟩
noncomputable def ZGa:Con:=⟨[(.slice ZAG),(.int .i64)],ZE2,fun x=>ZE3 x.1 x.2.1⟩
theorem Zfx:ZTM.Sound prog Inv ZAq 167 :=
 ZAm (M:=ZV2) ZBo (f:=f167) rfl ZTL 100000 (X:=ZZX) (fun base S0 cs0 hn hf=>have hfin:ZIq base S0:=⟨hn,hf⟩;ZjL hfin) (by intro x;kernel_rfl)
theorem ZKN:ZGa.Sound prog Inv ZAq 167:=by
 have e:ZGa=ZTM:=by unfold ZGa ZTM;rw [Za3]
 rw [e];exact Zfx
noncomputable def ZDE:Mach prog Inv ZAq:=ZFE bas [(209,f209),(230,f230)] ⟨ZuD,Zzh,trivial⟩ [] trivial [] trivial [] trivial
/-! ### slices.Concat[[]domino/ranges.edge,domino/ranges.edge] -/
@[reducible] def ZAl:Ty:=ZAO
def ZEm:List Nat:=[209,230]
abbrev ZBf (base:Base) (S0:Nat→Prop):=base.n=0∧FinOk (Zpo ZAl) base S0 (Zky ZAl base S0)
abbrev ZDF (base:Base) (S0:Nat→Prop) (cs0:List Go.Frame) (p:CPat) (J:ZC9 p→Option (List ZAl.den)):=ZAb ZDE base S0 cs0 (Zky ZAl base S0) p J
abbrev ZJb (base:Base) (S0:Nat→Prop) (cs0:List Go.Frame) (X:Cfg→Option (Option (List ZAl.den))):=ZAH ZDE base S0 cs0 (Zky ZAl base S0) X
@[reducible] noncomputable def ZBw:CPat:=⟨⟨209,[1,1,1,1,0,1,0],none,[.any,.any,.any,.any,.any,.any,.all 0,.any,.any,.any,.any,.any,.any,.any,.any,.any,.any,.any,.any,.any,.any,.any,.any,.any,.any,.rows (.slice ZAO) false,.int .i64,.int .i64],8⟩,[],[.row ZAO],0⟩
@[reducible] noncomputable def ZBx (k:(List (List ZAA))→Int→Int→(List ZAA)→Option (List ZAI)):ZC9 ZBw→Option (List ZAI):=fun x=>k x.1.2.2.2.2.2.2.2.2.2.2.2.2.2.2.2.2.2.2.2.2.2.2.2.2.2.1 x.1.2.2.2.2.2.2.2.2.2.2.2.2.2.2.2.2.2.2.2.2.2.2.2.2.2.2.1 x.1.2.2.2.2.2.2.2.2.2.2.2.2.2.2.2.2.2.2.2.2.2.2.2.2.2.2.2.1 x.2.2.1
noncomputable def ZEQ (k1:(List (List ZAA))→Int→Int→(List ZAA)→Option (List ZAI)) (l35:(List (List ZAA))) (i36:Int) (i37:Int) (l38:(List ZAA)):Option (List ZAI) :=
 let b39:Bool:=(decide (i37<i36))
 bif b39 then
  bif (decide (((0:Int)≤i37)∧(i37<(((List.length l35):Nat):Int)))) then
   let x40:(List ZAA):=(List.getD l35 (Int.toNat i37) (Ty.dflt (Ty.slice ZAO)))
   bif (decide (((List.length l38)+(List.length x40))≤4294967296)) then
    let l41:(List ZAI):=(l38++x40)
    let n42:Int:=(Go.IntKind.wrap Go.IntKind.i64 (i37+(1:Int)))
    k1 l35 i36 n42 l41
   else none
  else none
 else
  some l38
noncomputable def ZBC:Nat→(List (List ZAA))→Int→Int→(List ZAA)→Option (List ZAI)
 | 0=>fun _ _ _ _=>none
 | m+1=>ZEQ (ZBC m)
noncomputable def ZCa (l35:(List (List ZAA))) (i36:Int) (i37:Int) (l38:(List ZAA)):Option (List ZAI):=ZBC (Int.toNat (i36 - i37)+2) l35 i36 i37 l38
theorem ZHF : ∃ f,f = @ZCa:=⟨_,rfl⟩
noncomputable def ZCB:=Classical.choose ZHF
theorem ZDg : @ZCB = @ZCa:=Classical.choose_spec ZHF
theorem ZQ7 {base S0 cs0} (hfin:ZBf base S0) : ∀ m,ZDF base S0 cs0 ZBw (ZBx (ZBC m)) :=
 ZAb.loop' hfin.2 ZEm 100000 ZBx (fun k1=>cut ZBw (ZBx k1) (nowhere)) (fun k1 h1=>ZAH.cut (ZAH.nowhere) (Nat.le_of_eq hfin.1) h1) (ZBC) (by intro x;rfl) (by intro m x;kernel_rfl)
theorem ZQE {base S0 cs0} (hfin:ZBf base S0):ZDF base S0 cs0 ZBw (ZBx (ZCB)):=by
 rw [ZDg];exact fun x r hx=>ZQ7 hfin _ x r hx
noncomputable def ZER:Cfg→Option (Option (List ZAI)):=cut ZBw (ZBx (ZCB)) (nowhere)
theorem ZIg {base S0 cs0} (hfin:ZBf base S0):ZJb base S0 cs0 (ZER):=ZAH.cut (ZAH.nowhere) (Nat.le_of_eq hfin.1) (ZQE hfin)
@[reducible] noncomputable def ZBy:CPat:=⟨⟨209,[1,1,0,1,0],none,[.rows (.slice ZAO) false,.any,.any,.int .i64,.any,.any,.any,.any,.any,.rows (.slice ZAO) false,.int .i64,.int .i64],24⟩,[],[],0⟩
@[reducible] noncomputable def ZBz (k:(List (List ZAA))→Int→(List (List ZAA))→Int→Int→Option (List ZAI)):ZC9 ZBy→Option (List ZAI):=fun x=>k x.1.1 x.1.2.2.2.1 x.1.2.2.2.2.2.2.2.2.2.1 x.1.2.2.2.2.2.2.2.2.2.2.1 x.1.2.2.2.2.2.2.2.2.2.2.2.1
noncomputable def ZES (k0:(List (List ZAA))→Int→(List (List ZAA))→Int→Int→Option (List ZAI)) (l12:(List (List ZAA))) (i13:Int) (l14:(List (List ZAA))) (i15:Int) (i16:Int):Option (List ZAI) :=
 let b17:Bool:=(decide (i16<i15))
 bif b17 then
  bif (decide (((0:Int)≤i16)∧(i16<(((List.length l14):Nat):Int)))) then
   let x18:(List ZAA):=(List.getD l14 (Int.toNat i16) (Ty.dflt (Ty.slice ZAO)))
   let n19:Int:=(((List.length x18):Nat):Int)
   let n20:Int:=(Go.IntKind.wrap Go.IntKind.i64 (i13+n19))
   let b21:Bool:=(decide (n20<(0:Int)))
   bif b21 then
    let s22:ByteArray:=(ByteArray.mk (List.toArray ((108:UInt8)::((101:UInt8)::((110:UInt8)::((32:UInt8)::((111:UInt8)::((117:UInt8)::((116:UInt8)::((32:UInt8)::((111:UInt8)::((102:UInt8)::((32:UInt8)::((114:UInt8)::((97:UInt8)::((110:UInt8)::((103:UInt8)::((101:UInt8)::([]:List UInt8)))))))))))))))))))
    none
   else
    let n23:Int:=(Go.IntKind.wrap Go.IntKind.i64 (i16+(1:Int)))
    k0 l12 n20 l14 i15 n23
  else none
 else
  let b24:Bool:=(decide (i13<(0:Int)))
  bif b24 then
   let s25:ByteArray:=(ByteArray.mk (List.toArray ((99:UInt8)::((97:UInt8)::((110:UInt8)::((110:UInt8)::((111:UInt8)::((116:UInt8)::((32:UInt8)::((98:UInt8)::((101:UInt8)::((32:UInt8)::((110:UInt8)::((101:UInt8)::((103:UInt8)::((97:UInt8)::((116:UInt8)::((105:UInt8)::((118:UInt8)::((101:UInt8)::([]:List UInt8)))))))))))))))))))))
   none
  else
   let n26:Int:=(Go.IntKind.wrap Go.IntKind.i64 (i13 - (0:Int)))
   let b27:Bool:=(decide (n26>(0:Int)))
   bif b27 then
    bif (decide (((0:Int)<n26)∧(n26≤(4294967296:Int)))) then
     let l28:(List ZAI):=(List.replicate (Int.toNat n26) ((0:Int),((0:Int),())))
     let k29:Nat:=((Int.toNat (0:Int)) - 0)
     let n30:Int:=(((List.length l12):Nat):Int)
     let b31:Bool:=(decide ((0:Int)<n30))
     bif b31 then
      bif (decide (((0:Int)≤(0:Int))∧((0:Int)<(((List.length l12):Nat):Int)))) then
       let x32:(List ZAA):=(List.getD l12 0 (Ty.dflt (Ty.slice ZAO)))
       bif (decide ((k29≤(List.length l28))∧((k29+(List.length x32))≤4294967296))) then
        let l33:(List ZAI):=((List.take k29 l28)++x32)
        ZCB l12 n30 (1:Int) l33
       else none
      else none
     else
      some (List.take k29 l28)
    else none
   else
    let n34:Int:=(((List.length l12):Nat):Int)
    ZCB l12 n34 (0:Int) ([]:List ZAA)
noncomputable def ZBD:Nat→(List (List ZAA))→Int→(List (List ZAA))→Int→Int→Option (List ZAI)
 | 0=>fun _ _ _ _ _=>none
 | m+1=>ZES (ZBD m)
noncomputable def ZCb (l12:(List (List ZAA))) (i13:Int) (l14:(List (List ZAA))) (i15:Int) (i16:Int):Option (List ZAI):=ZBD (Int.toNat (i15 - i16)+2) l12 i13 l14 i15 i16
theorem ZHG : ∃ f,f = @ZCb:=⟨_,rfl⟩
noncomputable def ZC2:=Classical.choose ZHG
theorem ZDh : @ZC2 = @ZCb:=Classical.choose_spec ZHG
theorem ZQ8 {base S0 cs0} (hfin:ZBf base S0) : ∀ m,ZDF base S0 cs0 ZBy (ZBz (ZBD m)) :=
 ZAb.loop' hfin.2 ZEm 100000 ZBz (fun k0=>cut ZBy (ZBz k0) (ZER)) (fun k0 h0=>ZAH.cut (ZIg hfin) (Nat.le_of_eq hfin.1) h0) (ZBD) (by intro x;rfl) (by intro m x;kernel_rfl)
theorem ZQF {base S0 cs0} (hfin:ZBf base S0):ZDF base S0 cs0 ZBy (ZBz (ZC2)):=by
 rw [ZDh];exact fun x r hx=>ZQ8 hfin _ x r hx
noncomputable def ZET:Cfg→Option (Option (List ZAI)):=cut ZBy (ZBz (ZC2)) (ZER)
theorem ZQ9 {base S0 cs0} (hfin:ZBf base S0):ZJb base S0 cs0 (ZET):=ZAH.cut (ZIg hfin) (Nat.le_of_eq hfin.1) (ZQF hfin)
noncomputable def ZCM (a0:(List (List ZAI))):Option (List ZAI) :=
 let n1:Int:=(((List.length a0):Nat):Int)
 ZC2 a0 (0:Int) a0 n1 (0:Int)
theorem ZJF : ∃ f,f = @ZCM:=⟨_,rfl⟩
noncomputable def ZB3:=Classical.choose ZJF
theorem ZEn : @ZB3 = @ZCM:=Classical.choose_spec ZJF
noncomputable def ZCC:OCon:=⟨[(.slice (.slice ZAO))],ZAl,fun x=>ZCM x.1⟩
noncomputable def ZBM:OCon:=⟨[(.slice (.slice ZAO))],ZAl,fun x=>ZB3 x.1⟩
theorem ZPK:ZCC.Sound prog Inv ZAq 209:=by
 refine Zhm (M:=ZDE) ZBo (f:=f209) rfl fun x y h base S0 cs0 hn => ?_
 have hfin:base.n=0∧FinOk (Zpo ZAl) base S0 (Zky ZAl base S0):=⟨hn,Zqx ZAl base S0⟩
 have e:ZCC.F x=ZnY ZDE (Zpo ZAl) ZEm (ZET) 100000 (Zkx 209 f209.ntmps (Zfh ZCC.params x)):=by kernel_rfl
 exact ZIf hfin.2 (X:=ZET) (ZQ9 hfin) (e.symm.trans h)
theorem ZBp:ZBM.Sound prog Inv ZAq 209:=by
 have e:ZBM=ZCC:=by unfold ZBM ZCC;rw [ZEn]
 rw [e];exact ZPK
noncomputable def ZPL:Mach prog Inv ZAq:=ZFE bas [(248,f248)] ⟨ZmU,trivial⟩ [] trivial [] trivial [] trivial
/-! ### math/bits.Len64 -/
@[reducible] def ZCt:List Ty:=[(.int .i64)]
def ZNN:List Nat:=[248]
abbrev ZHH (base:Base) (S0:Nat→Prop):=base.n=0∧FinOk (Zdd ZCt) base S0 (ZFg ZCt S0)
abbrev ZW3 (base:Base) (S0:Nat→Prop) (cs0:List Go.Frame) (p:CPat) (J:ZC9 p→Option (ZFC ZCt)):=ZAb ZPL base S0 cs0 (ZFg ZCt S0) p J
abbrev ZW4 (base:Base) (S0:Nat→Prop) (cs0:List Go.Frame) (X:Cfg→Option (Option (ZFC ZCt))):=ZAH ZPL base S0 cs0 (ZFg ZCt S0) X
@[reducible] noncomputable def ZMO:CPat:=⟨⟨248,[1,1,1],none,[.int .u64,.any,.int .i64],22⟩,[],[],0⟩
@[reducible] noncomputable def ZTN (k:Int→Int→Option (Int×Unit)):ZC9 ZMO→Option (Int×Unit):=fun x=>k x.1.1 x.1.2.2.1
noncomputable def ZDi (i10:Int) (i11:Int):Option (Int×Unit) :=
 let b12:Bool:=(decide (i10≥(256:Int)))
 bif b12 then
  let n13:Int:=(Int.fdiv i10 (256:Int))
  let n14:Int:=(Go.IntKind.wrap Go.IntKind.i64 (i11+(8:Int)))
  let n23:Int:=(Go.IntKind.wrap Go.IntKind.u8 n13)
  bif (decide (((0:Int)≤n23)∧(n23<(256:Int)))) then
   let n24:Int:=(Zap (ByteArray.mk (List.toArray (List.append (List.append ((0:UInt8)::((1:UInt8)::((2:UInt8)::((2:UInt8)::((3:UInt8)::((3:UInt8)::((3:UInt8)::((3:UInt8)::((4:UInt8)::((4:UInt8)::((4:UInt8)::((4:UInt8)::((4:UInt8)::((4:UInt8)::((4:UInt8)::((4:UInt8)::((5:UInt8)::((5:UInt8)::((5:UInt8)::((5:UInt8)::((5:UInt8)::((5:UInt8)::((5:UInt8)::((5:UInt8)::((5:UInt8)::((5:UInt8)::((5:UInt8)::((5:UInt8)::((5:UInt8)::((5:UInt8)::((5:UInt8)::((5:UInt8)::((6:UInt8)::((6:UInt8)::((6:UInt8)::((6:UInt8)::((6:UInt8)::((6:UInt8)::((6:UInt8)::((6:UInt8)::((6:UInt8)::((6:UInt8)::((6:UInt8)::((6:UInt8)::((6:UInt8)::((6:UInt8)::((6:UInt8)::((6:UInt8)::((6:UInt8)::((6:UInt8)::((6:UInt8)::((6:UInt8)::((6:UInt8)::((6:UInt8)::((6:UInt8)::((6:UInt8)::((6:UInt8)::((6:UInt8)::((6:UInt8)::((6:UInt8)::((6:UInt8)::((6:UInt8)::((6:UInt8)::((6:UInt8)::([]:List UInt8))))))))))))))))))))))))))))))))))))))))))))))))))))))))))))))))) ((7:UInt8)::((7:UInt8)::((7:UInt8)::((7:UInt8)::((7:UInt8)::((7:UInt8)::((7:UInt8)::((7:UInt8)::((7:UInt8)::((7:UInt8)::((7:UInt8)::((7:UInt8)::((7:UInt8)::((7:UInt8)::((7:UInt8)::((7:UInt8)::((7:UInt8)::((7:UInt8)::((7:UInt8)::((7:UInt8)::((7:UInt8)::((7:UInt8)::((7:UInt8)::((7:UInt8)::((7:UInt8)::((7:UInt8)::((7:UInt8)::((7:UInt8)::((7:UInt8)::((7:UInt8)::((7:UInt8)::((7:UInt8)::((7:UInt8)::((7:UInt8)::((7:UInt8)::((7:UInt8)::((7:UInt8)::((7:UInt8)::((7:UInt8)::((7:UInt8)::((7:UInt8)::((7:UInt8)::((7:UInt8)::((7:UInt8)::((7:UInt8)::((7:UInt8)::((7:UInt8)::((7:UInt8)::((7:UInt8)::((7:UInt8)::((7:UInt8)::((7:UInt8)::((7:UInt8)::((7:UInt8)::((7:UInt8)::((7:UInt8)::((7:UInt8)::((7:UInt8)::((7:UInt8)::((7:UInt8)::((7:UInt8)::((7:UInt8)::((7:UInt8)::((7:UInt8)::([]:List UInt8)))))))))))))))))))))))))))))))))))))))))))))))))))))))))))))))))) (List.append ((8:UInt8)::((8:UInt8)::((8:UInt8)::((8:UInt8)::((8:UInt8)::((8:UInt8)::((8:UInt8)::((8:UInt8)::((8:UInt8)::((8:UInt8)::((8:UInt8)::((8:UInt8)::((8:UInt8)::((8:UInt8)::((8:UInt8)::((8:UInt8)::((8:UInt8)::((8:UInt8)::((8:UInt8)::((8:UInt8)::((8:UInt8)::((8:UInt8)::((8:UInt8)::((8:UInt8)::((8:UInt8)::((8:UInt8)::((8:UInt8)::((8:UInt8)::((8:UInt8)::((8:UInt8)::((8:UInt8)::((8:UInt8)::((8:UInt8)::((8:UInt8)::((8:UInt8)::((8:UInt8)::((8:UInt8)::((8:UInt8)::((8:UInt8)::((8:UInt8)::((8:UInt8)::((8:UInt8)::((8:UInt8)::((8:UInt8)::((8:UInt8)::((8:UInt8)::((8:UInt8)::((8:UInt8)::((8:UInt8)::((8:UInt8)::((8:UInt8)::((8:UInt8)::((8:UInt8)::((8:UInt8)::((8:UInt8)::((8:UInt8)::((8:UInt8)::((8:UInt8)::((8:UInt8)::((8:UInt8)::((8:UInt8)::((8:UInt8)::((8:UInt8)::((8:UInt8)::([]:List UInt8))))))))))))))))))))))))))))))))))))))))))))))))))))))))))))))))) ((8:UInt8)::((8:UInt8)::((8:UInt8)::((8:UInt8)::((8:UInt8)::((8:UInt8)::((8:UInt8)::((8:UInt8)::((8:UInt8)::((8:UInt8)::((8:UInt8)::((8:UInt8)::((8:UInt8)::((8:UInt8)::((8:UInt8)::((8:UInt8)::((8:UInt8)::((8:UInt8)::((8:UInt8)::((8:UInt8)::((8:UInt8)::((8:UInt8)::((8:UInt8)::((8:UInt8)::((8:UInt8)::((8:UInt8)::((8:UInt8)::((8:UInt8)::((8:UInt8)::((8:UInt8)::((8:UInt8)::((8:UInt8)::((8:UInt8)::((8:UInt8)::((8:UInt8)::((8:UInt8)::((8:UInt8)::((8:UInt8)::((8:UInt8)::((8:UInt8)::((8:UInt8)::((8:UInt8)::((8:UInt8)::((8:UInt8)::((8:UInt8)::((8:UInt8)::((8:UInt8)::((8:UInt8)::((8:UInt8)::((8:UInt8)::((8:UInt8)::((8:UInt8)::((8:UInt8)::((8:UInt8)::((8:UInt8)::((8:UInt8)::((8:UInt8)::((8:UInt8)::((8:UInt8)::((8:UInt8)::((8:UInt8)::((8:UInt8)::((8:UInt8)::((8:UInt8)::([]:List UInt8))))))))))))))))))))))))))))))))))))))))))))))))))))))))))))))))))))) n23)
   let n25:Int:=(Go.IntKind.wrap Go.IntKind.i64 n24)
   let n26:Int:=(Go.IntKind.wrap Go.IntKind.i64 (n14+n25))
   some (n26,())
  else none
 else
  let n19:Int:=(Go.IntKind.wrap Go.IntKind.u8 i10)
  bif (decide (((0:Int)≤n19)∧(n19<(256:Int)))) then
   let n20:Int:=(Zap (ByteArray.mk (List.toArray (List.append (List.append ((0:UInt8)::((1:UInt8)::((2:UInt8)::((2:UInt8)::((3:UInt8)::((3:UInt8)::((3:UInt8)::((3:UInt8)::((4:UInt8)::((4:UInt8)::((4:UInt8)::((4:UInt8)::((4:UInt8)::((4:UInt8)::((4:UInt8)::((4:UInt8)::((5:UInt8)::((5:UInt8)::((5:UInt8)::((5:UInt8)::((5:UInt8)::((5:UInt8)::((5:UInt8)::((5:UInt8)::((5:UInt8)::((5:UInt8)::((5:UInt8)::((5:UInt8)::((5:UInt8)::((5:UInt8)::((5:UInt8)::((5:UInt8)::((6:UInt8)::((6:UInt8)::((6:UInt8)::((6:UInt8)::((6:UInt8)::((6:UInt8)::((6:UInt8)::((6:UInt8)::((6:UInt8)::((6:UInt8)::((6:UInt8)::((6:UInt8)::((6:UInt8)::((6:UInt8)::((6:UInt8)::((6:UInt8)::((6:UInt8)::((6:UInt8)::((6:UInt8)::((6:UInt8)::((6:UInt8)::((6:UInt8)::((6:UInt8)::((6:UInt8)::((6:UInt8)::((6:UInt8)::((6:UInt8)::((6:UInt8)::((6:UInt8)::((6:UInt8)::((6:UInt8)::((6:UInt8)::([]:List UInt8))))))))))))))))))))))))))))))))))))))))))))))))))))))))))))))))) ((7:UInt8)::((7:UInt8)::((7:UInt8)::((7:UInt8)::((7:UInt8)::((7:UInt8)::((7:UInt8)::((7:UInt8)::((7:UInt8)::((7:UInt8)::((7:UInt8)::((7:UInt8)::((7:UInt8)::((7:UInt8)::((7:UInt8)::((7:UInt8)::((7:UInt8)::((7:UInt8)::((7:UInt8)::((7:UInt8)::((7:UInt8)::((7:UInt8)::((7:UInt8)::((7:UInt8)::((7:UInt8)::((7:UInt8)::((7:UInt8)::((7:UInt8)::((7:UInt8)::((7:UInt8)::((7:UInt8)::((7:UInt8)::((7:UInt8)::((7:UInt8)::((7:UInt8)::((7:UInt8)::((7:UInt8)::((7:UInt8)::((7:UInt8)::((7:UInt8)::((7:UInt8)::((7:UInt8)::((7:UInt8)::((7:UInt8)::((7:UInt8)::((7:UInt8)::((7:UInt8)::((7:UInt8)::((7:UInt8)::((7:UInt8)::((7:UInt8)::((7:UInt8)::((7:UInt8)::((7:UInt8)::((7:UInt8)::((7:UInt8)::((7:UInt8)::((7:UInt8)::((7:UInt8)::((7:UInt8)::((7:UInt8)::((7:UInt8)::((7:UInt8)::((7:UInt8)::([]:List UInt8)))))))))))))))))))))))))))))))))))))))))))))))))))))))))))))))))) (List.append ((8:UInt8)::((8:UInt8)::((8:UInt8)::((8:UInt8)::((8:UInt8)::((8:UInt8)::((8:UInt8)::((8:UInt8)::((8:UInt8)::((8:UInt8)::((8:UInt8)::((8:UInt8)::((8:UInt8)::((8:UInt8)::((8:UInt8)::((8:UInt8)::((8:UInt8)::((8:UInt8)::((8:UInt8)::((8:UInt8)::((8:UInt8)::((8:UInt8)::((8:UInt8)::((8:UInt8)::((8:UInt8)::((8:UInt8)::((8:UInt8)::((8:UInt8)::((8:UInt8)::((8:UInt8)::((8:UInt8)::((8:UInt8)::((8:UInt8)::((8:UInt8)::((8:UInt8)::((8:UInt8)::((8:UInt8)::((8:UInt8)::((8:UInt8)::((8:UInt8)::((8:UInt8)::((8:UInt8)::((8:UInt8)::((8:UInt8)::((8:UInt8)::((8:UInt8)::((8:UInt8)::((8:UInt8)::((8:UInt8)::((8:UInt8)::((8:UInt8)::((8:UInt8)::((8:UInt8)::((8:UInt8)::((8:UInt8)::((8:UInt8)::((8:UInt8)::((8:UInt8)::((8:UInt8)::((8:UInt8)::((8:UInt8)::((8:UInt8)::((8:UInt8)::((8:UInt8)::([]:List UInt8))))))))))))))))))))))))))))))))))))))))))))))))))))))))))))))))) ((8:UInt8)::((8:UInt8)::((8:UInt8)::((8:UInt8)::((8:UInt8)::((8:UInt8)::((8:UInt8)::((8:UInt8)::((8:UInt8)::((8:UInt8)::((8:UInt8)::((8:UInt8)::((8:UInt8)::((8:UInt8)::((8:UInt8)::((8:UInt8)::((8:UInt8)::((8:UInt8)::((8:UInt8)::((8:UInt8)::((8:UInt8)::((8:UInt8)::((8:UInt8)::((8:UInt8)::((8:UInt8)::((8:UInt8)::((8:UInt8)::((8:UInt8)::((8:UInt8)::((8:UInt8)::((8:UInt8)::((8:UInt8)::((8:UInt8)::((8:UInt8)::((8:UInt8)::((8:UInt8)::((8:UInt8)::((8:UInt8)::((8:UInt8)::((8:UInt8)::((8:UInt8)::((8:UInt8)::((8:UInt8)::((8:UInt8)::((8:UInt8)::((8:UInt8)::((8:UInt8)::((8:UInt8)::((8:UInt8)::((8:UInt8)::((8:UInt8)::((8:UInt8)::((8:UInt8)::((8:UInt8)::((8:UInt8)::((8:UInt8)::((8:UInt8)::((8:UInt8)::((8:UInt8)::((8:UInt8)::((8:UInt8)::((8:UInt8)::((8:UInt8)::((8:UInt8)::([]:List UInt8))))))))))))))))))))))))))))))))))))))))))))))))))))))))))))))))))))) n19)
   let n21:Int:=(Go.IntKind.wrap Go.IntKind.i64 n20)
   let n22:Int:=(Go.IntKind.wrap Go.IntKind.i64 (i11+n21))
   some (n22,())
  else none
theorem ZRn : ∃ f,f = @ZDi:=⟨_,rfl⟩
noncomputable def ZE8:=Classical.choose ZRn
theorem ZRo : @ZE8 = @ZDi:=Classical.choose_spec ZRn
theorem Ze2 {base S0 cs0} (hfin:ZHH base S0):ZW3 base S0 cs0 ZMO (ZTN (ZE8)) :=
 ZAb.join hfin.2 (ZAH.nowhere) ZNN 100000 (by rw [ZRo];intro x;kernel_rfl)
noncomputable def ZTO:Cfg→Option (Option (Int×Unit)):=cut ZMO (ZTN (ZE8)) (nowhere)
theorem ZTP {base S0 cs0} (hfin:ZHH base S0):ZW4 base S0 cs0 (ZTO):=ZAH.cut (ZAH.nowhere) (Nat.le_of_eq hfin.1) (Ze2 hfin)
@[reducible] noncomputable def ZMP:CPat:=⟨⟨248,[1,1],none,[.int .u64,.any,.int .i64],22⟩,[],[],0⟩
@[reducible] noncomputable def ZTQ (k:Int→Int→Option (Int×Unit)):ZC9 ZMP→Option (Int×Unit):=fun x=>k x.1.1 x.1.2.2.1
noncomputable def ZMQ (i4:Int) (i5:Int):Option (Int×Unit) :=
 let b6:Bool:=(decide (i4≥(65536:Int)))
 bif b6 then
  let n7:Int:=(Int.fdiv i4 (65536:Int))
  let n8:Int:=(Go.IntKind.wrap Go.IntKind.i64 (i5+(16:Int)))
  ZE8 n7 n8
 else
  ZE8 i4 i5
theorem ZRp : ∃ f,f = @ZMQ:=⟨_,rfl⟩
noncomputable def ZE9:=Classical.choose ZRp
theorem ZRq : @ZE9 = @ZMQ:=Classical.choose_spec ZRp
theorem Ze3 {base S0 cs0} (hfin:ZHH base S0):ZW3 base S0 cs0 ZMP (ZTQ (ZE9)) :=
 ZAb.join hfin.2 (ZTP hfin) ZNN 100000 (by rw [ZRq];intro x;kernel_rfl)
noncomputable def ZTR:Cfg→Option (Option (Int×Unit)):=cut ZMP (ZTQ (ZE9)) (ZTO)
theorem Ze4 {base S0 cs0} (hfin:ZHH base S0):ZW4 base S0 cs0 (ZTR):=ZAH.cut (ZTP hfin) (Nat.le_of_eq hfin.1) (Ze3 hfin)
noncomputable def ZKO (a0:Int):Option (Int×Unit) :=
 let b1:Bool:=(decide (a0≥(4294967296:Int)))
 bif b1 then
  let n2:Int:=(Int.fdiv a0 (4294967296:Int))
  ZE9 n2 (32:Int)
 else
  ZE9 a0 (0:Int)
theorem ZU7 : ∃ f,f = @ZKO:=⟨_,rfl⟩
noncomputable def ZD3:=Classical.choose ZU7
theorem ZU8 : @ZD3 = @ZKO:=Classical.choose_spec ZU7
noncomputable def ZNO:Con:=⟨[(.int .u64)],ZCt,fun x=>ZKO x.1⟩
noncomputable def ZFA:Con:=⟨[(.int .u64)],ZCt,fun x=>ZD3 x.1⟩
theorem Za4:ZNO.Sound prog Inv ZAq 248 :=
 ZAm (M:=ZPL) ZBo (f:=f248) rfl ZNN 100000 (X:=ZTR) (fun base S0 cs0 hn hf=>have hfin:ZHH base S0:=⟨hn,hf⟩;Ze4 hfin) (by intro x;kernel_rfl)
theorem ZK8:ZFA.Sound prog Inv ZAq 248:=by
 have e:ZFA=ZNO:=by unfold ZFA ZNO;rw [ZU8]
 rw [e];exact Za4
end Go.Proofs.YtamaklnhjagifaaGreatDoor.V
namespace Go.Proofs.YtamaklnhjagifaaGreatDoor.V
open Go.RowKit
set_option linter.unusedVariables false
section
variable {P:Program} {I:World→Prop} {g:Nat} (M:Mach P I g)
variable {M} {base:Base} {S0:Nat→Prop}
end
section
variable {P:Program} {I:World→Prop} {g:Nat} (M:Mach P I g)
variable {M} {base:Base} {S0:Nat→Prop} {ρ:Loc} {w:World} {S:Nat→Prop}
end
end Go.Proofs.YtamaklnhjagifaaGreatDoor.V
