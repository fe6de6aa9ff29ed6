/- The law each law of the layer, part 2: what is proved: for every input that can be read the call of each law of the layer returns true and leaves its arguments alone. No conditions but the listed tables of the card. -/
import Derived.Orders
import Derived.Test.YtamaklnhjagifaaGreatDoorZ1
namespace Go.Proofs.YtamaklnhjagifaaGreatDoor.V
open Go.RowKit
set_option linter.unusedVariables false
section
variable {P:Program} {base:Base} {S0:Nat→Prop} {ρ:Loc} {H:ZAZ} {w:World} {S:Nat→Prop}
def Zxf (P:Program) (T:TypeId) (x:PV) (H:ZAZ):Option PV :=
 match P.underlying T with
 | some (.slice _)=>match x with
  | .rows _ l _=>some (.val (.int .i64 l.length))
  | .emp=>some (.val (.int .i64 0))
  | .val (.slice _ n _)=>some (.val (.int .i64 n))
  | .all b=>match H.at? b with
   | some o=>if o.isRow then some (.val (.int .i64 o.len)) else none
   | none=>none
  | .sl b _ len=>match H.at? b with
   | some o=>if o.isRow then some (.val (.int .i64 len)) else none
   | none=>none
  | .cs b _ len _=>match H.at? b with
   | some (.cells _ _)=>some (.val (.int .i64 len))
   | _=>none
  | _=>none
 | some (.array n _)=>some (.val (.int .i64 n))
 | some (.map _ _)=>match x with
  | .mp b=>match H.at? b with
   | some (.map _ _ l)=>some (.val (.int .i64 l.length))
   | _=>none
  | _=>none
 | some .string=>match x with
  | .val (.string s)=>some (.val (.int .i64 s.size))
  | _=>none
 | _=>none
theorem Zwi (hh:HRel base S0 ρ H w S) {T:TypeId} {x q:PV} {v:Value} (ts:Array TypeId) (ty:TypeId) (as:Array Value) (ht:ts[0]? = some T) (ha:as[0]? = some v) (hl:Zxf P T x H=some q) (hp:ZAW ρ H w S x v) :
  Did P (Builtin.len_ ts ty as) base S0 ρ H w S q H:=by
 unfold Zxf at hl
 split at hl
 ·
  rename_i e hu
  have run : ∀ {a n c},v = .slice a n c→(Builtin.len_ ts ty as).run P w = .ok (.int .i64 n) w:=by
   rintro a n c rfl
   simp only [Builtin.len_,ht,ha,Sem.run_bind,run_underlying hu,Result.andThen_ok]
   rfl
  split at hl
  ·
   cases hl
   simp only [ZAW] at hp
   obtain ⟨⟨a,c,rfl,_⟩,_⟩:=hp
   exact Did.still hh (run rfl) rfl
  ·
   cases hl
   simp only [ZAW] at hp
   obtain ⟨a,rfl⟩:=hp
   exact Did.still hh (run rfl) rfl
  ·
   cases hl
   simp only [ZAW] at hp
   subst hp
   exact Did.still hh (run rfl) rfl
  ·
   split at hl
   ·
    rename_i o ho
    split at hl
    ·
     rename_i hrow
     cases hl
     simp only [ZAW] at hp
     rcases hp.2 o ho hrow with ⟨blk,n,cap,hr,rfl,_⟩ | ⟨h0,rfl⟩
     · exact Did.still hh (run rfl) rfl
     · rw [h0];exact Did.still hh (run rfl) rfl
    · cases hl
   · cases hl
  ·
   split at hl
   ·
    rename_i o ho
    split at hl
    ·
     rename_i hrow
     cases hl
     simp only [ZAW] at hp
     obtain ⟨_,⟨blk,n,cap,hr,rfl,_⟩ | ⟨h0,a,rfl,_⟩⟩:=hp.2 o ho hrow
     · exact Did.still hh (run rfl) rfl
     · rw [h0];exact Did.still hh (run rfl) rfl
    · cases hl
   · cases hl
  ·
   split at hl
   ·
    rename_i T' cells ho
    cases hl
    simp only [ZAW] at hp
    obtain ⟨_,blk,n,cap,hr,rfl,_⟩:=hp.2 _ _ ho
    exact Did.still hh (run rfl) rfl
   · cases hl
  · cases hl
 ·
  rename_i n e hu
  cases hl
  refine Did.still hh (v := .int .i64 n) ?_ rfl
  simp only [Builtin.len_,ht,ha,Sem.run_bind,run_underlying hu,Result.andThen_ok]
  rfl
 ·
  rename_i hu
  split at hl
  ·
   split at hl
   ·
    rename_i k v l ho
    cases hl
    obtain ⟨blk,hr,rfl,hb⟩:=Zas hh ho hp
    refine Did.still hh (v := .int .i64 l.length) ?_ rfl
    have hs:(ZX9 ((l.map (·.1)).map (ZCn k)) (l.map fun p=>ZCn v p.2) 0).length=l.length:=by rw [Zrc (by simp)];simp
    have run : ∀ {es:List MapEntry},w.heap[blk]? = some (.map es.toArray l.length)→es.length=l.length→(Builtin.len_ ts ty as).run P w = .ok (.int .i64 l.length) w:=by
     intro es hb he
     simp [Builtin.len_,ht,ha,run_underlying hu,MapKept.run_getObj_map hb,goInt,Result.andThen,he]
    exact run hb hs
   · cases hl
  · cases hl
 ·
  rename_i hu
  split at hl
  ·
   cases hl
   simp only [ZAW] at hp
   subst hp
   refine Did.still hh (v := .int .i64 _) ?_ rfl
   simp only [Builtin.len_,ht,ha,Sem.run_bind,run_underlying hu,Result.andThen_ok]
   rfl
  · cases hl
 · cases hl
def Zfe (P:Program) (b:Builtin) (ts:Array TypeId) (ty:TypeId) (consts:Array Bool) (args:List PV) (H:ZAZ):OpR :=
 match b with
 | .append=>match ts.toList,args with
  | [sT,xT],[s,x]=>match Zfa P sT xT s x with
   | some r=>r
   | none=>ZhW P sT xT s x H
  | _,_ => .fail
 | .copy=>match ts.toList,args with
  | [dT,sT],[d,s]=>ZsK P dT sT d s H
  | _,_ => .fail
 | .cap=>match ts[0]?,args with
  | some T,[x] => .ofOpt (ZzI P T x)
  | _,_ => .fail
 | .len=>match ts[0]?,args with
  | some T,[x] => .ofOpt (Zxf P T x H)
  | _,_ => .fail
 | .min=>match Zda args with
  | some l => .ofOpt ((ZDA P (Builtin.min_ ts ty l.toArray)).map .val)
  | none => .fail
 | .max=>match Zda args with
  | some l => .ofOpt ((ZDA P (Builtin.max_ ts ty l.toArray)).map .val)
  | none => .fail
 | .unsafeSliceData=>match args with
  | [x]=>match P.underlying ty with
   | some (.pointer _) => .ofOpt (ZS1 x H)
   | _ => .fail
  | _ => .fail
 | .unsafeString=>match ts.toList,args with
  | [pt,_],[x,n]=>ZND P pt x n H
  | _,_ => .fail
 | _=>if consts.size=0 then .fail else .fail
def Zxt (P:Program) (s:Sem Next) (base:Base) (S0:Nat→Prop) (ρ:Loc) (H:ZAZ) (w:World) (S:Nat→Prop) (p:PV) (H':ZAZ):Prop :=
 ∃ ρ' w' S' v,(s.run P w = .ok (.value v) w'∨(s.run P w = .ok .skip w'∧v=undef))∧HRel base S0 ρ' H' w' S'∧Ext base ρ H w S ρ' H' w' S'∧ZAW ρ' H' w' S' p v
theorem Did.next {s:Sem Value} {p:PV} {H':ZAZ} (h:Did P s base S0 ρ H w S p H'):Zxt P (do pure (.value (← s))) base S0 ρ H w S p H':=by
 obtain ⟨ρ',w',S',v,hr,h1,h2,h3⟩:=h
 exact ⟨ρ',w',S',v,.inl (by simp [hr]),h1,h2,h3⟩
theorem Zxc.next {s:Sem Unit} {H':ZAZ} (h:Zxc P s base S0 ρ H w S H'):Zxt P (do s;pure .skip) base S0 ρ H w S ZFh H':=by
 obtain ⟨ρ',w',S',hr,h1,h2⟩:=h
 exact ⟨ρ',w',S',undef,.inr ⟨by simp [hr],rfl⟩,h1,h2,rfl⟩
theorem ZE7 {o:Option PV} {q:PV} {H':ZAZ} (h:(OpR.ofOpt o).applyTo H=some (true,q,H')):o=some q∧H'=H:=by
 cases o with
 | none=>simp [OpR.ofOpt,OpR.applyTo] at h
 | some p=>simp [OpR.ofOpt,OpR.applyTo] at h;exact ⟨by rw [h.1],h.2.symm⟩
theorem Zcw {o:Tst} {q:PV} {H':ZAZ} (h:(OpR.ofTst o).applyTo H=some (true,q,H')):o=some (true,q)∧H'=H:=by
 cases o with
 | none=>simp [OpR.ofTst,OpR.applyTo] at h
 | some p=>obtain ⟨b,p⟩:=p;simp [OpR.ofTst,OpR.applyTo] at h;obtain ⟨rfl,rfl,rfl⟩:=h;exact ⟨rfl,rfl⟩
theorem Zqj (hh:HRel base S0 ρ H w S) {b:Builtin} {ts:Array TypeId} {ty:TypeId} {cs:Array Bool} {args:List PV} {vs:Array Value} {q:PV} {H':ZAZ}
  (hl:(Zfe P b ts ty cs args H).applyTo H=some (true,q,H')) (hp:ZAQ ρ H w S args vs.toList) :
  Zxt P (builtin b ts ty cs vs) base S0 ρ H w S q H':=by
 unfold Zfe at hl
 split at hl
 ·
  split at hl
  ·
   rename_i sT xT s x hts
   simp only [ZAQ] at hp
   obtain ⟨v,us,e1,h1,u,us2,e2,h2,e3⟩:=hp
   subst e3 e2
   have hv:vs = #[v,u]:=by apply Array.ext';simpa using e1
   have ht:ts = #[sT,xT]:=by apply Array.ext';simpa using hts
   subst hv ht
   split at hl
   ·
    rename_i r hz
    exact (Zqg (ty:=ty) hh hz hl h1 h2).next
   · exact (ZsH (ty:=ty) hh hl h1 h2).next
  · simp [OpR.applyTo] at hl
 ·
  split at hl
  ·
   rename_i sT xT s x hts
   simp only [ZAQ] at hp
   obtain ⟨v,us,e1,h1,u,us2,e2,h2,e3⟩:=hp
   subst e3 e2
   have hv:vs = #[v,u]:=by apply Array.ext';simpa using e1
   have ht:ts = #[sT,xT]:=by apply Array.ext';simpa using hts
   subst hv ht
   exact (ZvN (ty:=ty) hh hl h1 h2).next
  · simp [OpR.applyTo] at hl
 ·
  split at hl
  ·
   rename_i T x ht
   simp only [ZAQ] at hp
   obtain ⟨v,us,e1,h1,e2⟩:=hp
   subst e2
   obtain ⟨h2,rfl⟩:=ZE7 hl
   have hv:vs = #[v]:=by apply Array.ext';simpa using e1
   subst hv
   exact (Zwg (ty:=ty) (as := #[v]) hh ht rfl h2 h1).next
  · simp [OpR.applyTo] at hl
 ·
  split at hl
  ·
   rename_i T x ht
   simp only [ZAQ] at hp
   obtain ⟨v,us,e1,h1,e2⟩:=hp
   subst e2
   obtain ⟨h2,rfl⟩:=ZE7 hl
   have hv:vs = #[v]:=by apply Array.ext';simpa using e1
   subst hv
   exact (Zwi hh ts ty #[v] ht rfl h2 h1).next
  · simp [OpR.applyTo] at hl
 ·
  split at hl
  ·
   rename_i l hv
   obtain ⟨h2,rfl⟩:=ZE7 hl
   have:=ZWt hv hp
   have hv':vs=l.toArray:=by apply Array.ext';simpa using this
   subst hv'
   cases hs:ZDA P (Builtin.min_ ts ty l.toArray) with
   | none=>rw [hs] at h2;cases h2
   | some r=>
    rw [hs] at h2;cases h2
    exact (Did.still (p := .val r) hh (ZGW hs w) rfl).next
  · simp [OpR.applyTo] at hl
 ·
  split at hl
  ·
   rename_i l hv
   obtain ⟨h2,rfl⟩:=ZE7 hl
   have:=ZWt hv hp
   have hv':vs=l.toArray:=by apply Array.ext';simpa using this
   subst hv'
   cases hs:ZDA P (Builtin.max_ ts ty l.toArray) with
   | none=>rw [hs] at h2;cases h2
   | some r=>
    rw [hs] at h2;cases h2
    exact (Did.still (p := .val r) hh (ZGW hs w) rfl).next
  · simp [OpR.applyTo] at hl
 ·
  split at hl
  ·
   rename_i x
   split at hl
   ·
    rename_i e hu
    simp only [ZAQ] at hp
    obtain ⟨v,us,e1,h1,e2⟩:=hp
    subst e2
    obtain ⟨h2,rfl⟩:=ZE7 hl
    have hv:vs = #[v]:=by apply Array.ext';simpa using e1
    subst hv
    exact (Znz (ts:=ts) hh hu h2 h1).next
   · simp [OpR.applyTo] at hl
  · simp [OpR.applyTo] at hl
 ·
  split at hl
  ·
   rename_i pt it x n hts
   simp only [ZAQ] at hp
   obtain ⟨v,us,e1,h1,u,us2,e2,h2,e3⟩:=hp
   subst e3 e2
   have hv:vs = #[v,u]:=by apply Array.ext';simpa using e1
   have ht:ts = #[pt,it]:=by apply Array.ext';simpa using hts
   subst hv ht
   exact (Zi9 (it:=it) (ty:=ty) hh hl h1 h2).next
  · simp [OpR.applyTo] at hl
 · split at hl <;> simp [OpR.applyTo] at hl
noncomputable def opP (P:Program) (o:Oper) (ev:Operand→PV) (H:ZAZ):OpR :=
 match o.op with
 | .move x => .still true (ev x)
 | .assign x => .still true (ev x)
 | .pick c a b=>match ev c with
  | .val (.bool t) => .pick t (ev a) (ev b)
  | _ => .fail
 | .alloc T=>match ZS6 P T with
  | some z=>Zxe P T (z.cells.toList.map .val)
  | none => .fail
 | .box T x=>match cellsOf (ev x) with
  | some cs=>Zxe P T cs
  | none => .fail
 | .build T parts => .ofOpt (ZtH P T (parts.toList.map fun x=>(x.1,ev x.2)))
 | .buildSlice T len parts=>ZS9 P T len (parts.toList.map fun x=>(x.1,ev x.2))
 | .load T a => .ofTst (ZvL P T (ev a) H)
 | .store T a x=>ZpQ P T (ev a) (ev x) H
 | .makeSlice T l c=>ZWw P T (ev l) (ev c)
 | .nilCheck x => .ofOpt (ZkS (ev x))
 | .binOp op T x y _ => .ofTst (ZtD P op T x y (ev x) (ev y) (ZYC (ev x) (ev y) H))
 | .unOp op _ x => .ofOpt (ZzG P (Op.unary op) (ev x))
 | .convert s d x=>Zcu P s d (ev x) H
 | .makeInterface T x => .ofOpt (ZhV P T (ev x))
 | .makeFunc fn first captured => .still true (.func fn (first.toList.map ev) (captured.toList.map ev))
 | .slice T x lo hi mx => .ofTst (ZrY P T (ev x) (lo.map ev) (hi.map ev) (mx.map ev) (Zxq mx) H)
 | .fieldAddr s x f => .ofOpt (ZhU P s f (ev x))
 | .field T x f => .ofOpt (Zs8 P T (ev x) f)
 | .indexAddr T x ix=>ZWu P T (ev x) (ev ix) H
 | .index T x ix => .ofTst (ZtA P T (ev x) (ev ix))
 | .typeAssert x _ T ok => .ofOpt (Zqd P T (ev x) ok)
 | .extract t ix => .ofOpt (Znp (ev t) ix)
 | .makeMap T r=>Zfb P T (r.map ev)
 | .lookup T x ix ok=>ZhZ P T (ev x) (ev ix) ok H
 | .insert T m k x=>Zar P T (ev m) (ev k) (ev x) H
 | .mapUpdate T m k x=>Zar P T (ev m) (ev k) (ev x) H
 | .mapEntry T m k=>ZWx P T (ev m) (ev k) H
 | .entryStore _ m s x=>ZPE (ev m) (ev s) (ev x) H
 | .call c=>match c.callee with
  | .builtin b=>Zfe P b c.argTypes o.type (c.args.map fun | .const _=>true | _=>false) (c.args.toList.map ev) H
  | _ => .fail
 | _ => .fail
theorem ZAQ.map {ev:Operand→PV} {a:Operand→Value} (h : ∀ x,ZAW ρ H w S (ev x) (a x)) : ∀ (l:List Operand),ZAQ ρ H w S (l.map ev) (l.map a)
 | []=>rfl
 | x::l=>⟨_,_,rfl,h x,ZAQ.map h l⟩
theorem Parts.map {ev:Operand→PV} {a:Operand→Value} (h : ∀ x,ZAW ρ H w S (ev x) (a x)) : ∀ (l:List (Nat×Operand)),Parts ρ H w S (l.map fun x=>(x.1,ev x.2)) (l.map fun x=>(x.1,a x.2))
 | [] => .nil
 | (_,x)::l => .cons (h x) (Parts.map h l)
theorem ZtN (hh:HRel base S0 ρ H w S) {o:Oper} {ev:Operand→PV} {a:Operand→Value} (h : ∀ x,ZAW ρ H w S (ev x) (a x)) {q:PV} {H':ZAZ}
  (hl:(opP P o ev H).applyTo H=some (true,q,H')):Zxt P (execOp a o) base S0 ρ H w S q H':=by
 have same : ∀ {v:Value} {s:Sem Next},s.run P w = .ok (.value v) w → ∀ {p},ZAW ρ H w S p v→Zxt P s base S0 ρ H w S p H:=fun hr _ hp=>⟨ρ,w,S,_,.inl hr,hh,Ext.refl,hp⟩
 have opt : ∀ (x:Option Operand) (p:PV),x.map ev=some p → ∃ v,x.map a=some v∧ZAW ρ H w S p v:=by
  rintro (_ | x) p hx
  · cases hx
  · cases hx;exact ⟨_,rfl,h x⟩
 have opt0 : ∀ (x:Option Operand),x.map ev=none→x.map a=none:=by
  rintro (_ | x) hx
  · rfl
  · cases hx
 obtain ⟨dst,op,ty,pos,aft,gd⟩:=o
 unfold opP at hl
 cases op with
 | move x=>
  simp only [OpR.applyTo,Option.some.injEq,Prod.mk.injEq,true_and] at hl
  obtain ⟨rfl,rfl⟩:=hl
  exact same rfl (h x)
 | assign x=>
  simp only [OpR.applyTo,Option.some.injEq,Prod.mk.injEq,true_and] at hl
  obtain ⟨rfl,rfl⟩:=hl
  exact same rfl (h x)
 | pick c x y=>
  simp only at hl
  split at hl
  ·
   rename_i t ht
   simp only [OpR.applyTo,Option.some.injEq,Prod.mk.injEq,true_and] at hl
   obtain ⟨rfl,rfl⟩:=hl
   have hc:=h c
   rw [ht] at hc
   simp only [ZAW] at hc
   refine same (v:=if t then a x else a y) ?_ ?_
   · simp only [execOp,hc,asBool,Sem.run_bind,Sem.run_pure,Result.andThen_ok]
   ·
    cases t
    · exact h y
    · exact h x
  · simp [OpR.applyTo] at hl
 | alloc T=>
  simp only at hl
  split at hl
  ·
   rename_i z hz
   refine (Zrb (v:=z) hh hl (ZAQ.vals _) (s:=Instr.alloc T true (.tuple #[])) ?_).next
   simp only [Instr.alloc,Sem.run_bind,ZEk hz,Result.andThen_ok,ZsD,Sem.run_pure]
  · simp [OpR.applyTo] at hl
 | box T x=>
  simp only at hl
  split at hl
  ·
   rename_i cs hc
   exact (Zrb (v:=a x) hh hl (ZYB hc (h x)) (s:=Instr.box T (a x)) rfl).next
  · simp [OpR.applyTo] at hl
 | build T parts=>
  obtain ⟨h2,rfl⟩:=ZE7 hl
  have hv:(parts.map fun (x:Nat×Operand)=>match x with | (i,x)=>(i,a x)).toList=parts.toList.map fun x=>(x.1,a x.2):=by simp
  have:=ZtI hh h2 (vs:=parts.map fun (x:Nat×Operand)=>match x with | (i,x)=>(i,a x)) (by rw [hv];exact Parts.map h parts.toList)
  exact this.next
 | buildSlice T len parts=>
  have hv:(parts.map fun (x:Nat×Operand)=>match x with | (i,x)=>(i,a x)).toList=parts.toList.map fun x=>(x.1,a x.2):=by simp
  have:=ZmO hh hl (vs:=parts.map fun (x:Nat×Operand)=>match x with | (i,x)=>(i,a x)) (by rw [hv];exact Parts.map h parts.toList)
  exact this.next
 | load T x=>obtain ⟨h2,rfl⟩:=Zcw hl;exact (ZtL hh h2 (h x)).next
 | store T x y=>
  obtain ⟨rfl,h2⟩:=ZsI hh hl (h x) (h y)
  exact h2.next
 | makeSlice T l c=>exact (Zny hh hl (h l) (h c)).next
 | nilCheck x=>
  obtain ⟨h2,rfl⟩:=ZE7 hl
  obtain ⟨hr,rfl⟩:=ZpM (P:=P) (o:=⟨dst,.nilCheck x,ty,pos,aft,gd⟩) x rfl h2 (h x)
  exact same hr (h x)
 | binOp op T x y yT=>obtain ⟨h2,rfl⟩:=Zcw hl;exact (ZtE hh h2 (h x) (h y)).next
 | unOp op T x=>obtain ⟨h2,rfl⟩:=ZE7 hl;exact (Zwe (s:=Op.unary op) hh h2 (h x)).next
 | convert s d x=>exact (Zqe hh hl (h x)).next
 | makeInterface T x=>obtain ⟨h2,rfl⟩:=ZE7 hl;exact (Znr hh h2 (h x)).next
 | makeFunc fn first captured=>
  simp only [OpR.applyTo,Option.some.injEq,Prod.mk.injEq,true_and] at hl
  obtain ⟨rfl,rfl⟩:=hl
  refine same (v := .func fn (first.map a) (captured.map a)) rfl ?_
  simp only [ZAW]
  exact ⟨_,_,rfl,by simpa using ZAQ.map h first.toList,by simpa using ZAQ.map h captured.toList⟩
 | slice T x lo hi mx=>
  obtain ⟨h2,rfl⟩:=Zcw hl
  exact (ZtF hh h2 (h x) (opt lo) (opt0 lo) (opt hi) (opt0 hi) (opt mx) (opt0 mx)).next
 | fieldAddr s x f=>obtain ⟨h2,rfl⟩:=ZE7 hl;exact (Zno hh h2 (h x)).next
 | field T x f=>obtain ⟨h2,rfl⟩:=ZE7 hl;exact (Zs9 hh h2 (h x)).next
 | indexAddr T x ix=>obtain ⟨rfl,h2⟩:=ZmM hh hl (h x) (h ix);exact h2.next
 | index T x ix=>obtain ⟨h2,rfl⟩:=Zcw hl;exact (ZtB hh h2 (h x) (h ix)).next
 | typeAssert x xT T ok=>obtain ⟨h2,rfl⟩:=ZE7 hl;exact (ZsF (xT:=xT) hh h2 (h x)).next
 | extract t ix=>obtain ⟨h2,rfl⟩:=ZE7 hl;exact (Zqc hh h2 (h t)).next
 | makeMap T r=>exact (Zqh hh hl (opt r) (opt0 r)).next
 | lookup T x ix ok=>exact (ZsN hh hl (h x) (h ix)).next
 | insert T m k x=>obtain ⟨rfl,h2⟩:=ZnJ hh hl (h m) (h k) (h x);exact h2.next
 | mapUpdate T m k x=>obtain ⟨rfl,h2⟩:=ZnJ hh hl (h m) (h k) (h x);exact h2.next
 | mapEntry T m k=>exact (ZpU hh hl (h m) (h k)).next
 | entryStore T m s x=>obtain ⟨rfl,h2⟩:=ZmP (T:=T) hh hl (h m) (h s) (h x);exact h2.next
 | call c=>
  simp only at hl
  split at hl
  ·
   rename_i b hb
   have:=Zqj hh hl (vs:=c.args.map a) (by simpa using ZAQ.map h c.args.toList)
   have e:execOp a ⟨dst,.call c,ty,pos,aft,gd⟩=builtin b c.argTypes ty (c.args.map fun | .const _=>true | _=>false) (c.args.map a):=by
    simp only [execOp,resolve,hb]
    rfl
   rw [e];exact this
  · simp [OpR.applyTo] at hl
 | _=>simp [OpR.applyTo] at hl
end
/-! #### data as arguments and results -/
@[reducible] def ZFC:List Ty→Type
 | []=>Unit
 | t::ts=>t.den×ZFC ts
def Ty.isAgg:Ty→Bool
 | .unit=>true
 | .pair _ _=>true
 | _=>false
def Zwj (w:World) (S:Nat→Prop) (t:Ty) (x:t.den) (v:Value):Prop:=Rep w S t x v.cells.toList∧(t.isAgg=true → ∃ us,v = .agg us)∧(t.isAgg=false→v.oneCell'=true)
def ZaN (w:World) (S:Nat→Prop):(ts:List Ty)→ZFC ts→List Value→Prop
 | [],_,vs=>vs=[]
 | t::ts,x,vs => ∃ u us,vs=u::us∧Zwj w S t x.1 u∧ZaN w S ts x.2 us
theorem Zwj.mono {w w':World} {S S':Nat→Prop} (hw:Same S w w') (hS : ∀ b,b<w.heap.size→S' b→S b) {t:Ty} {x:t.den} {v:Value} (h:Zwj w S t x v):Zwj w' S' t x v :=
 ⟨h.1.mono hw hS,h.2⟩
theorem ZaN.mono {w w':World} {S S':Nat→Prop} (hw:Same S w w') (hS : ∀ b,b<w.heap.size→S' b→S b) : ∀ {ts:List Ty} {x:ZFC ts} {vs:List Value},ZaN w S ts x vs→ZaN w' S' ts x vs
 | [],_,_,h=>h
 | _::_,_,_,h=>by
  obtain ⟨u,us,e,h1,h2⟩:=h
  exact ⟨u,us,e,h1.mono hw hS,ZaN.mono hw hS h2⟩
def Zib (w:World) (S:Nat→Prop) (ts:List Ty) (x:ZFC ts) (v:Value):Prop :=
 match ts,x with
 | [t],x=>Zwj w S t x.1 v
 | ts,x => ∃ us,v = .tuple us∧ZaN w S ts x us.toList
structure Con where
 params:List Ty
 results:List Ty
 F:ZFC params→Option (ZFC results)
def Con.Sound (P:Program) (I:World→Prop) (g:Nat) (K:Nat) (c:Con):Prop :=
 ∀ x y,c.F x=some y → ∀ (w:World) (S:Nat→Prop) (args:Array Value),I w→(∀ b,S b→g≤b∧b<w.heap.size)→ZaN w S c.params x args.toList →
  Calls P K args w fun e w' => ∃ v,e = .returned v∧Zib w' S c.results y v∧Below w.heap.size w w'
/-! #### freezing -/
def frz (H:ZAZ):PV→PV
 | .all b=>match H.at? b with
  | some (.row t l) => .rows t l false
  | some (.fro t l) => .rows t l false
  | _ => .junk
 | .sl b off len=>match H.at? b with
  | some (.row t l) => .rows t ((l.drop off).take len) false
  | some (.fro t l) => .rows t ((l.drop off).take len) false
  | _ => .junk
 | p=>p
def ids:PV→List Nat
 | .all b=>[b]
 | .sl b _ _=>[b]
 | _=>[]
def ZmQ (H:ZAZ) (b:Nat):ZAZ :=
 match H.at? b with
 | some (.row t l)=>H.set b (some (.fro t l))
 | _=>H
def Zff (H:ZAZ) (bs:List Nat):ZAZ:=bs.foldl ZmQ H
section
variable {P:Program} {base:Base} {S0:Nat→Prop} {ρ:Loc} {H:ZAZ} {w:World} {S:Nat→Prop}
theorem ZvO (hh:HRel base S0 ρ H w S) (b:Nat) : ∃ S',HRel base S0 ρ (ZmQ H b) w S'∧Ext base ρ H w S ρ (ZmQ H b) w S':=by
 unfold ZmQ
 split
 · rename_i t l ho;exact hh.freeze ho
 · exact ⟨S,hh,Ext.refl⟩
theorem ZkE : ∀ (bs:List Nat) {H:ZAZ} {S:Nat→Prop},HRel base S0 ρ H w S → ∃ S',HRel base S0 ρ (Zff H bs) w S'∧Ext base ρ H w S ρ (Zff H bs) w S'
 | [],H,S,hh=>⟨S,hh,Ext.refl⟩
 | b::bs,H,S,hh=>by
  obtain ⟨S1,h1,e1⟩:=ZvO hh b
  obtain ⟨S2,h2,e2⟩:=ZkE bs h1
  exact ⟨S2,h2,e1.trans e2⟩
theorem ZtO (H:ZAZ) (b c:Nat):(ZmQ H b).at? c=H.at? c ∨ ∃ t l,b=c∧H.at? c=some (.row t l)∧(ZmQ H b).at? c=some (.fro t l):=by
 unfold ZmQ
 split
 ·
  rename_i t l ho
  by_cases e:b=c
  · subst e;exact .inr ⟨t,l,rfl,ho,ZA2 (ZMK ho)⟩
  · exact .inl (ZAk e)
 · exact .inl rfl
theorem ZtP (H:ZAZ) (b:Nat):(ZmQ H b).at? b≠none → ∀ t l,(ZmQ H b).at? b≠some (.row t l):=by
 intro _ t l h
 unfold ZmQ at h
 split at h
 ·
  rename_i t' l' ho
  rw [ZA2 (ZMK ho)] at h;cases h
 · rename_i hno;exact hno t l h
theorem Zn9 : ∀ (bs:List Nat) (H:ZAZ) (c:Nat),((Zff H bs).at? c=H.at? c∧(c∈bs → ∀ t l,H.at? c≠some (.row t l))) ∨ ∃ t l,H.at? c=some (.row t l)∧(Zff H bs).at? c=some (.fro t l)
 | [],H,c => .inl ⟨rfl,fun h=>by cases h⟩
 | b::bs,H,c=>by
  have ih:=Zn9 bs (ZmQ H b) c
  have h1:=ZtO H b c
  show ((Zff (ZmQ H b) bs).at? c=_∧_)∨_
  rcases h1 with h1 | ⟨t,l,rfl,h1,h2⟩
  ·
   rcases ih with ⟨ih,hb⟩ | ⟨t,l,i1,i2⟩
   ·
    refine .inl ⟨ih.trans h1,fun hm t l ho => ?_⟩
    rcases List.mem_cons.mp hm with rfl | hm
    ·
     rw [← h1] at ho
     exact ZtP H c (by rw [ho];simp) t l ho
    · exact hb hm t l (h1.trans ho)
   · exact .inr ⟨t,l,h1 ▸ i1,i2⟩
  ·
   rcases ih with ⟨ih,_⟩ | ⟨t',l',i1,_⟩
   · exact .inr ⟨t,l,h1,ih.trans h2⟩
   · rw [h2] at i1;cases i1
theorem ZkW (hh:HRel base S0 ρ H w S) {b:Nat} {t:Ty} {l:List t.den} {v:Value} (ho:H.at? b=some (.fro t l)) (hp:ZAW ρ H w S (.all b) v):ZAW ρ H w S (.rows t l false) v:=by
 simp only [ZAW] at hp ⊢
 refine ⟨?_,fun h=>by cases h⟩
 rcases hp.2 _ ho rfl with ⟨blk,n,cap,hr,rfl,hle,hn⟩ | ⟨h0,rfl⟩
 ·
  refine ⟨_,cap,rfl,hle,fun _ => ?_⟩
  rcases hh.block _ _ ho with ⟨blk',arr,elem,fz,h1,h2,h3,h4,h5⟩ | ⟨h1,_⟩
  ·
   rw [hr] at h1;cases h1
   exact ⟨blk,0,arr,elem,fz,rfl,h3,h2,fun i hi=>by simpa using h4 i hi⟩
  · rw [hr] at h1;cases h1
 ·
  simp only [AO.len] at h0
  exact ⟨none,0,by rw [h0],by omega,fun hne=>absurd (List.length_eq_zero_iff.mp h0) hne⟩
theorem ZnK (hh:HRel base S0 ρ H w S) {b off len:Nat} {t:Ty} {l:List t.den} {v:Value} (ho:H.at? b=some (.fro t l)) (hp:ZAW ρ H w S (.sl b off len) v) :
  ZAW ρ H w S (.rows t ((l.drop off).take len) false) v:=by
 simp only [ZAW] at hp ⊢
 refine ⟨?_,fun h=>by cases h⟩
 obtain ⟨hle,hc⟩:=hp.2 _ ho rfl
 simp only [AO.len] at hle
 have hlen:((l.drop off).take len).length=len:=by simp;omega
 rcases hc with ⟨blk,n,cap,hr,rfl,hlc,hn⟩ | ⟨h0,a,rfl,_⟩
 ·
  refine ⟨_,cap,by rw [hlen],by omega,fun _ => ?_⟩
  rcases hh.block _ _ ho with ⟨blk',arr,elem,fz,h1,h2,h3,h4,h5⟩ | ⟨h1,_⟩
  ·
   rw [hr] at h1;cases h1
   refine ⟨blk,off*t.size,arr,elem,fz,rfl,h3,h2,fun i hi => ?_⟩
   rw [hlen] at hi
   obtain ⟨vs,g1,g2⟩:=h4 (off+i) (by omega)
   refine ⟨vs,by simpa using g1,?_⟩
   rw [← Nat.add_mul];exact g2
  · rw [hr] at h1;cases h1
 ·
  subst h0
  exact ⟨a,0,by simp,by simp,fun hne=>absurd (by simp) hne⟩
theorem Zwk {bs:List Nat} {p:PV} {v:Value} (hb : ∀ b∈ids p,b∈bs) {S':Nat→Prop} (hh':HRel base S0 ρ (Zff H bs) w S') (hp:ZAW ρ (Zff H bs) w S' p v):ZAW ρ (Zff H bs) w S' (frz H p) v:=by
 cases p with
 | all b=>
  have hm:=hb b (by simp [ids])
  have hat:=Zn9 bs H b
  unfold frz
  simp only
  split
  ·
   rename_i t l ho
   rcases hat with ⟨_,h⟩ | ⟨t',l',h1,h2⟩
   · exact absurd ho (h hm t l)
   ·
    rw [ho] at h1;cases h1
    exact ZkW hh' h2 hp
  ·
   rename_i t l ho
   rcases hat with ⟨h,_⟩ | ⟨t',l',h1,h2⟩
   · exact ZkW hh' (h.trans ho) hp
   · rw [ho] at h1;cases h1
  · simp only [ZAW]
 | sl b off len=>
  have hm:=hb b (by simp [ids])
  have hat:=Zn9 bs H b
  unfold frz
  simp only
  split
  ·
   rename_i t l ho
   rcases hat with ⟨_,h⟩ | ⟨t',l',h1,h2⟩
   · exact absurd ho (h hm t l)
   ·
    rw [ho] at h1;cases h1
    exact ZnK hh' h2 hp
  ·
   rename_i t l ho
   rcases hat with ⟨h,_⟩ | ⟨t',l',h1,h2⟩
   · exact ZnK hh' (h.trans ho) hp
   · rw [ho] at h1;cases h1
  · simp only [ZAW]
 | _=>exact hp
theorem Zrf {bs:List Nat} {S':Nat→Prop} (hh':HRel base S0 ρ (Zff H bs) w S') : ∀ {ps:List PV} {vs:List Value},(∀ p∈ps,∀ b∈ids p,b∈bs)→ZAQ ρ (Zff H bs) w S' ps vs→ZAQ ρ (Zff H bs) w S' (ps.map (frz H)) vs
 | [],_,_,h=>h
 | p::ps,_,hb,h=>by
  simp only [ZAQ] at h
  obtain ⟨u,us,rfl,h1,h2⟩:=h
  exact ⟨u,us,rfl,Zwk (hb p (by simp)) hh' h1,Zrf hh' (fun q hq=>hb q (by simp [hq])) h2⟩
/-! #### arguments -/
def Zfg (t:Ty) (p:PV):Option (List PV):=if t.isAgg then ZfX p else if ZPt p then some [p] else none
def ZGX:(ts:List Ty)→List PV→ZAZ→Option (ZFC ts)
 | [],[],_=>some ()
 | t::ts,p::ps,H=>match Zfg t p with
  | some cs=>match dec t (cs.map (frz H)) with
   | some (x,[])=>match ZGX ts ps H with
    | some xs=>some (x,xs)
    | none=>none
   | _=>none
  | none=>none
 | _,_,_=>none
def ZJU (ts:List Ty) (ps:List PV):List Nat:=(ts.zip ps).flatMap fun x=>((Zfg x.1 x.2).getD []).flatMap ids
theorem ZpV {t:Ty} {p:PV} {cs:List PV} {v:Value} (hc:Zfg t p=some cs) (hp:ZAW ρ H w S p v):ZAQ ρ H w S cs v.cells.toList∧(t.isAgg=true → ∃ us,v = .agg us)∧(t.isAgg=false→v.oneCell'=true):=by
 unfold Zfg at hc
 split at hc
 ·
  rename_i ht
  obtain ⟨us,rfl,h⟩:=Zao hc hp
  exact ⟨h,fun _=>⟨us,rfl⟩,fun h=>by rw [ht] at h;cases h⟩
 ·
  rename_i ht
  split at hc
  ·
   rename_i hs
   cases hc
   have h1:=ZhS hs hp
   refine ⟨?_,fun h=>absurd h ht,fun _=>h1⟩
   rw [ZfU h1]
   exact ⟨v,[],rfl,hp,rfl⟩
  · cases hc
theorem ZYG {bs:List Nat} {S':Nat→Prop} (hh':HRel base S0 ρ (Zff H bs) w S') : ∀ {ts:List Ty} {ps:List PV} {x:ZFC ts} {vs:List Value},(∀ b∈ZJU ts ps,b∈bs)→ZGX ts ps H=some x →
  ZAQ ρ (Zff H bs) w S' ps vs→ZaN w S' ts x vs
 | [],[],_,_,_,_,h=>h
 | t::ts,p::ps,x,vs,hb,hd,h=>by
  simp only [ZAQ] at h
  obtain ⟨u,us,rfl,h1,h2⟩:=h
  simp only [ZGX] at hd
  split at hd
  ·
   rename_i cs hc
   split at hd
   ·
    rename_i x1 hx
    split at hd
    ·
     rename_i xs hxs
     cases hd
     obtain ⟨g1,g2,g3⟩:=ZpV hc h1
     have hbc : ∀ q∈cs,∀ b∈ids q,b∈bs:=by
      intro q hq b hb'
      apply hb
      simp only [ZJU,List.zip_cons_cons,List.flatMap_cons,List.mem_append,List.mem_flatMap]
      exact .inl ⟨q,by rw [hc];exact hq,hb'⟩
     obtain ⟨v1,v2,e1,e2,e3⟩:=ZVz hx (Zrf hh' hbc g1)
     simp only [ZAQ] at e3
     subst e3
     simp only [List.append_nil] at e1
     refine ⟨u,us,rfl,⟨by rw [e1];exact e2,g2,g3⟩,ZYG hh' (fun b hb'=>hb b ?_) hxs h2⟩
     simp only [ZJU,List.zip_cons_cons,List.flatMap_cons,List.mem_append]
     exact .inr hb'
    · cases hd
   · cases hd
  · cases hd
 | [],_::_,_,_,_,h,_=>by simp [ZGX] at h
 | _::_,[],_,_,_,h,_=>by simp [ZGX] at h
/-! #### results -/
def Zy4 (t:Ty) (x:t.den):PV:=if t.isAgg then .agg (cellsP t x) else (cellsP t x).headD .junk
def Zfh:(ts:List Ty)→ZFC ts→List PV
 | [],_=>[]
 | t::ts,x=>Zy4 t x.1::Zfh ts x.2
def ZsO (ts:List Ty) (x:ZFC ts):PV :=
 match ts,x with
 | [t],x=>Zy4 t x.1
 | ts,x => .tuple (Zfh ts x)
theorem Zrg {t:Ty} {x:t.den} {v:Value} (h:Zwj w S t x v):ZAW ρ H w S (Zy4 t x) v:=by
 unfold Zy4
 obtain ⟨h1,h2,h3⟩:=h
 split
 ·
  rename_i ht
  obtain ⟨us,rfl⟩:=h2 ht
  exact ⟨us,rfl,Rep.cellsP h1⟩
 ·
  rename_i ht
  have ho:=h3 (by simpa using ht)
  rw [ZfU ho] at h1
  have:=Rep.cellsP (ρ:=ρ) (H:=H) h1
  cases hc:cellsP t x with
  | nil=>simp only [List.headD_nil,ZAW]
  | cons p ps=>
   rw [hc] at this
   simp only [ZAQ] at this
   obtain ⟨u,us,e,g,_⟩:=this
   simp at e
   simp only [List.headD_cons]
   rw [e.1];exact g
theorem ZkX : ∀ {ts:List Ty} {x:ZFC ts} {vs:List Value},ZaN w S ts x vs→ZAQ ρ H w S (Zfh ts x) vs
 | [],_,_,h=>h
 | _::_,_,_,h=>by
  obtain ⟨u,us,rfl,h1,h2⟩:=h
  exact ⟨u,us,rfl,Zrg h1,ZkX h2⟩
theorem ZtQ {ts:List Ty} {x:ZFC ts} {v:Value} (h:Zib w S ts x v):ZAW ρ H w S (ZsO ts x) v:=by
 unfold Zib at h
 unfold ZsO
 split at h
 · exact Zrg h
 ·
  obtain ⟨us,rfl,h1⟩:=h
  exact ⟨us,rfl,ZkX h1⟩
/-! #### results that are rows of the caller's own -/
def Zrh (B:Nat→Prop) (w:World) (S0:Nat→Prop) (t:Ty) (l:List t.den) (v:Value):Prop :=
 (l=[]∧v = .slice none 0 0) ∨ ∃ blk arr elem fz cap S,v = .slice (some ⟨blk,0,none⟩) l.length cap∧l.length≤cap∧cap*t.size≤arr.size ∧ ¬ B blk∧w.heap[blk]? = some (.cells arr elem fz) ∧
  (∀ j,j<t.lim arr.size→w.frozen? ⟨blk,j,none⟩=false)∧(∀ b,S0 b→S b)∧S blk∧(∀ i (h:i<l.length),∃ vs,Rep w S t l[i] vs∧At arr (i*t.size) vs)∧t.okElem elem
structure OCon where
 params:List Ty
 t:Ty
 F:ZFC params→Option (List t.den)
def OCon.Sound (P:Program) (I:World→Prop) (g:Nat) (K:Nat) (c:OCon):Prop :=
 ∀ x y,c.F x=some y → ∀ (w:World) (S:Nat→Prop) (args:Array Value),I w→(∀ b,S b→g≤b∧b<w.heap.size)→ZaN w S c.params x args.toList →
  Calls P K args w fun e w' => ∃ v,e = .returned v∧Zrh (fun b=>b<w.heap.size) w' S c.t y v∧Below w.heap.size w w'
theorem HRel.adopt (h:HRel base S0 ρ H w S) {w':World} (hb:Below w.heap.size w w') {t:Ty} {l:List t.den} {v:Value} (ho:Zrh (fun b=>b<w.heap.size) w' S t l v) :
  ∃ ρ' S',HRel base S0 ρ' (H++[some (.row t l)]) w' S'∧Ext base ρ H w S ρ' (H++[some (.row t l)]) w' S'∧ZAW ρ' (H++[some (.row t l)]) w' S' (.all H.length) v:=by
 have hl:=h.later hb.size hb.block
 have hx0:Ext base ρ H w S ρ H w' S:=Ext.later h.base_le hb
 rcases ho with ⟨rfl,rfl⟩ | ⟨blk,arr,elem,fz,cap,S2,rfl,hle,hcap,hB,hblk,hfr,hS02,hS2,hel,hok⟩
 ·
  obtain ⟨ρ',g1,g2⟩:=hl.absent t
  refine ⟨ρ',S,g1,hx0.trans g2,?_⟩
  simp only [ZAW]
  refine ⟨⟨ZCr (fun e=>by cases e),rfl⟩,fun o ho _ => ?_⟩
  rw [ZA1] at ho;cases ho
  exact .inr (by simp [AO.len])
 ·
  have hB:w.heap.size≤blk:=Nat.not_lt.mp hB
  have hlt:blk<w'.heap.size:=ZHC hblk
  have hold : ∀ b o blk' n,H.at? b=some o→ρ b=some (blk',n)→blk'≠blk:=fun b o blk' n h1 h2 e=>by have:=(h.from_ b o blk' n h1 h2).2;omega
  have hx:Ext base ρ H w S (ρ.put H.length (some (blk,arr.size))) (H++[some (.row t l)]) w' (fun b=>S b∨b=blk) :=
   ⟨ZYA _,ZWs _,hx0.hw,fun b hb hs=>by rcases hs with hs | hs;exact hs;omega,hx0.below⟩
  refine ⟨_,_,⟨h.base_le.ext hx,h.outer,?_,?_,?_,?_⟩,hx,?_⟩
  ·
   intro b
   constructor
   ·
    rintro (hs | rfl)
    ·
     rcases (h.own b).mp hs with h0 | ⟨c,o',n',h1,h2,h3⟩
     · exact .inl h0
     · exact .inr ⟨c,o',n',by rw [ZAe (ZMK h1)];exact h1,h2,by rw [Loc.put_other (by have:=ZMK h1;omega)];exact h3⟩
    · exact .inr ⟨H.length,_,arr.size,ZA1,rfl,Loc.put_same⟩
   ·
    rintro (h0 | ⟨c,o',n',h1,h2,h3⟩)
    · exact .inl ((h.own b).mpr (.inl h0))
    ·
     rcases ZBP h1 with hb' | rfl
     ·
      rw [ZAe hb'] at h1
      rw [Loc.put_other (by omega)] at h3
      exact .inl ((h.own b).mpr (.inr ⟨c,o',n',h1,h2,h3⟩))
     ·
      rw [Loc.put_same] at h3
      cases h3
      exact .inr rfl
  ·
   intro b o' blk' n' h1 h3
   rcases ZBP h1 with hb' | rfl
   ·
    rw [ZAe hb'] at h1
    rw [Loc.put_other (by omega)] at h3
    exact hl.from_ b o' blk' n' h1 h3
   ·
    rw [Loc.put_same] at h3
    cases h3
    exact ⟨fun hb=>by have:=h.base_le.lt _ hb;omega,hlt⟩
  ·
   intro b b' o1 o2 blk' n1 n2 h1 h2 h3 h4
   rcases ZBP h1 with hb1 | rfl <;> rcases ZBP h2 with hb2 | rfl
   ·
    rw [ZAe hb1] at h1
    rw [ZAe hb2] at h2
    rw [Loc.put_other (by omega)] at h3 h4
    exact h.inj _ _ _ _ _ _ _ h1 h2 h3 h4
   ·
    rw [ZAe hb1] at h1
    rw [Loc.put_other (by omega)] at h3
    rw [Loc.put_same] at h4
    cases h4
    exact absurd rfl (hold _ _ _ _ h1 h3)
   ·
    rw [ZAe hb2] at h2
    rw [Loc.put_other (by omega)] at h4
    rw [Loc.put_same] at h3
    cases h3
    exact absurd rfl (hold _ _ _ _ h2 h4)
   · rfl
  ·
   intro b o' h1
   rcases ZBP h1 with hb' | rfl
   ·
    rw [ZAe hb'] at h1
    exact (h.block b o' h1).mono hx.hH hx.hr hx.hw hx.hS (Loc.put_other (by omega)) (fun blk' n' hb2=>hb.block blk' (h.from_ b o' blk' n' h1 hb2).2)
   ·
    rw [ZA1] at h1
    cases h1
    refine .inl ⟨blk,arr,elem,fz,Loc.put_same,hblk,hfr,fun i hi => ?_,hok⟩
    obtain ⟨vs,k1,k2⟩:=hel i hi
    exact ⟨vs,k1.mono (Same.refl _ _) (fun b _ hs=>by rcases hs with hs | rfl;exact hS02 _ hs;exact hS2),k2⟩
  ·
   simp only [ZAW]
   refine ⟨⟨ZCr (fun e=>by cases e),rfl⟩,fun o ho _ => ?_⟩
   rw [ZA1] at ho;cases ho
   exact .inl ⟨blk,arr.size,cap,Loc.put_same,rfl,hle,hcap⟩
end
universe u
inductive Pat where
 | any
 | undef
 | nilSlice
 | nilPtr
 | nilFunc
 | nilIface
 | intC (k:IntKind) (n:Int)
 | boolC (b:Bool)
 | int (k:IntKind)
 | bool
 | str
 | rows (t:Ty) (clip:Bool)
 | all (c:Nat)
 | sl (c:Nat)
 | cs (c off len sz:Nat)
 | ptr (c off:Nat)
 | rptr (c j:Nat)
 | pin (t:Ty) (j:Nat)
 | func (fn:Nat) (first captured:List Pat)
 | iface (t:TypeId) (x:Pat)
 | agg (ps:List Pat)
 | tuple (ps:List Pat)
 | emp
 | dat (t:Ty)
 | head (c:Nat)
 | nos (c off:Nat)
 | mp (c:Nat)
mutual
@[reducible] def ZvP (p:Pat):Type:=match p with
 | .any=>Unit
 | .undef=>Unit
 | .nilSlice=>Unit
 | .nilPtr=>Unit
 | .nilFunc=>Unit
 | .nilIface=>Unit
 | .intC _ _=>Unit
 | .boolC _=>Unit
 | .int _=>Int
 | .bool=>Bool
 | .str=>ByteArray
 | .rows t _=>List t.den
 | .all _=>Unit
 | .sl _=>Nat×Nat
 | .cs _ _ _ _=>Unit
 | .ptr _ _=>Unit
 | .rptr _ _=>Nat
 | .pin t _=>t.den
 | .func _ a b=>ZH1 a×ZH1 b
 | .iface _ x=>ZvP x
 | .agg ps=>ZH1 ps
 | .tuple ps=>ZH1 ps
 | .emp=>Unit
 | .dat t=>t.den
 | .head _=>Unit
 | .nos _ _=>Unit
 | .mp _=>Unit
termination_by structural p
@[reducible] def ZH1 (ps:List Pat):Type:=match ps with
 | []=>Unit
 | p::ps=>ZvP p×ZH1 ps
termination_by structural ps
end
mutual
def ZpJ (p:Pat) (x:ZvP p):PV:=match p,x with
 | .any,_ => .junk
 | .undef,_ => .val (.tuple #[])
 | .nilSlice,_ => .val (.slice none 0 0)
 | .nilPtr,_ => .val (.pointer none)
 | .nilFunc,_ => .val .nilFunc
 | .nilIface,_ => .val .nilIface
 | .intC k n,_ => .val (.int k n)
 | .boolC b,_ => .val (.bool b)
 | .int k,x => .val (.int k x)
 | .bool,x => .val (.bool x)
 | .str,x => .val (.string x)
 | .rows t c,x => .rows t x c
 | .all c,_ => .all c
 | .sl c,x => .sl c x.1 x.2
 | .cs c off len sz,_ => .cs c off len sz
 | .ptr c off,_ => .ptr c off
 | .rptr c j,x => .rptr c x j
 | .pin t j,x => .pin t x j
 | .func fn a b,x => .func (.func fn) (ZIt a x.1) (ZIt b x.2)
 | .iface t p,x => .iface t (ZpJ p x)
 | .agg ps,x => .agg (ZIt ps x)
 | .tuple ps,x => .tuple (ZIt ps x)
 | .emp,_ => .emp
 | .dat t,x => .agg (cellsP t x)
 | .head c,_ => .head c
 | .nos c off,_ => .nos c off
 | .mp c,_ => .mp c
termination_by structural p
def ZIt (ps:List Pat) (x:ZH1 ps):List PV:=match ps,x with
 | [],_=>[]
 | p::ps,x=>ZpJ p x.1::ZIt ps x.2
termination_by structural ps
end
inductive HPat where
 | dead
 | cells (e:Nat) (ps:List Pat)
 | row (t:Ty)
 | fro (t:Ty)
 | dat (e:Nat) (t:Ty)
 | map (k v:Ty)
@[reducible] def ZzJ:HPat→Type
 | .dead=>Unit
 | .cells _ ps=>ZH1 ps
 | .row t=>List t.den
 | .fro t=>List t.den
 | .dat _ t=>t.den
 | .map k v=>List (k.den×v.den)
def Zep:(p:HPat)→ZzJ p→Option AO
 | .dead,_=>none
 | .cells e ps,x=>some (.cells e (ZIt ps x))
 | .row t,x=>some (.row t x)
 | .fro t,x=>some (.fro t x)
 | .dat e t,x=>some (.cells e (cellsP t x))
 | .map k v,x=>some (.map k v x)
@[reducible] def ZLQ:List HPat→Type
 | []=>Unit
 | p::ps=>ZzJ p×ZLQ ps
def ZBA:(ps:List HPat)→ZLQ ps→ZAZ
 | [],_=>[]
 | p::ps,x=>Zep p x.1::ZBA ps x.2
structure Sig where
 σ:List (Option (Option Nat))
 Z:List Nat
 R:List Nat
def Sig.at (s:Sig) (c:Nat):Option (Option Nat):=s.σ.getD c none
def Sig.bind (s:Sig) (c:Nat) (b:Option Nat):Option Sig :=
 match s.at c with
 | some b'=>match b,b' with
  | some b,some b'=>bif Nat.beq b b' then some s else none
  | none,none=>some s
  | _,_=>none
 | none=>bif Nat.blt c s.σ.length then some ⟨s.σ.set c (some b),s.Z,s.R⟩ else none
def ZjA (t:Ty) (H:ZAZ) (b:Nat):Option (List t.den) :=
 match H.at? b with
 | some (.row _ l)=>ZSG l
 | some (.fro _ l)=>ZSG l
 | _=>none
def ZwI (t:Ty) (ps:List PV):Option ((t.den×List PV)×List Nat):=match dec t ps with
 | some y=>some (y,[])
 | none=>none
def ZtR (H:ZAZ):(t:Ty)→List PV→Option ((t.den×List PV)×List Nat)
 | .unit,ps=>ZwI .unit ps
 | .int k,ps=>ZwI (.int k) ps
 | .byt e,ps=>ZwI (.byt e) ps
 | .bool,ps=>ZwI .bool ps
 | .str,ps=>ZwI .str ps
 | .pair a b,ps=>match ZtR H a ps with
  | some ((x,r),z)=>match ZtR H b r with
   | some ((y,r'),z')=>some (((x,y),r'),z++z')
   | none=>none
  | none=>none
 | .slice t,ps=>match ps with
  | .all b::r=>match ZjA t H b with
   | some l=>some ((l,r),[b])
   | none=>none
  | .sl b off len::r=>match ZjA t H b with
   | some l=>some (((l.drop off).take len,r),[b])
   | none=>none
  | _=>ZwI (.slice t) ps
section
variable {β:Type u} (H:ZAZ)
mutual
def pm (p:Pat) (v:PV) (s:Sig) (k:ZvP p→Sig→Option β):Option β:=match p,k with
 | .any,k=>k () s
 | .undef,k=>match v with
  | .val (.tuple us)=>match us.toList with
   | []=>k () s
   | _=>none
  | _=>none
 | .nilSlice,k=>match v with
  | .val (.slice none 0 0)=>k () s
  | _=>none
 | .nilPtr,k=>match v with
  | .val (.pointer none)=>k () s
  | _=>none
 | .nilFunc,k=>match v with
  | .val .nilFunc=>k () s
  | _=>none
 | .nilIface,k=>match v with
  | .val .nilIface=>k () s
  | _=>none
 | .intC i n,k=>match v with
  | .val (.int i' n')=>bif decide (i'=i)&&decide (n'=n) then k () s else none
  | _=>none
 | .boolC b,k=>match v with
  | .val (.bool b')=>bif b'==b then k () s else none
  | _=>none
 | .int i,k=>match v with
  | .val (.int i' n)=>bif decide (i'=i) then k n s else none
  | _=>none
 | .bool,k=>match v with
  | .val (.bool b)=>k b s
  | _=>none
 | .str,k=>match v with
  | .val (.string x)=>k x s
  | _=>none
 | .rows t c,k=>match v with
  | .rows _ l c'=>bif !c||c' then match ZSG l with
    | some l=>k l s
    | none=>none
   else none
  | .val (.slice none 0 0)=>k [] s
  | .emp=>k [] s
  | .all b=>bif c then none else match ZjA t H b with
   | some l=>k l ⟨s.σ,b::s.Z,s.R⟩
   | none=>none
  | .sl b off len=>bif c then none else match ZjA t H b with
   | some l=>k ((l.drop off).take len) ⟨s.σ,b::s.Z,s.R⟩
   | none=>none
  | _=>none
 | .all c,k=>match v with
  | .all b=>match s.bind c (some b) with
   | some s=>k () s
   | none=>none
  | .val (.slice none 0 0)=>match s.bind c none with
   | some s=>k () s
   | none=>none
  | _=>none
 | .sl c,k=>match v with
  | .sl b off len=>match s.bind c (some b) with
   | some s=>k (off,len) s
   | none=>none
  | _=>none
 | .cs c off len sz,k=>match v with
  | .cs b off' len' sz'=>bif Nat.beq off' off&&Nat.beq len' len&&Nat.beq sz' sz then match s.bind c (some b) with
    | some s=>k () s
    | none=>none
   else none
  | _=>none
 | .ptr c off,k=>match v with
  | .ptr b off'=>bif Nat.beq off' off then match s.bind c (some b) with
    | some s=>k () s
    | none=>none
   else none
  | _=>none
 | .rptr c j,k=>match v with
  | .rptr b i j'=>bif Nat.beq j' j then match s.bind c (some b) with
    | some s=>k i s
    | none=>none
   else none
  | _=>none
 | .pin t j,k=>match v with
  | .pin _ x j'=>bif Nat.beq j' j then match (ZSG [x]:Option (List t.den)) with
    | some (x::_)=>k x s
    | _=>none
   else none
  | .ptr b off=>bif Nat.beq off j then match H.at? b with
    | some (.cells _ cs)=>match ZtR H t cs with
     | some ((x,[]),zs)=>k x ⟨s.σ,zs++b::s.Z,s.R⟩
     | _=>none
    | _=>none
   else none
  | _=>none
 | .func fn a b,k=>match v with
  | .func (.func fn') a' b'=>bif Nat.beq fn' fn then pms a a' s fun x s=>pms b b' s fun y s=>k (x,y) s else none
  | _=>none
 | .iface t p,k=>match v with
  | .iface t' v=>bif decide (t'=t) then pm p v s k else none
  | _=>none
 | .agg ps,k=>match v with
  | .agg vs=>pms ps vs s k
  | _=>none
 | .tuple ps,k=>match v with
  | .tuple vs=>pms ps vs s k
  | _=>none
 | .emp,k=>match v with
  | .emp=>k () s
  | .val (.slice none 0 0)=>k () s
  | _=>none
 | .dat t,k=>match v with
  | .agg vs=>match dec t vs with
   | some (x,[])=>k x s
   | _=>none
  | _=>none
 | .head c,k=>match v with
  | .head b=>match s.bind c (some b) with
   | some s=>k () s
   | none=>none
  | _=>none
 | .nos c off,k=>match v with
  | .nos b off'=>bif Nat.beq off' off then match s.bind c (some b) with
    | some s=>k () s
    | none=>none
   else none
  | .ptr b off'=>bif Nat.beq off' off then match s.bind c (some b) with
    | some s=>k () s
    | none=>none
   else none
  | .val (.pointer none)=>bif Nat.blt c s.σ.length then k () s else none
  | _=>none
 | .mp c,k=>match v with
  | .mp b=>match s.bind c (some b) with
   | some s=>k () s
   | none=>none
  | _=>none
termination_by structural p
def pms (ps:List Pat) (vs:List PV) (s:Sig) (k:ZH1 ps→Sig→Option β):Option β:=match ps,k with
 | [],k=>match vs with
  | []=>k () s
  | _=>none
 | p::ps,k=>match vs with
  | v::vs=>pm p v s fun x s=>pms ps vs s fun y s=>k (x,y) s
  | []=>none
termination_by structural ps
end
end
def Sig.le (s s':Sig):Prop:=(∀ c x,s.at c=some x→s'.at c=some x)∧(∀ b∈s.Z,b∈s'.Z)∧s'.σ.length=s.σ.length
theorem Sig.le_refl (s:Sig):s.le s:=⟨fun _ _ h=>h,fun _ h=>h,rfl⟩
theorem Sig.le_trans {a b c:Sig} (h:a.le b) (k:b.le c):a.le c:=⟨fun i x hx=>k.1 i x (h.1 i x hx),fun b hb=>k.2.1 b (h.2.1 b hb),k.2.2.trans h.2.2⟩
theorem Sig.bind_ok {s s':Sig} {c:Nat} {b:Option Nat} (h:s.bind c b=some s'):s'.at c=some b∧s.le s':=by
 unfold Sig.bind at h
 split at h
 ·
  rename_i b' hb'
  split at h
  ·
   rename_i b1 b2
   cases hq:Nat.beq b1 b2 with
   | true=>
    rw [hq] at h
    cases h
    rw [Nat.eq_of_beq_eq_true hq]
    exact ⟨hb',Sig.le_refl _⟩
   | false=>rw [hq] at h;cases h
  · cases h;exact ⟨hb',Sig.le_refl _⟩
  · cases h
 ·
  rename_i hn
  cases hq:Nat.blt c s.σ.length with
  | false=>rw [hq] at h;cases h
  | true=>
   rw [hq] at h
   cases h
   have hlt:c<s.σ.length:=Nat.lt_of_succ_le (by simpa [Nat.blt] using hq)
   refine ⟨by simp [Sig.at,List.getD,hlt],fun c' x hx => ?_,fun _ h=>h,by simp⟩
   by_cases e:c=c'
   · subst e;rw [hn] at hx;cases hx
   · simpa [Sig.at,List.getD,List.getElem?_set_ne e] using hx
abbrev Kin (o o':AO):Prop:=ZUx o o'
structure Good (s:Sig) (H:ZAZ) (ρ:Loc) (w:World) (S:Nat→Prop) (H':ZAZ) (ρ':Loc) (S':Nat→Prop):Prop where
 real : ∀ c b,s.at c=some (some b)→ZMz H' c∧ρ' c=ρ b ∧ ∀ o',H'.at? c=some o' → ∃ o,H.at? b=some o∧Kin o o'
 virt : ∀ c,s.at c=some none→ZMz H' c ∧ ∀ o',H'.at? c=some o'→o'.isRow=true∧o'.len=0
 read : ∀ b∈s.Z,∀ o blk n,H.at? b=some o→ρ b=some (blk,n) → ¬ S' blk
 less : ∀ b,b<w.heap.size→S' b→S b
 all : ∀ c,c<s.σ.length→ZMz H' c
theorem Good.le {s s':Sig} {H:ZAZ} {ρ:Loc} {w:World} {S:Nat→Prop} {H':ZAZ} {ρ':Loc} {S':Nat→Prop} (h:s.le s') (g:Good s' H ρ w S H' ρ' S'):Good s H ρ w S H' ρ' S' :=
 ⟨fun c b hb=>g.real c b (h.1 _ _ hb),fun c hc=>g.virt c (h.1 _ _ hc),fun b hb=>g.read b (h.2.1 b hb),g.less,fun c hc=>g.all c (h.2.2 ▸ hc)⟩
section
variable {base:Base} {S0:Nat→Prop} {ρ ρ':Loc} {H H':ZAZ} {w:World} {S S':Nat→Prop} {s:Sig}
theorem Zfi {a t:Ty} {l:List a.den} {m:List t.den} (h:ZSG l=some m) : ∃ e:a=t,m=e ▸ l:=by
 unfold ZSG at h
 split at h
 · rename_i e;cases h;exact ⟨e,rfl⟩
 · cases h
theorem ZLR (g:Good s H ρ w S H' ρ' S') : ∀ {t:Ty} {x:t.den} {vs:List Value},Rep w S t x vs→Rep w S' t x vs:=fun h=>h.mono (Same.refl _ _) g.less
theorem ZtS (g:Good s H ρ w S H' ρ' S') {t:Ty} {l:List t.den} {v:Value} (h:ZvF w S (Rep w S t) t.size l v):ZvF w S' (Rep w S' t) t.size l v :=
 h.mono (Same.refl _ _) g.less (fun _ _ h=>ZLR g h)
theorem ZkF (S:Nat→Prop) {t:Ty} (a:Option Addr):ZvF w S (Rep w S t) t.size [] (.slice a 0 0) :=
 ⟨a,0,rfl,Nat.le_refl _,fun h=>absurd rfl h⟩
theorem ZoA {t:Ty} {b:Nat} {l:List t.den} (h:ZjA t H b=some l) : ∃ o,H.at? b=some o∧(o = .row t l∨o = .fro t l):=by
 unfold ZjA at h
 split at h
 ·
  rename_i t' l' ho
  obtain ⟨e,rfl⟩:=Zfi h
  subst e
  exact ⟨_,ho,.inl rfl⟩
 ·
  rename_i t' l' ho
  obtain ⟨e,rfl⟩:=Zfi h
  subst e
  exact ⟨_,ho,.inr rfl⟩
 · cases h
theorem ZpW (hh:HRel base S0 ρ H w S) (g:Good s H ρ w S H' ρ' S') {b:Nat} (hb:b∈s.Z) {t:Ty} {l:List t.den} {o:AO} (ho:H.at? b=some o) (he:o = .row t l∨o = .fro t l) :
  (∃ blk arr elem fz,ρ b=some (blk,arr.size)∧w.heap[blk]? = some (.cells arr elem fz) ∧ ¬ S' blk ∧ ∀ i (h:i<l.length),∃ vs,Rep w S' t l[i] vs∧At arr (i*t.size) vs)∨(ρ b=none∧l=[]):=by
 rcases he with rfl | rfl
 ·
  rcases hh.block _ _ ho with ⟨blk,arr,elem,fz,h1,h2,h3,h4⟩ | h
  ·
   refine .inl ⟨blk,arr,elem,fz,h1,h2,g.read b hb _ _ _ ho h1,fun i hi => ?_⟩
   obtain ⟨vs,q1,q2⟩:=h4.1 i hi
   exact ⟨vs,ZLR g q1,q2⟩
  · exact .inr h
 ·
  rcases hh.block _ _ ho with ⟨blk,arr,elem,fz,h1,h2,h3,h4⟩ | h
  ·
   refine .inl ⟨blk,arr,elem,fz,h1,h2,g.read b hb _ _ _ ho h1,fun i hi => ?_⟩
   obtain ⟨vs,q1,q2⟩:=h4.1 i hi
   exact ⟨vs,ZLR g q1,q2⟩
  · exact .inr h
theorem ZkY {t:Ty} {l:List t.den} {o:AO} (he:o = .row t l∨o = .fro t l):o.isRow=true∧o.len=l.length∧o.elemSize=t.size:=by
 rcases he with rfl | rfl <;> exact ⟨rfl,rfl,rfl⟩
theorem ZkZ (hh:HRel base S0 ρ H w S) (g:Good s H ρ w S H' ρ' S') {b:Nat} (hb:b∈s.Z) {t:Ty} {l:List t.den} (hl:ZjA t H b=some l) {v:Value} (hp:ZAW ρ H w S (.all b) v) :
  ZAW ρ' H' w S' (.rows t l false) v:=by
 obtain ⟨o,ho,he⟩:=ZoA hl
 obtain ⟨f1,f2,f3⟩:=ZkY he
 simp only [ZAW] at hp ⊢
 refine ⟨?_,fun h=>by cases h⟩
 rcases hp.2 _ ho f1 with ⟨blk,n,cap,hr,rfl,hle,hn⟩ | ⟨h0,rfl⟩
 ·
  rw [f2] at hle ⊢
  refine ⟨_,cap,rfl,hle,fun _ => ?_⟩
  rcases ZpW hh g hb ho he with ⟨blk',arr,elem,fz,h1,h2,h3,h4⟩ | ⟨h1,_⟩
  ·
   rw [hr] at h1;cases h1
   exact ⟨blk,0,arr,elem,fz,rfl,h3,h2,fun i hi=>by simpa using h4 i hi⟩
  · rw [hr] at h1;cases h1
 ·
  rw [f2] at h0
  rw [List.length_eq_zero_iff.mp h0]
  exact ZkF S' none
theorem Zka (hh:HRel base S0 ρ H w S) (g:Good s H ρ w S H' ρ' S') {b off len:Nat} (hb:b∈s.Z) {t:Ty} {l:List t.den} (hl:ZjA t H b=some l) {v:Value} (hp:ZAW ρ H w S (.sl b off len) v) :
  ZAW ρ' H' w S' (.rows t ((l.drop off).take len) false) v:=by
 obtain ⟨o,ho,he⟩:=ZoA hl
 obtain ⟨f1,f2,f3⟩:=ZkY he
 simp only [ZAW] at hp ⊢
 refine ⟨?_,fun h=>by cases h⟩
 obtain ⟨hle,hc⟩:=hp.2 _ ho f1
 rw [f2] at hle
 have hlen:((l.drop off).take len).length=len:=by simp;omega
 rcases hc with ⟨blk,n,cap,hr,rfl,hlc,hn⟩ | ⟨h0,a,rfl,_⟩
 ·
  refine ⟨_,cap,by rw [hlen],by omega,fun _ => ?_⟩
  rcases ZpW hh g hb ho he with ⟨blk',arr,elem,fz,h1,h2,h3,h4⟩ | ⟨h1,_⟩
  ·
   rw [hr] at h1;cases h1
   refine ⟨blk,off*t.size,arr,elem,fz,by rw [f3],h3,h2,fun i hi => ?_⟩
   rw [hlen] at hi
   obtain ⟨vs,g1,g2⟩:=h4 (off+i) (by omega)
   refine ⟨vs,by simpa using g1,?_⟩
   rw [← Nat.add_mul];exact g2
  · rw [hr] at h1;cases h1
 ·
  subst h0
  simp only [List.take_zero]
  exact ZkF S' a
theorem ZBJ {γ:Type u} {b:Bool} {x:Option γ} {y:γ} (h:(bif b then x else none)=some y):b=true∧x=some y:=by
 cases b with
 | true=>exact ⟨rfl,h⟩
 | false=>cases h
end
section
variable {base:Base} {S0:Nat→Prop} {ρ:Loc} {H:ZAZ} {w:World} {S:Nat→Prop} {β:Type u}
def ZYH (ρ:Loc) (H:ZAZ) (w:World) (S:Nat→Prop) (s':Sig) (v q:PV):Prop :=
 ∀ (H':ZAZ) (ρ':Loc) (S':Nat→Prop),Good s' H ρ w S H' ρ' S' → ∀ u,ZAW ρ H w S v u→ZAW ρ' H' w S' q u
def ZpX (ρ:Loc) (H:ZAZ) (w:World) (S:Nat→Prop) (s':Sig) (vs qs:List PV):Prop :=
 ∀ (H':ZAZ) (ρ':Loc) (S':Nat→Prop),Good s' H ρ w S H' ρ' S' → ∀ us,ZAQ ρ H w S vs us→ZAQ ρ' H' w S' qs us
theorem ZYH.le {s s':Sig} (h:s.le s') {v q:PV} (k:ZYH ρ H w S s v q):ZYH ρ H w S s' v q:=fun H' ρ' S' g=>k H' ρ' S' (g.le h)
theorem ZpX.le {s s':Sig} (h:s.le s') {v q:List PV} (k:ZpX ρ H w S s v q):ZpX ρ H w S s' v q:=fun H' ρ' S' g=>k H' ρ' S' (g.le h)
theorem ZtT {s:Sig} {t:Ty} {c:Bool}:ZYH ρ H w S s (.val (.slice none 0 0)) (.rows t [] c):=by
 intro H' ρ' S' g u hu
 simp only [ZAW] at hu ⊢
 subst hu
 exact ⟨ZkF S' _,fun _=>⟨_,rfl⟩⟩
theorem ZtU {s:Sig} {t:Ty} {c:Bool}:ZYH ρ H w S s .emp (.rows t [] c):=by
 intro H' ρ' S' g u hu
 simp only [ZAW] at hu ⊢
 obtain ⟨a,rfl⟩:=hu
 exact ⟨ZkF S' _,fun _=>⟨_,rfl⟩⟩
theorem Zqk {s:Sig} {c:Nat} (h:s.at c=some none):ZYH ρ H w S s (.val (.slice none 0 0)) (.all c):=by
 intro H' ρ' S' g u hu
 simp only [ZAW] at hu ⊢
 subst hu
 obtain ⟨g1,g2⟩:=g.virt c h
 exact ⟨⟨g1,rfl⟩,fun o ho _ => .inr ⟨(g2 o ho).2,rfl⟩⟩
theorem ZtV {s:Sig} {c b:Nat} (h:s.at c=some (some b)):ZYH ρ H w S s (.all b) (.all c):=by
 intro H' ρ' S' g u hu
 simp only [ZAW] at hu ⊢
 obtain ⟨g1,g2,g3⟩:=g.real c b h
 refine ⟨⟨g1,hu.1.2⟩,fun o' ho' hrow => ?_⟩
 obtain ⟨o,ho,k1,k2,k3,_⟩:=g3 o' ho'
 have:=hu.2 o ho (k1 ▸ hrow)
 rw [g2,k2,k3]
 exact this
theorem ZvQ {s:Sig} {c b off len:Nat} (h:s.at c=some (some b)):ZYH ρ H w S s (.sl b off len) (.sl c off len):=by
 intro H' ρ' S' g u hu
 simp only [ZAW] at hu ⊢
 obtain ⟨g1,g2,g3⟩:=g.real c b h
 refine ⟨⟨g1,hu.1.2⟩,fun o' ho' hrow => ?_⟩
 obtain ⟨o,ho,k1,k2,k3,_⟩:=g3 o' ho'
 have:=hu.2 o ho (k1 ▸ hrow)
 rw [g2,k2,k3]
 exact this
theorem ZvR {s:Sig} {c b off len sz:Nat} (h:s.at c=some (some b)):ZYH ρ H w S s (.cs b off len sz) (.cs c off len sz):=by
 intro H' ρ' S' g u hu
 simp only [ZAW] at hu ⊢
 obtain ⟨g1,g2,g3⟩:=g.real c b h
 refine ⟨⟨g1,hu.1.2⟩,fun T cs' ho' => ?_⟩
 obtain ⟨o,ho,k1,k2,k3,k4⟩:=g3 _ ho'
 obtain ⟨cs,rfl,hl⟩:=k4 T cs' rfl
 have:=hu.2 T cs ho
 rw [g2,← hl]
 exact this
theorem Zkb {s:Sig} {c b off:Nat} (h:s.at c=some (some b)):ZYH ρ H w S s (.ptr b off) (.ptr c off):=by
 intro H' ρ' S' g u hu
 simp only [ZAW] at hu ⊢
 obtain ⟨g1,g2,g3⟩:=g.real c b h
 refine ⟨⟨g1,hu.1.2⟩,fun hs => ?_⟩
 obtain ⟨o',ho'⟩:=Option.isSome_iff_exists.mp hs
 obtain ⟨o,ho,_⟩:=g3 o' ho'
 rw [g2]
 exact hu.2 (by rw [ho];rfl)
theorem ZvS {s:Sig} {c b:Nat} (h:s.at c=some (some b)):ZYH ρ H w S s (.mp b) (.mp c):=by
 intro H' ρ' S' g u hu
 simp only [ZAW] at hu ⊢
 obtain ⟨g1,g2,g3⟩:=g.real c b h
 refine ⟨⟨g1,hu.1.2⟩,fun hs => ?_⟩
 obtain ⟨o',ho'⟩:=Option.isSome_iff_exists.mp hs
 obtain ⟨o,ho,_⟩:=g3 o' ho'
 rw [g2]
 exact hu.2 (by rw [ho];rfl)
theorem ZtW {s:Sig} {c b off:Nat} (h:s.at c=some (some b)):ZYH ρ H w S s (.nos b off) (.nos c off):=by
 intro H' ρ' S' g u hu
 have:=Zkb (ρ:=ρ) (H:=H) (w:=w) (S:=S) (off:=off) h H' ρ' S' g u
 simp only [ZAW] at hu this ⊢
 refine ⟨(g.real c b h).1,?_⟩
 rcases hu with ⟨hk,hu | hu⟩
 · exact .inl hu
 ·
  have:=this ⟨⟨hk,hu.1⟩,hu.2⟩
  exact .inr ⟨this.1.2,this.2⟩
theorem ZsP {s:Sig} {c b:Nat} (h:s.at c=some (some b)):ZYH ρ H w S s (.head b) (.head c):=by
 intro H' ρ' S' g u hu
 simp only [ZAW] at hu ⊢
 obtain ⟨g1,g2,g3⟩:=g.real c b h
 refine ⟨⟨g1,hu.1.2⟩,fun o' ho' hrow hpos => ?_⟩
 obtain ⟨o,ho,k1,k2,k3,_⟩:=g3 o' ho'
 have:=hu.2 o ho (k1 ▸ hrow) (k3 ▸ hpos)
 rw [g2]
 exact this
theorem ZsQ {s:Sig} {c b i j:Nat} (h:s.at c=some (some b)):ZYH ρ H w S s (.rptr b i j) (.rptr c i j):=by
 intro H' ρ' S' g u hu
 simp only [ZAW] at hu ⊢
 obtain ⟨g1,g2,g3⟩:=g.real c b h
 refine ⟨⟨g1,hu.1.2⟩,fun o' ho' hrow => ?_⟩
 obtain ⟨o,ho,k1,k2,k3,_⟩:=g3 o' ho'
 have:=hu.2 o ho (k1 ▸ hrow)
 rw [g2,k2,k3]
 exact this
theorem ZvT {s:Sig} {H':ZAZ} {ρ':Loc} {S':Nat→Prop} (hh:HRel base S0 ρ H w S) (g:Good s H ρ w S H' ρ' S') : ∀ {t:Ty} {ps:List PV} {x:t.den} {r:List PV} {zs:List Nat},ZtR H t ps=some ((x,r),zs)→(∀ b∈zs,b∈s.Z) → ∀ {vs:List Value},ZAQ ρ H w S ps vs →
  ∃ v1 v2,vs=v1++v2∧Rep w S' t x v1∧ZAQ ρ H w S r v2:=by
 have plain : ∀ {t:Ty} {ps:List PV} {x:t.den} {r:List PV} {zs:List Nat},ZwI t ps=some ((x,r),zs) → ∀ {vs:List Value},ZAQ ρ H w S ps vs → ∃ v1 v2,vs=v1++v2∧Rep w S' t x v1∧ZAQ ρ H w S r v2:=by
  intro t ps x r zs h vs hp
  unfold ZwI at h
  cases hd:dec t ps with
  | none=>rw [hd] at h;cases h
  | some y=>
   rw [hd] at h
   simp only [Option.some.injEq,Prod.mk.injEq] at h
   obtain ⟨rfl,_⟩:=h
   obtain ⟨v1,v2,e,h1,h2⟩:=ZVz hd hp
   exact ⟨v1,v2,e,ZLR g h1,h2⟩
 intro t
 induction t with
 | unit=>intro ps x r zs h _ vs hp;exact plain h hp
 | int k=>intro ps x r zs h _ vs hp;exact plain h hp
 | byt e=>intro ps x r zs h _ vs hp;exact plain h hp
 | bool=>intro ps x r zs h _ vs hp;exact plain h hp
 | str=>intro ps x r zs h _ vs hp;exact plain h hp
 | pair a b iha ihb=>
  intro ps x r zs h hz vs hp
  simp only [ZtR] at h
  split at h
  ·
   rename_i x1 r1 z1 h1
   split at h
   ·
    rename_i x2 r2 z2 h2
    simp only [Option.some.injEq,Prod.mk.injEq] at h
    obtain ⟨⟨rfl,rfl⟩,rfl⟩:=h
    obtain ⟨v1,v2,rfl,g1,g2⟩:=iha h1 (fun b hb=>hz b (List.mem_append_left _ hb)) hp
    obtain ⟨v3,v4,rfl,g3,g4⟩:=ihb h2 (fun b hb=>hz b (List.mem_append_right _ hb)) g2
    exact ⟨v1++v3,v4,by simp,⟨v1,v3,rfl,g1,g3⟩,g4⟩
   · cases h
  · cases h
 | slice t _=>
  intro ps x r zs h hz vs hp
  simp only [ZtR] at h
  split at h
  ·
   rename_i b r0
   split at h
   ·
    rename_i l hl
    simp only [Option.some.injEq,Prod.mk.injEq] at h
    obtain ⟨⟨rfl,rfl⟩,rfl⟩:=h
    simp only [ZAQ] at hp
    obtain ⟨u,us,rfl,h1,h2⟩:=hp
    have:=ZkZ hh g (hz b (by simp)) hl h1
    simp only [ZAW] at this
    exact ⟨[u],us,rfl,⟨u,rfl,this.1⟩,h2⟩
   · cases h
  ·
   rename_i b off len r0
   split at h
   ·
    rename_i l hl
    simp only [Option.some.injEq,Prod.mk.injEq] at h
    obtain ⟨⟨rfl,rfl⟩,rfl⟩:=h
    simp only [ZAQ] at hp
    obtain ⟨u,us,rfl,h1,h2⟩:=hp
    have:=Zka hh g (hz b (by simp)) hl h1
    simp only [ZAW] at this
    exact ⟨[u],us,rfl,⟨u,rfl,this.1⟩,h2⟩
   · cases h
  · exact plain h hp
theorem ZsR (hh:HRel base S0 ρ H w S) {s:Sig} {b j e:Nat} {cs:List PV} {t:Ty} {x:t.den} {zs:List Nat} (ho:H.at? b=some (.cells e cs)) (hd:ZtR H t cs=some ((x,[]),zs)) (hb:b∈s.Z) (hz : ∀ c∈zs,c∈s.Z):ZYH ρ H w S s (.ptr b j) (.pin t x j):=by
 intro H' ρ' S' g u hu
 simp only [ZAW] at hu ⊢
 obtain ⟨blk0,n,hr0,rfl⟩:=hu.2 (by rw [ho];rfl)
 obtain ⟨blk,arr,fz,h1,h2,_,h4⟩:=hh.block _ _ ho
 rw [hr0] at h1
 simp only [Option.some.injEq,Prod.mk.injEq] at h1
 obtain ⟨rfl,rfl⟩:=h1
 obtain ⟨v1,v2,e1,q1,q2⟩:=ZvT hh g hd hz h4
 simp only [ZAQ] at q2
 subst q2
 rw [List.append_nil] at e1
 subst e1
 exact ⟨blk0,0,arr,_,fz,arr.toList,by rw [Nat.zero_add],g.read b hb _ _ _ ho hr0,h2,q1,At.toList⟩
theorem ZtX {s:Sig} {t:Ty} {x:t.den} {j:Nat}:ZYH ρ H w S s (.pin t x j) (.pin t x j):=by
 intro H' ρ' S' g u hu
 simp only [ZAW] at hu ⊢
 obtain ⟨blk,off,arr,elem,fz,vs,e,hs,hb,hx,ha⟩:=hu
 exact ⟨blk,off,arr,elem,fz,vs,e,fun h=>hs (g.less blk (ZHC hb) h),hb,ZLR g hx,ha⟩
theorem ZtY {s:Sig} {t:Ty} {vs:List PV} {x:t.den} (h:dec t vs=some (x,[])):ZYH ρ H w S s (.agg vs) (.agg (cellsP t x)):=by
 intro H' ρ' S' g u hu
 simp only [ZAW] at hu ⊢
 obtain ⟨us,rfl,h1⟩:=hu
 obtain ⟨v1,v2,e,h2,h3⟩:=ZVz h h1
 simp only [ZAQ] at h3
 subst h3
 simp only [List.append_nil] at e
 exact ⟨us,rfl,Rep.cellsP (e ▸ ZLR g h2)⟩
theorem ZLS {s:Sig} {v:Value}:ZYH ρ H w S s (.val v) (.val v):=fun _ _ _ _ _ hu=>hu
mutual
theorem ZvU (hh:HRel base S0 ρ H w S) : ∀ (p:Pat) (v:PV) (s:Sig) (k:ZvP p→Sig→Option β) (y:β),pm H p v s k=some y → ∃ x s',k x s'=some y∧s.le s'∧ZYH ρ H w S s' v (ZpJ p x)
 | .any,v,s,k,y,h=>⟨(),s,h,s.le_refl,fun _ _ _ _ _ _=>trivial⟩
 | .undef,v,s,k,y,h=>by
  simp only [pm] at h
  split at h
  ·
   split at h
   ·
    rename_i x us _ hu
    have:us = #[]:=by apply Array.ext';simpa using hu
    subst this
    exact ⟨(),s,h,s.le_refl,ZLS⟩
   · cases h
  · cases h
 | .nilSlice,v,s,k,y,h=>by
  simp only [pm] at h
  split at h
  · exact ⟨(),s,h,s.le_refl,ZLS⟩
  · cases h
 | .nilPtr,v,s,k,y,h=>by
  simp only [pm] at h
  split at h
  · exact ⟨(),s,h,s.le_refl,ZLS⟩
  · cases h
 | .nilFunc,v,s,k,y,h=>by
  simp only [pm] at h
  split at h
  · exact ⟨(),s,h,s.le_refl,ZLS⟩
  · cases h
 | .nilIface,v,s,k,y,h=>by
  simp only [pm] at h
  split at h
  · exact ⟨(),s,h,s.le_refl,ZLS⟩
  · cases h
 | .intC i n,v,s,k,y,h=>by
  simp only [pm] at h
  split at h
  ·
   obtain ⟨h1,h2⟩:=ZBJ h
   simp only [Bool.and_eq_true,decide_eq_true_eq] at h1
   obtain ⟨rfl,rfl⟩:=h1
   exact ⟨(),s,h2,s.le_refl,ZLS⟩
  · cases h
 | .boolC b,v,s,k,y,h=>by
  simp only [pm] at h
  split at h
  ·
   obtain ⟨h1,h2⟩:=ZBJ h
   simp only [beq_iff_eq] at h1
   subst h1
   exact ⟨(),s,h2,s.le_refl,ZLS⟩
  · cases h
 | .int i,v,s,k,y,h=>by
  simp only [pm] at h
  split at h
  ·
   obtain ⟨h1,h2⟩:=ZBJ h
   simp only [decide_eq_true_eq] at h1
   subst h1
   exact ⟨_,s,h2,s.le_refl,ZLS⟩
  · cases h
 | .bool,v,s,k,y,h=>by
  simp only [pm] at h
  split at h
  · exact ⟨_,s,h,s.le_refl,ZLS⟩
  · cases h
 | .str,v,s,k,y,h=>by
  simp only [pm] at h
  split at h
  · exact ⟨_,s,h,s.le_refl,ZLS⟩
  · cases h
 | .rows t c,v,s,k,y,h=>by
  simp only [pm] at h
  split at h
  ·
   rename_i t' l' c'
   obtain ⟨h1,h2⟩:=ZBJ h
   split at h2
   ·
    rename_i l hl
    obtain ⟨e,rfl⟩:=Zfi hl
    subst e
    refine ⟨_,s,h2,s.le_refl,fun H' ρ' S' g u hu => ?_⟩
    simp only [ZAW,ZpJ] at hu ⊢
    refine ⟨ZtS g hu.1,fun hc=>hu.2 ?_⟩
    subst hc
    simpa using h1
   · cases h2
  · exact ⟨_,s,h,s.le_refl,ZtT⟩
  · exact ⟨_,s,h,s.le_refl,ZtU⟩
  ·
   rename_i b
   cases c with
   | true=>cases h
   | false=>
    simp only [cond_false] at h
    split at h
    ·
     rename_i l hl
     refine ⟨_,_,h,⟨fun _ _ h=>h,fun _ h=>List.mem_cons_of_mem _ h,rfl⟩,fun H' ρ' S' g u hu => ?_⟩
     exact ZkZ hh g (List.mem_cons_self ..) hl hu
    · cases h
  ·
   rename_i b off len
   cases c with
   | true=>cases h
   | false=>
    simp only [cond_false] at h
    split at h
    ·
     rename_i l hl
     refine ⟨_,_,h,⟨fun _ _ h=>h,fun _ h=>List.mem_cons_of_mem _ h,rfl⟩,fun H' ρ' S' g u hu => ?_⟩
     exact Zka hh g (List.mem_cons_self ..) hl hu
    · cases h
  · cases h
 | .all c,v,s,k,y,h=>by
  simp only [pm] at h
  split at h
  ·
   split at h
   ·
    rename_i s' hs
    obtain ⟨h1,h2⟩:=Sig.bind_ok hs
    exact ⟨_,s',h,h2,ZtV h1⟩
   · cases h
  ·
   split at h
   ·
    rename_i s' hs
    obtain ⟨h1,h2⟩:=Sig.bind_ok hs
    exact ⟨_,s',h,h2,Zqk h1⟩
   · cases h
  · cases h
 | .sl c,v,s,k,y,h=>by
  simp only [pm] at h
  split at h
  ·
   split at h
   ·
    rename_i s' hs
    obtain ⟨h1,h2⟩:=Sig.bind_ok hs
    exact ⟨_,s',h,h2,ZvQ h1⟩
   · cases h
  · cases h
 | .cs c off len sz,v,s,k,y,h=>by
  simp only [pm] at h
  split at h
  ·
   obtain ⟨h1,h2⟩:=ZBJ h
   simp only [Bool.and_eq_true] at h1
   obtain ⟨⟨e1,e2⟩,e3⟩:=h1
   obtain rfl:=Nat.eq_of_beq_eq_true e1
   obtain rfl:=Nat.eq_of_beq_eq_true e2
   obtain rfl:=Nat.eq_of_beq_eq_true e3
   split at h2
   ·
    rename_i s' hs
    obtain ⟨h1,h3⟩:=Sig.bind_ok hs
    exact ⟨_,s',h2,h3,ZvR h1⟩
   · cases h2
  · cases h
 | .ptr c off,v,s,k,y,h=>by
  simp only [pm] at h
  split at h
  ·
   obtain ⟨h1,h2⟩:=ZBJ h
   obtain rfl:=Nat.eq_of_beq_eq_true h1
   split at h2
   ·
    rename_i s' hs
    obtain ⟨h1,h3⟩:=Sig.bind_ok hs
    exact ⟨_,s',h2,h3,Zkb h1⟩
   · cases h2
  · cases h
 | .rptr c j,v,s,k,y,h=>by
  simp only [pm] at h
  split at h
  ·
   obtain ⟨h1,h2⟩:=ZBJ h
   obtain rfl:=Nat.eq_of_beq_eq_true h1
   split at h2
   ·
    rename_i s' hs
    obtain ⟨h1,h3⟩:=Sig.bind_ok hs
    exact ⟨_,s',h2,h3,ZsQ h1⟩
   · cases h2
  · cases h
 | .pin t j,v,s,k,y,h=>by
  simp only [pm] at h
  split at h
  ·
   obtain ⟨h1,h2⟩:=ZBJ h
   obtain rfl:=Nat.eq_of_beq_eq_true h1
   split at h2
   ·
    rename_i x r hl
    obtain ⟨e,hx⟩:=Zfi hl
    subst e
    simp only [List.cons.injEq] at hx
    obtain ⟨rfl,rfl⟩:=hx
    exact ⟨_,s,h2,s.le_refl,ZtX⟩
   · cases h2
  ·
   rename_i b off
   obtain ⟨h1,h2⟩:=ZBJ h
   obtain rfl:=Nat.eq_of_beq_eq_true h1
   split at h2
   ·
    rename_i e cs ho
    split at h2
    ·
     rename_i x zs hd
     exact ⟨_,_,h2,⟨fun _ _ h=>h,fun c hc=>List.mem_append_right _ (List.mem_cons_of_mem _ hc),rfl⟩,
      ZsR hh ho hd (List.mem_append_right _ List.mem_cons_self) (fun c hc=>List.mem_append_left _ hc)⟩
    · cases h2
   · cases h2
  · cases h
 | .func fn a b,v,s,k,y,h=>by
  simp only [pm] at h
  split at h
  ·
   obtain ⟨h1,h2⟩:=ZBJ h
   obtain rfl:=Nat.eq_of_beq_eq_true h1
   obtain ⟨x1,s1,h3,l1,t1⟩:=Zfj hh _ _ _ _ _ h2
   obtain ⟨x2,s2,h4,l2,t2⟩:=Zfj hh _ _ _ _ _ h3
   refine ⟨_,s2,h4,Sig.le_trans l1 l2,fun H' ρ' S' g u hu => ?_⟩
   simp only [ZAW,ZpJ] at hu ⊢
   obtain ⟨f,c,e,q1,q2⟩:=hu
   exact ⟨f,c,e,t1.le l2 H' ρ' S' g _ q1,t2 H' ρ' S' g _ q2⟩
  · cases h
 | .iface t p,v,s,k,y,h=>by
  simp only [pm] at h
  split at h
  ·
   obtain ⟨h1,h2⟩:=ZBJ h
   simp only [decide_eq_true_eq] at h1
   subst h1
   obtain ⟨x1,s1,h3,l1,t1⟩:=ZvU hh _ _ _ _ _ h2
   refine ⟨_,s1,h3,l1,fun H' ρ' S' g u hu => ?_⟩
   simp only [ZAW,ZpJ] at hu ⊢
   obtain ⟨v,e,q1⟩:=hu
   exact ⟨v,e,t1 H' ρ' S' g _ q1⟩
  · cases h
 | .agg ps,v,s,k,y,h=>by
  simp only [pm] at h
  split at h
  ·
   obtain ⟨x1,s1,h3,l1,t1⟩:=Zfj hh _ _ _ _ _ h
   refine ⟨_,s1,h3,l1,fun H' ρ' S' g u hu => ?_⟩
   simp only [ZAW,ZpJ] at hu ⊢
   obtain ⟨v,e,q1⟩:=hu
   exact ⟨v,e,t1 H' ρ' S' g _ q1⟩
  · cases h
 | .tuple ps,v,s,k,y,h=>by
  simp only [pm] at h
  split at h
  ·
   obtain ⟨x1,s1,h3,l1,t1⟩:=Zfj hh _ _ _ _ _ h
   refine ⟨_,s1,h3,l1,fun H' ρ' S' g u hu => ?_⟩
   simp only [ZAW,ZpJ] at hu ⊢
   obtain ⟨v,e,q1⟩:=hu
   exact ⟨v,e,t1 H' ρ' S' g _ q1⟩
  · cases h
 | .emp,v,s,k,y,h=>by
  simp only [pm] at h
  split at h
  · exact ⟨(),s,h,s.le_refl,fun _ _ _ _ _ hu=>hu⟩
  · exact ⟨(),s,h,s.le_refl,fun _ _ _ _ _ hu=>⟨none,hu⟩⟩
  · cases h
 | .dat t,v,s,k,y,h=>by
  simp only [pm] at h
  split at h
  ·
   split at h
   ·
    rename_i vs x hd
    exact ⟨x,s,h,s.le_refl,ZtY hd⟩
   · cases h
  · cases h
 | .head c,v,s,k,y,h=>by
  simp only [pm] at h
  split at h
  ·
   split at h
   ·
    rename_i s' hs
    obtain ⟨h1,h2⟩:=Sig.bind_ok hs
    exact ⟨_,s',h,h2,ZsP h1⟩
   · cases h
  · cases h
 | .nos c off,v,s,k,y,h=>by
  simp only [pm] at h
  split at h
  ·
   obtain ⟨h1,h2⟩:=ZBJ h
   obtain rfl:=Nat.eq_of_beq_eq_true h1
   split at h2
   ·
    rename_i s' hs
    obtain ⟨h1,h3⟩:=Sig.bind_ok hs
    exact ⟨_,s',h2,h3,ZtW h1⟩
   · cases h2
  ·
   obtain ⟨h1,h2⟩:=ZBJ h
   obtain rfl:=Nat.eq_of_beq_eq_true h1
   split at h2
   ·
    rename_i s' hs
    obtain ⟨h1,h3⟩:=Sig.bind_ok hs
    refine ⟨_,s',h2,h3,fun H' ρ' S' g u hu => ?_⟩
    have:=Zkb (ρ:=ρ) (H:=H) (w:=w) (S:=S) h1 H' ρ' S' g u hu
    simp only [ZAW,ZpJ] at this ⊢
    exact ⟨this.1.1,.inr ⟨this.1.2,this.2⟩⟩
   · cases h2
  ·
   obtain ⟨h1,h2⟩:=ZBJ h
   refine ⟨(),s,h2,s.le_refl,fun H' ρ' S' g u hu => ?_⟩
   simp only [ZAW,ZpJ] at hu ⊢
   exact ⟨g.all c (Nat.lt_of_succ_le (by simpa [Nat.blt] using h1)),.inl hu⟩
  · cases h
 | .mp c,v,s,k,y,h=>by
  simp only [pm] at h
  split at h
  ·
   split at h
   ·
    rename_i s' hs
    obtain ⟨h1,h2⟩:=Sig.bind_ok hs
    exact ⟨_,s',h,h2,ZvS h1⟩
   · cases h
  · cases h
theorem Zfj (hh:HRel base S0 ρ H w S) : ∀ (ps:List Pat) (vs:List PV) (s:Sig) (k:ZH1 ps→Sig→Option β) (y:β),pms H ps vs s k=some y → ∃ x s',k x s'=some y∧s.le s'∧ZpX ρ H w S s' vs (ZIt ps x)
 | [],vs,s,k,y,h=>by
  simp only [pms] at h
  split at h
  · exact ⟨(),s,h,s.le_refl,fun _ _ _ _ _ hu=>hu⟩
  · cases h
 | p::ps,vs,s,k,y,h=>by
  simp only [pms] at h
  split at h
  ·
   obtain ⟨x1,s1,h3,l1,t1⟩:=ZvU hh _ _ _ _ _ h
   obtain ⟨x2,s2,h4,l2,t2⟩:=Zfj hh _ _ _ _ _ h3
   refine ⟨_,s2,h4,Sig.le_trans l1 l2,fun H' ρ' S' g us hu => ?_⟩
   simp only [ZAQ,ZIt] at hu ⊢
   obtain ⟨u,us,e,q1,q2⟩:=hu
   exact ⟨u,us,e,t1.le l2 H' ρ' S' g _ q1,t2 H' ρ' S' g _ q2⟩
  · cases h
end
end
def Zwl {k v k' v':Ty} (l:List (k.den×v.den)):Option (List (k'.den×v'.den)) :=
 if e:k=k' then if f:v=v' then some (e ▸ f ▸ l) else none else none
theorem ZvV {k v k' v':Ty} {l:List (k.den×v.den)} {m:List (k'.den×v'.den)} (h:Zwl l=some m) : ∃ (e:k=k') (f:v=v'),m=e ▸ f ▸ l:=by
 unfold Zwl at h
 split at h
 ·
  rename_i e
  split at h
  · rename_i f;cases h;exact ⟨e,f,rfl⟩
  · cases h
 · cases h
section
variable {β:Type u} (H:ZAZ)
def ZjB:(ps:List HPat)→Nat→Sig→(ZLQ ps→Sig→Option β)→Option β
 | [],_,s,k=>k () s
 | p::ps,c,s,k=>match s.at c with
  | none=>none
  | some none=>match p,k with
   | .row _,k=>ZjB ps (c+1) s fun y s=>k ([],y) s
   | .dead,k=>ZjB ps (c+1) s fun y s=>k ((),y) s
   | _,_=>none
  | some (some b)=>match p,k with
   | .dead,k=>ZjB ps (c+1) s fun y s=>k ((),y) s
   | .cells e qs,k=>match H.at? b with
    | some (.cells e' cs)=>bif Nat.beq e' e then pms H qs cs s fun x s=>ZjB ps (c+1) s fun y s=>k (x,y) s else none
    | _=>none
   | .dat e t,k=>match H.at? b with
    | some (.cells e' cs)=>bif Nat.beq e' e then match dec t cs with
      | some (x,[])=>ZjB ps (c+1) s fun y s=>k (x,y) s
      | _=>none
     else none
    | _=>none
   | .row t,k=>match H.at? b with
    | some (.row _ l)=>match (ZSG l:Option (List t.den)) with
     | some l=>ZjB ps (c+1) s fun y s=>k (l,y) s
     | none=>none
    | _=>none
   | .fro t,k=>match ZjA t H b with
    | some l=>ZjB ps (c+1) s fun y s=>k (l,y) s
    | none=>none
   | .map kt vt,k=>match H.at? b with
    | some (.map kt' vt' l)=>match (Zwl l:Option (List (kt.den×vt.den))) with
     | some l=>ZjB ps (c+1) s fun y s=>k (l,y) s
     | none=>none
    | _=>none
end
def Zxg:Nat→List Nat→Bool
 | _,[]=>false
 | a,b::l=>Nat.beq a b||Zxg a l
def ZNE:List (Option (Option Nat))→List Nat
 | []=>[]
 | some (some b)::l=>b::ZNE l
 | _::l=>ZNE l
def ZNF:List Nat→Bool
 | []=>true
 | a::l => !Zxg a l&&ZNF l
def Zri (Z l:List Nat):Bool:=match Z with
 | []=>true
 | a::Z => !Zxg a l&&Zri Z l
def ZLT:List HPat→List (Option (Option Nat))→List Nat
 | [],_=>[]
 | _::_,[]=>[]
 | p::ps,x::l=>match x with
  | some (some b)=>match p with
   | .dead=>ZLT ps l
   | .fro _=>ZLT ps l
   | _=>b::ZLT ps l
  | _=>ZLT ps l
def ZML:List HPat→List (Option (Option Nat))→List Nat
 | [],_=>[]
 | _::_,[]=>[]
 | p::ps,x::l=>match x with
  | some (some b)=>match p with
   | .dead=>ZML ps l
   | _=>b::ZML ps l
  | _=>ZML ps l
def Sig.fine (ps:List HPat) (s:Sig):Bool:=ZNF (ZML ps s.σ)&&Zri s.Z (ZLT ps s.σ)
def Zwm (n m:Nat):Sig:=⟨(List.range n).map (fun i=>some (some i))++List.replicate (m - n) none,[],[]⟩
theorem ZoB : ∀ {a:Nat} {l:List Nat},Zxg a l=true↔a∈l
 | a,[]=>by simp [Zxg]
 | a,b::l=>by
  simp only [Zxg,Bool.or_eq_true,List.mem_cons,ZoB (l:=l)]
  refine or_congr ⟨Nat.eq_of_beq_eq_true,fun h=>by subst h;exact Nat.beq_refl a⟩ Iff.rfl
theorem ZNG : ∀ {l:List (Option (Option Nat))} {c b:Nat},l.getD c none=some (some b)→b∈ZNE l
 | [],c,b,h=>by simp at h
 | x::l,0,b,h=>by
  simp at h;subst h;simp [ZNE]
 | x::l,c+1,b,h=>by
  have:=ZNG (l:=l) (c:=c) (b:=b) (by simpa using h)
  cases x with
  | none=>exact this
  | some x=>cases x with
   | none=>exact this
   | some x=>exact List.mem_cons_of_mem _ this
theorem Zeq : ∀ {l:List (Option (Option Nat))},ZNF (ZNE l)=true → ∀ {c c' b:Nat},l.getD c none=some (some b)→l.getD c' none=some (some b)→c=c'
 | [],_,c,c',b,h,_=>by simp at h
 | x::l,hd,c,c',b,h,h'=>by
  have hd':ZNF (ZNE l)=true:=by
   cases x with
   | none=>exact hd
   | some x=>cases x with
    | none=>exact hd
    | some x=>simp only [ZNE,ZNF,Bool.and_eq_true] at hd;exact hd.2
  have hx:x=some (some b)→b∉ZNE l:=by
   rintro rfl hm
   simp only [ZNE,ZNF,Bool.and_eq_true,Bool.not_eq_true'] at hd
   rw [ZoB.mpr hm] at hd
   exact absurd hd.1 (by simp)
  cases c with
  | zero=>cases c' with
   | zero=>rfl
   | succ c'=>exact absurd (ZNG (l:=l) (c:=c') (by simpa using h')) (hx (by simpa using h))
  | succ c=>cases c' with
   | zero=>exact absurd (ZNG (l:=l) (c:=c) (by simpa using h)) (hx (by simpa using h'))
   | succ c'=>rw [Zeq hd' (c:=c) (c':=c') (b:=b) (by simpa using h) (by simpa using h')]
theorem Zkc : ∀ {Z l:List Nat},Zri Z l=true → ∀ b∈Z,b∉l
 | [],_,_,b,hb=>by cases hb
 | a::Z,l,h,b,hb=>by
  simp only [Zri,Bool.and_eq_true,Bool.not_eq_true'] at h
  rcases List.mem_cons.mp hb with rfl | hb
  · intro hm;rw [ZoB.mpr hm] at h;exact absurd h.1 (by simp)
  · exact Zkc h.2 b hb
theorem ZSH : ∀ (ps:List HPat) (x:ZLQ ps),(ZBA ps x).length=ps.length
 | [],_=>rfl
 | p::ps,x=>by simp [ZBA,ZSH ps]
theorem ZoC : ∀ {ps:List HPat} {x:ZLQ ps} {l:List (Option (Option Nat))} {c b:Nat} {o:AO},(ZBA ps x).getD c none=some o→o.mutable=true→l.getD c none=some (some b)→b∈ZLT ps l
 | [],_,_,c,_,_,h,_,_=>by simp [ZBA] at h
 | p::ps,x,[],_,_,_,_,_,h=>by simp at h
 | p::ps,x,y::l,0,b,o,h,hm,hl=>by
  simp only [ZBA,List.getD_cons_zero] at h hl
  subst hl
  cases p with
  | dead=>simp [Zep] at h
  | fro t=>simp only [Zep,Option.some.injEq] at h;subst h;cases hm
  | cells e qs=>simp [ZLT]
  | row t=>simp [ZLT]
  | map k v=>simp [ZLT]
  | dat e t=>simp [ZLT]
 | p::ps,x,y::l,c+1,b,o,h,hm,hl=>by
  simp only [ZBA,List.getD_cons_succ] at h hl
  have ih:=ZoC h hm hl
  cases y with
  | none=>exact ih
  | some y=>cases y with
   | none=>exact ih
   | some y=>cases p <;> first | exact ih | exact List.mem_cons_of_mem _ ih
theorem Zer : ∀ {ps:List HPat} {x:ZLQ ps} {l:List (Option (Option Nat))} {c b:Nat} {o:AO},(ZBA ps x).getD c none=some o→l.getD c none=some (some b)→b∈ZML ps l
 | [],_,_,c,_,_,h,_=>by simp [ZBA] at h
 | p::ps,x,[],_,_,_,_,h=>by simp at h
 | p::ps,x,y::l,0,b,o,h,hl=>by
  simp only [ZBA,List.getD_cons_zero] at h hl
  subst hl
  cases p with
  | dead=>simp [Zep] at h
  | fro t=>simp [ZML]
  | cells e qs=>simp [ZML]
  | row t=>simp [ZML]
  | map k v=>simp [ZML]
  | dat e t=>simp [ZML]
 | p::ps,x,y::l,c+1,b,o,h,hl=>by
  simp only [ZBA,List.getD_cons_succ] at h hl
  have ih:=Zer h hl
  cases y with
  | none=>exact ih
  | some y=>cases y with
   | none=>exact ih
   | some y=>cases p <;> first | exact ih | exact List.mem_cons_of_mem _ ih
theorem Zkd : ∀ {ps:List HPat} {x:ZLQ ps} {l:List (Option (Option Nat))},ZNF (ZML ps l)=true → ∀ {c c' b:Nat} {o o':AO},(ZBA ps x).getD c none=some o→(ZBA ps x).getD c' none=some o'→l.getD c none=some (some b)→l.getD c' none=some (some b)→c=c'
 | [],_,_,_,c,_,_,_,_,h,_,_,_=>by simp [ZBA] at h
 | p::ps,x,[],_,_,_,_,_,_,_,_,h,_=>by simp at h
 | p::ps,x,y::l,hd,c,c',b,o,o',h,h',hl,hl'=>by
  have tail:ZNF (ZML ps l)=true:=by
   cases y with
   | none=>exact hd
   | some y=>cases y with
    | none=>exact hd
    | some y=>cases p <;> first | exact hd | (simp only [ZML,ZNF,Bool.and_eq_true] at hd;exact hd.2)
  have head : ∀ {o},Zep p x.1=some o→y=some (some b)→b∉ZML ps l:=by
   rintro o ho rfl hm
   cases p with
   | dead=>simp [Zep] at ho
   | _=>
    simp only [ZML,ZNF,Bool.and_eq_true,Bool.not_eq_true'] at hd
    rw [ZoB.mpr hm] at hd
    exact absurd hd.1 (by simp)
  cases c with
  | zero=>cases c' with
   | zero=>rfl
   | succ c'=>
    simp only [ZBA,List.getD_cons_zero,List.getD_cons_succ] at h h' hl hl'
    exact absurd (Zer h' hl') (head h hl)
  | succ c=>cases c' with
   | zero=>
    simp only [ZBA,List.getD_cons_zero,List.getD_cons_succ] at h h' hl hl'
    exact absurd (Zer h hl) (head h' hl')
   | succ c'=>
    simp only [ZBA,List.getD_cons_succ] at h h' hl hl'
    rw [Zkd tail h h' hl hl']
theorem ZtZ {n m c:Nat} (h:c<n):(Zwm n m).at c=some (some c):=by
 simp [Zwm,Sig.at,List.getD,List.getElem?_append_left,h]
theorem Zes {n m:Nat} (h:n≤m):(Zwm n m).σ.length=m:=by simp [Zwm];omega
section
variable {base:Base} {S0:Nat→Prop} {ρ:Loc} {H:ZAZ} {w:World} {S:Nat→Prop} {β:Type u}
def Zrj (ρ:Loc) (H:ZAZ) (w:World) (S:Nat→Prop) (sF:Sig) (c:Nat) (o':Option AO):Prop :=
 ∀ o'',o'=some o'' →
  (sF.at c=some none ∧ ∃ t,o'' = .row t []) ∨
  ∃ b o,sF.at c=some (some b)∧H.at? b=some o∧Kin o o''∧(o''.mutable=true→o.mutable=true) ∧
   ∀ (H':ZAZ) (ρ':Loc) (S':Nat→Prop),Good sF H ρ w S H' ρ' S'→(o''.mutable=false → ∀ blk n,ρ b=some (blk,n) → ¬ S' blk)→ZEj ρ' H' w S' c o''
theorem Zke (hh:HRel base S0 ρ H w S) : ∀ (ps:List HPat) (c:Nat) (s:Sig) (k:ZLQ ps→Sig→Option β) (y:β),ZjB H ps c s k=some y →
  ∃ x s',k x s'=some y∧s.le s' ∧ ∀ sF,s'.le sF → ∀ i,i<ps.length→(∃ z,sF.at (c+i)=some z)∧Zrj ρ H w S sF (c+i) ((ZBA ps x).getD i none)
 | [],c,s,k,y,h=>⟨(),s,h,s.le_refl,fun _ _ i hi=>by simp at hi⟩
 | p::ps,c,s,k,y,h=>by
  have next : ∀ {x:ZzJ p} {s1:Sig},s.le s1→(∃ z,s.at c=some z)→(∀ sF,s1.le sF→Zrj ρ H w S sF c (Zep p x))→ZjB H ps (c+1) s1 (fun y s=>k (x,y) s)=some y →
    ∃ x s',k x s'=some y∧s.le s' ∧ ∀ sF,s'.le sF → ∀ i,i<(p::ps).length→(∃ z,sF.at (c+i)=some z)∧Zrj ρ H w S sF (c+i) ((ZBA (p::ps) x).getD i none):=by
   intro x s1 hle hz hb hk
   obtain ⟨x2,s2,k2,l2,t2⟩:=Zke hh ps (c+1) s1 _ y hk
   refine ⟨(x,x2),s2,k2,Sig.le_trans hle l2,fun sF hF i hi => ?_⟩
   cases i with
   | zero=>
    obtain ⟨z,hz⟩:=hz
    exact ⟨⟨z,(Sig.le_trans hle (Sig.le_trans l2 hF)).1 _ _ hz⟩,by simpa [ZBA] using hb sF (Sig.le_trans l2 hF)⟩
   | succ i=>
    have:=t2 sF hF i (by simpa using hi)
    have e:c+(i+1)=c+1+i:=by omega
    rw [e]
    simpa [ZBA] using this
  simp only [ZjB] at h
  split at h
  · cases h
  ·
   rename_i hc
   cases p with
   | row t=>
    refine next (x:=[]) s.le_refl ⟨_,hc⟩ (fun sF hF o'' e => ?_) h
    simp only [Zep,Option.some.injEq] at e
    subst e
    exact .inl ⟨hF.1 _ _ hc,t,rfl⟩
   | dead=>exact next (x:=()) s.le_refl ⟨_,hc⟩ (fun sF hF o'' e=>by simp [Zep] at e) h
   | _=>cases h
  ·
   rename_i b hc
   cases p with
   | dead=>exact next (x:=()) s.le_refl ⟨_,hc⟩ (fun sF hF o'' e=>by simp [Zep] at e) h
   | cells e0 qs=>
    simp only at h
    split at h
    ·
     rename_i e1 cs hb
     obtain ⟨he,h⟩:=ZBJ h
     obtain rfl:=Nat.eq_of_beq_eq_true he
     obtain ⟨x1,s1,h3,l1,t1⟩:=Zfj hh _ _ _ _ _ h
     refine next (x:=x1) l1 ⟨_,hc⟩ (fun sF hF o'' e => ?_) h3
     simp only [Zep,Option.some.injEq] at e
     subst e
     obtain ⟨blk,arr,fz,q1,q2,q3,q4⟩:=hh.block _ _ hb
     have hlen:(ZIt qs x1).length=cs.length:=by
      have:Good s1 H ρ w S [] ρ S→True:=fun _=>trivial
      have key : ∀ (qs:List Pat) (vs:List PV) (s:Sig) (k:ZH1 qs→Sig→Option β) (y:β),pms H qs vs s k=some y→qs.length=vs.length:=by
       intro qs
       induction qs with
       | nil=>intro vs s k y h;cases vs with | nil=>rfl | cons _ _=>simp [pms] at h
       | cons q qs ih=>
        intro vs s k y h
        cases vs with
        | nil=>simp [pms] at h
        | cons v vs=>
         simp only [pms] at h
         obtain ⟨x1,s1,h3,_⟩:=ZvU hh _ _ _ _ _ h
         simp [ih _ _ _ _ h3]
      have il : ∀ (qs:List Pat) (x:ZH1 qs),(ZIt qs x).length=qs.length:=by
       intro qs
       induction qs with
       | nil=>intro x;rfl
       | cons q qs ih=>intro x;simp [ZIt,ih]
      rw [il,key _ _ _ _ _ h]
     refine .inr ⟨b,_,(Sig.le_trans l1 hF).1 _ _ hc,hb,⟨rfl,rfl,rfl,fun T cs' e => ?_⟩,fun _=>rfl,fun H' ρ' S' g _ => ?_⟩
     · cases e;exact ⟨cs,rfl,hlen.symm⟩
     · refine ⟨blk,arr,fz,((g.real c b ((Sig.le_trans l1 hF).1 _ _ hc)).2.1).trans q1,q2,q3,t1.le hF H' ρ' S' g _ q4⟩
    · cases h
   | dat e0 t=>
    simp only at h
    split at h
    ·
     rename_i e1 cs hb
     obtain ⟨he,h⟩:=ZBJ h
     obtain rfl:=Nat.eq_of_beq_eq_true he
     split at h
     ·
      rename_i x hd
      refine next (x:=x) s.le_refl ⟨_,hc⟩ (fun sF hF o'' e => ?_) h
      simp only [Zep,Option.some.injEq] at e
      subst e
      obtain ⟨blk,arr,fz,q1,q2,q3,q4⟩:=hh.block _ _ hb
      obtain ⟨v1,v2,e,h2,h3⟩:=ZVz hd q4
      simp only [ZAQ] at h3
      subst h3
      simp only [List.append_nil] at e
      have hlen:(cellsP t x).length=cs.length:=by rw [ZX8,q4.length,e,h2.length]
      refine .inr ⟨b,_,hF.1 _ _ hc,hb,⟨rfl,rfl,rfl,fun T cs' e => ?_⟩,fun _=>rfl,fun H' ρ' S' g _ => ?_⟩
      · cases e;exact ⟨cs,rfl,hlen.symm⟩
      · exact ⟨blk,arr,fz,((g.real c b (hF.1 _ _ hc)).2.1).trans q1,q2,q3,Rep.cellsP (e ▸ ZLR g h2)⟩
     · cases h
    · cases h
   | row t=>
    simp only at h
    split at h
    ·
     rename_i t' l' hb
     split at h
     ·
      rename_i l hl
      obtain ⟨e,rfl⟩:=Zfi hl
      subst e
      refine next (x:=l') s.le_refl ⟨_,hc⟩ (fun sF hF o'' e => ?_) h
      simp only [Zep,Option.some.injEq] at e
      subst e
      refine .inr ⟨b,_,hF.1 _ _ hc,hb,⟨rfl,rfl,rfl,fun T cs' e=>by cases e⟩,fun _=>rfl,fun H' ρ' S' g _ => ?_⟩
      rcases hh.block _ _ hb with ⟨blk,arr,elem,fz,q1,q2,q3,q4,q5⟩ | ⟨q1,q2⟩
      ·
       refine .inl ⟨blk,arr,elem,fz,((g.real c b (hF.1 _ _ hc)).2.1).trans q1,q2,q3,fun i hi => ?_,q5⟩
       obtain ⟨vs,r1,r2⟩:=q4 i hi
       exact ⟨vs,ZLR g r1,r2⟩
      · exact .inr ⟨((g.real c b (hF.1 _ _ hc)).2.1).trans q1,q2⟩
     · cases h
    · cases h
   | map kt vt=>
    simp only at h
    split at h
    ·
     rename_i kt' vt' l' hb
     split at h
     ·
      rename_i l hl
      obtain ⟨e,f,rfl⟩:=ZvV hl
      subst e f
      refine next (x:=l') s.le_refl ⟨_,hc⟩ (fun sF hF o'' e => ?_) h
      simp only [Zep,Option.some.injEq] at e
      subst e
      refine .inr ⟨b,_,hF.1 _ _ hc,hb,⟨rfl,rfl,rfl,fun T cs' e=>by cases e⟩,fun _=>rfl,fun H' ρ' S' g _ => ?_⟩
      obtain ⟨blk,q1,q2⟩:=hh.block _ _ hb
      exact ⟨blk,((g.real c b (hF.1 _ _ hc)).2.1).trans q1,q2⟩
     · cases h
    · cases h
   | fro t=>
    simp only at h
    split at h
    ·
     rename_i l hl
     obtain ⟨o,hb,ho⟩:=ZoA hl
     refine next (x:=l) s.le_refl ⟨_,hc⟩ (fun sF hF o'' e => ?_) h
     simp only [Zep,Option.some.injEq] at e
     subst e
     obtain ⟨f1,f2,f3⟩:=ZkY ho
     refine .inr ⟨b,o,hF.1 _ _ hc,hb,⟨f1.symm,f3.symm,f2.symm,fun T cs' e=>by cases e⟩,(fun e=>by cases e),fun H' ρ' S' g hn => ?_⟩
     have hg:=(g.real c b (hF.1 _ _ hc)).2.1
     have hB:=hh.block _ _ hb
     rcases ho with rfl | rfl
     ·
      rcases hB with ⟨blk,arr,elem,fz,q1,q2,q3,q4,q5⟩ | ⟨q1,q2⟩
      ·
       refine .inl ⟨blk,arr,elem,fz,hg.trans q1,q2,hn rfl _ _ q1,fun i hi => ?_,q5⟩
       obtain ⟨vs,r1,r2⟩:=q4 i hi
       exact ⟨vs,ZLR g r1,r2⟩
      · exact .inr ⟨hg.trans q1,q2⟩
     ·
      rcases hB with ⟨blk,arr,elem,fz,q1,q2,q3,q4,q5⟩ | ⟨q1,q2⟩
      ·
       refine .inl ⟨blk,arr,elem,fz,hg.trans q1,q2,hn rfl _ _ q1,fun i hi => ?_,q5⟩
       obtain ⟨vs,r1,r2⟩:=q4 i hi
       exact ⟨vs,ZLR g r1,r2⟩
      · exact .inr ⟨hg.trans q1,q2⟩
    · cases h
theorem ZH2 : ∀ {ps:List HPat} {x:ZLQ ps} {c:Nat},c<ps.length→ZMz (ZBA ps x) c:=by
 intro ps x c hc
 refine ⟨by rw [ZSH];exact hc,?_⟩
 induction ps generalizing c with
 | nil=>cases hc
 | cons p ps ih=>
  cases c with
  | zero=>
   simp only [ZBA,ZAZ.at?,List.getD_cons_zero]
   cases p <;> (intro e;cases e)
  | succ c=>exact ih (x:=x.2) (c:=c) (Nat.lt_of_succ_lt_succ hc)
theorem Zta (hh:HRel base S0 ρ H w S) {ps:List HPat} {x:ZLQ ps} {s3:Sig} {n0:Nat} (hn:base.n≤n0) (hnm:n0≤ps.length) (hf:s3.fine ps=true) (hlen:s3.σ.length=ps.length) (hid : ∀ c,c<n0→s3.at c=some (some c))
  (t3 : ∀ i,i<ps.length→Zrj ρ H w S s3 i ((ZBA ps x).getD i none)) :
  ∃ ρ' S',HRel base S0 ρ' (ZBA ps x) w S'∧Good s3 H ρ w S (ZBA ps x) ρ' S':=by
 simp only [Sig.fine,Bool.and_eq_true] at hf
 obtain ⟨hd,hz⟩:=hf
 have hlenσ : ∀ c' z,s3.at c'=some z→c'<ps.length:=by
  intro c' z hz
  rcases Nat.lt_or_ge c' ps.length with h | h
  · exact h
  · simp [Sig.at,List.getD,List.getElem?_eq_none (by omega:s3.σ.length≤c')] at hz
 let H':=ZBA ps x
 let ρ':Loc:=fun c'=>match s3.at c' with | some (some b)=>ρ b | _=>none
 let S':Nat→Prop:=fun k=>S0 k ∨ ∃ c' o n,ZAZ.at? H' c'=some o∧o.mutable=true∧ρ' c'=some (k,n)
 have hH'len:H'.length=ps.length:=ZSH _ _
 have blockAt : ∀ c' o',H'.at? c'=some o'→(s3.at c'=some none ∧ ∃ t,o' = .row t []) ∨
   ∃ b o,s3.at c'=some (some b)∧H.at? b=some o∧Kin o o'∧(o'.mutable=true→o.mutable=true) ∧
   ∀ (H':ZAZ) (ρ':Loc) (S':Nat→Prop),Good s3 H ρ w S H' ρ' S'→(o'.mutable=false → ∀ blk n,ρ b=some (blk,n) → ¬ S' blk)→ZEj ρ' H' w S' c' o':=by
  intro c' o' ho'
  have hlt:=ZMK ho'
  exact t3 c' (by rw [← hH'len];exact hlt) o' ho'
 have inj : ∀ {c1 c2 b1 blk n1 n2 o1 o2 b2 p1 p2},H'.at? c1=some p1→H'.at? c2=some p2→s3.at c1=some (some b1)→s3.at c2=some (some b2)→H.at? b1=some o1→H.at? b2=some o2→ρ b1=some (blk,n1)→ρ b2=some (blk,n2)→c1=c2:=by
  intro c1 c2 b1 blk n1 n2 o1 o2 b2 p1 p2 q7 q8 q1 q2 q3 q4 q5 q6
  have:=hh.inj _ _ _ _ _ _ _ q3 q4 q5 q6
  subst this
  exact Zkd hd q7 q8 q1 q2
 have own' : ∀ blk,S' blk→S blk:=by
  rintro blk (h0 | ⟨c',o',n,q1,q2,q3⟩)
  · exact (hh.own blk).mpr (.inl h0)
  ·
   rcases blockAt c' o' q1 with ⟨e1,t,rfl⟩ | ⟨b,o,e1,e2,e3,e4,_⟩
   · simp only [ρ',e1] at q3;cases q3
   ·
    simp only [ρ',e1] at q3
    exact (hh.own blk).mpr (.inr ⟨b,o,n,e2,e4 q2,q3⟩)
 have good:Good s3 H ρ w S H' ρ' S':=by
  refine ⟨fun c' b hb=>⟨?_,?_,fun o' ho' => ?_⟩,fun c' hc'=>⟨?_,fun o' ho' => ?_⟩,fun b hb o blk n ho hr => ?_,fun b _ hb=>own' b hb,fun c hc=>ZH2 (hlen ▸ hc)⟩
  · exact ZH2 (hlenσ _ _ hb)
  · simp only [ρ',hb]
  ·
   rcases blockAt c' o' ho' with ⟨e1,_⟩ | ⟨b',o,e1,e2,e3,_⟩
   · rw [e1] at hb;cases hb
   ·
    rw [e1] at hb;cases hb
    exact ⟨o,e2,e3⟩
  · exact ZH2 (hlenσ _ _ hc')
  ·
   rcases blockAt c' o' ho' with ⟨e1,t,rfl⟩ | ⟨b',o,e1,_⟩
   · exact ⟨rfl,rfl⟩
   · rw [e1] at hc';cases hc'
  ·
   intro hs
   have hfr:=hh.from_ _ _ _ _ ho hr
   rcases hs with h0 | ⟨c',o',n',q1,q2,q3⟩
   · exact hfr.1 (hh.outer _ h0)
   ·
    rcases blockAt c' o' q1 with ⟨e1,t,rfl⟩ | ⟨b',o2,e1,e2,e3,e4,_⟩
    · simp only [ρ',e1] at q3;cases q3
    ·
     simp only [ρ',e1] at q3
     obtain rfl:=hh.inj _ _ _ _ _ _ _ ho e2 hr q3
     exact Zkc hz b hb (ZoC q1 q2 e1)
 refine ⟨ρ',S',⟨⟨hh.base_le.lt,?_,fun b hb => ?_,fun b hb o' ho' => ?_,fun b hb=>ZH2 (Nat.lt_of_lt_of_le hb (Nat.le_trans hn hnm))⟩,hh.outer,fun _=>Iff.rfl,fun c' o' blk n q1 q3 => ?_,fun c1 c2 o1 o2 blk n1 n2 q1 q2 q3 q4 => ?_,fun c' o' q1 => ?_⟩,good⟩
 ·
  show base.n≤H'.length
  rw [hH'len];omega
 ·
  have:=hid b (by omega)
  simp only [ρ',this]
  exact hh.base_le.fix b hb
 ·
  have hi:=hid b (by omega)
  obtain ⟨o,h1,h2⟩:=(good.real b b hi).2.2 o' ho'
  obtain ⟨o2,h3,h4⟩:=hh.base_le.fits b hb o h1
  exact ⟨o2,h3,h4.trans h2⟩
 ·
  rcases blockAt c' o' q1 with ⟨e1,t,rfl⟩ | ⟨b',o2,e1,e2,_⟩
  · simp only [ρ',e1] at q3;cases q3
  ·
   simp only [ρ',e1] at q3
   exact hh.from_ _ _ _ _ e2 q3
 ·
  rcases blockAt c1 o1 q1 with ⟨e1,t,rfl⟩ | ⟨b1,p1,e1,e2,_⟩
  · simp only [ρ',e1] at q3;cases q3
  ·
   rcases blockAt c2 o2 q2 with ⟨f1,t,rfl⟩ | ⟨b2,p2,f1,f2,_⟩
   · simp only [ρ',f1] at q4;cases q4
   ·
    simp only [ρ',e1] at q3
    simp only [ρ',f1] at q4
    exact inj q1 q2 e1 f1 e2 f2 q3 q4
 ·
  rcases blockAt c' o' q1 with ⟨e1,t,rfl⟩ | ⟨b',o2,e1,e2,e3,e4,e5⟩
  · exact .inr ⟨by simp only [ρ',e1],rfl⟩
  ·
   refine e5 H' ρ' S' good (fun hm blk n hr hs => ?_)
   have hfr:=hh.from_ _ _ _ _ e2 hr
   rcases hs with h0 | ⟨c2,p2,n',q2,q4,q3⟩
   · exact hfr.1 (hh.outer _ h0)
   ·
    rcases blockAt c2 p2 q2 with ⟨f1,t,rfl⟩ | ⟨b2,p3,f1,f2,_⟩
    · simp only [ρ',f1] at q3;cases q3
    ·
     simp only [ρ',f1] at q3
     obtain rfl:=inj q1 q2 e1 f1 e2 f2 hr q3
     rw [q1] at q2
     cases q2
     rw [hm] at q4;cases q4
end
/-! #### edits of a heap -/
def ZA9:ZAZ→List (Nat×Option AO)→ZAZ
 | H,[]=>H
 | H,(k,o)::r=>ZA9 (H.set k o) r
theorem ZCW : ∀ (es:List (Nat×Option AO)) (H:ZAZ),(ZA9 H es).length=H.length
 | [],_=>rfl
 | (k,o)::es,H=>by rw [ZA9,ZCW es];simp
theorem Zkf {H:ZAZ} {k b:Nat} {o:Option AO} (h:b≠k):ZAZ.at? (H.set k o) b=H.at? b:=ZAk (fun e=>h e.symm)
theorem ZF0 : ∀ (es:List (Nat×Option AO)) (H:ZAZ) (b:Nat),b∉es.map (·.1)→(ZA9 H es).at? b=H.at? b
 | [],_,_,_=>rfl
 | (k,o)::es,H,b,h=>by
  simp only [List.map_cons,List.mem_cons,not_or] at h
  rw [ZA9,ZF0 es _ b h.2,Zkf h.1]
theorem ZnL : ∀ (es:List (Nat×Option AO)) (H:ZAZ) (k:Nat) (o:Option AO),k∉es.map (·.1)→ZA9 (H.set k o) es=(ZA9 H es).set k o
 | [],_,_,_,_=>rfl
 | (j,u)::es,H,k,o,h=>by
  simp only [List.map_cons,List.mem_cons,not_or] at h
  rw [ZA9,ZA9,List.set_comm _ _ (h.1),ZnL es _ k o h.2]
theorem Zkg : ∀ (es fs:List (Nat×Option AO)) (H:ZAZ),(∀ k∈es.map (·.1),k∉fs.map (·.1))→ZA9 (ZA9 H es) fs=ZA9 (ZA9 H fs) es
 | [],_,_,_=>rfl
 | (k,o)::es,fs,H,h=>by
  rw [ZA9,ZA9,Zkg es fs _ (fun j hj=>h j (by simp at hj ⊢;exact .inr hj)),ZnL fs _ k o (h k (by simp))]
def ZA3:ZAZ→List Nat→List (Nat×Option AO)
 | _,[]=>[]
 | H,b::bs=>match H.at? b with
  | some (.row t l)=>(b,some (.fro t l))::ZA3 (H.set b (some (.fro t l))) bs
  | _=>ZA3 H bs
theorem ZCm : ∀ (bs:List Nat) (H:ZAZ),ZA9 H (ZA3 H bs)=Zff H bs
 | [],_=>rfl
 | b::bs,H=>by
  show _=Zff (ZmQ H b) bs
  cases ho:H.at? b with
  | none=>simp only [ZA3,ZmQ,ho];exact ZCm bs H
  | some o=>cases o with
   | row t l=>simp only [ZA3,ZmQ,ho,ZA9];exact ZCm bs _
   | cells cs=>simp only [ZA3,ZmQ,ho];exact ZCm bs H
   | fro t l=>simp only [ZA3,ZmQ,ho];exact ZCm bs H
   | res=>simp only [ZA3,ZmQ,ho];exact ZCm bs H
   | map _ _ _=>simp only [ZA3,ZmQ,ho];exact ZCm bs H
   | mapF _ _ _=>simp only [ZA3,ZmQ,ho];exact ZCm bs H
theorem ZB2 : ∀ (bs:List Nat) (H H':ZAZ),(∀ b∈bs,H'.at? b=H.at? b)→ZA3 H' bs=ZA3 H bs
 | [],_,_,_=>rfl
 | b::bs,H,H',h=>by
  have hb:=h b (by simp)
  cases ho:H.at? b with
  | none=>simp only [ZA3,hb,ho];exact ZB2 bs H H' (fun c hc=>h c (by simp [hc]))
  | some o=>cases o with
   | row t l=>
    simp only [ZA3,hb,ho]
    rw [ZB2 bs (H.set b (some (.fro t l))) (H'.set b (some (.fro t l))) (fun c hc => ?_)]
    by_cases e:c=b
    · subst e;rw [ZA2 (ZMK (hb.trans ho)),ZA2 (ZMK ho)]
    · rw [Zkf e,Zkf e];exact h c (by simp [hc])
   | cells cs=>simp only [ZA3,hb,ho];exact ZB2 bs H H' (fun c hc=>h c (by simp [hc]))
   | fro t l=>simp only [ZA3,hb,ho];exact ZB2 bs H H' (fun c hc=>h c (by simp [hc]))
   | res=>simp only [ZA3,hb,ho];exact ZB2 bs H H' (fun c hc=>h c (by simp [hc]))
   | map _ _ _=>simp only [ZA3,hb,ho];exact ZB2 bs H H' (fun c hc=>h c (by simp [hc]))
   | mapF _ _ _=>simp only [ZA3,hb,ho];exact ZB2 bs H H' (fun c hc=>h c (by simp [hc]))
theorem ZCs : ∀ (bs:List Nat) (H:ZAZ) (k:Nat),k∈(ZA3 H bs).map (·.1)→k∈bs
 | [],_,_,h=>h
 | b::bs,H,k,h=>by
  cases ho:H.at? b with
  | none=>simp only [ZA3,ho] at h;exact List.mem_cons_of_mem _ (ZCs bs _ k h)
  | some o=>cases o with
   | row t l=>
    simp only [ZA3,ho,List.map_cons,List.mem_cons] at h
    rcases h with rfl | h
    · exact List.mem_cons_self
    · exact List.mem_cons_of_mem _ (ZCs bs _ k h)
   | cells cs=>simp only [ZA3,ho] at h;exact List.mem_cons_of_mem _ (ZCs bs _ k h)
   | fro t l=>simp only [ZA3,ho] at h;exact List.mem_cons_of_mem _ (ZCs bs _ k h)
   | res=>simp only [ZA3,ho] at h;exact List.mem_cons_of_mem _ (ZCs bs _ k h)
   | map _ _ _=>simp only [ZA3,ho] at h;exact List.mem_cons_of_mem _ (ZCs bs _ k h)
   | mapF _ _ _=>simp only [ZA3,ho] at h;exact List.mem_cons_of_mem _ (ZCs bs _ k h)
theorem ZnM : ∀ (es:List (Nat×Option AO)) (H:ZAZ) (b:Nat) (o:Option AO),b<H.length→(b,o)∈es→(∀ o',(b,o')∈es→o'=o)→(ZA9 H es).at? b=o
 | [],_,_,_,_,h,_=>by cases h
 | (k,u)::es,H,b,o,hl,h,hu=>by
  rw [ZA9]
  by_cases hm : ∃ o',(b,o')∈es
  ·
   obtain ⟨o',ho'⟩:=hm
   have:=hu o' (List.mem_cons_of_mem _ ho')
   subst this
   exact ZnM es _ b o' (by simpa using hl) ho' (fun o2 h2=>hu o2 (List.mem_cons_of_mem _ h2))
  ·
   rcases List.mem_cons.mp h with e | h
   ·
    cases e
    rw [ZF0 es _ k (fun hx=>by
     obtain ⟨⟨k',o'⟩,h1,h2⟩:=List.mem_map.mp hx
     simp only at h2;subst h2
     exact hm ⟨o',h1⟩)]
    exact ZA2 hl
   · exact absurd ⟨o,h⟩ hm
theorem ZWy : ∀ (es fs:List (Nat×Option AO)) (H:ZAZ),ZA9 H (es++fs)=ZA9 (ZA9 H es) fs
 | [],_,_=>rfl
 | (k,o)::es,fs,H=>by rw [List.cons_append,ZA9,ZA9,ZWy es fs]
/-! #### other numbers -/
mutual
def ren (θ:Nat→Nat) (p:PV):PV:=match p with
 | .sl b off len => .sl (θ b) off len
 | .all b => .all (θ b)
 | .cs b off len sz => .cs (θ b) off len sz
 | .ptr b off => .ptr (θ b) off
 | .rptr b i j => .rptr (θ b) i j
 | .head b => .head (θ b)
 | .nos b off => .nos (θ b) off
 | .mp b => .mp (θ b)
 | .func fn f c => .func fn (ZjC θ f) (ZjC θ c)
 | .iface t x => .iface t (ren θ x)
 | .agg cs => .agg (ZjC θ cs)
 | .tuple vs => .tuple (ZjC θ vs)
 | .val v => .val v
 | .rows t l c => .rows t l c
 | .pin t x j => .pin t x j
 | .emp => .emp
 | .tab t l => .tab t l
 | .junk => .junk
termination_by structural p
def ZjC (θ:Nat→Nat) (ps:List PV):List PV:=match ps with
 | []=>[]
 | p::ps=>ren θ p::ZjC θ ps
termination_by structural ps
end
def ZNB (θ:Nat→Nat):Option AO→Option AO
 | some (.cells e cs)=>some (.cells e (ZjC θ cs))
 | some (.mapF k l ps)=>some (.mapF k l (ZjC θ ps))
 | o=>o
structure RenOk (θ:Nat→Nat) (ρ:Loc) (H:ZAZ) (w:World) (S:Nat→Prop) (ρ':Loc) (H':ZAZ) (S':Nat→Prop):Prop where
 real : ∀ c,ZMz H c→ZMz H' (θ c)∧ρ' (θ c)=ρ c ∧ ∀ o',H'.at? (θ c)=some o' → ∃ o,H.at? c=some o∧ZUx o o'
 less : ∀ b,b<w.heap.size→S' b→S b
theorem Zet (θ:Nat→Nat) : ∀ (ps:List PV),(ZjC θ ps).length=ps.length
 | []=>rfl
 | _::ps=>by simp [ZjC,Zet θ ps]
section
variable {θ:Nat→Nat} {ρ ρ':Loc} {H H':ZAZ} {w:World} {S S':Nat→Prop}
mutual
theorem ZoD (k:RenOk θ ρ H w S ρ' H' S') : ∀ {p:PV} {v:Value},ZAW ρ H w S p v→ZAW ρ' H' w S' (ren θ p) v
 | .val _,_,h=>h
 | .rows t l clip,v,h=>⟨h.1.mono (Same.refl _ _) k.less (fun _ _ h=>h.mono (Same.refl _ _) k.less),h.2⟩
 | .sl b off len,v,h=>by
  simp only [ZAW,ren] at h ⊢
  obtain ⟨g1,g2,g3⟩:=k.real b h.1.1
  refine ⟨⟨g1,h.1.2⟩,fun o' ho' hrow => ?_⟩
  obtain ⟨o,ho,k1,k2,k3,_⟩:=g3 o' ho'
  have:=h.2 o ho (k1 ▸ hrow)
  rw [g2,k2,k3]
  exact this
 | .all b,v,h=>by
  simp only [ZAW,ren] at h ⊢
  obtain ⟨g1,g2,g3⟩:=k.real b h.1.1
  refine ⟨⟨g1,h.1.2⟩,fun o' ho' hrow => ?_⟩
  obtain ⟨o,ho,k1,k2,k3,_⟩:=g3 o' ho'
  have:=h.2 o ho (k1 ▸ hrow)
  rw [g2,k2,k3]
  exact this
 | .cs b off len sz,v,h=>by
  simp only [ZAW,ren] at h ⊢
  obtain ⟨g1,g2,g3⟩:=k.real b h.1.1
  refine ⟨⟨g1,h.1.2⟩,fun T cs' ho' => ?_⟩
  obtain ⟨o,ho,k1,k2,k3,k4⟩:=g3 _ ho'
  obtain ⟨cs,rfl,hl⟩:=k4 T cs' rfl
  have:=h.2 T cs ho
  rw [g2,← hl]
  exact this
 | .ptr b off,v,h=>by
  simp only [ZAW,ren] at h ⊢
  obtain ⟨g1,g2,g3⟩:=k.real b h.1.1
  refine ⟨⟨g1,h.1.2⟩,fun hs => ?_⟩
  obtain ⟨o',ho'⟩:=Option.isSome_iff_exists.mp hs
  obtain ⟨o,ho,_⟩:=g3 o' ho'
  rw [g2]
  exact h.2 (by rw [ho];rfl)
 | .rptr b i j,v,h=>by
  simp only [ZAW,ren] at h ⊢
  obtain ⟨g1,g2,g3⟩:=k.real b h.1.1
  refine ⟨⟨g1,h.1.2⟩,fun o' ho' hrow => ?_⟩
  obtain ⟨o,ho,k1,k2,k3,_⟩:=g3 o' ho'
  have:=h.2 o ho (k1 ▸ hrow)
  rw [g2,k2,k3]
  exact this
 | .pin t x j,v,h=>by
  simp only [ZAW,ren] at h ⊢
  obtain ⟨blk,off,arr,elem,fz,vs,e,hs,hb,hx,ha⟩:=h
  exact ⟨blk,off,arr,elem,fz,vs,e,fun h=>hs (k.less blk (ZHC hb) h),hb,hx.mono (Same.refl _ _) k.less,ha⟩
 | .func fn first captured,v,h=>by
  simp only [ZAW,ren] at h ⊢
  obtain ⟨f,c,e,h1,h2⟩:=h
  exact ⟨f,c,e,ZU0 k h1,ZU0 k h2⟩
 | .iface t x,v,h=>by
  simp only [ZAW,ren] at h ⊢
  obtain ⟨u,e,h1⟩:=h
  exact ⟨u,e,ZoD k h1⟩
 | .agg cs,v,h=>by
  simp only [ZAW,ren] at h ⊢
  obtain ⟨us,e,h1⟩:=h
  exact ⟨us,e,ZU0 k h1⟩
 | .tuple cs,v,h=>by
  simp only [ZAW,ren] at h ⊢
  obtain ⟨us,e,h1⟩:=h
  exact ⟨us,e,ZU0 k h1⟩
 | .emp,_,h=>h
 | .tab t l,v,h=>by
  simp only [ZAW,ren] at h ⊢
  obtain ⟨blk,off,arr,elem,fz,e,hs,hb,hat⟩:=h
  refine ⟨blk,off,arr,elem,fz,e,fun h=>hs (k.less blk (ZHC hb) h),hb,fun i hi => ?_⟩
  obtain ⟨vs,h1,h2⟩:=hat i hi
  exact ⟨vs,h1.mono (Same.refl _ _) k.less,h2⟩
 | .mp b,v,h=>by
  simp only [ZAW,ren] at h ⊢
  obtain ⟨g1,g2,g3⟩:=k.real b h.1.1
  refine ⟨⟨g1,h.1.2⟩,fun hs => ?_⟩
  obtain ⟨o',ho'⟩:=Option.isSome_iff_exists.mp hs
  obtain ⟨o,ho,_⟩:=g3 o' ho'
  rw [g2]
  exact h.2 (by rw [ho];rfl)
 | .nos b off,v,h=>by
  simp only [ZAW,ren] at h ⊢
  obtain ⟨hk,h⟩:=h
  obtain ⟨g1,g2,g3⟩:=k.real b hk
  refine ⟨g1,?_⟩
  rcases h with h | h
  · exact .inl h
  ·
   refine .inr ⟨h.1,fun hs => ?_⟩
   obtain ⟨o',ho'⟩:=Option.isSome_iff_exists.mp hs
   obtain ⟨o,ho,_⟩:=g3 o' ho'
   rw [g2]
   exact h.2 (by rw [ho];rfl)
 | .head b,v,h=>by
  simp only [ZAW,ren] at h ⊢
  obtain ⟨g1,g2,g3⟩:=k.real b h.1.1
  refine ⟨⟨g1,h.1.2⟩,fun o' ho' hrow hl => ?_⟩
  obtain ⟨o,ho,k1,k2,k3,_⟩:=g3 o' ho'
  rw [g2]
  exact h.2 o ho (k1 ▸ hrow) (k3 ▸ hl)
 | .junk,_,_=>trivial
theorem ZU0 (k:RenOk θ ρ H w S ρ' H' S') : ∀ {ps:List PV} {vs:List Value},ZAQ ρ H w S ps vs→ZAQ ρ' H' w S' (ZjC θ ps) vs
 | [],_,h=>h
 | p::ps,vs,h=>by
  simp only [ZAQ,ZjC] at h ⊢
  obtain ⟨u,us,e,h1,h2⟩:=h
  exact ⟨u,us,e,ZoD k h1,ZU0 k h2⟩
end
end
/-! #### where the blocks are behind the call -/
def ZmK:List (Option (Option Nat))→Nat→List (Option Nat)
 | _,0=>[]
 | [],m+1=>none::ZmK [] m
 | x::σ,m+1=>(match x with | some (some b)=>some b | _=>none)::ZmK σ m
def ZQC:List (Option Nat)→Nat→List Nat
 | [],_=>[]
 | some b::l,nx=>b::ZQC l nx
 | none::l,nx=>nx::ZQC l (nx+1)
def Zsz:List (Option Nat)→Nat→List Nat
 | [],_=>[]
 | some _::l,c=>Zsz l (c+1)
 | none::l,c=>c::Zsz l (c+1)
def ZFD (θ:Nat→Nat):List (Option Nat)→ZAZ→List (Nat×Option AO)
 | some b::l,o::H=>(b,ZNB θ o)::ZFD θ l H
 | none::l,_::H=>ZFD θ l H
 | _,_=>[]
def ZfT (θ:Nat→Nat):List (Option Nat)→ZAZ→List (Option AO)
 | some _::l,_::H=>ZfT θ l H
 | none::l,o::H=>ZNB θ o::ZfT θ l H
 | _,_=>[]
theorem ZTB : ∀ (m:Nat) (σ:List (Option (Option Nat))),(ZmK σ m).length=m
 | 0,_=>rfl
 | m+1,[]=>by simp [ZmK,ZTB m]
 | m+1,x::σ=>by simp [ZmK,ZTB m]
theorem Zcx : ∀ (m:Nat) (σ:List (Option (Option Nat))) (c b:Nat),(ZmK σ m)[c]? = some (some b)↔c<m∧σ.getD c none=some (some b)
 | 0,σ,c,b=>by simp [ZmK]
 | m+1,[],0,b=>by simp [ZmK]
 | m+1,[],c+1,b=>by
  have:=Zcx m [] c b
  simp only [ZmK,List.getElem?_cons_succ,this]
  simp
 | m+1,x::σ,0,b=>by
  simp only [ZmK,List.getElem?_cons_zero,List.getD_cons_zero]
  split <;> simp_all
 | m+1,x::σ,c+1,b=>by
  have:=Zcx m σ c b
  simp only [ZmK,List.getElem?_cons_succ,List.getD_cons_succ,this,Nat.add_lt_add_iff_right]
theorem Zhc : ∀ (l:List (Option Nat)) (nx c b:Nat),l[c]? = some (some b)→(ZQC l nx)[c]? = some b
 | [],_,_,_,h=>by simp at h
 | some d::l,nx,0,b,h=>by simpa [ZQC] using h
 | none::l,nx,0,b,h=>by simp at h
 | some d::l,nx,c+1,b,h=>by simp only [ZQC,List.getElem?_cons_succ] at h ⊢;exact Zhc l nx c b h
 | none::l,nx,c+1,b,h=>by simp only [ZQC,List.getElem?_cons_succ] at h ⊢;exact Zhc l (nx+1) c b h
theorem Zkh (θ:Nat→Nat) : ∀ (l:List (Option Nat)) (H:ZAZ) (nx c0 c:Nat),H.length=l.length→l[c]? = some none →
  ∃ k,(ZQC l nx)[c]? = some (nx+k)∧(ZfT θ l H)[k]? = some (ZNB θ (H.at? c))∧(Zsz l c0)[k]? = some (c0+c)
 | [],_,_,_,_,_,h=>by simp at h
 | some d::l,[],_,_,_,e,_=>by simp at e
 | none::l,[],_,_,_,e,_=>by simp at e
 | some d::l,o::H,nx,c0,0,e,h=>by simp at h
 | none::l,o::H,nx,c0,0,e,h=>⟨0,by simp [ZQC],by simp [ZfT,ZAZ.at?],by simp [Zsz]⟩
 | some d::l,o::H,nx,c0,c+1,e,h=>by
  simp only [List.getElem?_cons_succ] at h
  obtain ⟨k,h1,h2,h3⟩:=Zkh θ l H nx (c0+1) c (by simpa using e) h
  exact ⟨k,by simpa [ZQC] using h1,by simpa [ZfT,ZAZ.at?] using h2,by simp only [Zsz];rw [h3];congr 1;omega⟩
 | none::l,o::H,nx,c0,c+1,e,h=>by
  simp only [List.getElem?_cons_succ] at h
  obtain ⟨k,h1,h2,h3⟩:=Zkh θ l H (nx+1) (c0+1) c (by simpa using e) h
  exact ⟨k+1,by simp only [ZQC,List.getElem?_cons_succ,h1];congr 1;omega,by simpa [ZfT,ZAZ.at?] using h2,by simp only [Zsz,List.getElem?_cons_succ];rw [h3];congr 1;omega⟩
theorem ZoE (θ:Nat→Nat) : ∀ (l:List (Option Nat)) (H:ZAZ) (nx c0 k:Nat),H.length=l.length→k<(ZfT θ l H).length →
  ∃ c,l[c]? = some none∧(ZQC l nx)[c]? = some (nx+k)∧(ZfT θ l H)[k]? = some (ZNB θ (H.at? c))∧(Zsz l c0)[k]? = some (c0+c)
 | [],H,_,_,k,_,h=>by simp [ZfT] at h
 | some d::l,[],_,_,_,e,_=>by simp at e
 | none::l,[],_,_,_,e,_=>by simp at e
 | some d::l,o::H,nx,c0,k,e,h=>by
  simp only [ZfT] at h
  obtain ⟨c,h0,h1,h2,h3⟩:=ZoE θ l H nx (c0+1) k (by simpa using e) h
  exact ⟨c+1,by simpa using h0,by simpa [ZQC] using h1,by simpa [ZfT,ZAZ.at?] using h2,by simp only [Zsz];rw [h3];congr 1;omega⟩
 | none::l,o::H,nx,c0,0,e,h=>⟨0,by simp,by simp [ZQC],by simp [ZfT,ZAZ.at?],by simp [Zsz]⟩
 | none::l,o::H,nx,c0,k+1,e,h=>by
  simp only [ZfT,List.length_cons,Nat.add_lt_add_iff_right] at h
  obtain ⟨c,h0,h1,h2,h3⟩:=ZoE θ l H (nx+1) (c0+1) k (by simpa using e) h
  exact ⟨c+1,by simpa using h0,by simp only [ZQC,List.getElem?_cons_succ,h1];congr 1;omega,by simpa [ZfT,ZAZ.at?] using h2,by simp only [Zsz,List.getElem?_cons_succ];rw [h3];congr 1;omega⟩
theorem Zhd (θ:Nat→Nat) : ∀ (l:List (Option Nat)) (H:ZAZ) (c b:Nat),H.length=l.length→l[c]? = some (some b)→(b,ZNB θ (H.at? c))∈ZFD θ l H
 | [],_,_,_,_,h=>by simp at h
 | some d::l,[],_,_,e,_=>by simp at e
 | none::l,[],_,_,e,_=>by simp at e
 | some d::l,o::H,0,b,e,h=>by
  simp only [List.getElem?_cons_zero,Option.some.injEq] at h
  subst h
  simp [ZFD,ZAZ.at?]
 | none::l,o::H,0,b,e,h=>by simp at h
 | some d::l,o::H,c+1,b,e,h=>by
  have:=Zhd θ l H c b (by simpa using e) (by simpa using h)
  simp only [ZFD]
  exact List.mem_cons_of_mem _ (by simpa [ZAZ.at?] using this)
 | none::l,o::H,c+1,b,e,h=>by
  have:=Zhd θ l H c b (by simpa using e) (by simpa using h)
  simp only [ZFD]
  simpa [ZAZ.at?] using this
theorem Zcy (θ:Nat→Nat) : ∀ (l:List (Option Nat)) (H:ZAZ) (b:Nat) (o:Option AO),(b,o)∈ZFD θ l H → ∃ c,l[c]? = some (some b)∧o=ZNB θ (H.at? c)
 | [],_,_,_,h=>by simp [ZFD] at h
 | some d::l,[],_,_,h=>by simp [ZFD] at h
 | none::l,[],_,_,h=>by simp [ZFD] at h
 | some d::l,o::H,b,o',h=>by
  simp only [ZFD,List.mem_cons,Prod.mk.injEq] at h
  rcases h with ⟨rfl,rfl⟩ | h
  · exact ⟨0,by simp,by simp [ZAZ.at?]⟩
  ·
   obtain ⟨c,h1,h2⟩:=Zcy θ l H b o' h
   exact ⟨c+1,by simpa using h1,by simpa [ZAZ.at?] using h2⟩
 | none::l,o::H,b,o',h=>by
  simp only [ZFD] at h
  obtain ⟨c,h1,h2⟩:=Zcy θ l H b o' h
  exact ⟨c+1,by simpa using h1,by simpa [ZAZ.at?] using h2⟩
def Zs0:List PV→PV
 | [p]=>p
 | ps => .tuple ps
theorem HRel.lt {base:Base} {S0:Nat→Prop} {ρ:Loc} {H:ZAZ} {w:World} {S:Nat→Prop} (hh:HRel base S0 ρ H w S) : ∀ b,S b→b<w.heap.size:=by
 intro b hs
 rcases (hh.own b).mp hs with h0 | ⟨c,o,n,h1,_,h3⟩
 · exact hh.base_le.lt _ (hh.outer _ h0)
 · exact (hh.from_ c o b n h1 h3).2
def Low (g:Nat) (base:Base) (S0:Nat→Prop):Prop:=(∀ b,b<g→base.B b) ∧ ∀ b,S0 b→g≤b
theorem Low.all {g:Nat} {base:Base} {S0:Nat→Prop} {ρ:Loc} {H:ZAZ} {w:World} {S:Nat→Prop} (hg:Low g base S0) (hh:HRel base S0 ρ H w S) : ∀ b,S b→g≤b:=by
 intro b hs
 rcases (hh.own b).mp hs with h0 | ⟨c,o,n,h1,_,h3⟩
 · exact hg.2 b h0
 ·
  rcases Nat.lt_or_ge b g with h | h
  · exact absurd (hg.1 b h) (hh.from_ c o b n h1 h3).1
  · exact h
def ZAX {α β:Type} (o:Option α) (k:α→Option β):Option β:=match o with
 | some y=>k y
 | none=>none
structure HCon where
 pa:List Pat
 pH:List HPat
 qa:List Pat
 qH:List HPat
 R:Type
 F:ZH1 pa×ZLQ pH→Option R
 out:R→ZH1 qa×ZLQ qH
 proj:ZH1 qa×ZLQ qH→R
 out_proj : ∀ y,out (proj y)=y
 bad:R→Option Value
 pan:Value→Option R
 pan_bad : ∀ v r,pan v=some r→bad r=some v
 good : ∀ y,bad (proj y)=none
 elim:ZH1 pa×ZLQ pH→(β:Type)→(Value→Option β)→(R→Option β)→Option β
 elim_is : ∀ x β fb fg y,elim x β fb fg=some y → ∃ r,F x=some r∧((∃ v,bad r=some v∧fb v=some y)∨(bad r=none∧fg r=some y))
theorem ZoF {α β:Type} {o:Option α} {k:α→Option β} {y:β} (h:ZAX o k=some y) : ∃ r,o=some r∧k r=some y:=by
 cases o with
 | none=>cases h
 | some r=>exact ⟨r,rfl,h⟩
@[reducible] def HCon.mk0 (pa:List Pat) (pH:List HPat) (qa:List Pat) (qH:List HPat) (R:Type) (F:ZH1 pa×ZLQ pH→Option R) (out:R→ZH1 qa×ZLQ qH) (proj:ZH1 qa×ZLQ qH→R) (out_proj : ∀ y,out (proj y)=y):HCon :=
 ⟨pa,pH,qa,qH,R,F,out,proj,out_proj,fun _=>none,fun _=>none,(fun _ _ h=>by cases h),fun _=>rfl,fun x _ _ fg=>ZAX (F x) fg,fun x β fb fg y h=>by
  obtain ⟨r,h1,h2⟩:=ZoF h
  exact ⟨r,h1,.inr ⟨rfl,h2⟩⟩⟩
def HCon.Sound (P:Program) (I:World→Prop) (g:Nat) (K:Nat) (c:HCon):Prop :=
 ∀ x y,c.F x=some y → ∀ (B S0:Nat→Prop) (ρ:Loc) (w:World) (S:Nat→Prop) (args:Array Value),I w→Low g ⟨B,c.pH.length,ρ,ZBA c.pH x.2⟩ S0 →
  HRel ⟨B,c.pH.length,ρ,ZBA c.pH x.2⟩ S0 ρ (ZBA c.pH x.2) w S→ZAQ ρ (ZBA c.pH x.2) w S (ZIt c.pa x.1) args.toList →
  Calls P K args w fun e w'=>(∀ pv,c.bad y=some pv→e = .panicked [{ v:=pv,recovered:=false }]∧Keeps B w w')∧(c.bad y=none → ∃ v ρ' S',e = .returned v∧HRel ⟨B,c.pH.length,ρ,ZBA c.pH x.2⟩ S0 ρ' (ZBA c.qH (c.out y).2) w' S' ∧
   ZAW ρ' (ZBA c.qH (c.out y).2) w' S' (Zs0 (ZIt c.qa (c.out y).1)) v∧Keeps B w w')
def ZsS:List HPat→Bool
 | []=>true
 | .fro _::_=>false
 | _::ps=>ZsS ps
theorem Zrk : ∀ {ps:List HPat} {x:ZLQ ps},ZsS ps=true → ∀ {c:Nat} {o:AO},ZAZ.at? (ZBA ps x) c=some o→o.mutable=true
 | [],_,_,c,o,h=>by simp [ZBA,ZAZ.at?] at h
 | p::ps,x,hn,0,o,h=>by
  simp only [ZBA,ZAZ.at?,List.getD_cons_zero] at h
  cases p with
  | dead=>cases h
  | cells e qs=>cases h;rfl
  | row t=>cases h;rfl
  | fro t=>simp [ZsS] at hn
  | dat e t=>cases h;rfl
  | map kt vt=>cases h;rfl
 | p::ps,x,hn,c+1,o,h=>by
  have hn':ZsS ps=true:=by cases p <;> first | exact hn | (simp [ZsS] at hn)
  exact Zrk (ps:=ps) (x:=x.2) hn' (c:=c) (by simpa [ZBA,ZAZ.at?] using h)
def Zeu (H:ZAZ):List Nat→Bool
 | []=>true
 | b::l=>(H.at? b).isSome&&Zeu H l
def Zev (H:ZAZ):List Nat→Bool
 | []=>true
 | b::l=>(match H.at? b with | some o=>o.isRow | none=>true)&&Zev H l
theorem Zhe {H:ZAZ} : ∀ {l:List Nat},Zeu H l=true → ∀ b∈l,b<H.length
 | [],_,b,h=>by cases h
 | a::l,hl,b,h=>by
  simp only [Zeu,Bool.and_eq_true] at hl
  rcases List.mem_cons.mp h with rfl | h
  · obtain ⟨o,ho⟩:=Option.isSome_iff_exists.mp hl.1;exact ZMK ho
  · exact Zhe hl.2 b h
theorem Zfk {H H':ZAZ} : ∀ {l:List Nat},(∀ b∈l,H'.at? b=H.at? b)→Zeu H' l=Zeu H l
 | [],_=>rfl
 | a::l,h=>by
  simp only [Zeu]
  rw [h a (by simp),Zfk (fun b hb=>h b (by simp [hb]))]
theorem Zfl {H H':ZAZ} : ∀ {l:List Nat},(∀ b∈l,H'.at? b=H.at? b)→Zev H' l=Zev H l
 | [],_=>rfl
 | a::l,h=>by
  simp only [Zev]
  rw [h a (by simp),Zfl (fun b hb=>h b (by simp [hb]))]
theorem ZnN {H:ZAZ} : ∀ {l:List Nat},Zev H l=true → ∀ b∈l,∀ o,H.at? b=some o→o.isRow=true
 | [],_,b,h=>by cases h
 | a::l,hl,b,h=>by
  simp only [Zev,Bool.and_eq_true] at hl
  rcases List.mem_cons.mp h with rfl | h
  · intro o ho;have:=hl.1;rw [ho] at this;exact this
  · exact ZnN hl.2 b h
def Ty.flat:Ty→Bool
 | .slice _=>false
 | .pair a b=>a.flat&&b.flat
 | _=>true
mutual
def Pat.free (p:Pat):Bool:=match p with
 | .rows _ _=>false
 | .pin _ _=>false
 | .dat t=>t.flat
 | .func _ a b=>Pat.frees a&&Pat.frees b
 | .iface _ p=>Pat.free p
 | .agg ps=>Pat.frees ps
 | .tuple ps=>Pat.frees ps
 | _=>true
termination_by structural p
def Pat.frees (ps:List Pat):Bool:=match ps with
 | []=>true
 | p::ps=>Pat.free p&&Pat.frees ps
termination_by structural ps
end
def HPat.free:HPat→Bool
 | .dead=>true
 | .cells _ ps=>Pat.frees ps
 | .row t=>t.flat
 | .fro t=>t.flat
 | .dat _ t=>t.flat
 | .map _ _=>true
def HPat.frees:List HPat→Bool
 | []=>true
 | p::ps=>p.free&&HPat.frees ps
mutual
def ZYI (p:PV):Bool:=match p with
 | .rows _ _ _=>false
 | .pin _ _ _=>false
 | .tab _ _=>false
 | .func _ f c=>ZMe f&&ZMe c
 | .iface _ x=>ZYI x
 | .agg cs=>ZMe cs
 | .tuple cs=>ZMe cs
 | _=>true
termination_by structural p
def ZMe (ps:List PV):Bool:=match ps with
 | []=>true
 | p::ps=>ZYI p&&ZMe ps
termination_by structural ps
end
theorem ZMe.append {a b:List PV} (h:ZMe a=true) (k:ZMe b=true):ZMe (a++b)=true:=by
 induction a with
 | nil=>exact k
 | cons p a ih=>simp only [ZMe,List.cons_append,Bool.and_eq_true] at h ⊢;exact ⟨h.1,ih h.2⟩
theorem ZYJ : ∀ {t:Ty} (x:t.den),t.flat=true→ZMe (cellsP t x)=true
 | .unit,_,_=>rfl
 | .int _,_,_=>rfl
 | .byt _,_,_=>rfl
 | .bool,_,_=>rfl
 | .str,_,_=>rfl
 | .pair a b,x,h=>by simp only [Ty.flat,Bool.and_eq_true] at h;exact ZMe.append (ZYJ x.1 h.1) (ZYJ x.2 h.2)
 | .slice _,_,h=>by cases h
mutual
theorem ZpY : ∀ (p:Pat) (x:ZvP p),p.free=true→ZYI (ZpJ p x)=true
 | .rows _ _,_,h=>by simp [Pat.free] at h
 | .pin _ _,_,h=>by simp [Pat.free] at h
 | .dat t,x,h=>by simp only [Pat.free] at h;simp only [ZpJ,ZYI];exact ZYJ x h
 | .func _ a b,x,h=>by simp only [Pat.free,Bool.and_eq_true] at h;simp only [ZpJ,ZYI,Bool.and_eq_true];exact ⟨ZPG a _ h.1,ZPG b _ h.2⟩
 | .iface _ p,x,h=>by simp only [Pat.free] at h;simp only [ZpJ,ZYI];exact ZpY p x h
 | .agg ps,x,h=>by simp only [Pat.free] at h;simp only [ZpJ,ZYI];exact ZPG ps x h
 | .tuple ps,x,h=>by simp only [Pat.free] at h;simp only [ZpJ,ZYI];exact ZPG ps x h
 | .any,_,_=>rfl
 | .undef,_,_=>rfl
 | .nilSlice,_,_=>rfl
 | .nilPtr,_,_=>rfl
 | .nilFunc,_,_=>rfl
 | .nilIface,_,_=>rfl
 | .intC _ _,_,_=>rfl
 | .boolC _,_,_=>rfl
 | .int _,_,_=>rfl
 | .bool,_,_=>rfl
 | .str,_,_=>rfl
 | .all _,_,_=>rfl
 | .sl _,_,_=>rfl
 | .cs _ _ _ _,_,_=>rfl
 | .ptr _ _,_,_=>rfl
 | .rptr _ _,_,_=>rfl
 | .emp,_,_=>rfl
 | .head _,_,_=>rfl
 | .nos _ _,_,_=>rfl
 | .mp _,_,_=>rfl
theorem ZPG : ∀ (ps:List Pat) (x:ZH1 ps),Pat.frees ps=true→ZMe (ZIt ps x)=true
 | [],_,_=>rfl
 | p::ps,x,h=>by simp only [Pat.frees,Bool.and_eq_true] at h;simp only [ZIt,ZMe,Bool.and_eq_true];exact ⟨ZpY p x.1 h.1,ZPG ps x.2 h.2⟩
end
theorem Ztb {ps:List PV} (h:ZMe ps=true):ZYI (Zs0 ps)=true:=by
 cases ps with
 | nil=>rfl
 | cons p ps=>cases ps with
  | nil=>simp only [ZMe,Bool.and_eq_true] at h;exact h.1
  | cons q ps=>exact h
def AO.freeB:AO→Bool
 | .cells _ cs=>ZMe cs
 | .row t _=>t.flat
 | .fro t _=>t.flat
 | .res=>true
 | .map _ _ _=>true
 | .mapF _ _ ps=>ZMe ps
theorem Zki : ∀ {ps:List HPat} {x:ZLQ ps},HPat.frees ps=true → ∀ {c:Nat} {o:AO},ZAZ.at? (ZBA ps x) c=some o→o.freeB=true
 | [],_,_,c,o,h=>by simp [ZBA,ZAZ.at?] at h
 | p::ps,x,hn,0,o,h=>by
  simp only [HPat.frees,Bool.and_eq_true] at hn
  simp only [ZBA,ZAZ.at?,List.getD_cons_zero] at h
  cases p with
  | dead=>cases h
  | cells e qs=>cases h;exact ZPG _ _ hn.1
  | row t=>cases h;exact hn.1
  | fro t=>cases h;exact hn.1
  | dat e t=>cases h;exact ZYJ _ hn.1
  | map kt vt=>cases h;rfl
 | p::ps,x,hn,c+1,o,h=>by
  simp only [HPat.frees,Bool.and_eq_true] at hn
  exact Zki (ps:=ps) (x:=x.2) hn.2 (c:=c) (by simpa [ZBA,ZAZ.at?] using h)
section
variable {ρ:Loc} {H:ZAZ} {w:World} {S S':Nat→Prop}
theorem ZkG : ∀ {t:Ty} {x:t.den} {vs:List Value},t.flat=true→Rep w S t x vs→Rep w S' t x vs
 | .unit,_,_,_,h=>h
 | .int _,_,_,_,h=>h
 | .byt _,_,_,_,h=>h
 | .bool,_,_,_,h=>h
 | .str,_,_,_,h=>h
 | .pair a b,_,_,hf,h=>by
  simp only [Ty.flat,Bool.and_eq_true] at hf
  obtain ⟨v1,v2,e,h1,h2⟩:=h
  exact ⟨v1,v2,e,ZkG hf.1 h1,ZkG hf.2 h2⟩
 | .slice _,_,_,hf,_=>by cases hf
mutual
theorem Zkj : ∀ {p:PV} {v:Value},ZYI p=true→ZAW ρ H w S p v→ZAW ρ H w S' p v
 | .rows _ _ _,_,hf,_=>by simp [ZYI] at hf
 | .pin _ _ _,_,hf,_=>by simp [ZYI] at hf
 | .tab _ _,_,hf,_=>by simp [ZYI] at hf
 | .func fn f c,v,hf,h=>by
  simp only [ZYI,Bool.and_eq_true] at hf
  simp only [ZAW] at h ⊢
  obtain ⟨f1,c1,e,h1,h2⟩:=h
  exact ⟨f1,c1,e,ZPH hf.1 h1,ZPH hf.2 h2⟩
 | .iface t x,v,hf,h=>by
  simp only [ZYI] at hf
  simp only [ZAW] at h ⊢
  obtain ⟨u,e,h1⟩:=h
  exact ⟨u,e,Zkj hf h1⟩
 | .agg cs,v,hf,h=>by
  simp only [ZYI] at hf
  simp only [ZAW] at h ⊢
  obtain ⟨u,e,h1⟩:=h
  exact ⟨u,e,ZPH hf h1⟩
 | .tuple cs,v,hf,h=>by
  simp only [ZYI] at hf
  simp only [ZAW] at h ⊢
  obtain ⟨u,e,h1⟩:=h
  exact ⟨u,e,ZPH hf h1⟩
 | .val _,_,_,h=>by simp only [ZAW] at h ⊢;exact h
 | .sl _ _ _,_,_,h=>by simp only [ZAW] at h ⊢;exact h
 | .all _,_,_,h=>by simp only [ZAW] at h ⊢;exact h
 | .cs _ _ _ _,_,_,h=>by simp only [ZAW] at h ⊢;exact h
 | .ptr _ _,_,_,h=>by simp only [ZAW] at h ⊢;exact h
 | .rptr _ _ _,_,_,h=>by simp only [ZAW] at h ⊢;exact h
 | .emp,_,_,h=>by simp only [ZAW] at h ⊢;exact h
 | .head _,_,_,h=>by simp only [ZAW] at h ⊢;exact h
 | .nos _ _,_,_,h=>by simp only [ZAW] at h ⊢;exact h
 | .mp _,_,_,h=>by simp only [ZAW] at h ⊢;exact h
 | .junk,_,_,_=>by simp only [ZAW]
theorem ZPH : ∀ {ps:List PV} {vs:List Value},ZMe ps=true→ZAQ ρ H w S ps vs→ZAQ ρ H w S' ps vs
 | [],_,_,h=>h
 | p::ps,vs,hf,h=>by
  simp only [ZMe,Bool.and_eq_true] at hf
  simp only [ZAQ] at h ⊢
  obtain ⟨u,us,e,h1,h2⟩:=h
  exact ⟨u,us,e,Zkj hf.1 h1,ZPH hf.2 h2⟩
end
theorem ZsT {b:Nat} {o:AO} (hf:o.freeB=true) (hn : ∀ blk n,ρ b=some (blk,n)→S' blk→S blk) (h:ZEj ρ H w S b o):ZEj ρ H w S' b o:=by
 cases o with
 | res=>exact h
 | map _ _ _=>exact h
 | mapF k l ps=>
  obtain ⟨blk,us,h1,h2,h3,h4⟩:=h
  exact ⟨blk,us,h1,h2,ZPH hf h3,h4⟩
 | cells e cs=>
  obtain ⟨blk,arr,fz,h1,h2,h3,h4⟩:=h
  exact ⟨blk,arr,fz,h1,h2,h3,ZPH hf h4⟩
 | row t l=>
  rcases h with ⟨blk,arr,elem,fz,h1,h2,h3,h4,h5⟩ | h
  ·
   refine .inl ⟨blk,arr,elem,fz,h1,h2,h3,fun i hi => ?_,h5⟩
   obtain ⟨vs,q1,q2⟩:=h4 i hi
   exact ⟨vs,ZkG hf q1,q2⟩
  · exact .inr h
 | fro t l=>
  rcases h with ⟨blk,arr,elem,fz,h1,h2,h3,h4,h5⟩ | h
  ·
   refine .inl ⟨blk,arr,elem,fz,h1,h2,fun hs=>h3 (hn _ _ h1 hs),fun i hi => ?_,h5⟩
   obtain ⟨vs,q1,q2⟩:=h4 i hi
   exact ⟨vs,ZkG hf q1,q2⟩
  · exact .inr h
end
def HCon.freeOut (c:HCon):Bool:=Pat.frees c.qa&&HPat.frees c.qH
def ZsU (c:HCon) (s:Sig):Sig:=bif c.freeOut then ⟨s.σ,[],s.Z⟩ else s
theorem ZnO {c:HCon} {s:Sig}:(ZsU c s).σ=s.σ:=by unfold ZsU;cases c.freeOut <;> rfl
theorem Zxu (c:HCon) (s:Sig) : ∀ b∈s.Z,b∈(ZsU c s).Z∨b∈(ZsU c s).R:=by
 intro b hb
 unfold ZsU
 cases c.freeOut with
 | true=>exact .inr hb
 | false=>exact .inl hb
theorem ZsV {c:HCon} (y:c.R) (h:c.freeOut=true):ZYI (Zs0 (ZIt c.qa (c.out y).1))=true ∧ ∀ c' o,ZAZ.at? (ZBA c.qH (c.out y).2) c'=some o→o.freeB=true:=by
 simp only [HCon.freeOut,Bool.and_eq_true] at h
 exact ⟨Ztb (ZPG _ _ h.1),fun c' o ho=>Zki h.2 ho⟩
def ZTC (c:HCon) (args:List PV) (H:ZAZ):Option ((ZH1 c.pa×ZLQ c.pH)×Sig) :=
 pms H c.pa args (Zwm 0 c.pH.length) fun x s=>ZjB H c.pH 0 s fun z s=>
  bif (s.fine c.pH&&ZNF (ZNE s.σ))&&ZsS c.pH&&Zeu H (ZNE s.σ)&&(c.freeOut||Zev H s.Z) then some ((x,z),ZsU c s) else none
def ZJV (s:Sig) (m n:Nat):Nat→Nat:=fun c=>(ZQC (ZmK s.σ m) n).getD c 0
def ZV1 (s:Sig) (H Hq:ZAZ):List (Nat×Option AO):=ZA3 H s.Z++ZFD (ZJV s Hq.length H.length) (ZmK s.σ Hq.length) Hq
def ZSI (s:Sig) (H Hq:ZAZ):List (Option AO):=ZfT (ZJV s Hq.length H.length) (ZmK s.σ Hq.length) Hq
theorem ZnP : ∀ (bs:List Nat) (H:ZAZ) (c:Nat),c∉bs→(Zff H bs).at? c=H.at? c
 | [],_,_,_=>rfl
 | b::bs,H,c,h=>by
  simp only [List.mem_cons,not_or] at h
  show (Zff (ZmQ H b) bs).at? c=_
  rw [ZnP bs _ c h.2]
  rcases ZtO H b c with h1 | ⟨_,_,e,_⟩
  · exact h1
  · exact absurd e.symm h.1
theorem Zql (bs:List Nat) (H:ZAZ):(Zff H bs).length=H.length:=by rw [← ZCm,ZCW]
theorem ZkH {θ:Nat→Nat} {o:Option AO} (h:ZNB θ o=some .res):o=some .res:=by
 cases o with
 | none=>cases h
 | some q=>cases q with
  | cells e cs=>simp only [ZNB] at h;cases h
  | mapF k l ps=>simp only [ZNB] at h;cases h
  | _=>exact h
theorem ZSJ {θ:Nat→Nat} {o:Option AO} {p:AO} (h:ZNB θ o=some p) : ∃ q,o=some q∧ZUx q p∧q.mutable=p.mutable:=by
 cases o with
 | none=>cases h
 | some q=>cases q with
  | cells e cs=>
   simp only [ZNB,Option.some.injEq] at h
   subst h
   exact ⟨_,rfl,.cells (Zet θ cs).symm,rfl⟩
  | row t l=>simp only [ZNB,Option.some.injEq] at h;subst h;exact ⟨_,rfl,ZUx.refl _,rfl⟩
  | fro t l=>simp only [ZNB,Option.some.injEq] at h;subst h;exact ⟨_,rfl,ZUx.refl _,rfl⟩
  | res=>simp only [ZNB,Option.some.injEq] at h;subst h;exact ⟨_,rfl,ZUx.refl _,rfl⟩
  | map _ _ _=>simp only [ZNB,Option.some.injEq] at h;subst h;exact ⟨_,rfl,ZUx.refl _,rfl⟩
  | mapF _ _ _=>simp only [ZNB,Option.some.injEq] at h;subst h;exact ⟨_,rfl,⟨rfl,rfl,rfl,fun _ _ e=>by cases e⟩,rfl⟩
section
variable {θ:Nat→Nat} {ρ ρ':Loc} {H H':ZAZ} {w:World} {S S':Nat→Prop}
theorem Zkk (k:RenOk θ ρ H w S ρ' H' S') {c:Nat} {o p:AO} (hr:ρ' (θ c)=ρ c) (ho:ZNB θ (some o)=some p) (h:ZEj ρ H w S c o):ZEj ρ' H' w S' (θ c) p:=by
 cases o with
 | res=>
  simp only [ZNB,Option.some.injEq] at ho
  subst ho
  exact hr.trans h
 | map _ _ _=>
  simp only [ZNB,Option.some.injEq] at ho
  subst ho
  obtain ⟨blk,h1,h2⟩:=h
  exact ⟨blk,hr.trans h1,h2⟩
 | mapF _ _ _=>
  simp only [ZNB,Option.some.injEq] at ho
  subst ho
  obtain ⟨blk,us,h1,h2,h3,h4⟩:=h
  exact ⟨blk,us,hr.trans h1,h2,ZU0 k h3,(Zet _ _).trans h4⟩
 | cells e cs=>
  simp only [ZNB,Option.some.injEq] at ho
  subst ho
  obtain ⟨blk,arr,fz,h1,h2,h3,h4⟩:=h
  exact ⟨blk,arr,fz,hr.trans h1,h2,h3,ZU0 k h4⟩
 | row t l=>
  simp only [ZNB,Option.some.injEq] at ho
  subst ho
  rcases h with ⟨blk,arr,elem,fz,h1,h2,h3,h4,h5⟩ | ⟨h1,h2⟩
  ·
   refine .inl ⟨blk,arr,elem,fz,hr.trans h1,h2,h3,fun i hi => ?_,h5⟩
   obtain ⟨vs,g1,g2⟩:=h4 i hi
   exact ⟨vs,g1.mono (Same.refl _ _) k.less,g2⟩
  · exact .inr ⟨hr.trans h1,h2⟩
 | fro t l=>
  simp only [ZNB,Option.some.injEq] at ho
  subst ho
  rcases h with ⟨blk,arr,elem,fz,h1,h2,h3,h4,h5⟩ | ⟨h1,h2⟩
  ·
   refine .inl ⟨blk,arr,elem,fz,hr.trans h1,h2,fun hs=>h3 (k.less _ (ZHC h2) hs),fun i hi => ?_,h5⟩
   obtain ⟨vs,g1,g2⟩:=h4 i hi
   exact ⟨vs,g1.mono (Same.refl _ _) k.less,g2⟩
  · exact .inr ⟨hr.trans h1,h2⟩
end
section
variable {g:Nat} {base:Base} {S0:Nat→Prop} {ρ:Loc} {H:ZAZ} {w:World} {S:Nat→Prop}
theorem Zkl (hg:Low g base S0) (hh:HRel base S0 ρ H w S) {c:HCon} {args:List PV} {vs:List Value} {x:ZH1 c.pa×ZLQ c.pH} {s:Sig} (hm:ZTC c args H=some (x,s)) (hargs:ZAQ ρ H w S args vs) :
  ∃ (B' S0':Nat→Prop) (ρ':Loc) (S':Nat→Prop),HRel ⟨B',c.pH.length,ρ',ZBA c.pH x.2⟩ S0' ρ' (ZBA c.pH x.2) w S'∧ZAQ ρ' (ZBA c.pH x.2) w S' (ZIt c.pa x.1) vs ∧
   Low g ⟨B',c.pH.length,ρ',ZBA c.pH x.2⟩ S0'∧((∀ b,base.B b→B' b) ∧ ∀ k,k<w.heap.size→(∀ b n,b∈ZNE s.σ→ρ b≠some (k,n))→B' k) ∧
   ∀ (w':World) (ρ2:Loc) (S2:Nat→Prop) (Hq:ZAZ) (p:PV) (v:Value),HRel ⟨B',c.pH.length,ρ',ZBA c.pH x.2⟩ S0' ρ2 Hq w' S2→Keeps B' w w'→ZAW ρ2 Hq w' S2 p v→(c.freeOut=true→ZYI p=true ∧ ∀ c' o,Hq.at? c'=some o→o.freeB=true) →
    ∃ ρn Sn,HRel base S0 ρn (ZA9 H (ZV1 s H Hq)++ZSI s H Hq) w' Sn∧Ext base ρ H w S ρn (ZA9 H (ZV1 s H Hq)++ZSI s H Hq) w' Sn ∧
     ZAW ρn (ZA9 H (ZV1 s H Hq)++ZSI s H Hq) w' Sn (ren (ZJV s Hq.length H.length) p) v:=by
 unfold ZTC at hm
 obtain ⟨x1,s1,h1,l1,t1⟩:=Zfj hh _ _ _ _ _ hm
 obtain ⟨x3,s3,h3,l3,t3⟩:=Zke hh _ _ _ _ _ h1
 obtain ⟨hchk,hxs⟩:=ZBJ h3
 simp only [Option.some.injEq,Prod.mk.injEq] at hxs
 obtain ⟨rfl,rfl⟩:=hxs
 simp only [Bool.and_eq_true,Sig.fine] at hchk
 obtain ⟨⟨⟨⟨⟨_,hz⟩,hd⟩,hnf⟩,hbel⟩,hrows0⟩:=hchk
 let Zf:=(ZsU c s3).Z
 have hZf:(c.freeOut=true∧Zf=[])∨(c.freeOut=false∧Zf=s3.Z):=by
  show (_∧(ZsU c s3).Z=[])∨(_∧(ZsU c s3).Z=s3.Z)
  unfold ZsU
  cases c.freeOut with
  | true=>exact .inl ⟨rfl,rfl⟩
  | false=>exact .inr ⟨rfl,rfl⟩
 have hrows : ∀ b∈Zf,∀ o,H.at? b=some o→o.isRow=true:=by
  rcases hZf with ⟨h1,h2⟩ | ⟨h1,h2⟩
  · rw [h2];intro b hb;cases hb
  ·
   rw [h2]
   rw [h1] at hrows0
   exact ZnN (by simpa using hrows0)
 have hσlen:s3.σ.length=c.pH.length:=by rw [l3.2.2,l1.2.2,Zes (Nat.zero_le _)]
 have hlenσ : ∀ c' z,s3.at c'=some z→c'<c.pH.length:=by
  intro c' z hz
  rcases Nat.lt_or_ge c' c.pH.length with h | h
  · exact h
  · simp [Sig.at,List.getD,List.getElem?_eq_none (by omega:s3.σ.length≤c')] at hz
 have breal : ∀ {c' b},s3.at c'=some (some b)→b<H.length:=fun h=>Zhe hbel _ (ZNG h)
 let H':=ZBA c.pH x3
 let ρ':Loc:=fun c'=>match s3.at c' with | some (some b)=>ρ b | _=>none
 let own':Nat→Prop:=fun k => ∃ c' o n,ZAZ.at? H' c'=some o∧o.mutable=true∧ρ' c'=some (k,n)
 let zblk:Nat→Prop:=fun k => ∃ b∈s3.Z,∃ o n,H.at? b=some o∧ρ b=some (k,n)
 let S0':Nat→Prop:=fun k=>S k ∧ ¬ own' k ∧ ¬ zblk k
 let B':Nat→Prop:=fun k=>k<w.heap.size ∧ ¬ own' k
 let S':Nat→Prop:=fun k=>S0' k∨own' k
 have hH'len:H'.length=c.pH.length:=ZSH _ _
 have nf : ∀ {c' o},H'.at? c'=some o→o.mutable=true:=fun h=>Zrk hnf h
 have blockAt : ∀ c' o',H'.at? c'=some o'→(s3.at c'=some none ∧ ∃ t,o' = .row t []) ∨
   ∃ b o,s3.at c'=some (some b)∧H.at? b=some o∧Kin o o'∧(o'.mutable=true→o.mutable=true) ∧
   ∀ (H':ZAZ) (ρ':Loc) (S':Nat→Prop),Good s3 H ρ w S H' ρ' S'→(o'.mutable=false → ∀ blk n,ρ b=some (blk,n) → ¬ S' blk)→ZEj ρ' H' w S' c' o':=by
  intro c' o' ho'
  have hlt:=ZMK ho'
  have:=(t3 s3 s3.le_refl c' (by rw [← hH'len];exact hlt)).2
  rw [Nat.zero_add] at this
  exact this o' ho'
 have inj : ∀ {c1 c2 b1 blk n1 n2 o1 o2 b2},s3.at c1=some (some b1)→s3.at c2=some (some b2)→H.at? b1=some o1→H.at? b2=some o2→ρ b1=some (blk,n1)→ρ b2=some (blk,n2)→c1=c2:=by
  intro c1 c2 b1 blk n1 n2 o1 o2 b2 q1 q2 q3 q4 q5 q6
  have:=hh.inj _ _ _ _ _ _ _ q3 q4 q5 q6
  subst this
  exact Zeq hd q1 q2
 have ownE : ∀ {k},own' k → ∃ c' b o n,s3.at c'=some (some b)∧H.at? b=some o∧o.mutable=true∧ρ b=some (k,n) ∧ ∃ o',H'.at? c'=some o':=by
  rintro k ⟨c',o',n,q1,q2,q3⟩
  rcases blockAt c' o' q1 with ⟨e1,t,rfl⟩ | ⟨b,o,e1,e2,e3,e4,_⟩
  · simp only [ρ',e1] at q3;cases q3
  ·
   simp only [ρ',e1] at q3
   exact ⟨c',b,o,n,e1,e2,e4 q2,q3,o',q1⟩
 have ownS : ∀ {k},own' k→S k:=by
  intro k hk
  obtain ⟨c',b,o,n,e1,e2,e3,e4,_⟩:=ownE hk
  exact (hh.own k).mpr (.inr ⟨b,o,n,e2,e3,e4⟩)
 have ownB : ∀ {k},own' k → ¬ base.B k:=by
  intro k hk
  obtain ⟨c',b,o,n,e1,e2,e3,e4,_⟩:=ownE hk
  exact (hh.from_ _ _ _ _ e2 e4).1
 have zown : ∀ {k},zblk k → ¬ own' k:=by
  rintro k ⟨b,hb,o,n,q1,q2⟩ ⟨c',o',n',q3,q4,q5⟩
  rcases blockAt c' o' q3 with ⟨e1,t,rfl⟩ | ⟨b',o2,e1,e2,e3,e4,_⟩
  · simp only [ρ',e1] at q5;cases q5
  ·
   simp only [ρ',e1] at q5
   obtain rfl:=hh.inj _ _ _ _ _ _ _ q1 e2 q2 q5
   exact Zkc hz b hb (ZoC q3 q4 e1)
 have less' : ∀ k,S' k→S k:=fun k hk=>by rcases hk with hk | hk;exact hk.1;exact ownS hk
 have good:Good s3 H ρ w S H' ρ' S':=by
  refine ⟨fun c' b hb=>⟨?_,?_,fun o' ho' => ?_⟩,fun c' hc'=>⟨?_,fun o' ho' => ?_⟩,fun b hb o blk n ho hr => ?_,fun b _ hb=>less' b hb,fun c hc=>ZH2 (hσlen ▸ hc)⟩
  · exact ZH2 (hlenσ _ _ hb)
  · simp only [ρ',hb]
  ·
   rcases blockAt c' o' ho' with ⟨e1,_⟩ | ⟨b',o,e1,e2,e3,_⟩
   · rw [e1] at hb;cases hb
   ·
    rw [e1] at hb;cases hb
    exact ⟨o,e2,e3⟩
  · exact ZH2 (hlenσ _ _ hc')
  ·
   rcases blockAt c' o' ho' with ⟨e1,t,rfl⟩ | ⟨b',o,e1,_⟩
   · exact ⟨rfl,rfl⟩
   · rw [e1] at hc';cases hc'
  ·
   have hzb:zblk blk:=⟨b,hb,o,n,ho,hr⟩
   rintro (hs | hs)
   · exact hs.2.2 hzb
   · exact zown hzb hs
 have hh':HRel ⟨B',c.pH.length,ρ',H'⟩ S0' ρ' H' w S':=by
  refine ⟨⟨fun b hb=>hb.1,by show c.pH.length≤H'.length;rw [hH'len];exact Nat.le_refl _,fun _ _=>rfl,fun b _ o' ho'=>⟨o',ho',ZUx.refl _⟩,fun b hb=>ZH2 hb⟩,fun b hb=>⟨hh.lt b hb.1,hb.2.1⟩,fun _=>Iff.rfl,fun c' o' blk n q1 q3 => ?_,fun c1 c2 o1 o2 blk n1 n2 q1 q2 q3 q4 => ?_,fun c' o' q1 => ?_⟩
  ·
   have ho:own' blk:=⟨c',o',n,q1,nf q1,q3⟩
   exact ⟨fun hb=>hb.2 ho,hh.lt _ (ownS ho)⟩
  ·
   rcases blockAt c1 o1 q1 with ⟨e1,t,rfl⟩ | ⟨b1,p1,e1,e2,_⟩
   · simp only [ρ',e1] at q3;cases q3
   ·
    rcases blockAt c2 o2 q2 with ⟨f1,t,rfl⟩ | ⟨b2,p2,f1,f2,_⟩
    · simp only [ρ',f1] at q4;cases q4
    ·
     simp only [ρ',e1] at q3
     simp only [ρ',f1] at q4
     exact inj e1 f1 e2 f2 q3 q4
  ·
   rcases blockAt c' o' q1 with ⟨e1,t,rfl⟩ | ⟨b',o2,e1,e2,e3,e4,e5⟩
   · exact .inr ⟨by simp only [ρ',e1],rfl⟩
   · exact e5 H' ρ' S' good (fun hm=>by rw [nf q1] at hm;cases hm)
 refine ⟨B',S0',ρ',S',hh',t1.le l3 H' ρ' S' good _ hargs,⟨fun b hb=>⟨hh.base_le.lt b (hg.1 b hb),fun ho => ?_⟩,fun b hb=>hg.all hh b hb.1⟩,⟨fun b hb=>⟨hh.base_le.lt b hb,fun ho => ?_⟩,fun k hk hne=>⟨hk,fun ho => ?_⟩⟩,?_⟩
 · exact ownB ho (hg.1 b hb)
 · exact ownB ho hb
 ·
  obtain ⟨c',b,o,n,h1,_,_,h4,_⟩:=ownE ho
  exact hne b n (by rw [ZnO];exact ZNG h1) h4
 intro w' ρ2 S2 Hq p v h2 hk hp hfree
 have hm0:c.pH.length≤Hq.length:=h2.base_le.len
 have eθ:ZJV (ZsU c s3)=ZJV s3:=by unfold ZJV;rw [ZnO]
 have ehe:ZV1 (ZsU c s3) H Hq=ZA3 H Zf++ZFD (ZJV s3 Hq.length H.length) (ZmK s3.σ Hq.length) Hq:=by unfold ZV1;rw [ZnO,eθ]
 have eha:ZSI (ZsU c s3) H Hq=ZSI s3 H Hq:=by unfold ZSI;rw [ZnO,eθ]
 rw [eθ,ehe,eha]
 let rl:=ZmK s3.σ Hq.length
 let θ:=ZJV s3 Hq.length H.length
 let E:List (Nat×Option AO):=ZA3 H Zf++ZFD θ rl Hq
 let Hn:=ZA9 H E++ZSI s3 H Hq
 have hrl:rl.length=Hq.length:=ZTB _ _
 have rlget : ∀ {c' b},rl[c']? = some (some b)↔c'<Hq.length∧s3.at c'=some (some b):=Zcx _ _ _ _
 have realLt : ∀ {c' b},s3.at c'=some (some b)→c'<Hq.length:=fun h=>Nat.lt_of_lt_of_le (hlenσ _ _ h) hm0
 have thReal : ∀ {c' b},s3.at c'=some (some b)→θ c'=b:=by
  intro c' b h
  have:=Zhc rl H.length c' b (rlget.mpr ⟨realLt h,h⟩)
  show (ZQC rl H.length).getD c' 0=b
  rw [List.getD,this];rfl
 have thNew : ∀ {c'},c'<Hq.length→(∀ b,s3.at c'≠some (some b)) → ∃ k,θ c'=H.length+k∧(ZSI s3 H Hq)[k]? = some (ZNB θ (Hq.at? c'))∧(Zsz rl 0)[k]? = some c':=by
  intro c' hc hn
  have hno:rl[c']? = some none:=by
   cases e:rl[c']? with
   | none=>rw [List.getElem?_eq_none_iff] at e;omega
   | some y=>cases y with
    | none=>rfl
    | some b=>exact absurd (rlget.mp e).2 (hn b)
  obtain ⟨k,q1,q2,q3⟩:=Zkh θ rl Hq H.length 0 c' hrl.symm hno
  refine ⟨k,?_,q2,by simpa using q3⟩
  show (ZQC rl H.length).getD c' 0=_
  rw [List.getD,q1];rfl
 have lenF:(ZA9 H E).length=H.length:=ZCW _ _
 have hHn:Hn.length=H.length+(ZSI s3 H Hq).length:=by show (ZA9 H E++ZSI s3 H Hq).length=_;simp [lenF]
 have hset:ZA9 H E=ZA9 (Zff H Zf) (ZFD θ rl Hq):=by
  show ZA9 H (ZA3 H Zf++ZFD θ rl Hq)=_
  rw [ZWy,ZCm]
 have atOld : ∀ {b},b<H.length→Hn.at? b=(ZA9 (Zff H Zf) (ZFD θ rl Hq)).at? b:=by
  intro b hb
  show (ZA9 H E++ZSI s3 H Hq).at? b=_
  rw [← hset]
  simp [ZAZ.at?,List.getD,List.getElem?_append_left (show b<(ZA9 H E).length by rw [lenF];exact hb)]
 have atReal : ∀ {c' b},s3.at c'=some (some b)→Hn.at? b=ZNB θ (Hq.at? c'):=by
  intro c' b h
  rw [atOld (breal h)]
  refine ZnM _ _ _ _ (by rw [Zql];exact breal h) (Zhd θ rl Hq c' b hrl.symm (rlget.mpr ⟨realLt h,h⟩)) (fun o' ho' => ?_)
  obtain ⟨c2,q1,q2⟩:=Zcy θ rl Hq b o' ho'
  rw [Zeq hd h (rlget.mp q1).2]
  exact q2
 have atNew : ∀ {c'},c'<Hq.length→(∀ b,s3.at c'≠some (some b))→θ c'<Hn.length∧H.length≤θ c'∧Hn.at? (θ c')=ZNB θ (Hq.at? c'):=by
  intro c' hc hn
  obtain ⟨k,q1,q2,_⟩:=thNew hc hn
  have hk:k<(ZSI s3 H Hq).length:=by
   rcases Nat.lt_or_ge k (ZSI s3 H Hq).length with h | h
   · exact h
   · rw [List.getElem?_eq_none h] at q2;cases q2
  refine ⟨by rw [hHn,q1];omega,by rw [q1];omega,?_⟩
  show (ZA9 H E++ZSI s3 H Hq).getD (θ c') none=_
  rw [q1,List.getD,List.getElem?_append_right (by rw [lenF];omega),lenF,show H.length+k - H.length=k by omega,q2]
  rfl
 let ρn:Loc:=fun b=>if b<H.length then ρ b else match (Zsz rl 0)[b - H.length]? with | some c'=>ρ2 c' | none=>none
 have ρreal : ∀ {c' b},s3.at c'=some (some b)→ρ2 c'=ρ b:=by
  intro c' b h
  have:=h2.base_le.fix c' (hlenσ _ _ h)
  rw [this]
  show ρ' c'=ρ b
  simp only [ρ',h]
 have ρθ : ∀ {c'},c'<Hq.length→ρn (θ c')=ρ2 c':=by
  intro c' hc
  by_cases hr : ∃ b,s3.at c'=some (some b)
  ·
   obtain ⟨b,hb⟩:=hr
   rw [thReal hb]
   simp only [ρn,if_pos (breal hb),ρreal hb]
  ·
   have hn : ∀ b,s3.at c'≠some (some b):=fun b hb=>hr ⟨b,hb⟩
   obtain ⟨k,q1,_,q3⟩:=thNew hc hn
   simp only [ρn,q1,if_neg (show ¬ H.length+k<H.length by omega),show H.length+k - H.length=k by omega,q3]
 have cls : ∀ {b o},Hn.at? b=some o→(∃ c' o2,c'<Hq.length∧b=θ c'∧Hq.at? c'=some o2∧ZNB θ (some o2)=some o) ∨
   (b<H.length∧(∀ c',s3.at c'≠some (some b))∧(Zff H Zf).at? b=some o):=by
  intro b o hb
  have hlt:=ZMK hb
  by_cases hr : ∃ c',s3.at c'=some (some b)
  ·
   obtain ⟨c',hc'⟩:=hr
   have:=(atReal hc').symm.trans hb
   obtain ⟨q,hq,_⟩:=ZSJ this
   exact .inl ⟨c',q,realLt hc',(thReal hc').symm,hq,by rw [← hq];exact this⟩
  ·
   have hr' : ∀ c',s3.at c'≠some (some b):=fun c' h=>hr ⟨c',h⟩
   rcases Nat.lt_or_ge b H.length with hbl | hbl
   ·
    refine .inr ⟨hbl,hr',?_⟩
    rw [atOld hbl,ZF0] at hb
    · exact hb
    ·
     intro hm
     obtain ⟨⟨b',o'⟩,q1,q2⟩:=List.mem_map.mp hm
     simp only at q2
     subst q2
     obtain ⟨c2,q3,_⟩:=Zcy θ rl Hq b' o' q1
     exact hr' c2 (rlget.mp q3).2
   ·
    left
    obtain ⟨c',q1,q2,q3,q4⟩:=ZoE θ rl Hq H.length 0 (b - H.length) hrl.symm (by
     rw [hHn] at hlt
     show b - H.length<(ZSI s3 H Hq).length
     omega)
    have hc':c'<Hq.length:=by
     rcases Nat.lt_or_ge c' Hq.length with h | h
     · exact h
     · rw [List.getElem?_eq_none (by omega)] at q1;cases q1
    have hθ:θ c'=b:=by
     show (ZQC rl H.length).getD c' 0=b
     rw [List.getD,q2]
     simp only [Option.getD_some];omega
    have hn : ∀ b',s3.at c'≠some (some b'):=fun b' h=>by
     rw [rlget.mpr ⟨hc',h⟩] at q1;cases q1
    have:=((atNew hc' hn).2.2).symm.trans (hθ ▸ hb)
    obtain ⟨q,hq,_⟩:=ZSJ this
    exact ⟨c',q,hc',hθ.symm,hq,by rw [← hq];exact this⟩
 have oldF : ∀ {b o},b<H.length→(Zff H Zf).at? b=some o→(H.at? b=some o∧(b∈Zf→o.mutable=false))∨(b∈Zf ∧ ∃ t l,H.at? b=some (.row t l)∧o = .fro t l):=by
  intro b o hbl hb
  by_cases hz':b∈Zf
  ·
   rcases Zn9 Zf H b with ⟨q1,q2⟩ | ⟨t,l,q1,q2⟩
   ·
    rw [q1] at hb
    refine .inl ⟨hb,fun _ => ?_⟩
    have hrow:=hrows b hz' o hb
    cases o with
    | cells _ _=>cases hrow
    | res=>cases hrow
    | map _ _ _=>cases hrow
    | mapF _ _ _=>cases hrow
    | row t l=>exact absurd hb (q2 hz' t l)
    | fro t l=>rfl
   ·
    rw [q2] at hb;cases hb
    exact .inr ⟨hz',t,l,q1,rfl⟩
  ·
   rw [ZnP _ _ _ hz'] at hb
   exact .inl ⟨hb,fun h=>absurd h hz'⟩
 have oldO : ∀ {b o},b<H.length→(Zff H Zf).at? b=some o → ∃ o1,H.at? b=some o1∧ZUx o1 o:=by
  intro b o hbl hb
  rcases oldF hbl hb with ⟨q,_⟩ | ⟨_,t,l,q1,rfl⟩
  · exact ⟨o,q,ZUx.refl _⟩
  · exact ⟨_,q1,.freeze rfl⟩
 have oldB : ∀ {b o1 blk n},(∀ c',s3.at c'≠some (some b))→H.at? b=some o1→ρ b=some (blk,n)→B' blk:=by
  intro b o1 blk n hr ho hρ
  refine ⟨(hh.from_ _ _ _ _ ho hρ).2,fun hown => ?_⟩
  obtain ⟨c',b',o',n',e1,e2,e3,e4,_⟩:=ownE hown
  obtain rfl:=hh.inj _ _ _ _ _ _ _ ho e2 hρ e4
  exact hr c' e1
 let Sn:Nat→Prop:=fun k=>S0 k ∨ ∃ b o n,ZAZ.at? Hn b=some o∧o.mutable=true∧ρn b=some (k,n)
 have lessN : ∀ k,Sn k→S2 k∨(c.freeOut=true∧zblk k):=by
  rintro k (h0 | ⟨b,o,n,q1,q2,q3⟩)
  ·
   have hSk:S k:=(hh.own k).mpr (.inl h0)
   refine .inl ((h2.own k).mpr (.inl ⟨hSk,fun ho=>ownB ho (hh.outer k h0),?_⟩))
   rintro ⟨b,_,o,n,r1,r2⟩
   exact (hh.from_ _ _ _ _ r1 r2).1 (hh.outer k h0)
  ·
   rcases cls q1 with ⟨c',o2,hc',rfl,r1,r2⟩ | ⟨hbl,hr,r1⟩
   ·
    rw [ρθ hc'] at q3
    obtain ⟨q,hq,_,hmut⟩:=ZSJ r2
    cases hq
    exact .inl ((h2.own k).mpr (.inr ⟨c',o2,n,r1,hmut.trans q2,q3⟩))
   ·
    simp only [ρn,if_pos hbl] at q3
    rcases oldF hbl r1 with ⟨p1,p2⟩ | ⟨_,t,l,_,rfl⟩
    ·
     by_cases hzk:zblk k
     ·
      rcases hZf with ⟨f1,_⟩ | ⟨_,f2⟩
      · exact .inr ⟨f1,hzk⟩
      ·
       obtain ⟨b',hb',o',n',r3,r4⟩:=hzk
       obtain rfl:=hh.inj _ _ _ _ _ _ _ p1 r3 q3 r4
       rw [p2 (by rw [f2];exact hb')] at q2;cases q2
     · exact .inl ((h2.own k).mpr (.inl ⟨(hh.own k).mpr (.inr ⟨b,o,n,p1,q2,q3⟩),(oldB hr p1 q3).2,hzk⟩))
    · cases q2
 have hx:Ext base ρ H w S ρn Hn w' Sn:=by
  refine ⟨⟨by rw [hHn];omega,fun b hb=>⟨⟨by have:=hb.lt;rw [hHn];omega,fun er => ?_⟩,fun o' ho' => ?_⟩⟩,⟨fun b hb=>by simp only [ρn,if_pos hb.lt]⟩,⟨hk.low.size,fun b hb hs=>hk.block b ⟨hb,fun ho=>hs (ownS ho)⟩⟩,fun b hb hs => ?_,⟨hk.low,fun k hk'=>hk.block k ⟨hh.base_le.lt k hk',fun ho=>ownB ho hk'⟩⟩⟩
  ·
   by_cases hr : ∃ c',s3.at c'=some (some b)
   ·
    obtain ⟨c',hc'⟩:=hr
    exact (h2.base_le.known c' (hlenσ _ _ hc')).2 (ZkH ((atReal hc').symm.trans er))
   ·
    have hr' : ∀ c',s3.at c'≠some (some b):=fun c' h=>hr ⟨c',h⟩
    rcases cls er with ⟨c',o2,hc',rfl,r1,r2⟩ | ⟨_,_,r1⟩
    ·
     by_cases hr2 : ∃ b',s3.at c'=some (some b')
     ·
      obtain ⟨b',hb'⟩:=hr2
      rw [thReal hb'] at hr'
      exact hr' c' hb'
     ·
      have:=(atNew hc' (fun b' h=>hr2 ⟨b',h⟩)).2.1
      have:=hb.lt
      omega
    ·
     rcases oldF hb.lt r1 with ⟨q,_⟩ | ⟨_,_,_,_,e⟩
     · exact hb.2 q
     · cases e
  ·
   by_cases hr : ∃ c',s3.at c'=some (some b)
   ·
    obtain ⟨c',hc'⟩:=hr
    have:=(atReal hc').symm.trans ho'
    obtain ⟨q,hq,hf,_⟩:=ZSJ this
    obtain ⟨o1,r1,r2⟩:=h2.base_le.fits c' (hlenσ _ _ hc') q hq
    rcases blockAt c' o1 r1 with ⟨e1,_⟩ | ⟨b',o,e1,e2,e3,_⟩
    · rw [hc'] at e1;cases e1
    ·
     rw [hc'] at e1;cases e1
     exact ⟨o,e2,(ZUx.trans e3 r2).trans hf⟩
   ·
    have hr' : ∀ c',s3.at c'≠some (some b):=fun c' h=>hr ⟨c',h⟩
    rcases cls ho' with ⟨c',o2,hc',rfl,r1,r2⟩ | ⟨_,_,r1⟩
    ·
     exfalso
     by_cases hr2 : ∃ b',s3.at c'=some (some b')
     ·
      obtain ⟨b',hb'⟩:=hr2
      rw [thReal hb'] at hr'
      exact hr' c' hb'
     ·
      have:=(atNew hc' (fun b' h=>hr2 ⟨b',h⟩)).2.1
      have:=hb.lt
      omega
    · exact oldO hb.lt r1
  ·
   rcases lessN b hs with hs2 | ⟨_,hzb⟩
   ·
    rcases (h2.own b).mp hs2 with h0 | ⟨c',o,n,q1,q2,q3⟩
    · exact h0.1
    ·
     have:=(h2.from_ _ _ _ _ q1 q3).1
     by_cases ho:own' b
     · exact ownS ho
     · exact absurd ⟨hb,ho⟩ this
   ·
    rcases hs with h0 | ⟨b1,o1,n1,q1,q2,q3⟩
    · exact (hh.own b).mpr (.inl h0)
    ·
     rcases cls q1 with ⟨c',o2,hc',rfl,r1,r2⟩ | ⟨hbl,hr,r1⟩
     ·
      rw [ρθ hc'] at q3
      exact absurd ⟨hb,zown hzb⟩ (h2.from_ _ _ _ _ r1 q3).1
     ·
      simp only [ρn,if_pos hbl] at q3
      rcases oldF hbl r1 with ⟨p1,_⟩ | ⟨_,t,l,_,rfl⟩
      · exact (hh.own b).mpr (.inr ⟨b1,o1,n1,p1,q2,q3⟩)
      · cases q2
 have kreal : ∀ c',ZMz Hq c'→ZMz Hn (θ c')∧ρn (θ c')=ρ2 c' ∧ ∀ o',Hn.at? (θ c')=some o' → ∃ o,Hq.at? c'=some o∧ZUx o o':=by
  intro c' hc'
  by_cases hr : ∃ b,s3.at c'=some (some b)
  ·
   obtain ⟨b,hb⟩:=hr
   refine ⟨⟨by rw [thReal hb,hHn];have:=breal hb;omega,fun er => ?_⟩,ρθ hc'.lt,fun o' ho' => ?_⟩
   ·
    rw [thReal hb,atReal hb] at er
    exact hc'.2 (ZkH er)
   rw [thReal hb,atReal hb] at ho'
   obtain ⟨q,hq,hf,_⟩:=ZSJ ho'
   exact ⟨q,hq,hf⟩
  ·
   obtain ⟨q1,q2,q3⟩:=atNew hc'.lt (fun b h=>hr ⟨b,h⟩)
   refine ⟨⟨q1,fun er=>hc'.2 (ZkH (q3 ▸ er))⟩,ρθ hc'.lt,fun o' ho' => ?_⟩
   rw [q3] at ho'
   obtain ⟨q,hq,hf,_⟩:=ZSJ ho'
   exact ⟨q,hq,hf⟩
 have hres:ZAW ρn Hn w' Sn (ren θ p) v:=by
  rcases hZf with ⟨f1,_⟩ | ⟨f1,_⟩
  · exact ZoD ⟨kreal,fun _ _ h=>h⟩ (Zkj (hfree f1).1 hp)
  ·
   refine ZoD ⟨kreal,fun b _ hs => ?_⟩ hp
   rcases lessN b hs with h | ⟨h,_⟩
   · exact h
   · rw [f1] at h;cases h
 have hblk : ∀ {c' o2 o},c'<Hq.length→Hq.at? c'=some o2→ZNB θ (some o2)=some o→ZEj ρn Hn w' Sn (θ c') o:=by
  intro c' o2 o hc' r1 r2
  rcases hZf with ⟨f1,_⟩ | ⟨f1,_⟩
  ·
   refine Zkk ⟨kreal,fun _ _ h=>h⟩ (ρθ hc') r2 (ZsT ((hfree f1).2 c' o2 r1) (fun blk n hr hs => ?_) (h2.block c' o2 r1))
   rcases lessN blk hs with h | ⟨_,hzb⟩
   · exact h
   ·
    have hf:=h2.from_ _ _ _ _ r1 hr
    refine absurd ⟨?_,zown hzb⟩ hf.1
    obtain ⟨b,_,o,n',q1,q2⟩:=hzb
    exact (hh.from_ _ _ _ _ q1 q2).2
  ·
   refine Zkk ⟨kreal,fun b _ hs => ?_⟩ (ρθ hc') r2 (h2.block c' o2 r1)
   rcases lessN b hs with h | ⟨h,_⟩
   · exact h
   · rw [f1] at h;cases h
 refine ⟨ρn,Sn,⟨hh.base_le.ext hx,hh.outer,fun _=>Iff.rfl,fun b o blk n q1 q3 => ?_,fun b1 b2 o1 o2 blk n1 n2 q1 q2 q3 q4 => ?_,fun b o q1 => ?_⟩,hx,hres⟩
 ·
  rcases cls q1 with ⟨c',o2,hc',rfl,r1,r2⟩ | ⟨hbl,hr,r1⟩
  ·
   rw [ρθ hc'] at q3
   have:=h2.from_ _ _ _ _ r1 q3
   exact ⟨fun hb=>this.1 ⟨hh.base_le.lt _ hb,fun ho=>ownB ho hb⟩,this.2⟩
  ·
   simp only [ρn,if_pos hbl] at q3
   obtain ⟨o1,r2,_⟩:=oldO hbl r1
   have:=hh.from_ _ _ _ _ r2 q3
   exact ⟨this.1,Nat.lt_of_lt_of_le this.2 hk.low.size⟩
 ·
  rcases cls q1 with ⟨c1,p1,hc1,rfl,r1,r2⟩ | ⟨hb1,hr1,r1⟩
  ·
   rw [ρθ hc1] at q3
   rcases cls q2 with ⟨c2,p2,hc2,rfl,r3,r4⟩ | ⟨hb2,hr2,r3⟩
   ·
    rw [ρθ hc2] at q4
    rw [h2.inj _ _ _ _ _ _ _ r1 r3 q3 q4]
   ·
    simp only [ρn,if_pos hb2] at q4
    obtain ⟨o1,r5,_⟩:=oldO hb2 r3
    exact absurd (oldB hr2 r5 q4) (h2.from_ _ _ _ _ r1 q3).1
  ·
   simp only [ρn,if_pos hb1] at q3
   obtain ⟨o1',r5,_⟩:=oldO hb1 r1
   rcases cls q2 with ⟨c2,p2,hc2,rfl,r3,r4⟩ | ⟨hb2,hr2,r3⟩
   ·
    rw [ρθ hc2] at q4
    exact absurd (oldB hr1 r5 q3) (h2.from_ _ _ _ _ r3 q4).1
   ·
    simp only [ρn,if_pos hb2] at q4
    obtain ⟨o2',r6,_⟩:=oldO hb2 r3
    exact hh.inj _ _ _ _ _ _ _ r5 r6 q3 q4
 ·
  rcases cls q1 with ⟨c',o2,hc',rfl,r1,r2⟩ | ⟨hbl,hr,r1⟩
  · exact hblk hc' r1 r2
  ·
   rcases oldF hbl r1 with ⟨p1,p2⟩ | ⟨hz',t,l,p1,rfl⟩
   · exact (hh.block b o p1).mono hx.hH hx.hr hx.hw hx.hS (by simp only [ρn,if_pos hbl]) (fun blk n hρ=>hk.block blk (oldB hr p1 hρ))
   ·
    have:=(hh.block b _ p1).mono hx.hH hx.hr hx.hw hx.hS (by simp only [ρn,if_pos hbl]) (fun blk n hρ=>hk.block blk (oldB hr p1 hρ))
    rcases this with ⟨blk,arr,elem,fz,k1,k2,k3,k4,k5⟩ | k
    ·
     refine .inl ⟨blk,arr,elem,fz,k1,k2,fun hs => ?_,k4,k5⟩
     simp only [ρn,if_pos hbl] at k1
     rcases hZf with ⟨_,f2⟩ | ⟨f1,f2⟩
     · rw [f2] at hz';cases hz'
     rcases lessN blk hs with hs2 | ⟨h,_⟩
     ·
      rcases (h2.own blk).mp hs2 with h0 | ⟨c',o,n,q5,q6,q7⟩
      · exact h0.2.2 ⟨b,f2 ▸ hz',_,_,p1,k1⟩
      · exact (h2.from_ _ _ _ _ q5 q7).1 (oldB hr p1 k1)
     · rw [f1] at h;cases h
    · exact .inr k
end
section
variable {β:Type u} {H:ZAZ}
def PmL (H:ZAZ) (p:Pat) (v:PV) (s:Sig) (x:ZvP p) (s':Sig):Prop :=
 s.le s' ∧ ∀ (β:Type) (H':ZAZ) (k':ZvP p→Sig→Option β),(∀ b∈s'.Z,H'.at? b=H.at? b)→pm H' p v s k'=k' x s'
def Z0D (H:ZAZ) (ps:List Pat) (vs:List PV) (s:Sig) (x:ZH1 ps) (s':Sig):Prop :=
 s.le s' ∧ ∀ (β:Type) (H':ZAZ) (k':ZH1 ps→Sig→Option β),(∀ b∈s'.Z,H'.at? b=H.at? b)→pms H' ps vs s k'=k' x s'
theorem ZTD {H H':ZAZ} {t:Ty} {b:Nat} (h:H'.at? b=H.at? b):ZjA t H' b=ZjA t H b:=by unfold ZjA;rw [h]
theorem ZsW {H H':ZAZ} : ∀ {t:Ty} {ps:List PV} {y:t.den×List PV} {zs:List Nat},(∀ c∈zs,H'.at? c=H.at? c)→ZtR H t ps=some (y,zs)→ZtR H' t ps=some (y,zs):=by
 intro t
 induction t with
 | unit=>intro ps y zs _ h;exact h
 | int k=>intro ps y zs _ h;exact h
 | byt e=>intro ps y zs _ h;exact h
 | bool=>intro ps y zs _ h;exact h
 | str=>intro ps y zs _ h;exact h
 | pair a b iha ihb=>
  intro ps y zs hz h
  simp only [ZtR] at h ⊢
  split at h
  ·
   rename_i x1 r1 z1 h1
   split at h
   ·
    rename_i x2 r2 z2 h2
    simp only [Option.some.injEq,Prod.mk.injEq] at h
    obtain ⟨rfl,rfl⟩:=h
    rw [iha (fun c hc=>hz c (List.mem_append_left _ hc)) h1]
    simp only
    rw [ihb (fun c hc=>hz c (List.mem_append_right _ hc)) h2]
   · cases h
  · cases h
 | slice t _=>
  intro ps y zs hz h
  simp only [ZtR] at h ⊢
  split at h
  ·
   rename_i b r
   split at h
   ·
    rename_i l hl
    simp only [Option.some.injEq,Prod.mk.injEq] at h
    obtain ⟨rfl,rfl⟩:=h
    simp only [ZTD (hz b (by simp)),hl]
   · cases h
  ·
   rename_i b off len r
   split at h
   ·
    rename_i l hl
    simp only [Option.some.injEq,Prod.mk.injEq] at h
    obtain ⟨rfl,rfl⟩:=h
    simp only [ZTD (hz b (by simp)),hl]
   · cases h
  · exact h
mutual
theorem ZoG : ∀ (p:Pat) (v:PV) (s:Sig) (k:ZvP p→Sig→Option β) (y:β),pm H p v s k=some y → ∃ x s',k x s'=some y∧PmL H p v s x s'
 | .any,v,s,k,y,h=>⟨(),s,h,s.le_refl,fun _ _ _ _=>by simp only [pm]⟩
 | .undef,v,s,k,y,h=>by
  simp only [pm] at h
  split at h
  ·
   split at h
   ·
    rename_i x us _ hu
    exact ⟨(),s,h,s.le_refl,fun _ _ _ _=>by simp only [pm,hu]⟩
   · cases h
  · cases h
 | .nilSlice,v,s,k,y,h=>by
  simp only [pm] at h
  split at h
  · exact ⟨(),s,h,s.le_refl,fun _ _ _ _=>by simp only [pm]⟩
  · cases h
 | .nilPtr,v,s,k,y,h=>by
  simp only [pm] at h
  split at h
  · exact ⟨(),s,h,s.le_refl,fun _ _ _ _=>by simp only [pm]⟩
  · cases h
 | .nilFunc,v,s,k,y,h=>by
  simp only [pm] at h
  split at h
  · exact ⟨(),s,h,s.le_refl,fun _ _ _ _=>by simp only [pm]⟩
  · cases h
 | .nilIface,v,s,k,y,h=>by
  simp only [pm] at h
  split at h
  · exact ⟨(),s,h,s.le_refl,fun _ _ _ _=>by simp only [pm]⟩
  · cases h
 | .intC i n,v,s,k,y,h=>by
  simp only [pm] at h
  split at h
  ·
   obtain ⟨h1,h2⟩:=ZBJ h
   exact ⟨(),s,h2,s.le_refl,fun _ _ _ _=>by simp only [pm,h1,cond_true]⟩
  · cases h
 | .boolC b,v,s,k,y,h=>by
  simp only [pm] at h
  split at h
  ·
   obtain ⟨h1,h2⟩:=ZBJ h
   exact ⟨(),s,h2,s.le_refl,fun _ _ _ _=>by simp only [pm,h1,cond_true]⟩
  · cases h
 | .int i,v,s,k,y,h=>by
  simp only [pm] at h
  split at h
  ·
   obtain ⟨h1,h2⟩:=ZBJ h
   exact ⟨_,s,h2,s.le_refl,fun _ _ _ _=>by simp only [pm,h1,cond_true]⟩
  · cases h
 | .bool,v,s,k,y,h=>by
  simp only [pm] at h
  split at h
  · exact ⟨_,s,h,s.le_refl,fun _ _ _ _=>by simp only [pm]⟩
  · cases h
 | .str,v,s,k,y,h=>by
  simp only [pm] at h
  split at h
  · exact ⟨_,s,h,s.le_refl,fun _ _ _ _=>by simp only [pm]⟩
  · cases h
 | .rows t c,v,s,k,y,h=>by
  simp only [pm] at h
  split at h
  ·
   obtain ⟨h1,h2⟩:=ZBJ h
   split at h2
   ·
    rename_i l hl
    exact ⟨_,s,h2,s.le_refl,fun _ _ _ _=>by simp only [pm,h1,cond_true,hl]⟩
   · cases h2
  · exact ⟨_,s,h,s.le_refl,fun _ _ _ _=>by simp only [pm]⟩
  · exact ⟨_,s,h,s.le_refl,fun _ _ _ _=>by simp only [pm]⟩
  ·
   rename_i b
   cases c with
   | true=>cases h
   | false=>
    simp only [cond_false] at h
    split at h
    ·
     rename_i l hl
     exact ⟨_,_,h,⟨fun _ _ h=>h,fun _ h=>List.mem_cons_of_mem _ h,rfl⟩,fun _ H' _ hH=>by simp only [pm,cond_false,ZTD (hH b (by simp)),hl]⟩
    · cases h
  ·
   rename_i b off len
   cases c with
   | true=>cases h
   | false=>
    simp only [cond_false] at h
    split at h
    ·
     rename_i l hl
     exact ⟨_,_,h,⟨fun _ _ h=>h,fun _ h=>List.mem_cons_of_mem _ h,rfl⟩,fun _ H' _ hH=>by simp only [pm,cond_false,ZTD (hH b (by simp)),hl]⟩
    · cases h
  · cases h
 | .all c,v,s,k,y,h=>by
  simp only [pm] at h
  split at h
  ·
   split at h
   ·
    rename_i s' hs
    exact ⟨_,s',h,(Sig.bind_ok hs).2,fun _ _ _ _=>by simp only [pm,hs]⟩
   · cases h
  ·
   split at h
   ·
    rename_i s' hs
    exact ⟨_,s',h,(Sig.bind_ok hs).2,fun _ _ _ _=>by simp only [pm,hs]⟩
   · cases h
  · cases h
 | .sl c,v,s,k,y,h=>by
  simp only [pm] at h
  split at h
  ·
   split at h
   ·
    rename_i s' hs
    exact ⟨_,s',h,(Sig.bind_ok hs).2,fun _ _ _ _=>by simp only [pm,hs]⟩
   · cases h
  · cases h
 | .cs c off len sz,v,s,k,y,h=>by
  simp only [pm] at h
  split at h
  ·
   obtain ⟨h1,h2⟩:=ZBJ h
   split at h2
   ·
    rename_i s' hs
    exact ⟨_,s',h2,(Sig.bind_ok hs).2,fun _ _ _ _=>by simp only [pm,h1,cond_true,hs]⟩
   · cases h2
  · cases h
 | .ptr c off,v,s,k,y,h=>by
  simp only [pm] at h
  split at h
  ·
   obtain ⟨h1,h2⟩:=ZBJ h
   split at h2
   ·
    rename_i s' hs
    exact ⟨_,s',h2,(Sig.bind_ok hs).2,fun _ _ _ _=>by simp only [pm,h1,cond_true,hs]⟩
   · cases h2
  · cases h
 | .rptr c j,v,s,k,y,h=>by
  simp only [pm] at h
  split at h
  ·
   obtain ⟨h1,h2⟩:=ZBJ h
   split at h2
   ·
    rename_i s' hs
    exact ⟨_,s',h2,(Sig.bind_ok hs).2,fun _ _ _ _=>by simp only [pm,h1,cond_true,hs]⟩
   · cases h2
  · cases h
 | .pin t j,v,s,k,y,h=>by
  simp only [pm] at h
  split at h
  ·
   obtain ⟨h1,h2⟩:=ZBJ h
   split at h2
   ·
    rename_i x r hl
    exact ⟨_,s,h2,s.le_refl,fun _ _ _ _=>by simp only [pm,h1,cond_true,hl]⟩
   · cases h2
  ·
   rename_i b off
   obtain ⟨h1,h2⟩:=ZBJ h
   split at h2
   ·
    rename_i e cs ho
    split at h2
    ·
     rename_i x zs hd
     exact ⟨_,_,h2,⟨fun _ _ h=>h,fun c hc=>List.mem_append_right _ (List.mem_cons_of_mem _ hc),rfl⟩,fun _ H' _ hz=>by
      have hb:H'.at? b=H.at? b:=hz b (List.mem_append_right _ List.mem_cons_self)
      simp only [pm,h1,cond_true,hb,ho,ZsW (fun c hc=>hz c (List.mem_append_left _ hc)) hd]⟩
    · cases h2
   · cases h2
  · cases h
 | .func fn a b,v,s,k,y,h=>by
  simp only [pm] at h
  split at h
  ·
   obtain ⟨h1,h2⟩:=ZBJ h
   obtain ⟨x1,s1,h3,l1,t1⟩:=ZTE _ _ _ _ _ h2
   obtain ⟨x2,s2,h4,l2,t2⟩:=ZTE _ _ _ _ _ h3
   exact ⟨_,s2,h4,Sig.le_trans l1 l2,fun _ H' k' hH=>by
    simp only [pm,h1,cond_true]
    rw [t1 _ H' _ (fun b hb=>hH b (l2.2.1 b hb))]
    exact t2 _ H' _ hH⟩
  · cases h
 | .iface t p,v,s,k,y,h=>by
  simp only [pm] at h
  split at h
  ·
   obtain ⟨h1,h2⟩:=ZBJ h
   obtain ⟨x1,s1,h3,l1,t1⟩:=ZoG _ _ _ _ _ h2
   exact ⟨_,s1,h3,l1,fun _ H' k' hH=>by
    simp only [pm,h1,cond_true]
    exact t1 _ H' _ hH⟩
  · cases h
 | .agg ps,v,s,k,y,h=>by
  simp only [pm] at h
  split at h
  ·
   obtain ⟨x1,s1,h3,l1,t1⟩:=ZTE _ _ _ _ _ h
   exact ⟨_,s1,h3,l1,fun _ H' k' hH=>by
    simp only [pm]
    exact t1 _ H' _ hH⟩
  · cases h
 | .tuple ps,v,s,k,y,h=>by
  simp only [pm] at h
  split at h
  ·
   obtain ⟨x1,s1,h3,l1,t1⟩:=ZTE _ _ _ _ _ h
   exact ⟨_,s1,h3,l1,fun _ H' k' hH=>by
    simp only [pm]
    exact t1 _ H' _ hH⟩
  · cases h
 | .emp,v,s,k,y,h=>by
  simp only [pm] at h
  split at h
  · exact ⟨(),s,h,s.le_refl,fun _ _ _ _=>by simp only [pm]⟩
  · exact ⟨(),s,h,s.le_refl,fun _ _ _ _=>by simp only [pm]⟩
  · cases h
 | .dat t,v,s,k,y,h=>by
  simp only [pm] at h
  split at h
  ·
   split at h
   ·
    rename_i vs x hd
    exact ⟨x,s,h,s.le_refl,fun _ _ _ _=>by simp only [pm,hd]⟩
   · cases h
  · cases h
 | .nos c off,v,s,k,y,h=>by
  simp only [pm] at h
  split at h
  ·
   obtain ⟨h1,h2⟩:=ZBJ h
   split at h2
   ·
    rename_i s' hs
    exact ⟨_,s',h2,(Sig.bind_ok hs).2,fun _ _ _ _=>by simp only [pm,h1,cond_true,hs]⟩
   · cases h2
  ·
   obtain ⟨h1,h2⟩:=ZBJ h
   split at h2
   ·
    rename_i s' hs
    exact ⟨_,s',h2,(Sig.bind_ok hs).2,fun _ _ _ _=>by simp only [pm,h1,cond_true,hs]⟩
   · cases h2
  ·
   obtain ⟨h1,h2⟩:=ZBJ h
   exact ⟨_,s,h2,s.le_refl,fun _ _ _ _=>by simp only [pm,h1,cond_true]⟩
  · cases h
 | .mp c,v,s,k,y,h=>by
  simp only [pm] at h
  split at h
  ·
   split at h
   ·
    rename_i s' hs
    exact ⟨_,s',h,(Sig.bind_ok hs).2,fun _ _ _ _=>by simp only [pm,hs]⟩
   · cases h
  · cases h
 | .head c,v,s,k,y,h=>by
  simp only [pm] at h
  split at h
  ·
   split at h
   ·
    rename_i s' hs
    exact ⟨_,s',h,(Sig.bind_ok hs).2,fun _ _ _ _=>by simp only [pm,hs]⟩
   · cases h
  · cases h
theorem ZTE : ∀ (ps:List Pat) (vs:List PV) (s:Sig) (k:ZH1 ps→Sig→Option β) (y:β),pms H ps vs s k=some y → ∃ x s',k x s'=some y∧Z0D H ps vs s x s'
 | [],vs,s,k,y,h=>by
  simp only [pms] at h
  split at h
  · exact ⟨(),s,h,s.le_refl,fun _ _ _ _=>by simp only [pms]⟩
  · cases h
 | p::ps,vs,s,k,y,h=>by
  simp only [pms] at h
  split at h
  ·
   obtain ⟨x1,s1,h3,l1,t1⟩:=ZoG _ _ _ _ _ h
   obtain ⟨x2,s2,h4,l2,t2⟩:=ZTE _ _ _ _ _ h3
   exact ⟨_,s2,h4,Sig.le_trans l1 l2,fun _ H' k' hH=>by
    simp only [pms]
    rw [t1 _ H' _ (fun b hb=>hH b (l2.2.1 b hb))]
    exact t2 _ H' _ hH⟩
  · cases h
end
theorem ZKM : ∀ (ps:List HPat) (c:Nat) (s:Sig) (k:ZLQ ps→Sig→Option β) (y:β),ZjB H ps c s k=some y → ∃ x s',k x s'=some y∧(∀ c z,s.at c=some z→s'.at c=some z)∧(∀ b∈s.Z,b∈s'.Z) ∧
  ∀ (β:Type) (H':ZAZ) (k':ZLQ ps→Sig→Option β),(∀ b∈s'.Z,H'.at? b=H.at? b)→(∀ b∈ZNE s'.σ,H'.at? b=H.at? b)→ZjB H' ps c s k'=k' x s'
 | [],c,s,k,y,h=>⟨(),s,h,fun _ _ h=>h,fun _ h=>h,fun _ _ _ _ _=>rfl⟩
 | p::ps,c,s,k,y,h=>by
  simp only [ZjB] at h
  split at h
  · cases h
  ·
   rename_i hc
   cases p with
   | row t=>
    obtain ⟨x,s',h1,h2,h3,h4⟩:=ZKM ps (c+1) s _ y h
    exact ⟨_,s',h1,h2,h3,fun _ H' k' a b=>by simp only [ZjB,hc];exact h4 _ H' _ a b⟩
   | dead=>
    obtain ⟨x,s',h1,h2,h3,h4⟩:=ZKM ps (c+1) s _ y h
    exact ⟨_,s',h1,h2,h3,fun _ H' k' a b=>by simp only [ZjB,hc];exact h4 _ H' _ a b⟩
   | _=>cases h
  ·
   rename_i b hc
   have hb : ∀ {s':Sig},(∀ c z,s.at c=some z→s'.at c=some z)→b∈ZNE s'.σ:=fun h=>ZNG (h _ _ hc)
   cases p with
   | dead=>
    obtain ⟨x,s',h1,h2,h3,h4⟩:=ZKM ps (c+1) s _ y h
    exact ⟨_,s',h1,h2,h3,fun _ H' k' a b=>by simp only [ZjB,hc];exact h4 _ H' _ a b⟩
   | cells e0 qs=>
    simp only at h
    split at h
    ·
     rename_i e1 cs hat
     obtain ⟨he,h⟩:=ZBJ h
     obtain ⟨x1,s1,h3,l1,t1⟩:=ZTE _ _ _ _ _ h
     have hbind : ∀ c z,s.at c=some z→s1.at c=some z:=l1.1
     obtain ⟨x2,s',h4,h5,h6,h7⟩:=ZKM ps (c+1) s1 _ y h3
     exact ⟨(x1,x2),s',h4,fun c z hz=>h5 c z (hbind c z hz),fun b hb=>h6 b (l1.2.1 b hb),fun _ H' k' a b'=>by
      simp only [ZjB,hc]
      rw [b' b (hb (fun c z hz=>h5 c z (hbind c z hz))),hat]
      simp only [he,cond_true]
      rw [t1 _ H' _ (fun b hb=>a b (h6 b hb))]
      exact h7 _ H' _ a b'⟩
    · cases h
   | dat e0 t=>
    simp only at h
    split at h
    ·
     rename_i e1 cs hat
     obtain ⟨he,h⟩:=ZBJ h
     split at h
     ·
      rename_i x hd
      obtain ⟨x2,s',h4,h5,h6,h7⟩:=ZKM ps (c+1) s _ y h
      exact ⟨(x,x2),s',h4,h5,h6,fun _ H' k' a b'=>by
       simp only [ZjB,hc]
       rw [b' b (hb h5),hat]
       simp only [he,cond_true,hd]
       exact h7 _ H' _ a b'⟩
     · cases h
    · cases h
   | row t=>
    simp only at h
    split at h
    ·
     rename_i t' l' hat
     split at h
     ·
      rename_i l hl
      obtain ⟨x2,s',h4,h5,h6,h7⟩:=ZKM ps (c+1) s _ y h
      exact ⟨(l,x2),s',h4,h5,h6,fun _ H' k' a b'=>by
       simp only [ZjB,hc]
       rw [b' b (hb h5),hat]
       simp only [hl]
       exact h7 _ H' _ a b'⟩
     · cases h
    · cases h
   | map kt vt=>
    simp only at h
    split at h
    ·
     rename_i kt' vt' l' hat
     split at h
     ·
      rename_i l hl
      obtain ⟨x2,s',h4,h5,h6,h7⟩:=ZKM ps (c+1) s _ y h
      exact ⟨(l,x2),s',h4,h5,h6,fun _ H' k' a b'=>by
       simp only [ZjB,hc]
       rw [b' b (hb h5),hat]
       simp only [hl]
       exact h7 _ H' _ a b'⟩
     · cases h
    · cases h
   | fro t=>
    simp only at h
    split at h
    ·
     rename_i l hl
     obtain ⟨x2,s',h4,h5,h6,h7⟩:=ZKM ps (c+1) s _ y h
     exact ⟨(l,x2),s',h4,h5,h6,fun _ H' k' a b'=>by
      simp only [ZjB,hc]
      rw [ZTD (b' b (hb h5)),hl]
      exact h7 _ H' _ a b'⟩
    · cases h
end
theorem ZU1 {c:HCon} {args:List PV} {H H':ZAZ} {x:ZH1 c.pa×ZLQ c.pH} {s:Sig} (h:ZTC c args H=some (x,s)) (ha : ∀ b∈(ZNE s.σ++s.Z)++s.R,H'.at? b=H.at? b):ZTC c args H'=some (x,s):=by
 unfold ZTC at h
 obtain ⟨x1,s1,h1,l1,t1⟩:=ZTE _ _ _ _ _ h
 obtain ⟨x3,s3,h3,l3,z3,t3⟩:=ZKM _ _ _ _ _ h1
 obtain ⟨hchk,hxs⟩:=ZBJ h3
 simp only [Option.some.injEq,Prod.mk.injEq] at hxs
 obtain ⟨rfl,rfl⟩:=hxs
 have hr : ∀ b∈ZNE s3.σ,H'.at? b=H.at? b:=fun b hb=>ha b (List.mem_append_left _ (List.mem_append_left _ (by rw [ZnO];exact hb)))
 have hz : ∀ b∈s3.Z,H'.at? b=H.at? b:=fun b hb=>ha b (by
  rcases Zxu c s3 b hb with h | h
  · exact List.mem_append_left _ (List.mem_append_right _ h)
  · exact List.mem_append_right _ h)
 unfold ZTC
 rw [t1 _ H' _ (fun b hb=>hz b (z3 b hb)),t3 _ H' _ hz hr,Zfk hr,Zfl hz,hchk]
 rfl
theorem Zkm : ∀ (l:List (Option Nat)) (θ:Nat→Nat) (H:ZAZ) (n n':Nat),H.length=l.length→ZfT θ l H=[]→ZQC l n=ZQC l n'
 | [],_,_,_,_,_,_=>rfl
 | some b::l,θ,[],_,_,h,_=>by simp at h
 | some b::l,θ,o::H,n,n',h,ha=>by simp only [ZQC];rw [Zkm l θ H n n' (by simpa using h) (by simpa [ZfT] using ha)]
 | none::l,θ,[],_,_,h,_=>by simp at h
 | none::l,θ,o::H,n,n',h,ha=>by simp [ZfT] at ha
theorem ZpZ {s:Sig} {H H' Hq:ZAZ} (h:H'.length=H.length∨ZSI s H Hq=[]):ZJV s Hq.length H'.length=ZJV s Hq.length H.length:=by
 rcases h with h | h
 · rw [h]
 ·
  unfold ZJV
  rw [Zkm (ZmK s.σ Hq.length) _ Hq H'.length H.length (ZTB _ _).symm h]
theorem ZYK : ∀ (l:List (Option Nat)) (θ:Nat→Nat) (H:ZAZ) (k:Nat),k∈(ZFD θ l H).map (·.1)→some k∈l
 | [],_,_,_,h=>by simp [ZFD] at h
 | some b::l,θ,[],_,h=>by simp [ZFD] at h
 | none::l,θ,[],_,h=>by simp [ZFD] at h
 | some b::l,θ,o::H,k,h=>by
  simp only [ZFD,List.map_cons,List.mem_cons] at h
  rcases h with rfl | h
  · exact List.mem_cons_self
  · exact List.mem_cons_of_mem _ (ZYK l θ H k h)
 | none::l,θ,o::H,k,h=>by
  simp only [ZFD] at h
  exact List.mem_cons_of_mem _ (ZYK l θ H k h)
theorem Zpa {s:Sig} {H Hq:ZAZ} {k:Nat} (h:k∈(ZV1 s H Hq).map (·.1)):k∈ZNE s.σ++s.Z:=by
 unfold ZV1 at h
 rw [List.map_append,List.mem_append] at h
 rcases h with h | h
 · exact List.mem_append_right _ (ZCs _ _ _ h)
 ·
  have:=ZYK _ _ _ _ h
  obtain ⟨c,hc⟩:=List.getElem?_of_mem this
  exact List.mem_append_left _ (ZNG ((Zcx _ _ _ _).mp hc).2)
/-! #### what is new comes from a place n on -/
def ZoH (s:Sig) (H:ZAZ) (n:Nat) (Hq:ZAZ):List (Nat×Option AO):=ZA3 H s.Z++ZFD (ZJV s Hq.length n) (ZmK s.σ Hq.length) Hq
def Zpb (s:Sig) (n:Nat) (Hq:ZAZ):List (Option AO):=ZfT (ZJV s Hq.length n) (ZmK s.σ Hq.length) Hq
theorem Zpc {s:Sig} {H Hq:ZAZ} {n k:Nat} (h:k∈(ZoH s H n Hq).map (·.1)):k∈ZNE s.σ++s.Z:=by
 unfold ZoH at h
 rw [List.map_append,List.mem_append] at h
 rcases h with h | h
 · exact List.mem_append_right _ (ZCs _ _ _ h)
 ·
  have:=ZYK _ _ _ _ h
  obtain ⟨c,hc⟩:=List.getElem?_of_mem this
  exact List.mem_append_left _ (ZNG ((Zcx _ _ _ _).mp hc).2)
def ZSK (L n k:Nat):Nat→Nat:=fun b=>if L≤b∧b<L+k then n+(b - L) else b
theorem ZTF {L n k b:Nat} (h:b<L):ZSK L n k b=b:=if_neg (by omega)
theorem ZWz {L n k j:Nat} (h:j<k):ZSK L n k (L+j)=n+j:=by unfold ZSK;rw [if_pos (by omega)];omega
theorem ZnQ {L n b:Nat}:ZSK L n 0 b=b:=if_neg (by omega)
mutual
theorem Zqm (θ θ':Nat→Nat) : ∀ (p:PV),ren θ (ren θ' p)=ren (fun b=>θ (θ' b)) p
 | .sl .. => rfl
 | .all .. => rfl
 | .cs .. => rfl
 | .ptr .. => rfl
 | .rptr .. => rfl
 | .head .. => rfl
 | .nos .. => rfl
 | .mp .. => rfl
 | .func fn f c=>by simp only [ren,ZTG θ θ' f,ZTG θ θ' c]
 | .iface t x=>by simp only [ren,Zqm θ θ' x]
 | .agg cs=>by simp only [ren,ZTG θ θ' cs]
 | .tuple cs=>by simp only [ren,ZTG θ θ' cs]
 | .val _=>rfl
 | .rows .. => rfl
 | .pin .. => rfl
 | .emp=>rfl
 | .tab .. => rfl
 | .junk=>rfl
theorem ZTG (θ θ':Nat→Nat) : ∀ (ps:List PV),ZjC θ (ZjC θ' ps)=ZjC (fun b=>θ (θ' b)) ps
 | []=>rfl
 | p::ps=>by simp only [ZjC,Zqm θ θ' p,ZTG θ θ' ps]
end
theorem Zpd (θ θ':Nat→Nat) (o:Option AO):ZNB θ (ZNB θ' o)=ZNB (fun b=>θ (θ' b)) o:=by
 cases o with
 | none=>rfl
 | some q=>cases q with
  | cells e cs=>simp only [ZNB,ZTG]
  | mapF k l ps=>simp only [ZNB,ZTG]
  | _=>rfl
mutual
theorem Ztc (θ:Nat→Nat) (h : ∀ b,θ b=b) : ∀ (p:PV),ren θ p=p
 | .sl .. => by simp only [ren,h]
 | .all .. => by simp only [ren,h]
 | .cs .. => by simp only [ren,h]
 | .ptr .. => by simp only [ren,h]
 | .rptr .. => by simp only [ren,h]
 | .head .. => by simp only [ren,h]
 | .nos .. => by simp only [ren,h]
 | .mp .. => by simp only [ren,h]
 | .func fn f c=>by simp only [ren,Zew θ h f,Zew θ h c]
 | .iface t x=>by simp only [ren,Ztc θ h x]
 | .agg cs=>by simp only [ren,Zew θ h cs]
 | .tuple cs=>by simp only [ren,Zew θ h cs]
 | .val _=>rfl
 | .rows .. => rfl
 | .pin .. => rfl
 | .emp=>rfl
 | .tab .. => rfl
 | .junk=>rfl
theorem Zew (θ:Nat→Nat) (h : ∀ b,θ b=b) : ∀ (ps:List PV),ZjC θ ps=ps
 | []=>rfl
 | p::ps=>by simp only [ZjC,Ztc θ h p,Zew θ h ps]
end
theorem Zwn (θ:Nat→Nat) (h : ∀ b,θ b=b) (o:Option AO):ZNB θ o=o:=by
 cases o with
 | none=>rfl
 | some q=>cases q with
  | cells e cs=>simp only [ZNB,Zew θ h]
  | mapF k l ps=>simp only [ZNB,Zew θ h]
  | _=>rfl
mutual
def Zam (Q:Nat→Prop):PV→Prop
 | .sl b _ _=>Q b
 | .all b=>Q b
 | .cs b _ _ _=>Q b
 | .ptr b _=>Q b
 | .rptr b _ _=>Q b
 | .head b=>Q b
 | .nos b _=>Q b
 | .mp b=>Q b
 | .func _ f c=>ZjD Q f∧ZjD Q c
 | .iface _ x=>Zam Q x
 | .agg cs=>ZjD Q cs
 | .tuple cs=>ZjD Q cs
 | _=>True
def ZjD (Q:Nat→Prop):List PV→Prop
 | []=>True
 | p::ps=>Zam Q p∧ZjD Q ps
end
mutual
theorem Ztd (θ:Nat→Nat) {Q1 Q2:Nat→Prop} (h : ∀ b,Q1 b→Q2 b→θ b=b) : ∀ {p:PV},Zam Q1 p→Zam Q2 p→ren θ p=p
 | .sl ..,k1,k2=>by simp only [Zam] at k1 k2;simp only [ren,h _ k1 k2]
 | .all ..,k1,k2=>by simp only [Zam] at k1 k2;simp only [ren,h _ k1 k2]
 | .cs ..,k1,k2=>by simp only [Zam] at k1 k2;simp only [ren,h _ k1 k2]
 | .ptr ..,k1,k2=>by simp only [Zam] at k1 k2;simp only [ren,h _ k1 k2]
 | .rptr ..,k1,k2=>by simp only [Zam] at k1 k2;simp only [ren,h _ k1 k2]
 | .head ..,k1,k2=>by simp only [Zam] at k1 k2;simp only [ren,h _ k1 k2]
 | .nos ..,k1,k2=>by simp only [Zam] at k1 k2;simp only [ren,h _ k1 k2]
 | .mp ..,k1,k2=>by simp only [Zam] at k1 k2;simp only [ren,h _ k1 k2]
 | .func fn f c,k1,k2=>by simp only [Zam] at k1 k2;simp only [ren,ZSL θ h k1.1 k2.1,ZSL θ h k1.2 k2.2]
 | .iface t x,k1,k2=>by simp only [Zam] at k1 k2;simp only [ren,Ztd θ h k1 k2]
 | .agg cs,k1,k2=>by simp only [Zam] at k1 k2;simp only [ren,ZSL θ h k1 k2]
 | .tuple cs,k1,k2=>by simp only [Zam] at k1 k2;simp only [ren,ZSL θ h k1 k2]
 | .val _,_,_=>rfl
 | .rows ..,_,_=>rfl
 | .pin ..,_,_=>rfl
 | .emp,_,_=>rfl
 | .tab ..,_,_=>rfl
 | .junk,_,_=>rfl
theorem ZSL (θ:Nat→Nat) {Q1 Q2:Nat→Prop} (h : ∀ b,Q1 b→Q2 b→θ b=b) : ∀ {ps:List PV},ZjD Q1 ps→ZjD Q2 ps→ZjC θ ps=ps
 | [],_,_=>rfl
 | p::ps,k1,k2=>by simp only [ZjD] at k1 k2;simp only [ZjC,Ztd θ h k1.1 k2.1,ZSL θ h k1.2 k2.2]
end
section
variable {ρ:Loc} {H:ZAZ} {w:World} {S:Nat→Prop}
mutual
theorem Zkn : ∀ {p:PV} {v:Value},ZAW ρ H w S p v→Zam (ZMz H) p
 | .sl ..,_,h=>by simp only [ZAW] at h;simp only [Zam];exact h.1.1
 | .all ..,_,h=>by simp only [ZAW] at h;simp only [Zam];exact h.1.1
 | .cs ..,_,h=>by simp only [ZAW] at h;simp only [Zam];exact h.1.1
 | .ptr ..,_,h=>by simp only [ZAW] at h;simp only [Zam];exact h.1.1
 | .rptr ..,_,h=>by simp only [ZAW] at h;simp only [Zam];exact h.1.1
 | .head ..,_,h=>by simp only [ZAW] at h;simp only [Zam];exact h.1.1
 | .nos ..,_,h=>by simp only [ZAW] at h;simp only [Zam];exact h.1
 | .mp ..,_,h=>by simp only [ZAW] at h;simp only [Zam];exact h.1.1
 | .func fn f c,_,h=>by
  simp only [ZAW] at h;simp only [Zam]
  obtain ⟨_,_,_,h1,h2⟩:=h
  exact ⟨ZHD h1,ZHD h2⟩
 | .iface t x,_,h=>by
  simp only [ZAW] at h;simp only [Zam]
  obtain ⟨_,_,h1⟩:=h
  exact Zkn h1
 | .agg cs,_,h=>by
  simp only [ZAW] at h;simp only [Zam]
  obtain ⟨_,_,h1⟩:=h
  exact ZHD h1
 | .tuple cs,_,h=>by
  simp only [ZAW] at h;simp only [Zam]
  obtain ⟨_,_,h1⟩:=h
  exact ZHD h1
 | .val _,_,_=>by simp only [Zam]
 | .rows ..,_,_=>by simp only [Zam]
 | .pin ..,_,_=>by simp only [Zam]
 | .emp,_,_=>by simp only [Zam]
 | .tab ..,_,_=>by simp only [Zam]
 | .junk,_,_=>by simp only [Zam]
theorem ZHD : ∀ {ps:List PV} {vs:List Value},ZAQ ρ H w S ps vs→ZjD (ZMz H) ps
 | [],_,_=>by simp only [ZjD]
 | p::ps,_,h=>by
  simp only [ZAQ] at h;simp only [ZjD]
  obtain ⟨_,_,_,h1,h2⟩:=h
  exact ⟨Zkn h1,ZHD h2⟩
end
end
theorem Zte {base:Base} {S0:Nat→Prop} {ρ:Loc} {H:ZAZ} {w:World} {S:Nat→Prop} (hh:HRel base S0 ρ H w S) {θ:Nat→Nat} (h : ∀ b,ZMz H b→θ b=b) (b:Nat):ZNB θ (H.at? b)=H.at? b:=by
 cases ho:H.at? b with
 | none=>rfl
 | some o=>cases o with
  | cells e cs=>
   obtain ⟨_,_,_,_,_,_,h4⟩:=hh.block _ _ ho
   have k:=ZHD h4
   simp only [ZNB,ZSL θ (fun b k1 _=>h b k1) k k]
  | mapF kt l ps=>
   obtain ⟨_,_,_,_,h4,_⟩:=hh.block _ _ ho
   have k:=ZHD h4
   simp only [ZNB,ZSL θ (fun b k1 _=>h b k1) k k]
  | _=>rfl
theorem Zex (θ θ':Nat→Nat) : ∀ (l:List (Option Nat)) (H:ZAZ),(ZfT θ l H).length=(ZfT θ' l H).length
 | [],_=>rfl
 | some _::l,[]=>rfl
 | none::l,[]=>rfl
 | some _::l,_::H=>Zex θ θ' l H
 | none::l,_::H=>by simp only [ZfT,List.length_cons,Zex θ θ' l H]
theorem ZoI (θ θ':Nat→Nat) : ∀ (l:List (Option Nat)) (H:ZAZ),ZfT (fun b=>θ (θ' b)) l H=(ZfT θ' l H).map (ZNB θ)
 | [],_=>rfl
 | some _::l,[]=>rfl
 | none::l,[]=>rfl
 | some _::l,_::H=>ZoI θ θ' l H
 | none::l,_::H=>by simp only [ZfT,List.map_cons,Zpd,ZoI θ θ' l H]
theorem Zhf (θ θ':Nat→Nat) : ∀ (l:List (Option Nat)) (H:ZAZ),ZFD (fun b=>θ (θ' b)) l H=(ZFD θ' l H).map fun p=>(p.1,ZNB θ p.2)
 | [],_=>rfl
 | some _::l,[]=>rfl
 | none::l,[]=>rfl
 | some _::l,_::H=>by simp only [ZFD,List.map_cons,Zpd,Zhf θ θ' l H]
 | none::l,_::H=>by simp only [ZFD,Zhf θ θ' l H]
theorem Zhg {L n k:Nat} : ∀ (l:List (Option Nat)) (H:ZAZ) (θ:Nat→Nat) (i:Nat),H.length=l.length→(∀ b,some b∈l→b<L)→i+(ZfT θ l H).length≤k→(ZQC l (L+i)).map (ZSK L n k)=ZQC l (n+i)
 | [],_,_,_,_,_,_=>rfl
 | some d::l,[],_,_,e,_,_=>by simp at e
 | none::l,[],_,_,e,_,_=>by simp at e
 | some d::l,o::H,θ,i,e,hl,hk=>by
  simp only [ZQC,List.map_cons,ZTF (hl d (by simp)),Zhg l H θ i (by simpa using e) (fun b hb=>hl b (by simp [hb])) hk]
 | none::l,o::H,θ,i,e,hl,hk=>by
  simp only [ZfT,List.length_cons] at hk
  have:=Zhg (L:=L) (n:=n) (k:=k) l H θ (i+1) (by simpa using e) (fun b hb=>hl b (by simp [hb])) (by omega)
  simp only [ZQC,List.map_cons,ZWz (show i<k by omega)]
  rw [Nat.add_assoc,this,Nat.add_assoc]
theorem Zat : ∀ (bs:List Nat) (H:ZAZ) (x:Nat×Option AO),x∈ZA3 H bs → ∃ t l,x.2=some (.fro t l)
 | [],_,_,h=>by cases h
 | b::bs,H,x,h=>by
  simp only [ZA3] at h
  split at h
  ·
   rcases List.mem_cons.mp h with rfl | h
   · exact ⟨_,_,rfl⟩
   · exact Zat bs _ x h
  · exact Zat bs H x h
theorem Zic (θ:Nat→Nat) (bs:List Nat) (H:ZAZ):(ZA3 H bs).map (fun p=>(p.1,ZNB θ p.2))=ZA3 H bs:=by
 rw [List.map_congr_left (g:=id)]
 · simp
 ·
  intro x hx
  obtain ⟨t,l,e⟩:=Zat bs H x hx
  obtain ⟨a,b⟩:=x
  simp only at e;subst e;rfl
section
variable {base:Base} {S0:Nat→Prop} {ρ:Loc} {H:ZAZ} {w:World} {S:Nat→Prop}
theorem HRel.pad1 (hh:HRel base S0 ρ H w S) : ∃ ρ',HRel base S0 ρ' (H++[some .res]) w S∧Ext base ρ H w S ρ' (H++[some .res]) w S:=by
 have hx:Ext base ρ H w S (ρ.put H.length none) (H++[some .res]) w S:=⟨ZYA _,ZWs _,Same.refl _ _,fun _ _ h=>h,Keeps.refl _ _⟩
 refine ⟨_,⟨hh.base_le.ext hx,hh.outer,?_,?_,?_,?_⟩,hx⟩
 ·
  intro k
  rw [hh.own k]
  refine or_congr Iff.rfl ⟨?_,?_⟩
  ·
   rintro ⟨c,o1,n1,h1,h2,h3⟩
   have:=ZMK h1
   exact ⟨c,o1,n1,by rw [ZAe this];exact h1,h2,by rw [Loc.put_other (by omega)];exact h3⟩
  ·
   rintro ⟨c,o1,n1,h1,h2,h3⟩
   rcases ZBP h1 with hc | rfl
   ·
    rw [ZAe hc] at h1
    rw [Loc.put_other (by omega)] at h3
    exact ⟨c,o1,n1,h1,h2,h3⟩
   · rw [Loc.put_same] at h3;cases h3
 ·
  intro c o1 blk1 n1 h1 h3
  rcases ZBP h1 with hc | rfl
  ·
   rw [ZAe hc] at h1
   rw [Loc.put_other (by omega)] at h3
   exact hh.from_ c o1 blk1 n1 h1 h3
  · rw [Loc.put_same] at h3;cases h3
 ·
  intro c c' o1 o2 blk1 n1 n2 h1 h2 h3 h4
  rcases ZBP h1 with hc | rfl
  ·
   rcases ZBP h2 with hc' | rfl
   ·
    rw [ZAe hc] at h1
    rw [ZAe hc'] at h2
    rw [Loc.put_other (by omega)] at h3 h4
    exact hh.inj _ _ _ _ _ _ _ h1 h2 h3 h4
   · rw [Loc.put_same] at h4;cases h4
  · rw [Loc.put_same] at h3;cases h3
 ·
  intro c o1 h1
  rcases ZBP h1 with hc | rfl
  ·
   rw [ZAe hc] at h1
   exact (hh.block c o1 h1).mono hx.hH hx.hr hx.hw hx.hS (Loc.put_other (by omega)) (fun _ _ _=>rfl)
  ·
   rw [ZA1] at h1;cases h1
   exact Loc.put_same
theorem HRel.pad (m:Nat) : ∀ {ρ:Loc} {H:ZAZ},HRel base S0 ρ H w S → ∃ ρ',HRel base S0 ρ' (H++List.replicate m (some .res)) w S∧Ext base ρ H w S ρ' (H++List.replicate m (some .res)) w S:=by
 induction m with
 | zero=>intro ρ H hh;exact ⟨ρ,by simpa using hh,by simpa using Ext.refl⟩
 | succ m ih=>
  intro ρ H hh
  obtain ⟨ρ1,h1,x1⟩:=hh.pad1
  obtain ⟨ρ2,h2,x2⟩:=ih h1
  have e:H++List.replicate (m+1) (some AO.res)=(H++[some .res])++List.replicate m (some .res):=by simp [List.replicate_succ]
  rw [e]
  exact ⟨ρ2,h2,x1.trans x2⟩
theorem Zqn (hh:HRel base S0 ρ H w S) {c:HCon} {args:List PV} {x:ZH1 c.pa×ZLQ c.pH} {s:Sig} (hm:ZTC c args H=some (x,s)) : ∀ b∈ZNE s.σ,b<H.length:=by
 unfold ZTC at hm
 obtain ⟨x1,s1,h1,l1,t1⟩:=Zfj hh _ _ _ _ _ hm
 obtain ⟨x3,s3,h3,l3,t3⟩:=Zke hh _ _ _ _ _ h1
 obtain ⟨hchk,hxs⟩:=ZBJ h3
 simp only [Option.some.injEq,Prod.mk.injEq] at hxs
 obtain ⟨rfl,rfl⟩:=hxs
 simp only [Bool.and_eq_true] at hchk
 rw [ZnO]
 exact Zhe hchk.1.2
theorem HRel.move {G H':ZAZ} {app:List (Option AO)} {n:Nat} (h:HRel base S0 ρ (G++app) w S) (hbn:base.n≤G.length) (hn:app≠[]→n+app.length≤G.length) (hres : ∀ j,j<app.length→G.at? (n+j)=some .res)
  (hl:H'.length=G.length) (h1 : ∀ b,b<G.length → ¬ (n≤b∧b<n+app.length)→H'.at? b=ZNB (ZSK G.length n app.length) (G.at? b))
  (h2 : ∀ j,j<app.length→H'.at? (n+j)=ZNB (ZSK G.length n app.length) (app.getD j none)) :
  ∃ ρ',HRel base S0 ρ' H' w S∧RenOk (ZSK G.length n app.length) ρ (G++app) w S ρ' H' S ∧ ∀ b,b<G.length → ¬ (n≤b∧b<n+app.length)→ρ' b=ρ b:=by
 have hn' : ∀ j,j<app.length→n+app.length≤G.length:=fun j hj=>hn (by rintro rfl;simp at hj)
 have atG : ∀ {b},b<G.length→ZAZ.at? (G++app) b=G.at? b:=fun hb=>by simp [ZAZ.at?,List.getD,List.getElem?_append_left hb]
 have atA : ∀ {j},ZAZ.at? (G++app) (G.length+j)=app.getD j none:=fun {j}=>by simp [ZAZ.at?,List.getD,List.getElem?_append_right]
 let inv:Nat→Nat:=fun b=>if n≤b∧b<n+app.length then G.length+(b - n) else b
 have hinv : ∀ {b},b<G.length→H'.at? b=ZNB (ZSK G.length n app.length) (ZAZ.at? (G++app) (inv b))∧ZSK G.length n app.length (inv b)=b:=by
  intro b hb
  by_cases hs:n≤b∧b<n+app.length
  ·
   have e:b=n+(b - n):=by omega
   have e2:inv b=G.length+(b - n):=if_pos hs
   rw [e2,atA,ZWz (by omega),← h2 (b - n) (by omega),← e]
   exact ⟨rfl,rfl⟩
  ·
   have e2:inv b=b:=if_neg hs
   rw [e2,atG hb,ZTF hb]
   exact ⟨h1 b hb hs,rfl⟩
 have inj : ∀ {b b'},b<G.length→b'<G.length→inv b=inv b'→b=b':=fun {b b'} hb hb' e=>by rw [← (hinv hb).2,← (hinv hb').2,e]
 have lt' : ∀ {b o},H'.at? b=some o→b<G.length:=fun ho=>hl ▸ ZMK ho
 have back : ∀ {b o},H'.at? b=some o → ∃ q,ZAZ.at? (G++app) (inv b)=some q∧ZUx q o∧q.mutable=o.mutable∧ZNB (ZSK G.length n app.length) (some q)=some o:=by
  intro b o ho
  have e:=(hinv (lt' ho)).1.symm.trans ho
  obtain ⟨q,hq,hf,hm⟩:=ZSJ e
  exact ⟨q,hq,hf,hm,by rw [← hq];exact e⟩
 have fwd : ∀ {b},ZMz (G++app) b → ∃ b',b'<G.length∧inv b'=b∧ZSK G.length n app.length b=b':=by
  intro b hb
  rcases Nat.lt_or_ge b G.length with hlt | hge
  ·
   have hs : ¬ (n≤b∧b<n+app.length):=by
    intro hs
    have:=hres (b - n) (by omega)
    rw [show n+(b - n)=b by omega] at this
    exact hb.2 (by rw [atG hlt];exact this)
   exact ⟨b,hlt,if_neg hs,ZTF hlt⟩
  ·
   have hlt:=hb.lt
   simp at hlt
   have hj:b - G.length<app.length:=by omega
   have:=hn' _ hj
   refine ⟨n+(b - G.length),by omega,?_,?_⟩
   ·
    show (if _ then _ else _)=_
    rw [if_pos (by omega)];omega
   ·
    have:=ZWz (L:=G.length) (n:=n) hj
    rwa [show G.length+(b - G.length)=b by omega] at this
 have kr:RenOk (ZSK G.length n app.length) ρ (G++app) w S (fun b=>ρ (inv b)) H' S:=by
  refine ⟨fun c hc => ?_,fun _ _ h=>h⟩
  obtain ⟨b',q1,q2,q3⟩:=fwd hc
  rw [q3]
  refine ⟨⟨hl ▸ q1,fun er=>hc.2 ?_⟩,by show ρ (inv b')=ρ c;rw [q2],fun o' ho' => ?_⟩
  ·
   have:=(hinv q1).1.symm.trans er
   rw [q2] at this
   exact ZkH this
  ·
   obtain ⟨q,r1,r2,_⟩:=back ho'
   rw [q2] at r1
   exact ⟨q,r1,r2⟩
 have nbase : ∀ {b},b<base.n → ¬ (n≤b∧b<n+app.length):=by
  intro b hb hs
  have:=hres (b - n) (by omega)
  rw [show n+(b - n)=b by omega] at this
  exact (h.base_le.known b hb).2 (by rw [atG (by omega)];exact this)
 refine ⟨fun b=>ρ (inv b),⟨⟨h.base_le.lt,hl ▸ hbn,fun b hb => ?_,fun b hb o' ho' => ?_,fun b hb => ?_⟩,h.outer,fun k => ?_,fun b o blk n1 q1 q3 => ?_,fun b b' o1 o2 blk n1 n2 q1 q2 q3 q4 => ?_,fun b o q1 => ?_⟩,kr,fun b hb hs => ?_⟩
 ·
  show ρ (inv b)=_
  rw [show inv b=b from if_neg (nbase hb)]
  exact h.base_le.fix b hb
 ·
  obtain ⟨q,r1,r2,_⟩:=back ho'
  rw [show inv b=b from if_neg (nbase hb)] at r1
  obtain ⟨o,r3,r4⟩:=h.base_le.fits b hb q r1
  exact ⟨o,r3,r4.trans r2⟩
 ·
  have:=(kr.real b (h.base_le.known b hb)).1
  rwa [ZTF (by omega)] at this
 ·
  rw [h.own k]
  refine or_congr Iff.rfl ⟨?_,?_⟩
  ·
   rintro ⟨c,o1,n1,r1,r2,r3⟩
   obtain ⟨b',q1,q2,q3⟩:=fwd (ZvG r1 (ZwE r2))
   have e:=(hinv q1).1
   rw [q2,r1] at e
   cases ho:ZNB (ZSK G.length n app.length) (some o1) with
   | none=>cases o1 <;> cases ho
   | some o2=>
    obtain ⟨q,hq,_,hm⟩:=ZSJ ho
    cases hq
    exact ⟨b',o2,n1,e.trans ho,by rw [← hm];exact r2,by show ρ (inv b')=_;rw [q2];exact r3⟩
  ·
   rintro ⟨c,o1,n1,r1,r2,r3⟩
   obtain ⟨q,s1,_,s3,_⟩:=back r1
   exact ⟨inv c,q,n1,s1,s3.trans r2,r3⟩
 ·
  obtain ⟨q,s1,_⟩:=back q1
  exact h.from_ _ _ _ _ s1 q3
 ·
  obtain ⟨p1,s1,_⟩:=back q1
  obtain ⟨p2,s2,_⟩:=back q2
  exact inj (lt' q1) (lt' q2) (h.inj _ _ _ _ _ _ _ s1 s2 q3 q4)
 ·
  obtain ⟨q,s1,s2,s3,s4⟩:=back q1
  have:=Zkk kr (c:=inv b) (by show ρ (inv (ZSK G.length n app.length (inv b)))=ρ (inv b);rw [(hinv (lt' q1)).2]) s4 (h.block _ _ s1)
  rwa [(hinv (lt' q1)).2] at this
 ·
  show ρ (inv b)=ρ b
  rw [show inv b=b from if_neg hs]
end
def ZNH (P:Program) (K:Nat):Prop := ∃ f,P.funcs[K]? = some f∧(f.name == "runtime.NumGoroutine")=false∧f.body.isSome=true
structure Mach (P:Program) (I:World→Prop) (g:Nat) where
 fn:Nat→Option Func
 fn_ok : ∀ K f,fn K=some f→P.funcs[K]? = some f∧(f.name == "runtime.NumGoroutine")=false∧f.body.isSome=true
 con:Nat→Option Con
 con_ok : ∀ K c,con K=some c→c.Sound P I g K∧ZNH P K
 ocon:Nat→Option OCon
 ocon_ok : ∀ K c,ocon K=some c→c.Sound P I g K∧ZNH P K
 hcon:Nat→List HCon
 hcon_ok : ∀ K c,c∈hcon K→c.Sound P I g K∧ZNH P K
 ext:Nat→Bool
 ext_ok : ∀ K,ext K=true → ∀ v w,(callFunc K #[v]).run P w = .ok (.value v) w
 gl:Nat→PV
 gl_ok : ∀ k w S,I w→(∀ b,S b→g≤b) → ∀ ρ H,ZAW ρ H w S (gl k) (.pointer (some ⟨k,0,none⟩))
 keep : ∀ w w' B,g≤B→Below B w w'→I w→I w'
 mixed:P.follows .mixedOrders=true
def ZC8 (G:Nat→PV) (env:List PV):Operand→PV
 | .tmp t=>env.getD t .junk
 | .const v => .val v
 | .global k=>G k
 | .func f => .func (.func f) [] []
def ZmL (env:List PV) (dst:Option Tmp) (p:PV):List PV :=
 match dst with
 | some d=>env.set d p
 | none=>env
structure Eff where
 val:Nat→PV
 edits:List (Nat×Option AO)
 app:List (Option AO)
def Eff.heap (e:Eff) (H:ZAZ):ZAZ:=ZA9 H e.edits++e.app
def ZMM (p:PV):Eff:=⟨fun _=>p,[],[]⟩
def OpR.eff:OpR→Option (Bool×Eff)
 | .still b p=>some (b,ZMM p)
 | .put b k o=>some (b,⟨fun _=>ZFh,[(k,some o)],[]⟩)
 | .new b f o=>some (b,⟨f,[],[some o]⟩)
 | .swap b k o=>some (b,⟨.all,[(k,none)],[some o]⟩)
 | .pick c p q=>some (true,ZMM (if c then p else q))
 | .edit b p k o=>some (b,⟨fun _=>p,[(k,some o)],[]⟩)
 | .split i n f=>some (decide (0≤i∧i<n),ZMM (f i.toNat))
 | .fail=>none
theorem OpR.eff_apply {r:OpR} {b:Bool} {e:Eff} (h:r.eff=some (b,e)) (H:ZAZ):r.applyTo H=some (b,e.val H.length,e.heap H):=by
 cases r <;> simp only [OpR.eff,Option.some.injEq,Prod.mk.injEq] at h <;> first | (obtain ⟨rfl,rfl⟩:=h;simp [OpR.applyTo,ZMM,Eff.heap,ZA9]) | cases h
def ZDB (o:Oper) (ev:Operand→PV):Option (Nat×List PV) :=
 match o.op with
 | .call c=>match c.callee with
  | .value f=>match ev f with
   | .func (.func K) first captured=>some (K,first++c.args.toList.map ev++captured)
   | _=>none
  | _=>none
 | _=>none
def ZOZ:PV→List Nat
 | .all b=>[b]
 | .sl b _ _=>[b]
 | .cs b _ _ _=>[b]
 | .ptr b _=>[b]
 | .rptr b _ _=>[b]
 | .head b=>[b]
 | .mp b=>[b]
 | _=>[]
def ZBB (o:Oper) (ev:Operand→PV):List Nat :=
 match o.op with
 | .load _ a=>ZOZ (ev a)
 | .store _ a _=>ZOZ (ev a)
 | .slice _ x _ _ _=>ZOZ (ev x)
 | .indexAddr _ x _=>ZOZ (ev x)
 | .convert _ _ x=>ZOZ (ev x)
 | .binOp _ _ x y _=>ZOZ (ev x)++ZOZ (ev y)
 | .lookup _ x _ _=>ZOZ (ev x)
 | .insert _ m _ _=>ZOZ (ev m)
 | .mapUpdate _ m _ _=>ZOZ (ev m)
 | .mapEntry _ m _=>ZOZ (ev m)
 | .entryStore _ m _ _=>ZOZ (ev m)
 | .call c=>c.args.toList.flatMap fun x=>ZOZ (ev x)
 | _=>[]
structure Ft where
 reads:List Nat
 writes:List Nat
 new:List Nat
def Eff.ft (e:Eff) (reads:List Nat) (H:ZAZ):Ft:=⟨reads,e.edits.map (·.1),List.range' H.length e.app.length⟩
def ZFf (ops:Array Oper) (o:Oper) (env:List PV) (b:Bool):Prop :=
 match o.guard with
 | none=>b=true
 | some (j,want)=>match (ops[j]?).bind (·.dst) with
  | none=>b=false
  | some d=>match env.getD d .junk with
   | .val (.bool x)=>b=(x==want)
   | .val (.tuple _)=>b=false
   | _=>False
structure HFound where
 c:HCon
 x:ZH1 c.pa×ZLQ c.pH
 s:Sig
def ZvW:List HCon→List PV→ZAZ→Option HFound
 | [],_,_=>none
 | c::cs,args,H=>match ZTC c args H with
  | some (x,s)=>some ⟨c,x,s⟩
  | none=>ZvW cs args H
theorem Zrl : ∀ {l:List HCon} {args:List PV} {H:ZAZ} {f:HFound},ZvW l args H=some f→f.c∈l∧ZTC f.c args H=some (f.x,f.s)
 | [],_,_,_,h=>by cases h
 | c::cs,args,H,f,h=>by
  simp only [ZvW] at h
  split at h
  ·
   rename_i x s hm
   cases h
   exact ⟨List.mem_cons_self,hm⟩
  ·
   obtain ⟨h1,h2⟩:=Zrl h
   exact ⟨List.mem_cons_of_mem _ h1,h2⟩
def ZwJ (c:HCon) (s:Sig) (r:c.R) (H:ZAZ):Eff :=
 ⟨fun _=>ren (ZJV s (ZBA c.qH (c.out r).2).length H.length) (Zs0 (ZIt c.qa (c.out r).1)),ZV1 s H (ZBA c.qH (c.out r).2),ZSI s H (ZBA c.qH (c.out r).2)⟩
def hFt (c:HCon) (s:Sig) (r:c.R) (H:ZAZ):Ft :=
 ⟨(ZNE s.σ++s.Z)++s.R,ZNE s.σ++s.Z,List.range' H.length (ZSI s H (ZBA c.qH (c.out r).2)).length⟩
def ZmR (c:HCon) (s:Sig) (r:c.R) (H:ZAZ) (n:Nat):Eff :=
 ⟨fun _=>ren (ZJV s (ZBA c.qH (c.out r).2).length n) (Zs0 (ZIt c.qa (c.out r).1)),ZoH s H n (ZBA c.qH (c.out r).2),Zpb s n (ZBA c.qH (c.out r).2)⟩
section
variable {P:Program} {I:World→Prop} {g:Nat} {M:Mach P I g} {ops:Array Oper}
inductive OpActN (M:Mach P I g) (ops:Array Oper) (o:Oper) (env:List PV) (H:ZAZ) (n:Nat):Eff→Ft→Option Value→Prop where
 | skip:ZFf ops o env false→OpActN M ops o env H n (ZMM ZFh) ⟨[],[],[]⟩ none
 | op {e:Eff}:ZFf ops o env true→(opP P o (ZC8 M.gl env) H).eff=some (true,e)→OpActN M ops o env H n e ⟨ZBB o (ZC8 M.gl env),e.edits.map (·.1),List.range' n e.app.length⟩ none
 | call {K:Nat} {args:List PV} {c:Con} {x:ZFC c.params} {y:ZFC c.results}:ZFf ops o env true→ZDB o (ZC8 M.gl env)=some (K,args)→M.con K=some c →
   ZGX c.params args H=some x→c.F x=some y →
   OpActN M ops o env H n ⟨fun _=>ZsO c.results y,ZA3 H (ZJU c.params args),[]⟩ ⟨ZJU c.params args,ZJU c.params args,[]⟩ none
 | ocall {K:Nat} {args:List PV} {c:OCon} {x:ZFC c.params} {y:List c.t.den}:ZFf ops o env true→ZDB o (ZC8 M.gl env)=some (K,args)→M.ocon K=some c →
   ZGX c.params args H=some x→c.F x=some y →
   OpActN M ops o env H n ⟨.all,ZA3 H (ZJU c.params args),[some (.row c.t y)]⟩ ⟨ZJU c.params args,ZJU c.params args,[n]⟩ none
 | hcall {K:Nat} {args:List PV} {c:HCon} {x:ZH1 c.pa×ZLQ c.pH} {s:Sig} {r:c.R}:ZFf ops o env true→ZDB o (ZC8 M.gl env)=some (K,args)→c∈M.hcon K →
   ZTC c args H=some (x,s)→c.F x=some r→c.bad r=none →
   OpActN M ops o env H n (ZmR c s r H n) ⟨(ZNE s.σ++s.Z)++s.R,ZNE s.σ++s.Z,List.range' n (Zpb s n (ZBA c.qH (c.out r).2)).length⟩ none
 | pcall {K:Nat} {args:List PV} {c:HCon} {x:ZH1 c.pa×ZLQ c.pH} {s:Sig} {r:c.R} {v:Value}:ZFf ops o env true→ZDB o (ZC8 M.gl env)=some (K,args)→c∈M.hcon K →
   ZTC c args H=some (x,s)→c.F x=some r→c.bad r=some v→OpActN M ops o env H n (ZMM ZFh) ⟨(ZNE s.σ++s.Z)++s.R,ZNE s.σ++s.Z,[]⟩ (some v)
 | ext {K:Nat} {p:PV}:ZFf ops o env true→ZDB o (ZC8 M.gl env)=some (K,[p])→M.ext K=true→OpActN M ops o env H n (ZMM p) ⟨[],[],[]⟩ none
inductive OpAct (M:Mach P I g) (ops:Array Oper) (o:Oper) (env:List PV) (H:ZAZ):Eff→Ft→Option Value→Prop where
 | skip:ZFf ops o env false→OpAct M ops o env H (ZMM ZFh) ⟨[],[],[]⟩ none
 | op {e:Eff}:ZFf ops o env true→(opP P o (ZC8 M.gl env) H).eff=some (true,e)→OpAct M ops o env H e (e.ft (ZBB o (ZC8 M.gl env)) H) none
 | call {K:Nat} {args:List PV} {c:Con} {x:ZFC c.params} {y:ZFC c.results}:ZFf ops o env true→ZDB o (ZC8 M.gl env)=some (K,args)→M.con K=some c →
   ZGX c.params args H=some x→c.F x=some y →
   OpAct M ops o env H ⟨fun _=>ZsO c.results y,ZA3 H (ZJU c.params args),[]⟩ ⟨ZJU c.params args,ZJU c.params args,[]⟩ none
 | ocall {K:Nat} {args:List PV} {c:OCon} {x:ZFC c.params} {y:List c.t.den}:ZFf ops o env true→ZDB o (ZC8 M.gl env)=some (K,args)→M.ocon K=some c →
   ZGX c.params args H=some x→c.F x=some y →
   OpAct M ops o env H ⟨.all,ZA3 H (ZJU c.params args),[some (.row c.t y)]⟩ ⟨ZJU c.params args,ZJU c.params args,[H.length]⟩ none
 | hcall {K:Nat} {args:List PV} {c:HCon} {x:ZH1 c.pa×ZLQ c.pH} {s:Sig} {r:c.R}:ZFf ops o env true→ZDB o (ZC8 M.gl env)=some (K,args)→c∈M.hcon K →
   ZTC c args H=some (x,s)→c.F x=some r→c.bad r=none→OpAct M ops o env H (ZwJ c s r H) (hFt c s r H) none
 | pcall {K:Nat} {args:List PV} {c:HCon} {x:ZH1 c.pa×ZLQ c.pH} {s:Sig} {r:c.R} {v:Value}:ZFf ops o env true→ZDB o (ZC8 M.gl env)=some (K,args)→c∈M.hcon K →
   ZTC c args H=some (x,s)→c.F x=some r→c.bad r=some v→OpAct M ops o env H (ZMM ZFh) ⟨(ZNE s.σ++s.Z)++s.R,ZNE s.σ++s.Z,[]⟩ (some v)
 | ext {K:Nat} {p:PV}:ZFf ops o env true→ZDB o (ZC8 M.gl env)=some (K,[p])→M.ext K=true→OpAct M ops o env H (ZMM p) ⟨[],[],[]⟩ none
theorem Zko {o:Oper} {ev ev':Operand→PV} {H H':ZAZ} (h : ∀ x∈o.op.operands,ev' x=ev x) (hH : ∀ b∈ZBB o ev,H'.at? b=H.at? b):opP P o ev' H'=opP P o ev H:=by
 obtain ⟨dst,op,ty,pos,aft,gd⟩:=o
 have lmap : ∀ (l:List Operand),(∀ x∈l,ev' x=ev x)→l.map ev'=l.map ev:=fun l hl=>List.map_congr_left hl
 have omap : ∀ (l:Option Operand),(∀ x∈l.toArray,ev' x=ev x)→l.map ev'=l.map ev:=by
  rintro (_ | x) hl
  · rfl
  · simp only [Option.map_some];rw [hl x (by simp)]
 cases op with
 | move x=>simp only [opP];rw [h x (by simp [Op.operands])]
 | assign x=>simp only [opP];rw [h x (by simp [Op.operands])]
 | pick c a b=>simp only [opP];rw [h c (by simp [Op.operands]),h a (by simp [Op.operands]),h b (by simp [Op.operands])]
 | alloc T=>rfl
 | box T x=>simp only [opP];rw [h x (by simp [Op.operands])]
 | build T parts=>
  simp only [opP]
  have:(parts.toList.map fun x=>(x.1,ev' x.2))=parts.toList.map fun x=>(x.1,ev x.2):=List.map_congr_left fun x hx=>by
   rw [h x.2 (by simp only [Op.operands,List.mem_toArray,List.mem_map];exact ⟨x,hx,rfl⟩)]
  rw [this]
 | buildSlice T len parts=>
  simp only [opP]
  have:(parts.toList.map fun x=>(x.1,ev' x.2))=parts.toList.map fun x=>(x.1,ev x.2):=List.map_congr_left fun x hx=>by
   rw [h x.2 (by simp only [Op.operands,List.mem_toArray,List.mem_map];exact ⟨x,hx,rfl⟩)]
  rw [this]
 | load T a=>
  simp only [opP]
  rw [h a (by simp [Op.operands])]
  simp only [ZBB] at hH
  unfold ZvL Zs5
  generalize ev a=p at *
  cases p with
  | head b=>simp only;rw [hH b (by simp [ZOZ])]
  | ptr b off=>simp only;rw [hH b (by simp [ZOZ])]
  | rptr b i j=>simp only;rw [hH b (by simp [ZOZ])]
  | _=>rfl
 | store T a x=>
  simp only [opP]
  rw [h a (by simp [Op.operands]),h x (by simp [Op.operands])]
  simp only [ZBB] at hH
  unfold ZpQ ZpL
  generalize ev a=p at *
  cases p with
  | head b=>simp only;rw [hH b (by simp [ZOZ])]
  | ptr b off=>simp only;rw [hH b (by simp [ZOZ])]
  | rptr b i j=>simp only;rw [hH b (by simp [ZOZ])]
  | _=>rfl
 | nilCheck x=>simp only [opP];rw [h x (by simp [Op.operands])]
 | makeSlice T l c=>simp only [opP];rw [h l (by simp [Op.operands]),h c (by simp [Op.operands])]
 | binOp op T x y yT=>
  simp only [opP]
  rw [h x (by simp [Op.operands]),h y (by simp [Op.operands])]
  simp only [ZBB] at hH
  have hs:ZYC (ev x) (ev y) H'=ZYC (ev x) (ev y) H:=by
   unfold ZYC
   generalize ev x=p at *
   cases p with
   | ptr b off=>cases ev y <;> first | rfl | (simp only;rw [hH b (by simp [ZOZ])])
   | _=>rfl
  rw [hs]
 | unOp op T x=>simp only [opP];rw [h x (by simp [Op.operands])]
 | convert s d x=>
  simp only [opP]
  rw [h x (by simp [Op.operands])]
  simp only [ZBB] at hH
  unfold Zcu
  generalize ev x=p at *
  cases p with
  | all b=>simp only [ZhX,ZS8];rw [hH b (by simp [ZOZ])]
  | sl b off len=>simp only [ZhX,ZS8];rw [hH b (by simp [ZOZ])]
  | ptr b off=>simp only;rw [hH b (by simp [ZOZ])];rfl
  | cs b off len sz=>
   have hb:=hH b (by simp [ZOZ])
   rcases sz with _ | _ | n
   · rfl
   · simp only;rw [hb]
   · rfl
  | val v=>cases v <;> rfl
  | _=>rfl
 | makeInterface T x=>simp only [opP];rw [h x (by simp [Op.operands])]
 | makeFunc fn first captured=>
  simp only [opP]
  rw [lmap first.toList (fun x hx=>h x (by simp [Op.operands];exact .inl (by simpa using hx))),lmap captured.toList (fun x hx=>h x (by simp [Op.operands];exact .inr (by simpa using hx)))]
 | slice T x lo hi mx=>
  simp only [opP]
  rw [h x (by simp [Op.operands]),omap lo (fun x hx=>h x (by simp [Op.operands] at hx ⊢;simp [hx])),omap hi (fun x hx=>h x (by simp [Op.operands] at hx ⊢;simp [hx])),
   omap mx (fun x hx=>h x (by simp [Op.operands] at hx ⊢;simp [hx]))]
  simp only [ZBB] at hH
  unfold ZrY
  generalize ev x=p at *
  cases p with
  | all b=>simp only;rw [hH b (by simp [ZOZ])]
  | sl b off len=>simp only;rw [hH b (by simp [ZOZ])]
  | ptr b off=>simp only;rw [hH b (by simp [ZOZ])]
  | head b=>simp only;rw [hH b (by simp [ZOZ])]
  | val v=>cases v with
   | slice a n c=>cases a <;> cases n <;> cases c <;> rfl
   | _=>rfl
  | _=>rfl
 | fieldAddr s x f=>simp only [opP];rw [h x (by simp [Op.operands])]
 | field T x f=>simp only [opP];rw [h x (by simp [Op.operands])]
 | indexAddr T x ix=>
  simp only [opP]
  rw [h x (by simp [Op.operands]),h ix (by simp [Op.operands])]
  simp only [ZBB] at hH
  unfold ZWu ZMd
  generalize ev x=p at *
  cases p with
  | head b=>simp only;rw [hH b (by simp [ZOZ])]
  | all b=>simp only;rw [hH b (by simp [ZOZ])]
  | sl b off len=>simp only;rw [hH b (by simp [ZOZ])]
  | cs b off len sz=>simp only;rw [hH b (by simp [ZOZ])]
  | _=>rfl
 | index T x ix=>simp only [opP];rw [h x (by simp [Op.operands]),h ix (by simp [Op.operands])]
 | typeAssert x xT T ok=>simp only [opP];rw [h x (by simp [Op.operands])]
 | extract t ix=>simp only [opP];rw [h t (by simp [Op.operands])]
 | makeMap T r=>simp only [opP];rw [omap r (fun x hx=>h x (by simp [Op.operands] at hx ⊢;simp [hx]))]
 | lookup T x ix ok=>
  simp only [opP]
  rw [h x (by simp [Op.operands]),h ix (by simp [Op.operands])]
  simp only [ZBB] at hH
  unfold ZhZ
  generalize ev x=p at *
  cases p with
  | mp b=>simp only;rw [hH b (by simp [ZOZ])]
  | _=>rfl
 | insert T m k x=>
  simp only [opP]
  rw [h m (by simp [Op.operands]),h k (by simp [Op.operands]),h x (by simp [Op.operands])]
  simp only [ZBB] at hH
  unfold Zar
  generalize ev m=p at *
  cases p with
  | mp b=>simp only;rw [hH b (by simp [ZOZ])]
  | _=>rfl
 | mapUpdate T m k x=>
  simp only [opP]
  rw [h m (by simp [Op.operands]),h k (by simp [Op.operands]),h x (by simp [Op.operands])]
  simp only [ZBB] at hH
  unfold Zar
  generalize ev m=p at *
  cases p with
  | mp b=>simp only;rw [hH b (by simp [ZOZ])]
  | _=>rfl
 | mapEntry T m k=>
  simp only [opP]
  rw [h m (by simp [Op.operands]),h k (by simp [Op.operands])]
  simp only [ZBB] at hH
  unfold ZWx
  generalize ev m=p at *
  cases p with
  | mp b=>simp only;rw [hH b (by simp [ZOZ])]
  | _=>rfl
 | entryStore T m s x=>
  simp only [opP]
  rw [h m (by simp [Op.operands]),h s (by simp [Op.operands]),h x (by simp [Op.operands])]
  simp only [ZBB] at hH
  unfold ZPE
  generalize ev m=p at *
  cases p with
  | mp b=>simp only;rw [hH b (by simp [ZOZ])]
  | _=>rfl
 | call c=>
  simp only [opP]
  cases hc:c.callee with
  | builtin b=>
   simp only
   have hargs:=lmap c.args.toList (fun x hx=>h x (by simp [Op.operands,Call.operands,hc];simpa using hx))
   rw [hargs]
   simp only [ZBB] at hH
   have hat : ∀ p∈c.args.toList.map ev,∀ k∈ZOZ p,H'.at? k=H.at? k:=by
    intro p hp k hk
    obtain ⟨x,hx,rfl⟩:=List.mem_map.mp hp
    exact hH k (List.mem_flatMap.mpr ⟨x,hx,hk⟩)
   generalize c.args.toList.map ev=ps at *
   have hrows : ∀ (t:Ty) (p:PV),p∈ps→ZS8 t H' p=ZS8 t H p:=by
    intro t p hp
    have:=hat p hp
    cases p with
    | all k=>simp only [ZS8];rw [this k (by simp [ZOZ])]
    | sl k off len=>simp only [ZS8];rw [this k (by simp [ZOZ])]
    | val v=>cases v with
     | slice a l c=>cases a <;> cases l <;> cases c <;> rfl
     | _=>rfl
    | _=>rfl
   unfold Zfe
   split
   ·
    split
    ·
     rename_i sT xT s x hts
     unfold ZhW
     have hs:=hat s (by simp)
     have hsrc : ∀ t,Zu8 P xT t H' x=Zu8 P xT t H x:=by
      intro t
      unfold Zu8
      split
      · rw [hrows t x (by simp),hrows (.int .u8) x (by simp)]
      · rfl
      · rfl
     simp only [hsrc]
     cases s with
     | all k=>simp only;rw [hs k (by simp [ZOZ])]
     | sl k off len=>simp only;rw [hs k (by simp [ZOZ])]
     | val v=>cases v with
      | slice a l c=>cases a <;> cases l <;> cases c <;> rfl
      | _=>rfl
     | _=>rfl
    · rfl
   ·
    split
    ·
     rename_i sT xT s x hts
     unfold ZsK
     have hs:=hat s (by simp)
     have hsrc : ∀ t,Zu8 P xT t H' x=Zu8 P xT t H x:=by
      intro t
      unfold Zu8
      split
      · rw [hrows t x (by simp),hrows (.int .u8) x (by simp)]
      · rfl
      · rfl
     simp only [hsrc]
     cases s with
     | all k=>simp only;rw [hs k (by simp [ZOZ])]
     | _=>rfl
    · rfl
   · rfl
   ·
    split
    ·
     rename_i T x ht
     have hx:=hat x (by simp)
     have:Zxf P T x H'=Zxf P T x H:=by
      unfold Zxf
      cases x with
      | all k=>simp only;rw [hx k (by simp [ZOZ])]
      | sl k off len=>simp only;rw [hx k (by simp [ZOZ])]
      | cs k off len sz=>simp only;rw [hx k (by simp [ZOZ])]
      | mp k=>simp only;rw [hx k (by simp [ZOZ])]
      | val v=>cases v <;> rfl
      | _=>rfl
     rw [this]
    · rfl
   · rfl
   · rfl
   ·
    split
    ·
     rename_i x
     have hx:=hat x (by simp)
     have:ZS1 x H'=ZS1 x H:=by
      unfold ZS1
      cases x with
      | all k=>simp only;rw [hx k (by simp [ZOZ])]
      | val v=>cases v with
       | slice a l c=>cases a <;> cases l <;> cases c <;> rfl
       | _=>rfl
      | _=>rfl
     rw [this]
    · rfl
   ·
    split
    ·
     rename_i pt it x n hts
     have hx:=hat x (by simp)
     unfold ZND
     have hi:ZOZ (ZkV x)=ZOZ x:=by
      unfold ZkV
      split
      · split <;> rfl
      · rfl
     rw [← hi] at hx
     generalize ZkV x=x at hx
     generalize ZQB n=m
     cases x with
     | head k=>
      have hk:=hx k (by simp [ZOZ])
      cases m with
      | none=>rfl
      | some m=>obtain ⟨kd,i⟩:=m;cases kd <;> first | rfl | (simp only;rw [hk])
     | val v=>cases v with
      | pointer a=>cases a <;> cases m <;> first | rfl | (rename_i m;obtain ⟨kd,i⟩:=m;cases kd <;> rfl)
      | _=>rfl
     | _=>rfl
    · rfl
   · rfl
  | _=>rfl
 | _=>rfl
end
section
variable {P:Program} {I:World→Prop} {g:Nat} {M:Mach P I g} {ops:Array Oper}
/-! #### heaps -/
theorem Zfm : ∀ (es:List (Nat×Option AO)) (H:ZAZ) (l:List (Option AO)),(∀ n∈List.range' H.length l.length,n∉es.map (·.1))→ZA9 (H++l) es=ZA9 H es++l
 | [],_,_,_=>rfl
 | (k,o)::es,H,l,h=>by
  have hk':k<H.length∨H.length+l.length≤k:=by
   rcases Nat.lt_or_ge k H.length with hk | hk
   · exact .inl hk
   ·
    rcases Nat.lt_or_ge k (H.length+l.length) with hk2 | hk2
    · exact absurd (by simp) (h k (by rw [List.mem_range'_1];omega))
    · exact .inr hk2
  have e:(H++l).set k o=H.set k o++l:=by
   rcases hk' with hk | hk
   · rw [List.set_append_left _ _ hk]
   · rw [List.set_eq_of_length_le (by simp;omega),List.set_eq_of_length_le (by omega)]
  rw [ZA9,ZA9,e,Zfm es _ l (by rw [List.length_set];exact fun n hn hm=>h n hn (by simp at hm ⊢;exact .inr hm))]
/-! #### what an action hangs on -/
theorem ZFf.congr {o:Oper} {env env':List PV} {b:Bool} (h : ∀ t∈o.looksAt ops,env'.getD t .junk=env.getD t .junk) (hw:ZFf ops o env b):ZFf ops o env' b:=by
 unfold ZFf at hw ⊢
 split at hw
 · exact hw
 ·
  rename_i j want hg
  cases hd:(ops[j]?).bind (·.dst) with
  | none=>rw [hd] at hw;exact hw
  | some d=>
   rw [hd] at hw
   simp only at hw ⊢
   rw [h d (by simp [Oper.looksAt,hg,hd])]
   exact hw
theorem ZEN {o:Oper} {env env':List PV} (h : ∀ t∈o.looksAt ops,env'.getD t .junk=env.getD t .junk) : ∀ (G:Nat→PV),∀ x∈o.op.operands,ZC8 G env' x=ZC8 G env x:=by
 intro G x hx
 cases x with
 | tmp t=>exact h t (by simp only [Oper.looksAt,List.mem_append,List.mem_filterMap];exact .inl ⟨.tmp t,by simpa using hx,rfl⟩)
 | _=>rfl
theorem ZCh {o:Oper} {ev ev':Operand→PV} (h : ∀ x∈o.op.operands,ev' x=ev x):ZDB o ev'=ZDB o ev:=by
 obtain ⟨dst,op,ty,pos,aft,gd⟩:=o
 unfold ZDB
 cases op with
 | call c=>
  simp only
  cases hc:c.callee with
  | value f=>
   simp only
   rw [h f (by simp [Op.operands,Call.operands,hc])]
   have:c.args.toList.map ev'=c.args.toList.map ev:=List.map_congr_left fun x hx=>h x (by simp [Op.operands,Call.operands,hc];right;simpa using hx)
   rw [this]
  | _=>rfl
 | _=>rfl
theorem Ztf {H H':ZAZ} {p:PV} (h : ∀ b∈ids p,H'.at? b=H.at? b):frz H' p=frz H p:=by
 cases p with
 | all b=>simp only [frz];rw [h b (by simp [ids])]
 | sl b off len=>simp only [frz];rw [h b (by simp [ids])]
 | _=>rfl
theorem ZNI {H H':ZAZ} : ∀ {ts:List Ty} {ps:List PV},(∀ b∈ZJU ts ps,H'.at? b=H.at? b)→ZGX ts ps H'=ZGX ts ps H
 | [],[],_=>rfl
 | t::ts,p::ps,h=>by
  have h2:=ZNI (H:=H) (H':=H') (ts:=ts) (ps:=ps) (fun b hb=>h b (by simp only [ZJU,List.zip_cons_cons,List.flatMap_cons,List.mem_append];exact .inr hb))
  simp only [ZGX,h2]
  cases hc:Zfg t p with
  | none=>rfl
  | some cs=>
   have:cs.map (frz H')=cs.map (frz H):=List.map_congr_left fun q hq=>Ztf fun b hb=>h b (by
    simp only [ZJU,List.zip_cons_cons,List.flatMap_cons,List.mem_append,List.mem_flatMap]
    exact .inl ⟨q,by rw [hc];exact hq,hb⟩)
   simp only [this]
 | [],_::_,_=>rfl
 | _::_,[],_=>rfl
theorem ZoJ {o:Oper} {ev ev':Operand→PV} (hev : ∀ x∈o.op.operands,ev' x=ev x):ZBB o ev'=ZBB o ev:=by
 obtain ⟨dst,op,ty,pos,aft,gd⟩:=o
 cases op with
 | load T a=>simp only [ZBB];rw [hev a (by simp [Op.operands])]
 | store T a x=>simp only [ZBB];rw [hev a (by simp [Op.operands])]
 | slice T x lo hi mx=>simp only [ZBB];rw [hev x (by simp [Op.operands])]
 | indexAddr T x ix=>simp only [ZBB];rw [hev x (by simp [Op.operands])]
 | convert s d x=>simp only [ZBB];rw [hev x (by simp [Op.operands])]
 | lookup T x ix ok=>simp only [ZBB];rw [hev x (by simp [Op.operands])]
 | insert T m k x=>simp only [ZBB];rw [hev m (by simp [Op.operands])]
 | mapUpdate T m k x=>simp only [ZBB];rw [hev m (by simp [Op.operands])]
 | mapEntry T m k=>simp only [ZBB];rw [hev m (by simp [Op.operands])]
 | entryStore T m s x=>simp only [ZBB];rw [hev m (by simp [Op.operands])]
 | binOp op T x y yT=>simp only [ZBB];rw [hev x (by simp [Op.operands]),hev y (by simp [Op.operands])]
 | call c=>
  simp only [ZBB]
  have : ∀ x∈c.args.toList,ZOZ (ev' x)=ZOZ (ev x):=fun x hx=>by
   rw [hev x (by simp [Op.operands,Call.operands];exact .inr (by simpa using hx))]
  simp only [List.flatMap_def]
  rw [List.map_congr_left this]
 | _=>rfl
theorem OpAct.facts {o:Oper} {env:List PV} {H:ZAZ} {e:Eff} {ft:Ft} {b:Option Value} (h:OpAct M ops o env H e ft b) :
  (∀ k∈e.edits.map (·.1),k∈ft.writes)∧(ft.new=List.range' H.length e.app.length)∧(e.app=[] → ∀ n n',e.val n=e.val n'):=by
 cases h with
 | skip _=>exact ⟨fun k hk=>by simp [ZMM] at hk,rfl,fun _ _ _=>rfl⟩
 | op _ hr=>
  refine ⟨fun k hk=>hk,rfl,fun ha n n' => ?_⟩
  generalize opP P o (ZC8 M.gl env) H=r at hr
  cases r <;> simp only [OpR.eff,Option.some.injEq,Prod.mk.injEq] at hr <;> first | (obtain ⟨_,rfl⟩:=hr;first | rfl | cases ha) | cases hr
 | call _ _ _ _ _=>exact ⟨fun k hk=>ZCs _ _ k hk,rfl,fun _ _ _=>rfl⟩
 | ocall _ _ _ _ _=>exact ⟨fun k hk=>ZCs _ _ k hk,rfl,fun h=>by cases h⟩
 | pcall _ _ _ _ _ _=>exact ⟨fun k hk=>by simp [ZMM] at hk,rfl,fun _ _ _=>rfl⟩
 | hcall _ _ _ _ _ _=>exact ⟨fun k hk=>Zpa hk,rfl,fun _ _ _=>rfl⟩
 | ext _ _ _=>exact ⟨fun k hk=>by simp [ZMM] at hk,rfl,fun _ _ _=>rfl⟩
theorem OpAct.local {o:Oper} {env env':List PV} {H H':ZAZ} {e:Eff} {ft:Ft} {b:Option Value} (h:OpAct M ops o env H e ft b) (he : ∀ t∈o.looksAt ops,env'.getD t .junk=env.getD t .junk)
  (hr : ∀ b∈ft.reads,H'.at? b=H.at? b) (hl:H'.length=H.length∨ft.new=[]) :
  OpAct M ops o env' H' e ft b:=by
 cases h with
 | skip hw=>exact .skip (hw.congr he)
 | op hw hr'=>
  have hev:=ZEN he M.gl
  have hop:=Zko (P:=P) hev hr
  have hrd:ZBB o (ZC8 M.gl env')=ZBB o (ZC8 M.gl env):=by
   obtain ⟨dst,op,ty,pos,aft,gd⟩:=o
   cases op with
   | load T a=>simp only [ZBB];rw [hev a (by simp [Op.operands])]
   | store T a x=>simp only [ZBB];rw [hev a (by simp [Op.operands])]
   | slice T x lo hi mx=>simp only [ZBB];rw [hev x (by simp [Op.operands])]
   | indexAddr T x ix=>simp only [ZBB];rw [hev x (by simp [Op.operands])]
   | convert s d x=>simp only [ZBB];rw [hev x (by simp [Op.operands])]
   | lookup T x ix ok=>simp only [ZBB];rw [hev x (by simp [Op.operands])]
   | insert T m k x=>simp only [ZBB];rw [hev m (by simp [Op.operands])]
   | mapUpdate T m k x=>simp only [ZBB];rw [hev m (by simp [Op.operands])]
   | mapEntry T m k=>simp only [ZBB];rw [hev m (by simp [Op.operands])]
   | entryStore T m s x=>simp only [ZBB];rw [hev m (by simp [Op.operands])]
   | binOp op T x y yT=>simp only [ZBB];rw [hev x (by simp [Op.operands]),hev y (by simp [Op.operands])]
   | call c=>
    simp only [ZBB]
    have : ∀ x∈c.args.toList,ZOZ (ZC8 M.gl env' x)=ZOZ (ZC8 M.gl env x):=fun x hx=>by
     rw [hev x (by simp [Op.operands,Call.operands];exact .inr (by simpa using hx))]
    simp only [List.flatMap_def]
    rw [List.map_congr_left this]
   | _=>rfl
  have hft:e.ft (ZBB o (ZC8 M.gl env)) H=e.ft (ZBB o (ZC8 M.gl env')) H':=by
   rw [hrd]
   simp only [Eff.ft,Ft.mk.injEq,true_and]
   rcases hl with hl | hl
   · rw [hl]
   · simp only [Eff.ft,List.range'_eq_nil_iff] at hl;rw [hl];rfl
  rw [hft]
  exact .op (hw.congr he) (by rw [hop];exact hr')
 | call hw hc hk hd hF=>
  have hev:=ZEN he M.gl
  rw [← ZB2 _ _ _ hr]
  exact .call (hw.congr he) (by rw [ZCh hev];exact hc) hk (by rw [ZNI hr];exact hd) hF
 | ocall hw hc hk hd hF=>
  have hev:=ZEN he M.gl
  have hlen:H'.length=H.length:=by
   rcases hl with h | h
   · exact h
   · cases h
  rw [← ZB2 _ _ _ hr,← hlen]
  exact .ocall (hw.congr he) (by rw [ZCh hev];exact hc) hk (by rw [ZNI hr];exact hd) hF
 | @pcall K args c x s r v hw hc hk hm hF hb=>
  have hev:=ZEN he M.gl
  exact .pcall (hw.congr he) (by rw [ZCh hev];exact hc) hk (ZU1 hm hr) hF hb
 | @hcall K args c x s r hw hc hk hm hF hb=>
  have hev:=ZEN he M.gl
  have hl':H'.length=H.length∨ZSI s H (ZBA c.qH (c.out r).2)=[]:=by
   rcases hl with h | h
   · exact .inl h
   · simp only [hFt,List.range'_eq_nil_iff] at h;exact .inr (List.length_eq_zero_iff.mp h)
  have hθ:=ZpZ hl'
  have hz:ZA3 H' s.Z=ZA3 H s.Z:=ZB2 _ _ _ (fun b hb=>hr b (List.mem_append_left _ (List.mem_append_right _ hb)))
  have e1:ZwJ c s r H'=ZwJ c s r H:=by
   unfold ZwJ ZV1 ZSI
   rw [hθ,hz]
  have e2:hFt c s r H'=hFt c s r H:=by
   unfold hFt ZSI
   rw [hθ]
   rcases hl' with h | h
   · rw [h]
   · unfold ZSI at h;rw [h];rfl
  rw [← e1,← e2]
  exact .hcall (hw.congr he) (by rw [ZCh hev];exact hc) hk (ZU1 hm hr) hF hb
 | ext hw hc hk=>exact .ext (hw.congr he) (by rw [ZCh (ZEN he M.gl)];exact hc) hk
def Ft.apart (a b:Ft):Bool :=
 a.writes.all (fun k => !b.reads.contains k && !b.writes.contains k && !b.new.contains k)&&b.writes.all (fun k => !a.reads.contains k && !a.new.contains k) &&
 a.new.all (fun n => !b.reads.contains n && !b.new.contains n)&&b.new.all (fun n => !a.reads.contains n)
theorem Ft.apart_spec {a b:Ft} (h:a.apart b=true):(∀ k∈a.writes,k∉b.reads∧k∉b.writes∧k∉b.new)∧(∀ k∈b.writes,k∉a.reads∧k∉a.new)∧(∀ n∈a.new,n∉b.reads∧n∉b.new)∧(∀ n∈b.new,n∉a.reads):=by
 simp only [Ft.apart,Bool.and_eq_true,List.all_eq_true,Bool.not_eq_true',List.contains_eq_mem,decide_eq_false_iff_not] at h
 exact ⟨fun k hk=>⟨(h.1.1.1 k hk).1.1,(h.1.1.1 k hk).1.2,(h.1.1.1 k hk).2⟩,fun k hk=>h.1.1.2 k hk,fun k hk=>h.1.2 k hk,h.2⟩
theorem Zkp {env:List PV} {dst:Option Tmp} {p:PV} {t:Tmp} (h : ∀ d,dst=some d→d≠t):(ZmL env dst p).getD t .junk=env.getD t .junk:=by
 cases dst with
 | none=>rfl
 | some d=>simp [ZmL,List.getD,List.getElem?_set_ne (h d rfl)]
theorem Ztg {env:List PV} {x y:Option Tmp} (p q:PV) (h : ∀ d,x=some d→y≠some d):ZmL (ZmL env x p) y q=ZmL (ZmL env y q) x p:=by
 cases x with
 | none=>rfl
 | some d=>cases y with
  | none=>rfl
  | some e=>
   have hne:d≠e:=fun he=>h d rfl (he ▸ rfl)
   simp only [ZmL]
   rw [List.set_comm _ _ hne]
def ZTH (M:Mach P I g) (ops:Array Oper) (i:Nat) (env:List PV) (H:ZAZ) (env':List PV) (H':ZAZ) (ft:Ft) (b:Option Value):Prop :=
 ∃ o e,ops[i]? = some o∧OpAct M ops o env H e ft b∧env'=ZmL env o.dst (e.val H.length)∧H'=e.heap H
def Zpe (M:Mach P I g) (ops:Array Oper) (i:Nat) (env:List PV) (H:ZAZ) (env':List PV) (H':ZAZ) (ft:Ft):Prop:=ZTH M ops i env H env' H' ft none
/-! #### what is new comes to places that are kept for it -/
theorem OpAct.toN {o:Oper} {env:List PV} {H:ZAZ} {e:Eff} {ft:Ft} {b:Option Value} (h:OpAct M ops o env H e ft b):OpActN M ops o env H H.length e ft b:=by
 cases h with
 | skip h1=>exact .skip h1
 | op h1 h2=>exact .op h1 h2
 | call h1 h2 h3 h4 h5=>exact .call h1 h2 h3 h4 h5
 | ocall h1 h2 h3 h4 h5=>exact .ocall h1 h2 h3 h4 h5
 | hcall h1 h2 h3 h4 h5 h6=>exact .hcall h1 h2 h3 h4 h5 h6
 | pcall h1 h2 h3 h4 h5 h6=>exact .pcall h1 h2 h3 h4 h5 h6
 | ext h1 h2 h3=>exact .ext h1 h2 h3
theorem OpActN.facts {o:Oper} {env:List PV} {H:ZAZ} {n:Nat} {e:Eff} {ft:Ft} {b:Option Value} (h:OpActN M ops o env H n e ft b) :
  (∀ k∈e.edits.map (·.1),k∈ft.writes)∧ft.new=List.range' n e.app.length:=by
 cases h with
 | skip _=>exact ⟨fun k hk=>by simp [ZMM] at hk,rfl⟩
 | op _ hr=>exact ⟨fun k hk=>hk,rfl⟩
 | call _ _ _ _ _=>exact ⟨fun k hk=>ZCs _ _ k hk,rfl⟩
 | ocall _ _ _ _ _=>exact ⟨fun k hk=>ZCs _ _ k hk,rfl⟩
 | pcall _ _ _ _ _ _=>exact ⟨fun k hk=>by simp [ZMM] at hk,rfl⟩
 | hcall _ _ _ _ _ _=>exact ⟨fun k hk=>Zpc hk,rfl⟩
 | ext _ _ _=>exact ⟨fun k hk=>by simp [ZMM] at hk,rfl⟩
theorem OpActN.local {o:Oper} {env env':List PV} {H H':ZAZ} {n:Nat} {e:Eff} {ft:Ft} {b:Option Value} (h:OpActN M ops o env H n e ft b) (he : ∀ t∈o.looksAt ops,env'.getD t .junk=env.getD t .junk)
  (hr : ∀ b∈ft.reads,H'.at? b=H.at? b):OpActN M ops o env' H' n e ft b:=by
 cases h with
 | skip hw=>exact .skip (hw.congr he)
 | op hw hr'=>
  have hev:=ZEN he M.gl
  have hop:=Zko (P:=P) hev hr
  have hrd:ZBB o (ZC8 M.gl env')=ZBB o (ZC8 M.gl env):=ZoJ hev
  rw [← hrd]
  exact .op (hw.congr he) (by rw [hop];exact hr')
 | call hw hc hk hd hF=>
  have hev:=ZEN he M.gl
  rw [← ZB2 _ _ _ hr]
  exact .call (hw.congr he) (by rw [ZCh hev];exact hc) hk (by rw [ZNI hr];exact hd) hF
 | ocall hw hc hk hd hF=>
  have hev:=ZEN he M.gl
  rw [← ZB2 _ _ _ hr]
  exact .ocall (hw.congr he) (by rw [ZCh hev];exact hc) hk (by rw [ZNI hr];exact hd) hF
 | @pcall K args c x s r v hw hc hk hm hF hb=>
  have hev:=ZEN he M.gl
  exact .pcall (hw.congr he) (by rw [ZCh hev];exact hc) hk (ZU1 hm hr) hF hb
 | @hcall K args c x s r hw hc hk hm hF hb=>
  have hev:=ZEN he M.gl
  have hz:ZA3 H' s.Z=ZA3 H s.Z:=ZB2 _ _ _ (fun b hb=>hr b (List.mem_append_left _ (List.mem_append_right _ hb)))
  have e1:ZmR c s r H' n=ZmR c s r H n:=by
   unfold ZmR ZoH
   rw [hz]
  rw [← e1]
  exact .hcall (hw.congr he) (by rw [ZCh hev];exact hc) hk (ZU1 hm hr) hF hb
 | ext hw hc hk=>exact .ext (hw.congr he) (by rw [ZCh (ZEN he M.gl)];exact hc) hk
def ZOf (n:Nat):List (Option AO)→List (Nat×Option AO)
 | []=>[]
 | x::l=>(n,x)::ZOf (n+1) l
theorem ZYL : ∀ (l:List (Option AO)) (n:Nat),(ZOf n l).map (·.1)=List.range' n l.length
 | [],_=>rfl
 | x::l,n=>by simp [ZOf,ZYL l,List.range'_succ]
def ZNJ (M:Mach P I g) (ops:Array Oper) (i:Nat) (env:List PV) (H:ZAZ) (env':List PV) (H':ZAZ) (ft:Ft) (b:Option Value):Prop :=
 ∃ o e n,ops[i]? = some o∧OpActN M ops o env H n e ft b∧(e.app≠[]→n+e.app.length≤H.length)∧(∀ k∈ft.new,H.at? k=some .res)∧(∀ k∈ft.new,k∉ft.reads∧k∉ft.writes)∧env'=ZmL env o.dst (e.val n)∧H'=ZA9 H (e.edits++ZOf n e.app)
theorem Zey {o:Oper} {env:List PV} {H:ZAZ} {n:Nat} {e:Eff} {ft:Ft} {b:Option Value} (h:OpActN M ops o env H n e ft b) {k:Nat} (hk:k∈(e.edits++ZOf n e.app).map (·.1)):k∈ft.writes∨k∈ft.new:=by
 obtain ⟨f1,f2⟩:=h.facts
 rw [List.map_append,List.mem_append,ZYL,← f2] at hk
 exact hk.imp (f1 k) id
theorem ZNJ.swap {bi bj:Option Value} {i j:Nat} {oi oj:Oper} {env env1 env2:List PV} {H H1 H2:ZAZ} {fi fj:Ft} (hi:ops[i]? = some oi) (hj:ops[j]? = some oj)
  (h1:ZNJ M ops i env H env1 H1 fi bi) (h2:ZNJ M ops j env1 H1 env2 H2 fj bj) (hap:oi.apart ops oj=true) (hft:fi.apart fj=true) :
  ∃ env1' H1',ZNJ M ops j env H env1' H1' fj bj∧ZNJ M ops i env1' H1' env2 H2 fi bi:=by
 obtain ⟨o1,e1,n1,g1,a1,l1,r1,q1,rfl,rfl⟩:=h1
 obtain ⟨o2,e2,n2,g2,a2,l2,r2,q2,rfl,rfl⟩:=h2
 rw [hi] at g1;cases g1
 rw [hj] at g2;cases g2
 obtain ⟨s1,s2,s3⟩:=Oper.apart_spec hap
 obtain ⟨t1,t2,t3,t4⟩:=Ft.apart_spec hft
 have k1 : ∀ b,b∈fj.reads→b∉(e1.edits++ZOf n1 e1.app).map (·.1):=fun b hb hm=>by
  rcases Zey a1 hm with h | h
  · exact (t1 b h).1 hb
  · exact (t3 b h).1 hb
 have k2 : ∀ b,b∈fi.reads→b∉(e2.edits++ZOf n2 e2.app).map (·.1):=fun b hb hm=>by
  rcases Zey a2 hm with h | h
  · exact (t2 b h).1 hb
  · exact t4 b h hb
 have k3 : ∀ b,b∈fj.new→b∉(e1.edits++ZOf n1 e1.app).map (·.1):=fun b hb hm=>by
  rcases Zey a1 hm with h | h
  · exact (t1 b h).2.2 hb
  · exact (t3 b h).2 hb
 have k4 : ∀ b,b∈fi.new→b∉(e2.edits++ZOf n2 e2.app).map (·.1):=fun b hb hm=>by
  rcases Zey a2 hm with h | h
  · exact (t2 b h).2 hb
  · exact (t3 b hb).2 h
 have b2:OpActN M ops oj env H n2 e2 fj bj:=a2.local (fun t ht=>(Zkp (fun d hd e=>s1 d hd (e ▸ ht))).symm) (fun b hb=>(ZF0 _ _ _ (k1 b hb)).symm)
 have b1:OpActN M ops oi (ZmL env oj.dst (e2.val n2)) (ZA9 H (e2.edits++ZOf n2 e2.app)) n1 e1 fi bi:=a1.local (fun t ht=>Zkp (fun d hd e=>s3 d hd (e ▸ ht))) (fun b hb=>ZF0 _ _ _ (k2 b hb))
 refine ⟨_,_,⟨oj,e2,n2,hj,b2,?_,?_,q2,rfl,rfl⟩,⟨oi,e1,n1,hi,b1,?_,?_,q1,?_,?_⟩⟩
 · rw [ZCW] at l2;exact l2
 ·
  intro k hk
  have:=r2 k hk
  rwa [ZF0 _ _ _ (k3 k hk)] at this
 · rw [ZCW];exact l1
 ·
  intro k hk
  rw [ZF0 _ _ _ (k4 k hk)]
  exact r1 k hk
 · exact Ztg _ _ s2
 ·
  refine Zkg _ _ _ (fun k hk hm => ?_)
  rcases Zey a1 hk with h | h
  ·
   rcases Zey a2 hm with h' | h'
   · exact (t1 k h).2.1 h'
   · exact (t1 k h).2.2 h'
  ·
   rcases Zey a2 hm with h' | h'
   · exact (t2 k h').2 h
   · exact (t3 k h).2 h'
end
end Go.Proofs.YtamaklnhjagifaaGreatDoor.V
